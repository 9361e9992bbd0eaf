/- That no place is met twice, told by a row of bits. -/
import Derived.LaidLaws
import Derived.Test.YtohmeeglehopiaaGreatDoorZ3
import Derived.Test.YtohmeeglehopiaaGreatDoorCards
import Derived.Test.YtohmeeglehopiaaGreatDoorTie
import Derived.SizedLaws
import Derived.WalkKit
import Derived.ProofKit
import Derived.OpenShut
import Derived.Deep.DeepHandedRow
import Derived.Deep.DeepWitnessRowRef
namespace Go.Am

def keyOf : MemPlace → Option Nat
  | .cell b off => if off < 4096 then some (b * 4096 + off) else none
  | .map _ => none
def seenB : List MemPlace → Nat → Bool
  | [], _ => true
  | p :: r, S => match keyOf p with | some k => !(S.testBit k) && seenB r (S ||| 2 ^ k) | none => false

theorem key_inj {p q : MemPlace} {k : Nat} (h : keyOf p = some k) (h' : keyOf q = some k) : p = q := by
  unfold keyOf at h h'
  split at h
  · rename_i b off
    split at h
    · rename_i ho
      split at h'
      · rename_i b' off'
        split at h'
        · rename_i ho'
          simp only [Option.some.injEq] at h h'
          have e1 : b = b' := by omega
          have e2 : off = off' := by omega
          rw [e1, e2]
        · cases h'
      · cases h'
    · cases h
  · cases h

theorem seenB_ok : ∀ {l : List MemPlace} {S : Nat}, seenB l S = true → l.Nodup ∧ ∀ p ∈ l, ∃ k, keyOf p = some k ∧ S.testBit k = false
  | [], _, _ => ⟨List.nodup_nil, fun p h => by cases h⟩
  | p :: r, S, h => by
    unfold seenB at h
    split at h
    · rename_i k hk
      simp only [Bool.and_eq_true, Bool.not_eq_true'] at h
      obtain ⟨h1, h2⟩ := seenB_ok h.2
      refine ⟨List.nodup_cons.2 ⟨fun hp => ?_, h1⟩, fun q hq => ?_⟩
      · obtain ⟨k', e1, e2⟩ := h2 p hp
        obtain rfl := Option.some.inj (hk.symm.trans e1)
        simp [Nat.testBit_or, Nat.testBit_two_pow_self] at e2
      · rcases List.mem_cons.1 hq with rfl | hq
        · exact ⟨k, hk, h.1⟩
        · obtain ⟨k', e1, e2⟩ := h2 q hq
          refine ⟨k', e1, ?_⟩
          simp only [Nat.testBit_or, Bool.or_eq_false_iff] at e2
          exact e2.1
    · cases h

theorem laidMet_of_bits {P : Program} {w : World} {l : List (String × DataW Unit)} (fuel : Nat) (h : (DataW.laidRun P w fuel (l.map (·.1))).map (·.1) = some l)
    (hn : (DataW.laidRun P w fuel (l.map (·.1))).map (fun x => seenB x.2 0) = some true) (hr : (DataW.laidRun P w fuel (l.map (·.1))).map (fun x => laidRowsB P w x.2) = some true) : laidMet P l w := by
  cases hx : DataW.laidRun P w fuel (l.map (·.1)) with
  | none => simp [hx] at h
  | some x =>
    obtain ⟨l', ps⟩ := x
    simp only [hx, Option.map_some, Option.some.injEq] at h hr hn
    subst h
    exact laidMet_of_run fuel hx (decide_eq_true (seenB_ok hn).1) hr
end Go.Am
/- The statement on lexemes: on every world that holds the listed tables the law returns true, whatever the text and the place; the text is at most as long as the form's own reach. -/
namespace Go.Proofs.YtohmeeglehopiaaGreatDoor.scanTokens
open Go.ChangeShapes Go.WideShapes Go.ChangeAt Go.RowKit

theorem own : ownKnob Tryz.prog.godebug = none := by kernel_rfl
theorem laidOut : laidOutB Tryz.prog = true := by kernel_rfl
theorem cells5 : Tryz.prog.cellsOf 5 = 1 := by kernel_rfl

def flat0 : DataW Unit → List Value
  | .lit (.int k n) => [.int k n]
  | .lit (.string l) => [.string ⟨l.toArray⟩]
  | _ => []
def flat1 : DataW Unit → List Value
  | .agg xs => xs.flatMap flat0
  | d => flat0 d
def flat2 : DataW Unit → List Value
  | .agg xs => xs.flatMap flat1
  | d => flat1 d
def ranges : DataW Unit → List Value
  | .ptr (.agg (.slice xs _ :: _)) => xs.flatMap flat1
  | _ => []
def message : DataW Unit → List Value
  | .iface _ (.ptr d) => flat1 d
  | _ => []

/-- A world for the witness: the listed tables hold what their initialisers lay. -/
noncomputable def laidWorld (os : Os) : World :=
  let N := (World.settled Tryz.prog os).heap.size
  let w0 := World.holding Tryz.prog os ⟨#[.cells (ranges Rows.laid_unicode_White_Space).toArray 136, .cells #[.slice (some ⟨N, 0, none⟩) 7 7, .slice none 0 0, .int .i64 2] 133,
    .cells (message Rows.laid_strconv_ErrSyntax).toArray 153, .cells (message Rows.laid_strconv_ErrRange).toArray 153], #[], []⟩
  let put (h : Array Obj) (g : Nat) (cs : Array Value) : Array Obj := h.modify g fun
    | .cells _ t frozen => .cells cs t frozen
    | o => o
  let h0 := put w0.heap 0 (flat2 Rows.laid_strings_asciiSpace).toArray
  let h1 := put h0 1 (flat2 Rows.laid_bulkhead_scan_classes).toArray
  let h2 := put h1 2 (flat2 Rows.laid_bulkhead_bulkheadref5_reserved).toArray
  let h3 := put h2 3 (flat2 Rows.laid_bulkhead_bulkheadref5_signs).toArray
  let h4 := put h3 4 #[.pointer (some ⟨N + 1, 0, none⟩)]
  let h5 := put h4 5 (flat2 Rows.laid_internal_strconv_uint64pow10).toArray
  let h6 := put h5 6 #[.iface 151 (.pointer (some ⟨N + 2, 0, none⟩))]
  let h7 := put h6 7 #[.iface 151 (.pointer (some ⟨N + 3, 0, none⟩))]
  let h8 := put h7 9 (flat2 Rows.laid_math_bits_deBruijn32tab).toArray
  let h9 := put h8 10 (flat2 Rows.laid_math_bits_deBruijn64tab).toArray
  let h10 := put h9 11 (flat2 Rows.laid_unicode_utf8_first).toArray
  let h11 := put h10 12 (flat2 Rows.laid_unicode_utf8_acceptRanges).toArray
  { w0 with heap := h11 }
theorem laid_met (os : Os) : laidMet Tryz.prog Rows.scanTokensRow.laid ((laidWorld os).forCall (fun _ _ => 0) ⟨#[], #[], []⟩).memory :=
  Am.laidMet_of_bits 8 (by kernel_rfl) (by kernel_rfl) (by kernel_rfl)
theorem reads (os : Os) {H : Type} (enc : TypeId × Value → H) : ∃ places, DataW.whole enc Tryz.prog ((laidWorld os).forCall (fun _ _ => 0) ⟨#[], #[], []⟩).memory Tryz.f3.params.toList Rows.scanTokensSpec.vars false (#[.slice none 0 0, .int .i64 0] : Array Value).toList 8 = some ([.nil, .lit (.int .i64 0)], [], places) :=
  ⟨[], by kernel_rfl⟩

theorem laid_of {W : World} (hL' : laidMetH Tryz.prog Rows.scanTokensRow.laid W) (hsh : W.ShapedOpen Tryz.prog) : ∃ a6 a7, Am.Laid W a6 a7 := by
  have hL : laidMet Tryz.prog Rows.scanTokensRow.laid W := by
    rw [MakeChecks.laidMetH_plain _ _ _ (by kernel_rfl)] at hL'
    exact hL'
  have hS := hL.tail
  have hR := hS.tail.tail.tail.tail.tail
  have hY := hR.tail
  have hA := hY.tail.tail
  have hC := hA.tail
  have eW : (Rows.laid_bulkhead_bulkheadref5_reserved : DataW Unit) = Am.strData Am.wordsL := by kernel_rfl
  have eS : (Rows.laid_bulkhead_bulkheadref5_signs : DataW Unit) = Am.strData Am.signsL := by kernel_rfl
  have eA : (Rows.laid_strings_asciiSpace : DataW Unit) = Lib.tabData .u8 Am.asciiL := by kernel_rfl
  have eC : (Rows.laid_bulkhead_scan_classes : DataW Unit) = Lib.tabData .u8 Am.classesL := by kernel_rfl
  rw [eA] at hA
  rw [eC] at hC
  rw [eS] at hS
  have hW : laidMet Tryz.prog (("bulkhead/bulkheadref5.reserved", Am.strData Am.wordsL) :: Rows.scanTokensRow.laid.tail) W := by
    rw [← eW]; exact hL
  obtain ⟨a7, s7, v7, k7, _⟩ := laid_sentinel hR Am.g7 (by kernel_rfl) Tryz.underlying78 Am.row151 Tryz.underlying151 Tryz.underlying153 rfl rfl Tryz.underlying9 (by kernel_rfl) (by kernel_rfl)
  obtain ⟨a6, s6, v6, k6, _⟩ := laid_sentinel hY Am.g6 (by kernel_rfl) Tryz.underlying78 Am.row151 Tryz.underlying151 Tryz.underlying153 rfl rfl Tryz.underlying9 (by kernel_rfl) (by kernel_rfl)
  have tA : Lib.TabIs Tryz.prog W "strings.asciiSpace" .u8 Am.asciiL := Lib.tabIs_of_head Am.g0 (by kernel_rfl) Tryz.underlying88 Tryz.underlying5 (by kernel_rfl) (by kernel_rfl) hA
  have tC : Lib.TabIs Tryz.prog W "bulkhead/scan.classes" .u8 Am.classesL := Lib.tabIs_of_head Am.g1 (by kernel_rfl) Tryz.underlying90 Tryz.underlying5 (by kernel_rfl) (by kernel_rfl) hC
  exact ⟨a6, a7, Am.heap_size hsh, tC, tA, Am.strsIs_of_head Am.g2 (by kernel_rfl) Tryz.underlying99 Tryz.underlying9 (by kernel_rfl) (by kernel_rfl) hW, Am.strsIs_of_head Am.g3 (by kernel_rfl) Tryz.underlying100 Tryz.underlying9 (by kernel_rfl) (by kernel_rfl) hS, v6, v7, ⟨_, k6⟩, ⟨_, k7⟩⟩

theorem okSlice {P : Program} {t e : TypeId} (ht : P.underlying t = some (.slice e)) {W : World} {r : Reach} {base : Nat} {a : Addr} {len cap : Nat} (h : Value.okWide P W r base t (.slice (some a) len cap)) : a.spot = none ∧ ∃ row cells, W.shape? a.block = some (row, cells) := by
  simp only [Value.okWide, ht, Cell.okWide, Cell.ok, World.has] at h
  exact ⟨h.2.2.2.1, h.2.2.2.2.imp fun row h => h.imp fun cells h => h.1⟩

set_option maxRecDepth 100000 in
/-- A row of bytes that was handed in. -/
theorem opened {H : Type} {enc : TypeId × Value → H} {W : World} {base : Nat} {v : Value} {d : DataW H} {p : List MemPlace} (hval : Value.okWide Tryz.prog W .any base 22 v) (h : DataW.Trod enc Tryz.prog W 0 (fun _ => true) true 22 v d p) (hsz : ∀ elems spare, d = .slice elems spare → (elems.length + spare.length) * Tryz.prog.bytesOf 5 ≤ reachBytes) :
    v = .slice none 0 0 ∨ ∃ (a : Addr) (zs : List UInt8) (n : Nat), v = .slice (some a) n zs.length ∧ n ≤ zs.length ∧ zs.length ≤ 140737488355000 ∧ a.spot = none ∧ Am.InRow W a zs := by
  obtain ⟨a1, len, cap, rfl⟩ := okWide_slice Tryz.underlying22 hval
  obtain ⟨fuel, hf⟩ := h
  rcases open_ints Tryz.underlying22 Tryz.underlying5 cells5 hf with ⟨hcs, _⟩ | ⟨a, len', cap', zs, hcs, _, hl, hm, hz, hd, hcell, hwz⟩
  · simp [Value.cells] at hcs
    obtain ⟨rfl, rfl, rfl⟩ := hcs
    exact .inl rfl
  · simp [Value.cells] at hcs
    obtain ⟨rfl, rfl, rfl⟩ := hcs
    simp only [if_true] at hz
    have hl' : (zs.map fun n => UInt8.ofNat n.toNat).length = cap := by simpa using hz
    have hs := okSlice Tryz.underlying22 hval
    have hd1 : d = .slice (lits .u8 (zs.take len)) (lits .u8 (zs.drop len)) := congrArg Prod.fst hd
    have hb1 := hsz _ _ hd1
    have hb5 : Tryz.prog.bytesOf 5 = 1 := by kernel_rfl
    have hr : reachBytes = 140737488351232 := rfl
    have hcount : zs.length ≤ 140737488351232 := by
      rw [hb5, hr] at hb1
      simp [lits] at hb1
      omega
    refine .inr ⟨a, zs.map fun n => UInt8.ofNat n.toNat, len, by rw [hl'], by rw [hl']; exact hl, by rw [List.length_map]; omega, hs.1, ?_, fun i hi => ?_⟩
    · obtain ⟨_, row, cells, hsh⟩ := hs
      unfold World.shape? at hsh
      split at hsh
      · rename_i c t fz e; exact ⟨c, t, fz, e⟩
      · cases hsh
    · have hi' : i < zs.length := by simpa using hi
      rw [hcell i hi']
      have hb := range_u8 hwz i
      simp only [List.getElem_map]
      have e : zs.getD i 0 = zs[i] := by simp [List.getD, hi']
      rw [List.getD_eq_getElem?_getD] at e
      rw [e] at hb
      rw [List.getD_eq_getElem?_getD, e]
      congr 2
      simp only [UInt8.toNat_ofNat']
      omega

set_option maxRecDepth 100000 in
theorem runs {W : World} {a6 a7 : Addr} (hl : Am.Laid W a6 a7) {H : Type} {enc : TypeId × Value → H} {base : Nat} {v : Value} {d : DataW H} {p : List MemPlace} (hval : Value.okWide Tryz.prog W .any base 22 v) (h : DataW.Trod enc Tryz.prog W 0 (fun _ => true) true 22 v d p) (hsz : ∀ elems spare, d = .slice elems spare → (elems.length + spare.length) * Tryz.prog.bytesOf 5 ≤ reachBytes) (k : Int) :
    Calls Tryz.prog 3 #[v, .int .i64 k] W fun e w' => e = .returned (.bool true) ∧ Below W.heap.size W w' := by
  rcases opened hval h hsz with rfl | ⟨a, zs, n, rfl, h1, h2, h3, h4⟩
  · exact Am.law_calls_nil hl k
  · exact Am.law_calls hl h4 h1 h3 h2 k

set_option maxRecDepth 100000 in
theorem contract (H : Type) (enc : TypeId × Value → H) (W : World) (args : Array Value) (ds gs : List (DataW H)) (before : List MemPlace) (base : Nat)
    (hval0 : ∀ (j : Nat) t v, Tryz.f3.params[j]? = some t → args[j]? = some v → Value.okWide Tryz.prog W .any base t v)
    (hW : DataW.Whole enc Tryz.prog Tryz.f3.params.toList Rows.scanTokensSpec.vars false W args.toList ds gs before) (hsz : (DataW.weightsEach Tryz.prog (Tryz.f3.params.toList ++ (OpenSpec.ofChange Rows.scanTokensSpec).bare.plain.varTypes Tryz.prog) (ds ++ gs)).all (· ≤ reachBytes) = true) (hL : laidMetH Tryz.prog Rows.scanTokensRow.laid W) (hsh : W.ShapedOpen Tryz.prog) :
    Calls Tryz.prog 3 args W fun e W' => ∃ v, e = .returned v ∧ Rows.scanTokensSpec.post enc Tryz.prog Tryz.f3 false true false false W args v W' := by
  have hval := hval0
  have hW' := hW
  obtain ⟨p, q, hA0, hV, rfl, _, _⟩ := hW
  have hA : DataW.TrodAll enc Tryz.prog W 0 (fun _ => true) true Tryz.f3.params.toList args.toList ds p := hA0
  rw [Tryz.params3] at hA hval
  obtain ⟨v0, v1, d0, d1, p0, p1, rfl, rfl, rfl, h0, h1⟩ := trodAll_two hA
  obtain ⟨rfl, rfl⟩ := trodVars_none hV
  obtain ⟨k, rfl, rfl, rfl, wk⟩ := open_int Tryz.underlying3 (hval 1 3 v1 rfl rfl) h1
  clear hA0 hval0
  simp only [List.append_nil] at hW'
  have hlt : ∀ x ∈ p0, x.block < W.heap.size := fun x hx => by simpa using hW'.lt x (by simpa using hx)
  obtain ⟨a6, a7, hl⟩ := laid_of hL hsh
  have hs0 : ∀ elems spare, d0 = .slice elems spare → (elems.length + spare.length) * Tryz.prog.bytesOf 5 ≤ reachBytes := fun elems spare e => by
    subst e
    exact sized_slice hsz (j := 0) (t := 22) (by rw [Tryz.params3]; rfl) rfl Tryz.underlying22
  refine (runs hl (hval 0 22 v0 rfl rfl) h0 hs0 k).mono fun e W' ⟨he, bel⟩ => ?_
  subst he
  have harg0 : DataW.Trod enc Tryz.prog W' 0 (fun b => decide (b < W.heap.size)) true 22 v0 d0 p0 :=
    Below.trod laidOut (by kernel_rfl) (of_decide_eq_true (by kernel_rfl)) h0 bel hlt
  refine ⟨_, rfl, _, _, _, [], _, [], hW', ?_, trodAll_mk2 harg0 (shut_int Tryz.underlying3 wk), ?_, bel.frame _, fun h => by cases h⟩
  · exact trodAll_mk1 (shut_bool Tryz.underlying4 _)
  · rfl

set_option maxRecDepth 100000 in
theorem lifted (os : Os) (started : os.Started) (H : Type) (enc : TypeId × Value → H) (F : Stop.Interp) :
    ReturnsInHanded {} Tryz.checked os 3 .any ((OpenSpec.ofChange Rows.scanTokensSpec).preRow enc Tryz.prog Tryz.f3 Rows.scanTokensRow.domain false Rows.scanTokensRow.laid) (((OpenSpec.ofChange Rows.scanTokensSpec).at F).post enc Tryz.prog Tryz.f3 false true false false) := by
  obtain ⟨places, hx⟩ := reads os enc
  refine returnsInHanded_of_row (C := Tryz.checked) (s := OpenSpec.ofChange Rows.scanTokensSpec) own started (by kernel_rfl) Tryz.func3
    (witness_row_atRef (enc := enc) (C := Tryz.checked) false (laidWorld os) #[.slice none 0 0, .int .i64 0] rfl (by kernel_rfl) (by kernel_rfl) (by kernel_rfl)
      (OpenSpec.preRow_of_cond 8 hx (by kernel_rfl) (fun k hk => by cases hk) (by kernel_rfl) (laid_met os))) ?_
  intro W base args ds gs before hval hW _ _ hsz hL hsh _
  exact contract H enc W args ds gs before base hval hW hsz hL hsh

theorem said : Rows.ScanTokensSaid :=
  OpenClaim.holds_of_cond 3 Tryz.f3 rfl rfl rfl rfl rfl rfl rfl ⟨rfl, rfl, rfl, rfl, rfl⟩ rfl rfl rfl rfl rfl (by kernel_rfl) Tryz.func3 (by kernel_rfl)
    (of_decide_eq_true (by kernel_rfl)) (by unfold Func.isWrapper; first | (rw [if_pos (by decide +kernel)]; kernel_rfl) | (rw [if_neg (by decide +kernel)]; exact ⟨rfl, rfl⟩))
    (fun os started H enc _ F => by rw [OpenClaim.pre_eq_preRow]; exact lifted os started H enc F)

set_option maxRecDepth 100000 in
theorem plain (f : FuncId) (fn : Func) (hf : Tryz.pinned.checked.prog.funcNamed "bulkhead/bulkheadlaw5.ScanTokens" = some f) (hfn : Tryz.pinned.checked.prog.funcs[f]? = some fn) :
    true = Tryz.pinned.checked.prog.looks [] ∧ ∀ (j : Nat) t, fn.params[j]? = some t → Tryz.pinned.checked.prog.wantsStandIn t = false := by
  obtain rfl : f = 3 := Option.some.inj ((show Tryz.prog.funcNamed "bulkhead/bulkheadlaw5.ScanTokens" = some 3 by kernel_rfl).symm.trans hf) |>.symm
  obtain rfl : fn = Tryz.f3 := (Option.some.inj (Tryz.func3.symm.trans hfn)).symm
  refine ⟨by kernel_rfl, fun j t ht => ?_⟩
  rw [Tryz.params3] at ht
  have hm : t ∈ [22, 3] := by simpa using Array.mem_of_getElem? ht
  have hall : ([22, 3].all fun u => !Tryz.prog.wantsStandIn u) = true := by kernel_rfl
  exact (show Tryz.prog.wantsStandIn t = false by simpa using List.all_eq_true.1 hall t hm)

theorem card : Rows.ScanTokensCardSaid :=
  Claim7.holds_tied_plain_at .later [] _ _ _ _ said (fun _ h => by cases h) (by kernel_rfl) (fun _ h => by cases h) scanTokens_row_tie rfl ⟨rfl, rfl⟩ (by kernel_rfl) rfl plain (by kernel_rfl)
#print axioms card
end Go.Proofs.YtohmeeglehopiaaGreatDoor.scanTokens
