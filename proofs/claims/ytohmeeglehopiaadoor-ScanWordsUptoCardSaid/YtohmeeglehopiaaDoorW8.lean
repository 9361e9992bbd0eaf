/- That no place is met twice, told by a row of bits. -/
import Derived.LaidLaws
import Derived.Test.YtohmeeglehopiaaDoorW7
import Derived.Test.YtohmeeglehopiaaDoorCards
import Derived.Test.YtohmeeglehopiaaDoorTie
import Derived.SizedLaws
import Derived.ChangeMaps5
import Derived.WalkKit
import Derived.ProofKit
import Derived.OpenShut
import Derived.Deep.DeepHandedRow
import Derived.Deep.DeepWitnessRowRef
namespace Go.Am

def keyOf : MemPlace → Option Nat
  | .cell b off => if off < 4096 then some (b * 4096 + off) else none
  | .map _ => none
def seenB : List MemPlace → Nat → Bool
  | [], _ => true
  | p :: r, S => match keyOf p with | some k => !(S.testBit k) && seenB r (S ||| 2 ^ k) | none => false

theorem key_inj {p q : MemPlace} {k : Nat} (h : keyOf p = some k) (h' : keyOf q = some k) : p = q := by
  unfold keyOf at h h'
  split at h
  · rename_i b off
    split at h
    · rename_i ho
      split at h'
      · rename_i b' off'
        split at h'
        · rename_i ho'
          simp only [Option.some.injEq] at h h'
          have e1 : b = b' := by omega
          have e2 : off = off' := by omega
          rw [e1, e2]
        · cases h'
      · cases h'
    · cases h
  · cases h

theorem seenB_ok : ∀ {l : List MemPlace} {S : Nat}, seenB l S = true → l.Nodup ∧ ∀ p ∈ l, ∃ k, keyOf p = some k ∧ S.testBit k = false
  | [], _, _ => ⟨List.nodup_nil, fun p h => by cases h⟩
  | p :: r, S, h => by
    unfold seenB at h
    split at h
    · rename_i k hk
      simp only [Bool.and_eq_true, Bool.not_eq_true'] at h
      obtain ⟨h1, h2⟩ := seenB_ok h.2
      refine ⟨List.nodup_cons.2 ⟨fun hp => ?_, h1⟩, fun q hq => ?_⟩
      · obtain ⟨k', e1, e2⟩ := h2 p hp
        obtain rfl := Option.some.inj (hk.symm.trans e1)
        simp [Nat.testBit_or, Nat.testBit_two_pow_self] at e2
      · rcases List.mem_cons.1 hq with rfl | hq
        · exact ⟨k, hk, h.1⟩
        · obtain ⟨k', e1, e2⟩ := h2 q hq
          refine ⟨k', e1, ?_⟩
          simp only [Nat.testBit_or, Bool.or_eq_false_iff] at e2
          exact e2.1
    · cases h

theorem laidMet_of_bits {P : Program} {w : World} {l : List (String × DataW Unit)} (fuel : Nat) (h : (DataW.laidRun P w fuel (l.map (·.1))).map (·.1) = some l)
    (hn : (DataW.laidRun P w fuel (l.map (·.1))).map (fun x => seenB x.2 0) = some true) (hr : (DataW.laidRun P w fuel (l.map (·.1))).map (fun x => laidRowsB P w x.2) = some true) : laidMet P l w := by
  cases hx : DataW.laidRun P w fuel (l.map (·.1)) with
  | none => simp [hx] at h
  | some x =>
    obtain ⟨l', ps⟩ := x
    simp only [hx, Option.map_some, Option.some.injEq] at h hr hn
    subst h
    exact laidMet_of_run fuel hx (decide_eq_true (seenB_ok hn).1) hr
end Go.Am
/- The statement on words, in its second form: on every world that holds the listed tables the law returns true, whatever the word, the number and the text, where what is read is of bulk at most 1048576. -/
namespace Go.Proofs.YtohmeeglehopiaaDoor.scanWords
open Go.ChangeShapes Go.WideShapes Go.ChangeAt Go.RowKit

theorem own : ownKnob Tryd.prog.godebug = none := by kernel_rfl

def flat0 : DataW Unit → List Value
  | .lit (.int k n) => [.int k n]
  | .lit (.string l) => [.string ⟨l.toArray⟩]
  | _ => []
def flat1 : DataW Unit → List Value
  | .agg xs => xs.flatMap flat0
  | d => flat0 d
def flat2 : DataW Unit → List Value
  | .agg xs => xs.flatMap flat1
  | d => flat1 d
def ranges : DataW Unit → List Value
  | .ptr (.agg (.slice xs _ :: _)) => xs.flatMap flat1
  | _ => []
def message : DataW Unit → List Value
  | .iface _ (.ptr d) => flat1 d
  | _ => []

/-- A world for the witness: the listed tables hold what their initialisers lay. -/
noncomputable def laidWorld (os : Os) : World :=
  let N := (World.settled Tryd.prog os).heap.size
  let w0 := World.holding Tryd.prog os ⟨#[.cells (ranges Rows.laid_unicode_White_Space).toArray 116, .cells #[.slice (some ⟨N, 0, none⟩) 7 7, .slice none 0 0, .int .i64 2] 113,
    .cells (message Rows.laid_strconv_ErrSyntax).toArray 124, .cells (message Rows.laid_strconv_ErrRange).toArray 124], #[], []⟩
  let put (h : Array Obj) (g : Nat) (cs : Array Value) : Array Obj := h.modify g fun
    | .cells _ t frozen => .cells cs t frozen
    | o => o
  let h0 := put w0.heap 0 (flat2 Rows.laid_bulkhead_bulkheadref5_reserved).toArray
  let h1 := put h0 1 (flat2 Rows.laid_bulkhead_scan_classes).toArray
  let h2 := put h1 2 (flat2 Rows.laid_strings_asciiSpace).toArray
  let h3 := put h2 3 #[.pointer (some ⟨N + 1, 0, none⟩)]
  let h4 := put h3 4 #[.iface 122 (.pointer (some ⟨N + 2, 0, none⟩))]
  let h5 := put h4 5 #[.iface 122 (.pointer (some ⟨N + 3, 0, none⟩))]
  let h6 := put h5 6 (flat2 Rows.laid_internal_strconv_uint64pow10).toArray
  let h8 := put h6 8 (flat2 Rows.laid_unicode_utf8_first).toArray
  let h9 := put h8 9 (flat2 Rows.laid_unicode_utf8_acceptRanges).toArray
  let h10 := put h9 10 (flat2 Rows.laid_math_bits_deBruijn32tab).toArray
  let h11 := put h10 11 (flat2 Rows.laid_math_bits_deBruijn64tab).toArray
  { w0 with heap := h11 }
theorem laid_met (os : Os) : laidMet Tryd.prog Rows.scanWordsUptoRow.laid ((laidWorld os).forCall (fun _ _ => 0) ⟨#[], #[], []⟩).memory :=
  Am.laidMet_of_bits 8 (by kernel_rfl) (by kernel_rfl) (by kernel_rfl)
theorem reads (os : Os) {H : Type} (enc : TypeId × Value → H) : ∃ places, DataW.whole enc Tryd.prog ((laidWorld os).forCall (fun _ _ => 0) ⟨#[], #[], []⟩).memory Tryd.f5.params.toList Rows.scanWordsSpec.vars false (#[.string .empty, .int .u64 0, .string .empty] : Array Value).toList 8 = some ([.lit (.string []), .lit (.int .u64 0), .lit (.string [])], [], places) :=
  ⟨[], by kernel_rfl⟩

set_option maxRecDepth 100000 in
theorem laid_of {W : World} (hL' : laidMetH Tryd.prog Rows.scanWordsUptoRow.laid W) (hsh : W.ShapedOpen Tryd.prog) : ∃ a4 a5, Am.Laid W a4 a5 := by
  have hL : laidMet Tryd.prog Rows.scanWordsUptoRow.laid W := by
    rw [MakeChecks.laidMetH_plain _ _ _ (by kernel_rfl)] at hL'
    exact hL'
  have hR := hL.tail.tail.tail.tail.tail
  have hS := hR.tail
  have hA := hS.tail.tail
  exact Am.laid_parts hL hA.tail hA hS hR hL.tail.tail.tail hL.tail.tail hsh

set_option maxRecDepth 100000 in
theorem contract (H : Type) (enc : TypeId × Value → H) (W : World) (args : Array Value) (ds gs : List (DataW H)) (before : List MemPlace) (base : Nat)
    (hval0 : ∀ (j : Nat) t v, Tryd.f5.params[j]? = some t → args[j]? = some v → Value.okWide Tryd.prog W .any base t v)
    (hW : DataW.Whole enc Tryd.prog Tryd.f5.params.toList Rows.scanWordsSpec.vars false W args.toList ds gs before) (hk : Rows.uptoSmall H (ds ++ gs) = true) (hL : laidMetH Tryd.prog Rows.scanWordsUptoRow.laid W) (hsh : W.ShapedOpen Tryd.prog) :
    Calls Tryd.prog 5 args W fun e W' => ∃ v, e = .returned v ∧ Rows.scanWordsSpec.post enc Tryd.prog Tryd.f5 false true false false W args v W' := by
  have hval := hval0
  have hW' := hW
  obtain ⟨p, q, hA0, hV, rfl, _, _⟩ := hW
  have hA : DataW.TrodAll enc Tryd.prog W 0 (fun _ => true) true Tryd.f5.params.toList args.toList ds p := hA0
  rw [Tryd.params5] at hA hval
  obtain ⟨v0, v1, v2, d0, d1, d2, p0, p1, p2, rfl, rfl, rfl, h0, h1, h2⟩ := trodAll_three hA
  obtain ⟨rfl, rfl⟩ := trodVars_none hV
  obtain ⟨w, rfl, rfl, rfl, ww⟩ := Go.ChangeMaps.open_string Tryd.underlying9 (hval 0 9 v0 rfl rfl) h0
  obtain ⟨n, rfl, rfl, rfl, wn⟩ := open_int Tryd.underlying27 (hval 1 27 v1 rfl rfl) h1
  obtain ⟨t, rfl, rfl, rfl, wt⟩ := Go.ChangeMaps.open_string Tryd.underlying9 (hval 2 9 v2 rfl rfl) h2
  clear hA0 hval0
  simp only [List.append_nil, List.nil_append] at hW'
  obtain ⟨a4, a5, hl⟩ := laid_of hL hsh
  have hb := of_decide_eq_true hk
  simp only [List.append_nil, Rows.uptoBulkAll, Rows.uptoBulk] at hb
  have hsw : w.size = w.data.toList.length := rfl
  have hst : t.size = t.data.toList.length := rfl
  have hn : 0 ≤ n ∧ n < 18446744073709551616 := by
    have w' : IntKind.u64.min ≤ n ∧ n ≤ IntKind.u64.max := by simpa [Lit.wf] using wn
    have e0 : IntKind.u64.min = 0 := rfl
    have e1 : IntKind.u64.max = 18446744073709551615 := rfl
    omega
  refine (Am.words_calls hl hn.1 hn.2 w t (by omega) (by omega)).mono fun e W' ⟨he, bel⟩ => ?_
  subst he
  refine ⟨_, rfl, _, _, _, [], _, [], hW', ?_, trodAll_mk3 (Go.ChangeMaps.shut_string Tryd.underlying9 ww) (shut_int Tryd.underlying27 wn) (Go.ChangeMaps.shut_string Tryd.underlying9 wt), ?_, bel.frame _, fun h => by cases h⟩
  · exact trodAll_mk1 (shut_bool Tryd.underlying4 _)
  · rfl

set_option maxRecDepth 100000 in
theorem lifted (os : Os) (started : os.Started) (H : Type) (enc : TypeId × Value → H) (F : Stop.Interp) :
    ReturnsInHanded {} Tryd.checked os 5 .any ((Rows.OpenSpec.upto Rows.scanWordsSpec).preRow enc Tryd.prog Tryd.f5 Rows.scanWordsUptoRow.domain false Rows.scanWordsUptoRow.laid) (((Rows.OpenSpec.upto Rows.scanWordsSpec).at F).post enc Tryd.prog Tryd.f5 false true false false) := by
  obtain ⟨places, hx⟩ := reads os enc
  refine returnsInHanded_of_row (C := Tryd.checked) (s := Rows.OpenSpec.upto Rows.scanWordsSpec) own started (by kernel_rfl) Tryd.func5
    (witness_row_atRef (enc := enc) (C := Tryd.checked) false (laidWorld os) #[.string .empty, .int .u64 0, .string .empty] rfl (by kernel_rfl) (by kernel_rfl) (by kernel_rfl)
      (OpenSpec.preRow_of_cond 8 hx (by kernel_rfl) (fun k hk => by cases hk; kernel_rfl) (by kernel_rfl) (laid_met os))) ?_
  intro W base args ds gs before hval hW _ hcond _ hL hsh _
  exact contract H enc W args ds gs before base hval hW (hcond _ rfl) hL hsh

theorem said : Rows.ScanWordsUptoSaid :=
  OpenClaim.holds_of_cond 5 Tryd.f5 rfl rfl rfl rfl rfl rfl rfl ⟨rfl, rfl, rfl, rfl, rfl⟩ rfl rfl rfl rfl rfl (by kernel_rfl) Tryd.func5 (by kernel_rfl)
    (of_decide_eq_true (by kernel_rfl)) (by unfold Func.isWrapper; first | (rw [if_pos (by decide +kernel)]; kernel_rfl) | (rw [if_neg (by decide +kernel)]; exact ⟨rfl, rfl⟩))
    (fun os started H enc _ F => by rw [OpenClaim.pre_eq_preRow]; exact lifted os started H enc F)

set_option maxRecDepth 100000 in
theorem plain (f : FuncId) (fn : Func) (hf : Tryd.pinned.checked.prog.funcNamed "bulkhead/bulkheadlaw5.ScanWords" = some f) (hfn : Tryd.pinned.checked.prog.funcs[f]? = some fn) :
    true = Tryd.pinned.checked.prog.looks [] ∧ ∀ (j : Nat) t, fn.params[j]? = some t → Tryd.pinned.checked.prog.wantsStandIn t = false := by
  obtain rfl : f = 5 := Option.some.inj ((show Tryd.prog.funcNamed "bulkhead/bulkheadlaw5.ScanWords" = some 5 by kernel_rfl).symm.trans hf) |>.symm
  obtain rfl : fn = Tryd.f5 := (Option.some.inj (Tryd.func5.symm.trans hfn)).symm
  refine ⟨by kernel_rfl, fun j t ht => ?_⟩
  rw [Tryd.params5] at ht
  have hm : t ∈ [9, 27, 9] := by simpa using Array.mem_of_getElem? ht
  have hall : ([9, 27, 9].all fun u => !Tryd.prog.wantsStandIn u) = true := by kernel_rfl
  exact (show Tryd.prog.wantsStandIn t = false by simpa using List.all_eq_true.1 hall t hm)

theorem card : Rows.ScanWordsUptoCardSaid :=
  Claim7.holds_tied_plain_at .later [] _ _ _ _ said (fun _ h => by cases h) (by kernel_rfl) (fun _ h => by cases h) scanWordsUpto_row_tie rfl ⟨rfl, rfl⟩ (by kernel_rfl) rfl plain (by kernel_rfl)
#print axioms card
end Go.Proofs.YtohmeeglehopiaaDoor.scanWords
