/- The statement on counts: on every world that holds the listed tables the law returns true, whatever the text. -/
import Derived.Test.YtmliebodadgpbaaGreatDoorM18
import Derived.Test.YtmliebodadgpbaaGreatDoorCards
import Derived.Test.YtmliebodadgpbaaGreatDoorTie
import Derived.SizedLaws
import Derived.WalkKit
import Derived.ProofKit
import Derived.OpenShut
import Derived.Deep.DeepHandedRow
import Derived.Deep.DeepWitnessRowRef
namespace Go.Proofs.YtmliebodadgpbaaGreatDoor.syntaxCounts
open Go.ChangeShapes Go.WideShapes Go.ChangeAt Go.RowKit
theorem own : ownKnob Tryz.prog.godebug = none := by kernel_rfl
theorem laidOut : laidOutB Tryz.prog = true := by kernel_rfl
theorem cells5 : Tryz.prog.cellsOf 5 = 1 := by kernel_rfl
def flat0 : DataW Unit → List Value
 | .lit (.int k n) => [.int k n]
 | .lit (.string l) => [.string ⟨l.toArray⟩]
 | _ => []
def flat1 : DataW Unit → List Value
 | .agg xs => xs.flatMap flat0
 | d => flat0 d
def flat2 : DataW Unit → List Value
 | .agg xs => xs.flatMap flat1
 | d => flat1 d
def ranges : DataW Unit → List Value
 | .ptr (.agg (.slice xs _ :: _)) => xs.flatMap flat1
 | _ => []
def message : DataW Unit → List Value
 | .iface _ (.ptr d) => flat1 d
 | _ => []
noncomputable def laidWorld (os : Os) : World :=
 let N := (World.settled Tryz.prog os).heap.size
 let w0 := World.holding Tryz.prog os ⟨#[.cells (ranges Rows.laid_unicode_White_Space).toArray 147, .cells #[.slice (some ⟨N, 0, none⟩) 7 7, .slice none 0 0, .int .i64 2] 144,
   .cells (message Rows.laid_strconv_ErrSyntax).toArray 161, .cells (message Rows.laid_strconv_ErrRange).toArray 161], #[], []⟩
 let put (h : Array Obj) (g : Nat) (cs : Array Value) : Array Obj := h.modify g fun
   | .cells _ t frozen => .cells cs t frozen
   | o => o
 let h1 := put w0.heap 1 (flat2 Rows.laid_bulkhead_scan_classes).toArray
 let h2 := put h1 2 (flat2 Rows.laid_strings_asciiSpace).toArray
 let h3 := put h2 3 #[.pointer (some ⟨N + 1, 0, none⟩)]
 let h4 := put h3 4 #[.iface 159 (.pointer (some ⟨N + 2, 0, none⟩))]
 let h5 := put h4 5 #[.iface 159 (.pointer (some ⟨N + 3, 0, none⟩))]
 let h6 := put h5 6 (flat2 Rows.laid_internal_strconv_uint64pow10).toArray
 let h7 := put h6 7 (flat2 Rows.laid_math_bits_deBruijn32tab).toArray
 let h8 := put h7 8 (flat2 Rows.laid_math_bits_deBruijn64tab).toArray
 { w0 with heap := h8 }
theorem j71 (os : Os) : laidMet Tryz.prog Rows.syntaxCountsRow.laid ((laidWorld os).forCall (fun _ _ => 0) ⟨#[], #[], []⟩).memory :=
 Am.laidMet_of_bits 8 (by kernel_rfl) (by kernel_rfl) (by kernel_rfl)
theorem reads (os : Os) {H : Type} (enc : TypeId × Value → H) : ∃ places, DataW.whole enc Tryz.prog ((laidWorld os).forCall (fun _ _ => 0) ⟨#[], #[], []⟩).memory Tryz.f6.params.toList Rows.syntaxCountsSpec.vars false (#[.slice none 0 0] : Array Value).toList 8 = some ([.nil], [], places) :=
 ⟨[], by kernel_rfl⟩
theorem okSlice {P : Program} {t e : TypeId} (ht : P.underlying t = some (.slice e)) {W : World} {r : Reach} {base : Nat} {a : Addr} {len cap : Nat} (h : Value.okWide P W r base t (.slice (some a) len cap)) : a.spot = none ∧ ∃ row cells, W.shape? a.block = some (row, cells) := by
 simp only [Value.okWide, ht, Cell.okWide, Cell.ok, World.has] at h
 exact ⟨h.2.2.2.1, h.2.2.2.2.imp fun row h => h.imp fun cells h => h.1⟩
set_option maxRecDepth 100000 in
theorem opened {H : Type} {enc : TypeId × Value → H} {W : World} {base : Nat} {v : Value} {d : DataW H} {p : List MemPlace} (hval : Value.okWide Tryz.prog W .any base 34 v) (h : DataW.Trod enc Tryz.prog W 0 (fun _ => true) true 34 v d p) (hsz : ∀ elems spare, d = .slice elems spare → (elems.length + spare.length) * Tryz.prog.bytesOf 5 ≤ reachBytes) :
   v = .slice none 0 0 ∨ ∃ (a : Addr) (zs : List UInt8) (n : Nat), v = .slice (some a) n zs.length ∧ n ≤ zs.length ∧ zs.length ≤ 140737488355000 ∧ a.spot = none ∧ Am.InRow W a zs := by
 obtain ⟨a1, len, cap, rfl⟩ := okWide_slice Tryz.underlying34 hval
 obtain ⟨fuel, hf⟩ := h
 rcases open_ints Tryz.underlying34 Tryz.underlying5 cells5 hf with ⟨hcs, _⟩ | ⟨a, len', cap', zs, hcs, _, hl, hm, hz, hd, hcell, hwz⟩
 · simp [Value.cells] at hcs
   obtain ⟨rfl, rfl, rfl⟩ := hcs
   exact .inl rfl
 · simp [Value.cells] at hcs
   obtain ⟨rfl, rfl, rfl⟩ := hcs
   simp only [if_true] at hz
   have hl' : (zs.map fun n => UInt8.ofNat n.toNat).length = cap := by simpa using hz
   have hs := okSlice Tryz.underlying34 hval
   have hd1 : d = .slice (lits .u8 (zs.take len)) (lits .u8 (zs.drop len)) := congrArg Prod.fst hd
   have hb1 := hsz _ _ hd1
   have hb5 : Tryz.prog.bytesOf 5 = 1 := by kernel_rfl
   have hr : reachBytes = 140737488351232 := rfl
   have hcount : zs.length ≤ 140737488351232 := by
     rw [hb5, hr] at hb1
     simp [lits] at hb1
     omega
   refine .inr ⟨a, zs.map fun n => UInt8.ofNat n.toNat, len, by rw [hl'], by rw [hl']; exact hl, by rw [List.length_map]; omega, hs.1, ?_, fun i hi => ?_⟩
   · obtain ⟨_, row, cells, hsh⟩ := hs
     unfold World.shape? at hsh
     split at hsh
     · rename_i c t fz e; exact ⟨c, t, fz, e⟩
     · cases hsh
   · have hi' : i < zs.length := by simpa using hi
     rw [hcell i hi']
     have hb := range_u8 hwz i
     simp only [List.getElem_map]
     have e : zs.getD i 0 = zs[i] := by simp [List.getD, hi']
     rw [List.getD_eq_getElem?_getD] at e
     rw [e] at hb
     rw [List.getD_eq_getElem?_getD, e]
     congr 2
     simp only [UInt8.toNat_ofNat']
     omega
set_option maxRecDepth 100000 in
theorem yo7 {W : World} {a4 a5 : Addr} (hl : Am.Laid W a4 a5) {H : Type} {enc : TypeId × Value → H} {base : Nat} {v : Value} {d : DataW H} {p : List MemPlace} (hval : Value.okWide Tryz.prog W .any base 34 v) (h : DataW.Trod enc Tryz.prog W 0 (fun _ => true) true 34 v d p) (hsz : ∀ elems spare, d = .slice elems spare → (elems.length + spare.length) * Tryz.prog.bytesOf 5 ≤ reachBytes) :
   ∃ A zs s c x, Am.ArgRow W v A zs s c x := by
 rcases opened hval h hsz with rfl | ⟨a, zs, n, rfl, h1, h2, h3, h4⟩
 · exact ⟨_, _, _, _, _, Am.argNil hl⟩
 · exact ⟨_, _, _, _, _, Am.argSome h4 h1 h3 (by omega)⟩
set_option maxRecDepth 100000 in
theorem yd2 {W : World} (hL' : laidMetH Tryz.prog Rows.syntaxCountsRow.laid W) (hsh : W.ShapedOpen Tryz.prog) : ∃ a4 a5, Am.Laid W a4 a5 := by
 have hL : laidMet Tryz.prog Rows.syntaxCountsRow.laid W := by
   rw [MakeChecks.laidMetH_plain _ _ _ (by kernel_rfl)] at hL'
   exact hL'
 have hR := hL.tail.tail.tail
 have hS := hR.tail
 have hA := hS.tail.tail
 exact Am.laid_parts hA.tail hA hS hR hsh
set_option maxRecDepth 100000 in
theorem contract (H : Type) (enc : TypeId × Value → H) (W : World) (args : Array Value) (ds gs : List (DataW H)) (before : List MemPlace) (base : Nat)
   (hval0 : ∀ (j : Nat) t v, Tryz.f6.params[j]? = some t → args[j]? = some v → Value.okWide Tryz.prog W .any base t v)
   (hW : DataW.Whole enc Tryz.prog Tryz.f6.params.toList Rows.syntaxCountsSpec.vars false W args.toList ds gs before) (hsz : (DataW.weightsEach Tryz.prog (Tryz.f6.params.toList ++ (OpenSpec.ofChange Rows.syntaxCountsSpec).bare.plain.varTypes Tryz.prog) (ds ++ gs)).all (· ≤ reachBytes) = true) (hL : laidMetH Tryz.prog Rows.syntaxCountsRow.laid W) (hsh : W.ShapedOpen Tryz.prog) :
   Calls Tryz.prog 6 args W fun e W' => ∃ v, e = .returned v ∧ Rows.syntaxCountsSpec.post enc Tryz.prog Tryz.f6 false true false false W args v W' := by
 have hval := hval0
 have hW' := hW
 obtain ⟨p, q, hA0, hV, rfl, _, _⟩ := hW
 have hA : DataW.TrodAll enc Tryz.prog W 0 (fun _ => true) true Tryz.f6.params.toList args.toList ds p := hA0
 rw [Tryz.params6] at hA hval
 obtain ⟨v0, d0, rfl, rfl, h0⟩ := trodAll_one hA
 obtain ⟨rfl, rfl⟩ := trodVars_none hV
 clear hA0 hval0
 simp only [List.append_nil] at hW'
 have hlt : ∀ x ∈ p, x.block < W.heap.size := fun x hx => by simpa using hW'.lt x (by simpa using hx)
 obtain ⟨a4, a5, hl⟩ := yd2 hL hsh
 have hs0 : ∀ elems spare, d0 = .slice elems spare → (elems.length + spare.length) * Tryz.prog.bytesOf 5 ≤ reachBytes := fun elems spare e => by
   subst e
   exact sized_slice hsz (j := 0) (t := 34) (by rw [Tryz.params6]; rfl) rfl Tryz.underlying34
 obtain ⟨_, _, _, _, _, R⟩ := yo7 hl (hval 0 34 v0 rfl rfl) h0 hs0
 refine (Am.law_calls Tryz.func6 (by decide +kernel) (fun tabs _ _ _ row frz cap => Am.counts_w tabs row frz cap fun _ _ => rfl) hl R).mono fun e W' ⟨he, bel⟩ => ?_
 subst he
 have harg0 : DataW.Trod enc Tryz.prog W' 0 (fun b => decide (b < W.heap.size)) true 34 v0 d0 p :=
   Below.trod laidOut (by kernel_rfl) (of_decide_eq_true (by kernel_rfl)) h0 bel hlt
 refine ⟨_, rfl, _, _, _, [], _, [], hW', ?_, trodAll_mk1 harg0, ?_, bel.frame _, fun h => by cases h⟩
 · exact trodAll_mk1 (shut_bool Tryz.underlying4 _)
 · rfl
set_option maxRecDepth 100000 in
theorem lifted (os : Os) (started : os.Started) (H : Type) (enc : TypeId × Value → H) (F : Stop.Interp) :
   ReturnsInHanded {} Tryz.checked os 6 .any ((OpenSpec.ofChange Rows.syntaxCountsSpec).preRow enc Tryz.prog Tryz.f6 Rows.syntaxCountsRow.domain false Rows.syntaxCountsRow.laid) (((OpenSpec.ofChange Rows.syntaxCountsSpec).at F).post enc Tryz.prog Tryz.f6 false true false false) := by
 obtain ⟨places, hx⟩ := reads os enc
 refine returnsInHanded_of_row (C := Tryz.checked) (s := OpenSpec.ofChange Rows.syntaxCountsSpec) own started (by kernel_rfl) Tryz.func6
   (witness_row_atRef (enc := enc) (C := Tryz.checked) false (laidWorld os) #[.slice none 0 0] rfl (by kernel_rfl) (by kernel_rfl) (by kernel_rfl)
     (OpenSpec.preRow_of_cond 8 hx (by kernel_rfl) (fun k hk => by cases hk) (by kernel_rfl) (j71 os))) ?_
 intro W base args ds gs before hval hW _ _ hsz hL hsh _
 exact contract H enc W args ds gs before base hval hW hsz hL hsh
theorem said : Rows.SyntaxCountsSaid :=
 OpenClaim.holds_of_cond 6 Tryz.f6 rfl rfl rfl rfl rfl rfl rfl ⟨rfl, rfl, rfl, rfl, rfl⟩ rfl rfl rfl rfl rfl (by kernel_rfl) Tryz.func6 (by kernel_rfl)
   (of_decide_eq_true (by kernel_rfl)) (by unfold Func.isWrapper; first | (rw [if_pos (by decide +kernel)]; kernel_rfl) | (rw [if_neg (by decide +kernel)]; exact ⟨rfl, rfl⟩))
   (fun os started H enc _ F => by rw [OpenClaim.pre_eq_preRow]; exact lifted os started H enc F)
set_option maxRecDepth 100000 in
theorem plain (f : FuncId) (fn : Func) (hf : Tryz.pinned.checked.prog.funcNamed "bulkhead/bulkheadlaw6.SyntaxCounts" = some f) (hfn : Tryz.pinned.checked.prog.funcs[f]? = some fn) :
   true = Tryz.pinned.checked.prog.looks [] ∧ ∀ (j : Nat) t, fn.params[j]? = some t → Tryz.pinned.checked.prog.wantsStandIn t = false := by
 obtain rfl : f = 6 := Option.some.inj ((show Tryz.prog.funcNamed "bulkhead/bulkheadlaw6.SyntaxCounts" = some 6 by kernel_rfl).symm.trans hf) |>.symm
 obtain rfl : fn = Tryz.f6 := (Option.some.inj (Tryz.func6.symm.trans hfn)).symm
 refine ⟨by kernel_rfl, fun j t ht => ?_⟩
 rw [Tryz.params6] at ht
 have hm : t ∈ [34] := by simpa using Array.mem_of_getElem? ht
 have hall : ([34].all fun u => !Tryz.prog.wantsStandIn u) = true := by kernel_rfl
 exact (show Tryz.prog.wantsStandIn t = false by simpa using List.all_eq_true.1 hall t hm)
theorem card : Rows.SyntaxCountsCardSaid :=
 Claim7.holds_tied_plain_at .later [] _ _ _ _ said (fun _ h => by cases h) (by kernel_rfl) (fun _ h => by cases h) syntaxCounts_row_tie rfl ⟨rfl, rfl⟩ (by kernel_rfl) rfl plain (by kernel_rfl)
#print axioms card
end Go.Proofs.YtmliebodadgpbaaGreatDoor.syntaxCounts
