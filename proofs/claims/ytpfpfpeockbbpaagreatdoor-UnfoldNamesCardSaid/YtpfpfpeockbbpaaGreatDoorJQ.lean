/- The closed statement of layer 8: on every world that holds the listed tables the law returns true. -/
import Derived.Test.YtpfpfpeockbbpaaGreatDoorJT

import Derived.Test.YtpfpfpeockbbpaaGreatDoorJPc
import Derived.Test.YtpfpfpeockbbpaaGreatDoorCards
import Derived.Test.YtpfpfpeockbbpaaGreatDoorTie
import Derived.WalkKit
import Derived.ProofKit
import Derived.OpenShut
import Derived.Deep.DeepHandedRow
import Derived.Deep.DeepWitnessRowRef
namespace Go.Proofs.YtpfpfpeockbbpaaGreatDoor.unfoldNames
open Go.ChangeShapes Go.WideShapes Go.ChangeAt Go.RowKit

theorem own : ownKnob Tryz.prog.godebug = none := by kernel_rfl

def flat0 : DataW Unit → List Value
  | .lit (.int k n) => [.int k n]
  | .lit (.string l) => [.string ⟨l.toArray⟩]
  | _ => []
def flat1 : DataW Unit → List Value
  | .agg xs => xs.flatMap flat0
  | d => flat0 d
def flat2 : DataW Unit → List Value
  | .agg xs => xs.flatMap flat1
  | d => flat1 d
def ranges : DataW Unit → List Value
  | .ptr (.agg (.slice xs _ :: _)) => xs.flatMap flat1
  | _ => []
def message : DataW Unit → List Value
  | .iface _ (.ptr d) => flat1 d
  | _ => []

/-- A world for the witness: the listed tables hold what their initialisers lay. -/
noncomputable def laidWorld (os : Os) : World :=
  let N := (World.settled Tryz.prog os).heap.size
  let w0 := World.holding Tryz.prog os ⟨#[.cells (ranges Rows.laid_unicode_White_Space).toArray 301, .cells #[.slice (some ⟨N, 0, none⟩) 7 7, .slice none 0 0, .int .i64 2] 298,
    .cells (message Rows.laid_strconv_ErrSyntax).toArray 330, .cells (message Rows.laid_strconv_ErrRange).toArray 330], #[], []⟩
  let put (h : Array Obj) (g : Nat) (cs : Array Value) : Array Obj := h.modify g fun
    | .cells _ t frozen => .cells cs t frozen
    | o => o
  let h0 := put w0.heap 0 (flat2 Rows.laid_bulkhead_scan_classes).toArray
  let h2 := put h0 2 (flat2 Rows.laid_strings_asciiSpace).toArray
  let h3 := put h2 3 #[.pointer (some ⟨N + 1, 0, none⟩)]
  let h4 := put h3 4 (flat2 Rows.laid_internal_strconv_uint64pow10).toArray
  let h5 := put h4 5 (flat2 Rows.laid_bulkhead_render_ranks).toArray
  let h6 := put h5 6 #[.iface 328 (.pointer (some ⟨N + 2, 0, none⟩))]
  let h7 := put h6 7 #[.iface 328 (.pointer (some ⟨N + 3, 0, none⟩))]
  let h8 := put h7 8 (flat2 Rows.laid_math_bits_deBruijn32tab).toArray
  let h9 := put h8 9 (flat2 Rows.laid_math_bits_deBruijn64tab).toArray
  let h10 := put h9 10 (flat2 Rows.laid_unicode_utf8_first).toArray
  let h11 := put h10 11 (flat2 Rows.laid_unicode_utf8_acceptRanges).toArray
  { w0 with heap := h11 }
theorem laid_met (os : Os) : laidMet Tryz.prog Rows.unfoldNamesRow.laid ((laidWorld os).forCall (fun _ _ => 0) ⟨#[], #[], []⟩).memory :=
  Am.laidMet_of_bits 8 (by kernel_rfl) (by kernel_rfl) (by kernel_rfl)
theorem reads (os : Os) {H : Type} (enc : TypeId × Value → H) : ∃ places, DataW.whole enc Tryz.prog ((laidWorld os).forCall (fun _ _ => 0) ⟨#[], #[], []⟩).memory Tryz.f3.params.toList Rows.unfoldNamesSpec.vars false (#[] : Array Value).toList 8 = some ([], [], places) :=
  ⟨[], by kernel_rfl⟩

theorem contract (H : Type) (enc : TypeId × Value → H) (W : World) (args : Array Value) (ds gs : List (DataW H)) (before : List MemPlace)
    (hW : DataW.Whole enc Tryz.prog Tryz.f3.params.toList Rows.unfoldNamesSpec.vars false W args.toList ds gs before) (hL : laidMetH Tryz.prog Rows.unfoldNamesRow.laid W) (hsh : W.ShapedOpen Tryz.prog) :
    Calls Tryz.prog 3 args W fun e W' => ∃ v, e = .returned v ∧ Rows.unfoldNamesSpec.post enc Tryz.prog Tryz.f3 false true false false W args v W' := by
  have hW' := hW
  obtain ⟨p, q, hA0, hV, rfl, _, _⟩ := hW
  have hA : DataW.TrodAll enc Tryz.prog W 0 (fun _ => true) true Tryz.f3.params.toList args.toList ds p := hA0
  rw [Tryz.params3] at hA
  obtain ⟨ha, rfl, rfl⟩ := trodAll_none hA
  obtain rfl : args = #[] := by cases args; simp_all
  obtain ⟨rfl, rfl⟩ := trodVars_none hV
  clear hA0
  simp only [List.append_nil] at hW'
  have hl := Am.laid_of rfl hL hsh
  refine (Am.top_run Am.names_sound Am.names_run rfl rfl hl).mono fun e W' ⟨he, bel⟩ => ?_
  subst he
  refine ⟨_, rfl, _, _, _, [], [], [], hW', ?_, ?_, ?_, bel.frame _, fun h => by cases h⟩
  · exact trodAll_cons_mk (shut_bool Tryz.underlying4 _) trodAll_mk0
  · exact trodAll_mk0
  · rfl

set_option maxRecDepth 100000 in
theorem lifted (os : Os) (started : os.Started) (H : Type) (enc : TypeId × Value → H) (F : Stop.Interp) :
    ReturnsInHanded {} Tryz.checked os 3 .any ((OpenSpec.ofChange Rows.unfoldNamesSpec).preRow enc Tryz.prog Tryz.f3 Rows.unfoldNamesRow.domain false Rows.unfoldNamesRow.laid) (((OpenSpec.ofChange Rows.unfoldNamesSpec).at F).post enc Tryz.prog Tryz.f3 false true false false) := by
  obtain ⟨places, hx⟩ := reads os enc
  refine returnsInHanded_of_row (C := Tryz.checked) (s := OpenSpec.ofChange Rows.unfoldNamesSpec) own started (by kernel_rfl) Tryz.func3
    (witness_row_atRef (enc := enc) (C := Tryz.checked) false (laidWorld os) #[] rfl (by kernel_rfl) (by kernel_rfl) (by kernel_rfl)
      (OpenSpec.preRow_of_cond 8 hx (by kernel_rfl) (fun k hk => by cases hk) (by kernel_rfl) (laid_met os))) ?_
  intro W base args ds gs before _ hW _ _ _ hL hsh _
  exact contract H enc W args ds gs before hW hL hsh

theorem said : Rows.UnfoldNamesSaid :=
  OpenClaim.holds_of_cond 3 Tryz.f3 rfl rfl rfl rfl rfl rfl rfl ⟨rfl, rfl, rfl, rfl, rfl⟩ rfl rfl rfl rfl rfl (by kernel_rfl) Tryz.func3 (by kernel_rfl)
    (of_decide_eq_true (by kernel_rfl)) (by unfold Func.isWrapper; first | (rw [if_pos (by decide +kernel)]; kernel_rfl) | (rw [if_neg (by decide +kernel)]; exact ⟨rfl, rfl⟩))
    (fun os started H enc _ F => by rw [OpenClaim.pre_eq_preRow]; exact lifted os started H enc F)

theorem plain (f : FuncId) (fn : Func) (hf : Tryz.pinned.checked.prog.funcNamed "bulkhead/bulkheadlaw8.UnfoldNames" = some f) (hfn : Tryz.pinned.checked.prog.funcs[f]? = some fn) :
    true = Tryz.pinned.checked.prog.looks [] ∧ ∀ (j : Nat) t, fn.params[j]? = some t → Tryz.pinned.checked.prog.wantsStandIn t = false := by
  obtain rfl : f = 3 := Option.some.inj ((show Tryz.prog.funcNamed "bulkhead/bulkheadlaw8.UnfoldNames" = some 3 by kernel_rfl).symm.trans hf) |>.symm
  obtain rfl : fn = Tryz.f3 := (Option.some.inj (Tryz.func3.symm.trans hfn)).symm
  refine ⟨by kernel_rfl, fun j t ht => ?_⟩
  rw [Tryz.params3] at ht
  simp at ht

theorem card : Rows.UnfoldNamesCardSaid :=
  Claim7.holds_tied_plain_at .later [] _ _ _ _ said (fun _ h => by cases h) (by kernel_rfl) (fun _ h => by cases h) unfoldNames_row_tie rfl ⟨rfl, rfl⟩ (by kernel_rfl) rfl plain (by kernel_rfl)
#print axioms card
end Go.Proofs.YtpfpfpeockbbpaaGreatDoor.unfoldNames
