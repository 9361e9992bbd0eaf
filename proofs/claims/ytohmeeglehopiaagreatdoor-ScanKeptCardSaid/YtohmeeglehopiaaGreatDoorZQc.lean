/- The statement on what is kept: on every world that holds the listed tables the law returns true, whatever the texts. -/
import Derived.Test.YtohmeeglehopiaaGreatDoorM18
import Derived.Test.YtohmeeglehopiaaGreatDoorCards
import Derived.Test.YtohmeeglehopiaaGreatDoorTie
import Derived.Deep.Matrix
import Derived.WalkKit
import Derived.ProofKit
import Derived.OpenShut
import Derived.Deep.DeepHandedRow
import Derived.Deep.DeepWitnessRowRef
namespace Go.Proofs.YtohmeeglehopiaaGreatDoor.scanKept
open Go.ChangeShapes Go.WideShapes Go.ChangeAt Go.RowKit
theorem own : ownKnob Tryz.prog.godebug = none := by kernel_rfl
theorem laidOut : laidOutB Tryz.prog = true := by kernel_rfl
theorem cells5 : Tryz.prog.cellsOf 5 = 1 := by kernel_rfl
def flat0 : DataW Unit → List Value
 | .lit (.int k n) => [.int k n]
 | .lit (.string l) => [.string ⟨l.toArray⟩]
 | _ => []
def flat1 : DataW Unit → List Value
 | .agg xs => xs.flatMap flat0
 | d => flat0 d
def flat2 : DataW Unit → List Value
 | .agg xs => xs.flatMap flat1
 | d => flat1 d
def ranges : DataW Unit → List Value
 | .ptr (.agg (.slice xs _ :: _)) => xs.flatMap flat1
 | _ => []
def message : DataW Unit → List Value
 | .iface _ (.ptr d) => flat1 d
 | _ => []
noncomputable def laidWorld (os : Os) : World :=
 let N := (World.settled Tryz.prog os).heap.size
 let w0 := World.holding Tryz.prog os ⟨#[.cells (ranges Rows.laid_unicode_White_Space).toArray 136, .cells #[.slice (some ⟨N, 0, none⟩) 7 7, .slice none 0 0, .int .i64 2] 133,
   .cells (message Rows.laid_strconv_ErrSyntax).toArray 153, .cells (message Rows.laid_strconv_ErrRange).toArray 153], #[], []⟩
 let put (h : Array Obj) (g : Nat) (cs : Array Value) : Array Obj := h.modify g fun
   | .cells _ t frozen => .cells cs t frozen
   | o => o
 let h0 := put w0.heap 0 (flat2 Rows.laid_strings_asciiSpace).toArray
 let h1 := put h0 1 (flat2 Rows.laid_bulkhead_scan_classes).toArray
 let h2 := put h1 2 (flat2 Rows.laid_bulkhead_bulkheadref5_reserved).toArray
 let h3 := put h2 3 (flat2 Rows.laid_bulkhead_bulkheadref5_signs).toArray
 let h4 := put h3 4 #[.pointer (some ⟨N + 1, 0, none⟩)]
 let h5 := put h4 5 (flat2 Rows.laid_internal_strconv_uint64pow10).toArray
 let h6 := put h5 6 #[.iface 151 (.pointer (some ⟨N + 2, 0, none⟩))]
 let h7 := put h6 7 #[.iface 151 (.pointer (some ⟨N + 3, 0, none⟩))]
 let h8 := put h7 9 (flat2 Rows.laid_math_bits_deBruijn32tab).toArray
 let h9 := put h8 10 (flat2 Rows.laid_math_bits_deBruijn64tab).toArray
 let h10 := put h9 11 (flat2 Rows.laid_unicode_utf8_first).toArray
 let h11 := put h10 12 (flat2 Rows.laid_unicode_utf8_acceptRanges).toArray
 { w0 with heap := h11 }
theorem yp6 (os : Os) : laidMet Tryz.prog Rows.scanKeptRow.laid ((laidWorld os).forCall (fun _ _ => 0) ⟨#[], #[], []⟩).memory :=
 Am.laidMet_of_bits 8 (by kernel_rfl) (by kernel_rfl) (by kernel_rfl)
theorem reads (os : Os) {H : Type} (enc : TypeId × Value → H) : ∃ places, DataW.whole enc Tryz.prog ((laidWorld os).forCall (fun _ _ => 0) ⟨#[], #[], []⟩).memory Tryz.f4.params.toList Rows.scanKeptSpec.vars false (#[.slice none 0 0] : Array Value).toList 8 = some ([.nil], [], places) :=
 ⟨[], by kernel_rfl⟩
theorem cells22 : Tryz.prog.cellsOf 22 = 1 := by kernel_rfl
theorem yz6 {W : World} (hL' : laidMetH Tryz.prog Rows.scanKeptRow.laid W) (hsh : W.ShapedOpen Tryz.prog) : ∃ a6 a7, Am.Laid W a6 a7 := by
 have hL : laidMet Tryz.prog Rows.scanKeptRow.laid W := by
   rw [MakeChecks.laidMetH_plain _ _ _ (by kernel_rfl)] at hL'
   exact hL'
 have hS := hL.tail
 have hB := hS.tail.tail
 have hP := hB.tail
 have hR := hS.tail.tail.tail.tail.tail
 have hY := hR.tail
 have hA := hY.tail.tail
 have hC := hA.tail
 have eW : (Rows.laid_bulkhead_bulkheadref5_reserved : DataW Unit) = Am.strData Am.wordsL := by kernel_rfl
 have eS : (Rows.laid_bulkhead_bulkheadref5_signs : DataW Unit) = Am.strData Am.signsL := by kernel_rfl
 have eA : (Rows.laid_strings_asciiSpace : DataW Unit) = Lib.tabData .u8 Am.asciiL := by kernel_rfl
 have eC : (Rows.laid_bulkhead_scan_classes : DataW Unit) = Lib.tabData .u8 Am.classesL := by kernel_rfl
 have eP : (Rows.laid_internal_strconv_uint64pow10 : DataW Unit) = Lib.tabData .u64 Lib.pow10Tab := by kernel_rfl
 have eB : (Rows.laid_math_bits_deBruijn64tab : DataW Unit) = Lib.tabData .u8 Am.bruL := by kernel_rfl
 rw [eA] at hA
 rw [eC] at hC
 rw [eS] at hS
 rw [eP] at hP
 rw [eB] at hB
 have hW : laidMet Tryz.prog (("bulkhead/bulkheadref5.reserved", Am.strData Am.wordsL) :: Rows.scanKeptRow.laid.tail) W := by
   rw [← eW]; exact hL
 obtain ⟨a7, s7, v7, k7, _⟩ := laid_sentinel hR Am.g7 (by kernel_rfl) Tryz.underlying78 Am.row151 Tryz.underlying151 Tryz.underlying153 rfl rfl Tryz.underlying9 (by kernel_rfl) (by kernel_rfl)
 obtain ⟨a6, s6, v6, k6, _⟩ := laid_sentinel hY Am.g6 (by kernel_rfl) Tryz.underlying78 Am.row151 Tryz.underlying151 Tryz.underlying153 rfl rfl Tryz.underlying9 (by kernel_rfl) (by kernel_rfl)
 have tA : Lib.TabIs Tryz.prog W "strings.asciiSpace" .u8 Am.asciiL := Lib.tabIs_of_head Am.g0 (by kernel_rfl) Tryz.underlying88 Tryz.underlying5 (by kernel_rfl) (by kernel_rfl) hA
 have tC : Lib.TabIs Tryz.prog W "bulkhead/scan.classes" .u8 Am.classesL := Lib.tabIs_of_head Am.g1 (by kernel_rfl) Tryz.underlying90 Tryz.underlying5 (by kernel_rfl) (by kernel_rfl) hC
 have tP : Lib.TabIs Tryz.prog W "internal/strconv.uint64pow10" .u64 Lib.pow10Tab := Lib.tabIs_of_head Am.g5 (by kernel_rfl) Tryz.underlying126 Tryz.underlying40 (by kernel_rfl) (by kernel_rfl) hP
 have tB : Lib.TabIs Tryz.prog W "math/bits.deBruijn64tab" .u8 Am.bruL := Lib.tabIs_of_head Am.g10 (by kernel_rfl) (show Tryz.prog.underlying 155 = some (.array 64 5) by kernel_rfl) Tryz.underlying5 (by kernel_rfl) (by kernel_rfl) hB
 exact ⟨a6, a7, Am.heap_size hsh, tC, tA, Am.strsIs_of_head Am.g2 (by kernel_rfl) Tryz.underlying99 Tryz.underlying9 (by kernel_rfl) (by kernel_rfl) hW, Am.strsIs_of_head Am.g3 (by kernel_rfl) Tryz.underlying100 Tryz.underlying9 (by kernel_rfl) (by kernel_rfl) hS, v6, v7, tP, tB, ⟨_, k6⟩, ⟨_, k7⟩⟩
set_option maxRecDepth 100000 in
theorem opened {H : Type} {enc : TypeId × Value → H} {W : World} {base : Nat} {v : Value} {d : DataW H} {p : List MemPlace} (hval : Value.okWide Tryz.prog W .any base 27 v) (h : DataW.Trod enc Tryz.prog W 0 (fun _ => true) true 27 v d p) :
   v = .slice none 0 0 ∨ ∃ (a : Addr) (T : List Am.Tx) (A : Nat → Option Addr) (n : Nat), v = .slice (some a) n T.length ∧ n ≤ T.length ∧ Am.InRows W a T A := by
 obtain ⟨a1, len, cap, rfl⟩ := okWide_slice Tryz.underlying27 hval
 obtain ⟨fuel, hf⟩ := h
 rcases Go.Deep.open_int_rows Tryz.underlying27 Tryz.underlying22 Tryz.underlying5 cells22 cells5 hf with ⟨hcs, _⟩ | ⟨a, len', cap', A, L, C, Z, hcs, _, hl, hm, hx, hr⟩
 · simp [Value.cells] at hcs
   obtain ⟨rfl, rfl, rfl⟩ := hcs
   exact .inl rfl
 · simp [Value.cells] at hcs
   obtain ⟨rfl, rfl, rfl⟩ := hcs
   right
   have tl : ((List.range cap).map fun r => (⟨(A r).isNone, L r, (Z r).map fun n => UInt8.ofNat n.toNat⟩ : Am.Tx)).length = cap := by simp
   have ti : ∀ i (h : i < ((List.range cap).map fun r => (⟨(A r).isNone, L r, (Z r).map fun n => UInt8.ofNat n.toNat⟩ : Am.Tx)).length), ((List.range cap).map fun r => (⟨(A r).isNone, L r, (Z r).map fun n => UInt8.ofNat n.toNat⟩ : Am.Tx))[i] = ⟨(A i).isNone, L i, (Z i).map fun n => UInt8.ofNat n.toNat⟩ := fun i h => by simp
   refine ⟨a, (List.range cap).map fun r => ⟨(A r).isNone, L r, (Z r).map fun n => UInt8.ofNat n.toNat⟩, A, len, by rw [tl], by rw [tl]; exact hl, ⟨fun i h => ?_, fun i h => ?_⟩⟩
   · rw [ti i h]
     rw [tl] at h
     obtain ⟨h1, _, _, h2, _⟩ := hr i h
     rw [h1]
     simp only [List.length_map, h2]
   · rw [ti i h]
     rw [tl] at h
     obtain ⟨h1, h2, h3, h4, h5, h6, h7⟩ := hr i h
     have hml : maxLen = 9223372036854775807 := rfl
     refine ⟨⟨by simp only [List.length_map, h4]; exact h2, by simp only [List.length_map, h4]; omega⟩, rfl, fun e => ?_, fun b hb j hj => ?_⟩
     · have := h6 e
       exact ⟨by simp only; omega, by simp only [List.map_eq_nil_iff]; exact List.length_eq_zero_iff.mp (by omega)⟩
     · have hj' : j < (Z i).length := by simpa using hj
       rw [(h7 b hb).2 j (by omega)]
       have hbn := range_u8 h5 j
       simp only [List.getElem_map]
       have e : (Z i).getD j 0 = (Z i)[j] := by simp [List.getD, hj']
       rw [List.getD_eq_getElem?_getD] at e
       rw [e] at hbn
       rw [List.getD_eq_getElem?_getD, e]
       congr 2
       simp only [UInt8.toNat_ofNat']
       omega
set_option maxRecDepth 100000 in
theorem contract (H : Type) (enc : TypeId × Value → H) (W : World) (args : Array Value) (ds gs : List (DataW H)) (before : List MemPlace) (base : Nat)
   (hval0 : ∀ (j : Nat) t v, Tryz.f4.params[j]? = some t → args[j]? = some v → Value.okWide Tryz.prog W .any base t v)
   (hW : DataW.Whole enc Tryz.prog Tryz.f4.params.toList Rows.scanKeptSpec.vars false W args.toList ds gs before) (hL : laidMetH Tryz.prog Rows.scanKeptRow.laid W) (hsh : W.ShapedOpen Tryz.prog) :
   Calls Tryz.prog 4 args W fun e W' => ∃ v, e = .returned v ∧ Rows.scanKeptSpec.post enc Tryz.prog Tryz.f4 false true false false W args v W' := by
 have hval := hval0
 have hW' := hW
 obtain ⟨p, q, hA0, hV, rfl, _, _⟩ := hW
 have hA : DataW.TrodAll enc Tryz.prog W 0 (fun _ => true) true Tryz.f4.params.toList args.toList ds p := hA0
 rw [Tryz.params4] at hA hval
 obtain ⟨v0, d0, rfl, rfl, h0⟩ := trodAll_one hA
 obtain ⟨rfl, rfl⟩ := trodVars_none hV
 clear hA0 hval0
 simp only [List.append_nil] at hW'
 have hlt : ∀ x ∈ p, x.block < W.heap.size := fun x hx => by simpa using hW'.lt x (by simpa using hx)
 obtain ⟨a6, a7, hl⟩ := yz6 hL hsh
 have run : Calls Tryz.prog 4 #[v0] W fun e w' => e = .returned (.bool true) ∧ Below W.heap.size W w' := by
   rcases opened (hval 0 27 v0 rfl rfl) h0 with rfl | ⟨a, T, A, n, rfl, h1, h2⟩
   · exact Am.kept_calls_nil hl
   · exact Am.kept_calls hl h2 h1
 refine run.mono fun e W' ⟨he, bel⟩ => ?_
 subst he
 have harg0 : DataW.Trod enc Tryz.prog W' 0 (fun b => decide (b < W.heap.size)) true 27 v0 d0 p :=
   Below.trod laidOut (by kernel_rfl) (of_decide_eq_true (by kernel_rfl)) h0 bel hlt
 refine ⟨_, rfl, _, _, _, [], _, [], hW', ?_, trodAll_mk1 harg0, ?_, bel.frame _, fun h => by cases h⟩
 · exact trodAll_mk1 (shut_bool Tryz.underlying4 _)
 · rfl
set_option maxRecDepth 100000 in
theorem lifted (os : Os) (started : os.Started) (H : Type) (enc : TypeId × Value → H) (F : Stop.Interp) :
   ReturnsInHanded {} Tryz.checked os 4 .any ((OpenSpec.ofChange Rows.scanKeptSpec).preRow enc Tryz.prog Tryz.f4 Rows.scanKeptRow.domain false Rows.scanKeptRow.laid) (((OpenSpec.ofChange Rows.scanKeptSpec).at F).post enc Tryz.prog Tryz.f4 false true false false) := by
 obtain ⟨places, hx⟩ := reads os enc
 refine returnsInHanded_of_row (C := Tryz.checked) (s := OpenSpec.ofChange Rows.scanKeptSpec) own started (by kernel_rfl) Tryz.func4
   (witness_row_atRef (enc := enc) (C := Tryz.checked) false (laidWorld os) #[.slice none 0 0] rfl (by kernel_rfl) (by kernel_rfl) (by kernel_rfl)
     (OpenSpec.preRow_of_cond 8 hx (by kernel_rfl) (fun k hk => by cases hk) (by kernel_rfl) (yp6 os))) ?_
 intro W base args ds gs before hval hW _ _ _ hL hsh _
 exact contract H enc W args ds gs before base hval hW hL hsh
theorem said : Rows.ScanKeptSaid :=
 OpenClaim.holds_of_cond 4 Tryz.f4 rfl rfl rfl rfl rfl rfl rfl ⟨rfl, rfl, rfl, rfl, rfl⟩ rfl rfl rfl rfl rfl (by kernel_rfl) Tryz.func4 (by kernel_rfl)
   (of_decide_eq_true (by kernel_rfl)) (by unfold Func.isWrapper; first | (rw [if_pos (by decide +kernel)]; kernel_rfl) | (rw [if_neg (by decide +kernel)]; exact ⟨rfl, rfl⟩))
   (fun os started H enc _ F => by rw [OpenClaim.pre_eq_preRow]; exact lifted os started H enc F)
set_option maxRecDepth 100000 in
theorem plain (f : FuncId) (fn : Func) (hf : Tryz.pinned.checked.prog.funcNamed "bulkhead/bulkheadlaw5.ScanKept" = some f) (hfn : Tryz.pinned.checked.prog.funcs[f]? = some fn) :
   true = Tryz.pinned.checked.prog.looks [] ∧ ∀ (j : Nat) t, fn.params[j]? = some t → Tryz.pinned.checked.prog.wantsStandIn t = false := by
 obtain rfl : f = 4 := Option.some.inj ((show Tryz.prog.funcNamed "bulkhead/bulkheadlaw5.ScanKept" = some 4 by kernel_rfl).symm.trans hf) |>.symm
 obtain rfl : fn = Tryz.f4 := (Option.some.inj (Tryz.func4.symm.trans hfn)).symm
 refine ⟨by kernel_rfl, fun j t ht => ?_⟩
 rw [Tryz.params4] at ht
 have hm : t ∈ [27] := by simpa using Array.mem_of_getElem? ht
 have hall : ([27].all fun u => !Tryz.prog.wantsStandIn u) = true := by kernel_rfl
 exact (show Tryz.prog.wantsStandIn t = false by simpa using List.all_eq_true.1 hall t hm)
theorem card : Rows.ScanKeptCardSaid :=
 Claim7.holds_tied_plain_at .later [] _ _ _ _ said (fun _ h => by cases h) (by kernel_rfl) (fun _ h => by cases h) scanKept_row_tie rfl ⟨rfl, rfl⟩ (by kernel_rfl) rfl plain (by kernel_rfl)
#print axioms card
end Go.Proofs.YtohmeeglehopiaaGreatDoor.scanKept
