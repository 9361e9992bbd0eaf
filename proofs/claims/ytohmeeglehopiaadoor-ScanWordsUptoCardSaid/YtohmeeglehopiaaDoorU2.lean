/- Digits of base sixteen behind a row of bytes. -/
import Derived.Test.YtohmeeglehopiaaDoorS8
import Derived.Test.YtohmeeglehopiaaDoorP1
import Derived.Test.YtohmeeglehopiaaDoorB1
import Derived.Laws.RangeString
open Go.Proofs
namespace Go.Am
/-- What else is asked of the functions that are looked up. -/
structure HkB (hk : Hook) : Prop where
  num : ∀ (u : Nat) H, u < 18446744073709551616 → Ext GE H → hk 19 #[.int .u64 (u : Int)] H = some (some (.ret (.slice (some ⟨H.next, 0, none⟩) (digV u).length (digV u).length), H.alloc 1 (digV u)))
  pw : ∀ H, Ext GE H → hk 86 #[.int .i64 16] H = some (some (.ret (.bool true), H))
  tz : ∀ H, Ext GE H → hk 87 #[.int .u64 16] H = some (some (.ret (.int .i64 4), H))
theorem conv_t73 (x : Int) (H : Heap) : convertA PP 3 73 (.int .i64 x) H = some (.int .u64 (IntKind.u64.wrap x), H) := by kernel_rfl
theorem conv_t27 (x : Int) (H : Heap) : convertA PP 3 27 (.int .i64 x) H = some (.int .u64 (IntKind.u64.wrap x), H) := by kernel_rfl
def isU (r : Option Value) (n : Nat) : Bool := match r with | some (.int .u64 m) => decide (m = (n : Int)) | _ => false
theorem isU_eq {r : Option Value} {n : Nat} (h : isU r n = true) : r = some (.int .u64 (n : Int)) := by
  unfold isU at h
  split at h
  · rw [of_decide_eq_true h]
  · cases h
def isB (r : Option Value) (n : Nat) : Bool := match r with | some (.int .u8 m) => decide (m = (n : Int)) | _ => false
theorem isB_eq {r : Option Value} {n : Nat} (h : isB r n = true) : r = some (.int .u8 (n : Int)) := by
  unfold isB at h
  split at h
  · rw [of_decide_eq_true h]
  · cases h
theorem and_ok {u : Nat} (hu : u < 256) : binA PP .and 73 (.tmp 50) (.tmp 51) (.int .u64 (u : Int)) (.int .u64 15) = some (.int .u64 ((u % 16 : Nat) : Int)) := by
  have hall : (List.range 256).all (fun u => isU (binA PP .and 73 (.tmp 50) (.tmp 51) (.int .u64 (u : Int)) (.int .u64 15)) (u % 16)) = true := by decide +kernel
  exact isU_eq (List.all_eq_true.mp hall u (List.mem_range.mpr hu))
theorem shr_ok {u : Nat} (hu : u < 256) : binA PP .shr 27 (.tmp 55) (.tmp 56) (.int .u64 (u : Int)) (.int .u64 4) = some (.int .u64 ((u / 16 : Nat) : Int)) := by
  have hall : (List.range 256).all (fun u => isU (binA PP .shr 27 (.tmp 55) (.tmp 56) (.int .u64 (u : Int)) (.int .u64 4)) (u / 16)) = true := by decide +kernel
  exact isU_eq (List.all_eq_true.mp hall u (List.mem_range.mpr hu))
theorem dig_ok {u : Nat} (hu : u < 16) : indexA PP 9 (.string ⟨#[48, 49, 50, 51, 52, 53, 54, 55, 56, 57, 97, 98, 99, 100, 101, 102, 103, 104, 105, 106, 107, 108, 109, 110, 111, 112, 113, 114, 115, 116, 117, 118, 119, 120, 121, 122]⟩) (.int .u64 (u : Int)) = some (.int .u8 ((hexD u).toNat : Int)) := by
  have hall : (List.range 16).all (fun u => isB (indexA PP 9 (.string ⟨#[48, 49, 50, 51, 52, 53, 54, 55, 56, 57, 97, 98, 99, 100, 101, 102, 103, 104, 105, 106, 107, 108, 109, 110, 111, 112, 113, 114, 115, 116, 117, 118, 119, 120, 121, 122]⟩) (.int .u64 (u : Int))) (hexD u).toNat) = true := by decide +kernel
  exact isB_eq (List.all_eq_true.mp hall u (List.mem_range.mpr hu))
def zs65 : List Value := List.replicate 65 (.int .u8 0)
def dg1 (x : UInt8) : List Value := List.replicate 64 (.int .u8 0) ++ [f8 x]
def dg2 (x y : UInt8) : List Value := List.replicate 63 (.int .u8 0) ++ [f8 x, f8 y]
theorem alloc_arr (H : Heap) : allocA PP 107 H = some (.pointer (some ⟨H.next, 0, none⟩), H.alloc 1 zs65) := by kernel_rfl
theorem undA : PP.underlying 107 = some (.array 65 5) := Tryd.underlying107
theorem index_arr (q : Nat) {i : Nat} (h : i < 65) : indexAddrA PP 107 (.pointer (some ⟨q, 0, none⟩)) (.int .i64 (i : Int)) = some (.pointer (some ⟨q, i, none⟩)) := by
  have e : (⟨q, 0, none⟩ : Addr).add i = ⟨q, i, none⟩ := by rw [Addr.add_lit, Nat.zero_add]
  simp [indexAddrA, size5, at_, e]
  omega
def rwB (l : List Value) : Blk := ⟨l, true, 1, none⟩
theorem store_arr {H : Heap} {q i : Nat} {l : List Value} (h : H.get q = some (rwB l)) (hl : l.length = 65) (hi : i < 65) (x : UInt8) : storeA PP 5 (.pointer (some ⟨q, i, none⟩)) (.int .u8 (x.toNat : Int)) H = some (undef, H.set q (rwB (over l i [f8 x]))) := by
  simp only [storeA, size5, stV]
  simp [Value.cells, st, look, h, rwB, Value.oneCell', hl, Nat.succ_le_of_lt hi, f8]
theorem over1 (x : UInt8) : over zs65 64 [f8 x] = dg1 x := by rfl
theorem over2 (x y : UInt8) : over (dg1 y) 63 [f8 x] = dg2 x y := by rfl
theorem slice_arr {H : Heap} {q i : Nat} {l : List Value} (h : H.get q = some (rwB l)) (hl : l.length = 65) (hi : i ≤ 65) : sliceOpA PP 107 (.pointer (some ⟨q, 0, none⟩)) (some (.int .i64 (i : Int))) none none H = some (.slice (some ⟨q, i, none⟩) (65 - i) (65 - i)) := by
  have e : (⟨q, 0, none⟩ : Addr).add i = ⟨q, i, none⟩ := by rw [Addr.add_lit, Nat.zero_add]
  have hk : look H ⟨q, 0, none⟩ = some (rwB l) := by simp only [look, h]; rfl
  simp only [sliceOpA, undA, size5, sliceP, hk]
  rw [if_pos ⟨by omega, by omega, by omega⟩, if_pos ⟨rfl, by show 0 + 65 * 1 ≤ l.length; omega⟩]
  have e2 : ((65 : Int) - (i : Int)).toNat = 65 - i := by omega
  simp [e, e2]
/-- A block of its own that was laid and written. -/
theorem ext_own {G0 H : Heap} (hf0 : Fresh G0) (hE : Ext G0 H) (z : List Value) (x : Blk) : Ext G0 ((H.alloc 1 z).set H.next x) := by
  refine ⟨Nat.le_succ_of_le hE.next, fun b y hb => ?_, fun b hb => ?_⟩
  · have hlt := lt_next hE.fresh (hE.keep b y hb)
    rw [Heap.get_set, if_neg (by omega), Heap.get_alloc, if_neg (by omega)]; exact hE.keep b y hb
  · have hb' : H.next + 1 ≤ b := hb
    rw [Heap.get_set, if_neg (by omega), Heap.get_alloc, if_neg (by omega)]; exact hE.fresh b (by omega)
theorem map_five {α β : Type} (f : α → β) (x y z u v : α) : (#[x, y, z, u, v] : Array α).map f = #[f x, f y, f z, f u, f v] := by simp
theorem set_set (H : Heap) (q : Nat) (x y : Blk) (b : Nat) : ((H.set q x).set q y).get b = (H.set q y).get b := by
  rw [Heap.get_set, Heap.get_set, Heap.get_set]; split <;> rfl
theorem code71 : codeOf Tryd.f71 = .seq (.region 0 (rgn Tryd.f71 0) false) (.seq (.seq (.region 1 (rgn Tryd.f71 1) false) (.cond (.tmp 28) (.region 2 (rgn Tryd.f71 2) false) (.skip))) (.seq (.region 3 (rgn Tryd.f71 3) false) (.seq (.region 4 (rgn Tryd.f71 4) false) (.seq (.seq (.region 5 (rgn Tryd.f71 5) false) (.cond (.tmp 30) (.region 6 (rgn Tryd.f71 6) false) (.skip))) (.seq (.seq (.region 7 (rgn Tryd.f71 7) false) (.cond (.tmp 34) (.seq (.region 8 (rgn Tryd.f71 8) false) (.seq (.region 9 (rgn Tryd.f71 9) false) (.seq (.region 10 (rgn Tryd.f71 10) false) (.seq (.block 0 (.loop (.seq (.seq (.region 11 (rgn Tryd.f71 11) false) (.cond (.tmp 46) (.skip) (.exit 0))) (.block 1 (.seq (.region 12 (rgn Tryd.f71 12) false) (.seq (.region 13 (rgn Tryd.f71 13) false) (.region 14 (rgn Tryd.f71 14) false))))))) (.seq (.region 15 (rgn Tryd.f71 15) false) (.region 16 (rgn Tryd.f71 16) false)))))) (.seq (.region 17 (rgn Tryd.f71 17) false) (.seq (.block 2 (.loop (.seq (.seq (.region 18 (rgn Tryd.f71 18) false) (.cond (.tmp 68) (.skip) (.exit 2))) (.block 3 (.seq (.region 19 (rgn Tryd.f71 19) false) (.seq (.region 20 (rgn Tryd.f71 20) false) (.seq (.region 21 (rgn Tryd.f71 21) false) (.region 22 (rgn Tryd.f71 22) false)))))))) (.seq (.region 23 (rgn Tryd.f71 23) false) (.region 24 (rgn Tryd.f71 24) false)))))) (.seq (.seq (.region 25 (rgn Tryd.f71 25) false) (.cond (.tmp 89) (.seq (.region 26 (rgn Tryd.f71 26) false) (.region 27 (rgn Tryd.f71 27) false)) (.skip))) (.seq (.seq (.region 28 (rgn Tryd.f71 28) false) (.cond (.tmp 94) (.seq (.region 29 (rgn Tryd.f71 29) false) (.ret)) (.skip))) (.seq (.region 30 (rgn Tryd.f71 30) false) (.ret))))))))) := by kernel_rfl
theorem gd71_1_2 : ((rgn Tryd.f71 1)[2]?).bind (·.dst) = some 21 := by kernel_rfl
theorem gd71_1_6 : ((rgn Tryd.f71 1)[6]?).bind (·.dst) = some 25 := by kernel_rfl
theorem code53 : codeOf Tryd.f53 = .seq (.region 0 (rgn Tryd.f53 0) false) (.seq (.seq (.region 1 (rgn Tryd.f53 1) false) (.cond (.tmp 10) (.seq (.seq (.region 2 (rgn Tryd.f53 2) false) (.cond (.tmp 12) (.seq (.region 3 (rgn Tryd.f53 3) false) (.ret)) (.skip))) (.seq (.region 4 (rgn Tryd.f53 4) false) (.seq (.region 5 (rgn Tryd.f53 5) false) (.seq (.region 6 (rgn Tryd.f53 6) false) (.seq (.region 7 (rgn Tryd.f53 7) false) (.ret)))))) (.skip))) (.seq (.region 8 (rgn Tryd.f53 8) false) (.seq (.region 9 (rgn Tryd.f53 9) false) (.ret)))) := by kernel_rfl
theorem code37 : codeOf Tryd.f37 = .seq (.region 0 (rgn Tryd.f37 0) false) (.seq (.region 1 (rgn Tryd.f37 1) false) (.ret)) := by kernel_rfl

section
variable {N : Nat} {hk : Hook} {d : Nat} {G0 H : Heap} {v : Value} {o : List UInt8} {u : Nat}
set_option maxRecDepth 100000 in
theorem bits_one (K : HkOk hk) (B : HkB hk) (hf0 : Fresh G0) (hGH : Ext GE H) (hE : Ext G0 H) (ho : BRow H v o G0.next) (hu : u < 16) (hN : 10 < N) (hl : o.length + 2 ≤ 140737488355328) :
    ∃ v' H', CG N hk (d + 2) 71 #[v, .int .u64 (u : Int), .int .i64 16, .bool false, .bool true] H = some (.ret (.tuple #[v', .string ⟨#[]⟩]), H') ∧ Ext G0 H' ∧ BRow H' v' (o ++ [hexD u]) G0.next := by
  have h86 : CG N hk (d + 1) 86 #[.int .i64 16] (H.alloc 1 zs65) = some (.ret (.bool true), H.alloc 1 zs65) := callG_hook (B.pw _ (hGH.trans (Ext.alloc hGH.fresh 1 _)))
  have h87 : CG N hk (d + 1) 87 #[.int .u64 16] (H.alloc 1 zs65) = some (.ret (.int .i64 4), H.alloc 1 zs65) := callG_hook (B.tz _ (hGH.trans (Ext.alloc hGH.fresh 1 _)))
  have dF : ∀ {i : Decidable False}, @decide False i = false := fun {i} => decide_eq_false id
  have dT : ∀ {i : Decidable True}, @decide True i = true := fun {i} => decide_eq_true trivial
  have z10 : ((16 : Int) == 10) = false := rfl
  have w16 : IntKind.u64.wrap 16 = 16 := rfl
  have w4 : IntKind.u64.wrap 4 = 4 := rfl
  have w15 : IntKind.u64.wrap (16 - 1) = 15 := rfl
  have w64 : IntKind.i64.wrap (65 - 1) = 64 := rfl
  have w63 : IntKind.i64.wrap (64 - 1) = 63 := rfl
  have hgeq : decide ((u : Int) ≥ 16) = false := decide_eq_false (by omega)
  have hdg := dig_ok hu
  have hq : (H.alloc 1 zs65).get H.next = some (rwB zs65) := by rw [Heap.get_alloc, if_pos rfl]; rfl
  have i64 := index_arr H.next (i := 64) (by decide)
  have s64 := store_arr (i := 64) hq rfl (by decide) (hexD u)
  rw [over1] at s64
  have i64 : indexAddrA PP 107 (.pointer (some ⟨H.next, 0, none⟩)) (.int .i64 64) = some (.pointer (some ⟨H.next, 64, none⟩)) := i64
  have x1 := ext_own hf0 hE zs65 (rwB (dg1 (hexD u)))
  have x0 := ext_own hE.fresh ⟨Nat.le_refl _, fun _ _ h => h, hE.fresh⟩ zs65 (rwB (dg1 (hexD u)))
  have hq1 : ((H.alloc 1 zs65).set H.next (rwB (dg1 (hexD u)))).get H.next = some (rwB (dg1 (hexD u))) := by rw [Heap.get_set, if_pos rfl]
  have sl := slice_arr (i := 64) hq1 rfl (by decide)
  have sl : sliceOpA PP 107 (.pointer (some ⟨H.next, 0, none⟩)) (some (.int .i64 64)) none none ((H.alloc 1 zs65).set H.next (rwB (dg1 (hexD u)))) = some (.slice (some ⟨H.next, 64, none⟩) 1 1) := sl
  have src : srcCells ((H.alloc 1 zs65).set H.next (rwB (dg1 (hexD u)))) 1 (.slice (some ⟨H.next, 64, none⟩) 1 1) = some ([hexD u].length, [hexD u].map f8) := by
    have hk1 : look ((H.alloc 1 zs65).set H.next (rwB (dg1 (hexD u)))) ⟨H.next, 64, none⟩ = some (rwB (dg1 (hexD u))) := by simp only [look, hq1]; rfl
    simp only [srcCells, hk1]
    rfl
  obtain ⟨v', H', q1, q2, q3, q4, q5⟩ := brow_app (u := 26) (ho.ext x0) x1.fresh x1.next (.inl ⟨_, und34⟩) src (by simp only [List.length_cons, List.length_nil]; omega)
  have xR : Ext G0 H' := ⟨Nat.le_trans x1.next q4, fun z y hy => q3 z y (lt_next hf0 hy) (x1.keep z y hy), q5⟩
  have main : ∃ R0 : R, CG N hk (d + 2) 71 #[v, .int .u64 (u : Int), .int .i64 16, .bool false, .bool true] H = R0 ∧ R0 = some (.ret (.tuple #[v', .string ⟨#[]⟩]), H') := by
    refine ⟨_, callG_fn (K.nil _ _ _ rfl) Tryd.func71 (c := codeOf Tryd.f71) rfl rfl rfl (pr := noPr) rfl, ?_⟩
    obtain ⟨M, rfl⟩ : ∃ q, N = q + 1 := ⟨N - 1, by omega⟩
    rw [code71]
    generalize hF : finE PP Tryd.f71 = F
    have l0 := tl (rgn Tryd.f71 0)
    conv at l0 => rhs; simp only [rgn, opsAt, codeOf, Tryd.f71, gS, gN, reduceIte, Nat.reduceEqDiff, tA]
    have l1 := tl (rgn Tryd.f71 1)
    conv at l1 => rhs; simp only [rgn, opsAt, codeOf, Tryd.f71, gS, gN, reduceIte, Nat.reduceEqDiff, tA]
    have l3 := tl (rgn Tryd.f71 3)
    conv at l3 => rhs; simp only [rgn, opsAt, codeOf, Tryd.f71, gS, gN, reduceIte, Nat.reduceEqDiff, tA]
    have l4 := tl (rgn Tryd.f71 4)
    conv at l4 => rhs; simp only [rgn, opsAt, codeOf, Tryd.f71, gS, gN, reduceIte, Nat.reduceEqDiff, tA]
    have l5 := tl (rgn Tryd.f71 5)
    conv at l5 => rhs; simp only [rgn, opsAt, codeOf, Tryd.f71, gS, gN, reduceIte, Nat.reduceEqDiff, tA]
    have l7 := tl (rgn Tryd.f71 7)
    conv at l7 => rhs; simp only [rgn, opsAt, codeOf, Tryd.f71, gS, gN, reduceIte, Nat.reduceEqDiff, tA]
    have l8 := tl (rgn Tryd.f71 8)
    conv at l8 => rhs; simp only [rgn, opsAt, codeOf, Tryd.f71, gS, gN, reduceIte, Nat.reduceEqDiff, tA]
    have l9 := tl (rgn Tryd.f71 9)
    conv at l9 => rhs; simp only [rgn, opsAt, codeOf, Tryd.f71, gS, gN, reduceIte, Nat.reduceEqDiff, tA]
    have l10 := tl (rgn Tryd.f71 10)
    conv at l10 => rhs; simp only [rgn, opsAt, codeOf, Tryd.f71, gS, gN, reduceIte, Nat.reduceEqDiff, tA]
    have l11 := tl (rgn Tryd.f71 11)
    conv at l11 => rhs; simp only [rgn, opsAt, codeOf, Tryd.f71, gS, gN, reduceIte, Nat.reduceEqDiff, tA]
    have l15 := tl (rgn Tryd.f71 15)
    conv at l15 => rhs; simp only [rgn, opsAt, codeOf, Tryd.f71, gS, gN, reduceIte, Nat.reduceEqDiff, tA]
    have l16 := tl (rgn Tryd.f71 16)
    conv at l16 => rhs; simp only [rgn, opsAt, codeOf, Tryd.f71, gS, gN, reduceIte, Nat.reduceEqDiff, tA]
    have l25 := tl (rgn Tryd.f71 25)
    conv at l25 => rhs; simp only [rgn, opsAt, codeOf, Tryd.f71, gS, gN, reduceIte, Nat.reduceEqDiff, tA]
    have l28 := tl (rgn Tryd.f71 28)
    conv at l28 => rhs; simp only [rgn, opsAt, codeOf, Tryd.f71, gS, gN, reduceIte, Nat.reduceEqDiff, tA]
    have l29 := tl (rgn Tryd.f71 29)
    conv at l29 => rhs; simp only [rgn, opsAt, codeOf, Tryd.f71, gS, gN, reduceIte, Nat.reduceEqDiff, tA]
    simp (decide := true) only [↓execG_seq, ↓g_region, ↓execG_block, ↓execG_ret, ↓execG_skip, ↓execG_exit, ↓g_if, ↓g_else, thenE_norm, thenE_exit, thenE_ret, g_leave, ↓r_nil, ↓r_cons, ↓o_move, ↓o_assign, ↓o_pickf, ↓o_alloc, ↓o_store, ↓o_binOp, ↓o_convert, ↓o_slice, ↓o_indexAddr, ↓o_index, ↓o_builtin, ↓o_callf, nextE_app, putK_app, putO_app, putG_bool, putG_int, normK_app, evalE_tmp, evalE_const, upd_some, upd_none, bindO_ok, bindV_ok, reduceIte, map_one, map_two, startE_0, startE_1, ↓reg_lit l0, ↓reg_lit l1, ↓reg_lit l3, ↓reg_lit l4, ↓reg_lit l5, ↓reg_lit l7, ↓reg_lit l8, ↓reg_lit l9, ↓reg_lit l10, ↓reg_lit l11, ↓reg_lit l15, ↓reg_lit l16, ↓reg_lit l25, ↓reg_lit l28, ↓reg_lit l29, ↓r_yes _ 2 false 21 _ gd71_1_2, ↓r_yes _ 6 false 25 _ gd71_1_6, startE_2, binA_lss, binA_eql, binA_gtr, binA_sub, binA_geq, dF, z10, ↓execG_loop, alloc_arr, callK_fn Tryd.func86 rfl rfl h86, callK_fn Tryd.func87 rfl rfl h87, conv_t73, conv_t27, w16, w4, w15, ↓loopE_succ, hgeq, hdg, w64, i64, s64, ↓Option.map_some, ↓Option.map_none, sl, app_builtin2, q1, startE_3, startE_4]
    rw [← hF, finE_ret (l := [v', .string ⟨#[]⟩]) (by simp (decide := true) [Tryd.f71, resE, upd_some])]
    rfl
  obtain ⟨R0, m1, m2⟩ := main
  exact ⟨v', H', m1.trans m2, xR, q2⟩
set_option maxRecDepth 100000 in
theorem bits_two (K : HkOk hk) (B : HkB hk) (hf0 : Fresh G0) (hGH : Ext GE H) (hE : Ext G0 H) (ho : BRow H v o G0.next) (hu0 : 16 ≤ u) (hu : u < 256) (hN : 10 < N) (hl : o.length + 2 ≤ 140737488355328) :
    ∃ v' H', CG N hk (d + 2) 71 #[v, .int .u64 (u : Int), .int .i64 16, .bool false, .bool true] H = some (.ret (.tuple #[v', .string ⟨#[]⟩]), H') ∧ Ext G0 H' ∧ BRow H' v' (o ++ [hexD (u / 16), hexD (u % 16)]) G0.next := by
  have h86 : CG N hk (d + 1) 86 #[.int .i64 16] (H.alloc 1 zs65) = some (.ret (.bool true), H.alloc 1 zs65) := callG_hook (B.pw _ (hGH.trans (Ext.alloc hGH.fresh 1 _)))
  have h87 : CG N hk (d + 1) 87 #[.int .u64 16] (H.alloc 1 zs65) = some (.ret (.int .i64 4), H.alloc 1 zs65) := callG_hook (B.tz _ (hGH.trans (Ext.alloc hGH.fresh 1 _)))
  have dF : ∀ {i : Decidable False}, @decide False i = false := fun {i} => decide_eq_false id
  have dT : ∀ {i : Decidable True}, @decide True i = true := fun {i} => decide_eq_true trivial
  have z10 : ((16 : Int) == 10) = false := rfl
  have w16 : IntKind.u64.wrap 16 = 16 := rfl
  have w4 : IntKind.u64.wrap 4 = 4 := rfl
  have w15 : IntKind.u64.wrap (16 - 1) = 15 := rfl
  have w64 : IntKind.i64.wrap (65 - 1) = 64 := rfl
  have w63 : IntKind.i64.wrap (64 - 1) = 63 := rfl
  have hgeq : decide ((u : Int) ≥ 16) = true := decide_eq_true (by omega)
  have hgeq2 : decide (((u / 16 : Nat) : Int) ≥ 16) = false := decide_eq_false (by omega)
  have hand := and_ok hu
  have hshr := shr_ok hu
  have hd1 := dig_ok (u := u % 16) (by omega)
  have hd0 := dig_ok (u := u / 16) (by omega)
  have hq : (H.alloc 1 zs65).get H.next = some (rwB zs65) := by rw [Heap.get_alloc, if_pos rfl]; rfl
  have i64 : indexAddrA PP 107 (.pointer (some ⟨H.next, 0, none⟩)) (.int .i64 64) = some (.pointer (some ⟨H.next, 64, none⟩)) := index_arr H.next (i := 64) (by decide)
  have i63 : indexAddrA PP 107 (.pointer (some ⟨H.next, 0, none⟩)) (.int .i64 63) = some (.pointer (some ⟨H.next, 63, none⟩)) := index_arr H.next (i := 63) (by decide)
  have s64 := store_arr (i := 64) hq rfl (by decide) (hexD (u % 16))
  rw [over1] at s64
  have hq1 : ((H.alloc 1 zs65).set H.next (rwB (dg1 (hexD (u % 16))))).get H.next = some (rwB (dg1 (hexD (u % 16)))) := by rw [Heap.get_set, if_pos rfl]
  have s63 := store_arr (i := 63) hq1 rfl (by decide) (hexD (u / 16))
  rw [over2] at s63
  generalize hH2 : ((H.alloc 1 zs65).set H.next (rwB (dg1 (hexD (u % 16))))).set H.next (rwB (dg2 (hexD (u / 16)) (hexD (u % 16)))) = H2 at s63
  have same : ∀ b, H2.get b = ((H.alloc 1 zs65).set H.next (rwB (dg2 (hexD (u / 16)) (hexD (u % 16))))).get b := fun b => by rw [← hH2, set_set]
  have hn2 : H2.next = H.next + 1 := by rw [← hH2]; rfl
  have mv : ∀ {G : Heap}, Ext G ((H.alloc 1 zs65).set H.next (rwB (dg2 (hexD (u / 16)) (hexD (u % 16))))) → Ext G H2 := fun x => ⟨by rw [hn2]; exact x.next, fun b y hy => by rw [same]; exact x.keep b y hy, fun b hb => by rw [same]; exact x.fresh b (by rw [hn2] at hb; exact hb)⟩
  have x1 := mv (ext_own hf0 hE zs65 (rwB (dg2 (hexD (u / 16)) (hexD (u % 16)))))
  have x0 := mv (ext_own hE.fresh ⟨Nat.le_refl _, fun _ _ h => h, hE.fresh⟩ zs65 (rwB (dg2 (hexD (u / 16)) (hexD (u % 16)))))
  have hq2 : H2.get H.next = some (rwB (dg2 (hexD (u / 16)) (hexD (u % 16)))) := by rw [same, Heap.get_set, if_pos rfl]
  have sl : sliceOpA PP 107 (.pointer (some ⟨H.next, 0, none⟩)) (some (.int .i64 63)) none none H2 = some (.slice (some ⟨H.next, 63, none⟩) 2 2) := slice_arr (i := 63) hq2 rfl (by decide)
  have src : srcCells H2 1 (.slice (some ⟨H.next, 63, none⟩) 2 2) = some ([hexD (u / 16), hexD (u % 16)].length, [hexD (u / 16), hexD (u % 16)].map f8) := by
    have hk1 : look H2 ⟨H.next, 63, none⟩ = some (rwB (dg2 (hexD (u / 16)) (hexD (u % 16)))) := by simp only [look, hq2]; rfl
    simp only [srcCells, hk1]
    rfl
  obtain ⟨v', H', q1, q2, q3, q4, q5⟩ := brow_app (u := 26) (ho.ext x0) x1.fresh x1.next (.inl ⟨_, und34⟩) src (by simp only [List.length_cons, List.length_nil]; omega)
  have xR : Ext G0 H' := ⟨Nat.le_trans x1.next q4, fun z y hy => q3 z y (lt_next hf0 hy) (x1.keep z y hy), q5⟩
  have main : ∃ R0 : R, CG N hk (d + 2) 71 #[v, .int .u64 (u : Int), .int .i64 16, .bool false, .bool true] H = R0 ∧ R0 = some (.ret (.tuple #[v', .string ⟨#[]⟩]), H') := by
    refine ⟨_, callG_fn (K.nil _ _ _ rfl) Tryd.func71 (c := codeOf Tryd.f71) rfl rfl rfl (pr := noPr) rfl, ?_⟩
    obtain ⟨M, rfl⟩ : ∃ q, N = q + 1 + 1 := ⟨N - 2, by omega⟩
    rw [code71]
    generalize hF : finE PP Tryd.f71 = F
    have l0 := tl (rgn Tryd.f71 0)
    conv at l0 => rhs; simp only [rgn, opsAt, codeOf, Tryd.f71, gS, gN, reduceIte, Nat.reduceEqDiff, tA]
    have l1 := tl (rgn Tryd.f71 1)
    conv at l1 => rhs; simp only [rgn, opsAt, codeOf, Tryd.f71, gS, gN, reduceIte, Nat.reduceEqDiff, tA]
    have l3 := tl (rgn Tryd.f71 3)
    conv at l3 => rhs; simp only [rgn, opsAt, codeOf, Tryd.f71, gS, gN, reduceIte, Nat.reduceEqDiff, tA]
    have l4 := tl (rgn Tryd.f71 4)
    conv at l4 => rhs; simp only [rgn, opsAt, codeOf, Tryd.f71, gS, gN, reduceIte, Nat.reduceEqDiff, tA]
    have l5 := tl (rgn Tryd.f71 5)
    conv at l5 => rhs; simp only [rgn, opsAt, codeOf, Tryd.f71, gS, gN, reduceIte, Nat.reduceEqDiff, tA]
    have l7 := tl (rgn Tryd.f71 7)
    conv at l7 => rhs; simp only [rgn, opsAt, codeOf, Tryd.f71, gS, gN, reduceIte, Nat.reduceEqDiff, tA]
    have l8 := tl (rgn Tryd.f71 8)
    conv at l8 => rhs; simp only [rgn, opsAt, codeOf, Tryd.f71, gS, gN, reduceIte, Nat.reduceEqDiff, tA]
    have l9 := tl (rgn Tryd.f71 9)
    conv at l9 => rhs; simp only [rgn, opsAt, codeOf, Tryd.f71, gS, gN, reduceIte, Nat.reduceEqDiff, tA]
    have l10 := tl (rgn Tryd.f71 10)
    conv at l10 => rhs; simp only [rgn, opsAt, codeOf, Tryd.f71, gS, gN, reduceIte, Nat.reduceEqDiff, tA]
    have l11 := tl (rgn Tryd.f71 11)
    conv at l11 => rhs; simp only [rgn, opsAt, codeOf, Tryd.f71, gS, gN, reduceIte, Nat.reduceEqDiff, tA]
    have l12 := tl (rgn Tryd.f71 12)
    conv at l12 => rhs; simp only [rgn, opsAt, codeOf, Tryd.f71, gS, gN, reduceIte, Nat.reduceEqDiff, tA]
    have l13 := tl (rgn Tryd.f71 13)
    conv at l13 => rhs; simp only [rgn, opsAt, codeOf, Tryd.f71, gS, gN, reduceIte, Nat.reduceEqDiff, tA]
    have l14 := tl (rgn Tryd.f71 14)
    conv at l14 => rhs; simp only [rgn, opsAt, codeOf, Tryd.f71, gS, gN, reduceIte, Nat.reduceEqDiff, tA]
    have l15 := tl (rgn Tryd.f71 15)
    conv at l15 => rhs; simp only [rgn, opsAt, codeOf, Tryd.f71, gS, gN, reduceIte, Nat.reduceEqDiff, tA]
    have l16 := tl (rgn Tryd.f71 16)
    conv at l16 => rhs; simp only [rgn, opsAt, codeOf, Tryd.f71, gS, gN, reduceIte, Nat.reduceEqDiff, tA]
    have l25 := tl (rgn Tryd.f71 25)
    conv at l25 => rhs; simp only [rgn, opsAt, codeOf, Tryd.f71, gS, gN, reduceIte, Nat.reduceEqDiff, tA]
    have l28 := tl (rgn Tryd.f71 28)
    conv at l28 => rhs; simp only [rgn, opsAt, codeOf, Tryd.f71, gS, gN, reduceIte, Nat.reduceEqDiff, tA]
    have l29 := tl (rgn Tryd.f71 29)
    conv at l29 => rhs; simp only [rgn, opsAt, codeOf, Tryd.f71, gS, gN, reduceIte, Nat.reduceEqDiff, tA]
    simp (decide := true) only [↓execG_seq, ↓g_region, ↓execG_block, ↓execG_ret, ↓execG_skip, ↓execG_exit, ↓g_if, ↓g_else, thenE_norm, thenE_exit, thenE_ret, leaveB_norm, g_leave, ↓r_nil, ↓r_cons, ↓o_move, ↓o_assign, ↓o_pickf, ↓o_alloc, ↓o_store, ↓o_binOp, ↓o_convert, ↓o_slice, ↓o_indexAddr, ↓o_index, ↓o_builtin, ↓o_callf, nextE_app, putK_app, putO_app, putG_bool, putG_int, normK_app, evalE_tmp, evalE_const, upd_some, upd_none, bindO_ok, bindV_ok, reduceIte, map_one, map_two, startE_0, startE_1, ↓reg_lit l0, ↓reg_lit l1, ↓reg_lit l3, ↓reg_lit l4, ↓reg_lit l5, ↓reg_lit l7, ↓reg_lit l8, ↓reg_lit l9, ↓reg_lit l10, ↓reg_lit l11, ↓reg_lit l12, ↓reg_lit l13, ↓reg_lit l14, ↓reg_lit l15, ↓reg_lit l16, ↓reg_lit l25, ↓reg_lit l28, ↓reg_lit l29, ↓r_yes _ 2 false 21 _ gd71_1_2, ↓r_yes _ 6 false 25 _ gd71_1_6, startE_2, binA_lss, binA_eql, binA_gtr, binA_sub, binA_geq, dF, z10, ↓execG_loop, alloc_arr, callK_fn Tryd.func86 rfl rfl h86, callK_fn Tryd.func87 rfl rfl h87, conv_t73, conv_t27, w16, w4, w15, ↓loopE_succ, hgeq, hgeq2, hand, hshr, hd0, hd1, w64, w63, i64, i63, s64, s63, ↓Option.map_some, ↓Option.map_none, sl, app_builtin2, q1, startE_3, startE_4]
    rw [← hF, finE_ret (l := [v', .string ⟨#[]⟩]) (by simp (decide := true) [Tryd.f71, resE, upd_some])]
    rfl
  obtain ⟨R0, m1, m2⟩ := main
  exact ⟨v', H', m1.trans m2, xR, q2⟩
theorem app53 {v' : Value} {H' : Heap} (K : HkOk hk) (h : CG N hk (d + 2) 71 #[v, .int .u64 (u : Int), .int .i64 16, .bool false, .bool true] H = some (.ret (.tuple #[v', .string ⟨#[]⟩]), H')) :
    CG N hk (d + 4) 37 #[v, .int .u64 (u : Int), .int .i64 16] H = some (.ret v', H') := by
  have q0 : ∀ (x y : Value), extractA (.tuple #[x, y]) 0 = some x := fun _ _ => rfl
  have q1 : ∀ (x y : Value), extractA (.tuple #[x, y]) 1 = some y := fun _ _ => rfl
  have z10 : ((16 : Int) == 10) = false := rfl
  have m53 : ∃ R0 : R, CG N hk (d + 3) 53 #[v, .int .u64 (u : Int), .int .i64 16] H = R0 ∧ R0 = some (.ret v', H') := by
    refine ⟨_, callG_fn (K.nil _ _ _ rfl) Tryd.func53 (c := codeOf Tryd.f53) rfl rfl rfl (pr := noPr) rfl, ?_⟩
    rw [code53]
    generalize hF : finE PP Tryd.f53 = F
    have l0 := tl (rgn Tryd.f53 0)
    conv at l0 => rhs; simp only [rgn, opsAt, codeOf, Tryd.f53, gS, gN, reduceIte, Nat.reduceEqDiff, tA]
    have l1 := tl (rgn Tryd.f53 1)
    conv at l1 => rhs; simp only [rgn, opsAt, codeOf, Tryd.f53, gS, gN, reduceIte, Nat.reduceEqDiff, tA]
    have l8 := tl (rgn Tryd.f53 8)
    conv at l8 => rhs; simp only [rgn, opsAt, codeOf, Tryd.f53, gS, gN, reduceIte, Nat.reduceEqDiff, tA]
    have l9 := tl (rgn Tryd.f53 9)
    conv at l9 => rhs; simp only [rgn, opsAt, codeOf, Tryd.f53, gS, gN, reduceIte, Nat.reduceEqDiff, tA]
    simp (decide := true) only [↓execG_seq, ↓g_region, ↓execG_ret, ↓execG_skip, ↓g_else, thenE_norm, ↓r_nil, ↓r_cons, ↓o_move, ↓o_assign, ↓o_binOp, ↓o_extract, ↓o_callf, nextE_app, putK_app, putO_app, putG_bool, normK_app, evalE_tmp, evalE_const, upd_some, bindO_ok, reduceIte, startE_0, startE_1, ↓reg_lit l0, ↓reg_lit l1, ↓reg_lit l8, ↓reg_lit l9, startE_2, binA_eql, z10, map_five, callK_fn Tryd.func71 rfl rfl h, q0, q1]
    rw [← hF, finE_ret (l := [v']) (by simp (decide := true) [Tryd.f53, resE, upd_some])]
    rfl
  obtain ⟨R1, n1, n2⟩ := m53
  have h53 := n1.trans n2
  have m37 : ∃ R0 : R, CG N hk (d + 4) 37 #[v, .int .u64 (u : Int), .int .i64 16] H = R0 ∧ R0 = some (.ret v', H') := by
    refine ⟨_, callG_fn (K.nil _ _ _ rfl) Tryd.func37 (c := codeOf Tryd.f37) rfl rfl rfl (pr := noPr) rfl, ?_⟩
    rw [code37]
    generalize hF : finE PP Tryd.f37 = F
    have l0 := tl (rgn Tryd.f37 0)
    conv at l0 => rhs; simp only [rgn, opsAt, codeOf, Tryd.f37, gS, gN, reduceIte, Nat.reduceEqDiff, tA]
    have l1 := tl (rgn Tryd.f37 1)
    conv at l1 => rhs; simp only [rgn, opsAt, codeOf, Tryd.f37, gS, gN, reduceIte, Nat.reduceEqDiff, tA]
    simp (decide := true) only [↓execG_seq, ↓g_region, ↓execG_ret, thenE_norm, ↓r_nil, ↓r_cons, ↓o_move, ↓o_assign, ↓o_callf, nextE_app, putK_app, normK_app, evalE_tmp, evalE_const, upd_some, reduceIte, map_three, startE_0, startE_1, ↓reg_lit l0, ↓reg_lit l1, startE_2, callK_fn Tryd.func53 rfl rfl h53]
    rw [← hF, finE_ret (l := [v']) (by simp (decide := true) [Tryd.f37, resE, upd_some])]
    rfl
  obtain ⟨R2, o1, o2⟩ := m37
  exact o1.trans o2
theorem hex_one (K : HkOk hk) (B : HkB hk) (hf0 : Fresh G0) (hGH : Ext GE H) (hE : Ext G0 H) (ho : BRow H v o G0.next) (hu : u < 16) (hN : 10 < N) (hl : o.length + 2 ≤ 140737488355328) :
    ∃ v' H', CG N hk (d + 4) 37 #[v, .int .u64 (u : Int), .int .i64 16] H = some (.ret v', H') ∧ Ext G0 H' ∧ BRow H' v' (o ++ [hexD u]) G0.next := by
  obtain ⟨v', H', h, r⟩ := bits_one (N := N) (d := d) K B hf0 hGH hE ho hu hN hl
  exact ⟨v', H', app53 K h, r⟩
theorem hex_two (K : HkOk hk) (B : HkB hk) (hf0 : Fresh G0) (hGH : Ext GE H) (hE : Ext G0 H) (ho : BRow H v o G0.next) (hu0 : 16 ≤ u) (hu : u < 256) (hN : 10 < N) (hl : o.length + 2 ≤ 140737488355328) :
    ∃ v' H', CG N hk (d + 4) 37 #[v, .int .u64 (u : Int), .int .i64 16] H = some (.ret v', H') ∧ Ext G0 H' ∧ BRow H' v' (o ++ [hexD (u / 16), hexD (u % 16)]) G0.next := by
  obtain ⟨v', H', h, r⟩ := bits_two (N := N) (d := d) K B hf0 hGH hE ho hu0 hu hN hl
  exact ⟨v', H', app53 K h, r⟩
end
end Go.Am
/- A text as it is spelled. -/
open Go.Proofs
namespace Go.Am
theorem len_str (s : List UInt8) (H : Heap) (k : Value → Heap → R) : builtinK PP .len #[9] #[.string ⟨⟨s⟩⟩] H k = k (.int .i64 s.length) H := by
  have e : (⟨⟨s⟩⟩ : ByteArray).size = s.length := rfl
  simp [builtinK, lenA, bindO, e]
theorem idx_str {s : List UInt8} {i : Nat} (h : i < s.length) : indexA PP 9 (.string ⟨⟨s⟩⟩) (.int .i64 (i : Int)) = some (.int .u8 (s[i].toNat : Int)) := by
  have e : (⟨⟨s⟩⟩ : ByteArray)[i]? = some s[i] := by
    show (if h : i < (⟨⟨s⟩⟩ : ByteArray).size then some ((⟨⟨s⟩⟩ : ByteArray)[i]) else none) = _
    rw [dif_pos (show i < (⟨⟨s⟩⟩ : ByteArray).size from h)]
    rfl
  simp only [indexA, undStr, byteAt]
  rw [if_pos (by omega)]
  simp only [Int.toNat_natCast, e]
theorem bslice2 (H : Heap) (x y : Int) : buildSliceA PP 26 2 #[(0, .int .u8 x), (1, .int .u8 y)] H = some (.slice (some ⟨H.next, 0, none⟩) 2 2, H.alloc 1 [.int .u8 x, .int .u8 y]) := by
  have hf : Instr.fill (fun i => some (i * 1, 1)) (zeroRow [.int .u8 0] (2 * 1)).toArray [(0, .int .u8 x), (1, .int .u8 y)] = some #[.int .u8 x, .int .u8 y] := by rfl
  simp only [buildSliceA, und34, size5, zeroB, mkRow, hf]
  simp
/-- A row that grows by some bytes that were just laid. -/
theorem app_new {G0 H : Heap} {v : Value} {o : List UInt8} (hf0 : Fresh G0) (hE : Ext G0 H) (ho : BRow H v o G0.next) (w : List UInt8) (hn : o.length + w.length ≤ 140737488355328) :
    ∃ v' H', appendA PP #[26, 26] v (.slice (some ⟨H.next, 0, none⟩) w.length w.length) (H.alloc 1 (w.map f8)) = some (v', H') ∧ Ext G0 H' ∧ BRow H' v' (o ++ w) G0.next := by
  have x2 : Ext H (H.alloc 1 (w.map f8)) := Ext.alloc hE.fresh 1 _
  have hn1 : (H.alloc 1 (w.map f8)).get H.next = some ⟨w.map f8, true, 1, none⟩ := by rw [Heap.get_alloc, if_pos rfl]
  have src : srcCells (H.alloc 1 (w.map f8)) 1 (.slice (some ⟨H.next, 0, none⟩) w.length w.length) = some (w.length, w.map f8) := by
    simp only [srcCells, look, hn1, Nat.mul_one, Nat.zero_add, List.drop_zero]
    rw [if_pos (by simp), List.take_of_length_le (by simp)]
  obtain ⟨v', H', q1, q2, q3, q4, q5⟩ := brow_app (u := 26) (ho.ext x2) x2.fresh (Nat.le_trans hE.next x2.next) (.inl ⟨_, und34⟩) src hn
  exact ⟨v', H', q1, ⟨Nat.le_trans hE.next (Nat.le_trans x2.next q4), fun z y hy => q3 z y (lt_next hf0 hy) (x2.keep z y (hE.keep z y hy)), q5⟩, q2⟩
theorem body_snoc (t : List UInt8) (c : UInt8) : bodyB (t ++ [c]) = bodyB t ++ escB c := by simp [bodyB]
theorem body_take (t : List UInt8) {i : Nat} (hi : i < t.length) : 34 :: bodyB (t.take (i + 1)) = 34 :: bodyB (t.take i) ++ escB t[i] := by
  rw [List.take_add_one, List.getElem?_eq_getElem hi]
  show 34 :: bodyB (t.take i ++ [t[i]]) = _
  rw [body_snoc]; rfl
theorem code21 : codeOf Tryd.f21 = .seq (.region 0 (rgn Tryd.f21 0) false) (.seq (.region 1 (rgn Tryd.f21 1) false) (.seq (.seq (.region 2 (rgn Tryd.f21 2) false) (.block 0 (.loop (.seq (.region 3 (rgn Tryd.f21 3) false) (.seq (.cond (.tmp 10) (.skip) (.exit 0)) (.seq (.block 1 (.seq (.region 4 (rgn Tryd.f21 4) false) (.seq (.region 5 (rgn Tryd.f21 5) false) (.block 2 (.seq (.block 7 (.seq (.block 6 (.seq (.block 5 (.seq (.block 4 (.seq (.block 3 (.seq (.seq (.seq (.region 6 (rgn Tryd.f21 6) false) (.cond (.tmp 15) (.exit 3) (.skip))) (.seq (.seq (.region 7 (rgn Tryd.f21 7) false) (.cond (.tmp 18) (.exit 4) (.skip))) (.seq (.seq (.region 8 (rgn Tryd.f21 8) false) (.cond (.tmp 21) (.exit 5) (.skip))) (.seq (.region 9 (rgn Tryd.f21 9) false) (.cond (.tmp 28) (.exit 6) (.skip)))))) (.exit 7))) (.seq (.region 10 (rgn Tryd.f21 10) false) (.exit 2)))) (.seq (.region 11 (rgn Tryd.f21 11) false) (.exit 2)))) (.seq (.seq (.region 12 (rgn Tryd.f21 12) false) (.seq (.seq (.region 13 (rgn Tryd.f21 13) false) (.cond (.tmp 45) (.region 14 (rgn Tryd.f21 14) false) (.skip))) (.region 15 (rgn Tryd.f21 15) false))) (.exit 2)))) (.region 16 (rgn Tryd.f21 16) false))) (.seq (.region 17 (rgn Tryd.f21 17) false) (.exit 2))))))) (.region 18 (rgn Tryd.f21 18) false))))))) (.seq (.region 19 (rgn Tryd.f21 19) false) (.ret)))) := by kernel_rfl
theorem gd21_8_2 : ((rgn Tryd.f21 8)[2]?).bind (·.dst) = some 24 := by kernel_rfl
theorem gd21_9_2 : ((rgn Tryd.f21 9)[2]?).bind (·.dst) = some 31 := by kernel_rfl

section
variable {N : Nat} {hk : Hook} {d : Nat} {t : List UInt8} {G0 : Heap} {Q : R → Prop} {k : KOE}
set_option maxRecDepth 100000 in
set_option maxHeartbeats 4000000 in
theorem q_then (K : HkOk hk) (B : HkB hk) (hG0 : Ext GE G0) (hsm : t.length ≤ 20000000) (hN : 100 < N) :
    ∀ (n i m : Nat) (_ : i + n = t.length) (_ : n < m) {E : Env} {H : Heap} {va : Value} (_ : E 0 = .string ⟨⟨t⟩⟩) (_ : E 3 = va) (_ : E 8 = .int .i64 (t.length : Int)) (_ : E 9 = .int .i64 (i : Int)) (_ : Ext G0 H ∧ BRow H va (34 :: bodyB (t.take i)) G0.next)
      (_ : ∀ E' H' va', E' 3 = va' → Ext G0 H' → BRow H' va' (34 :: bodyB t) G0.next → Q (k (.exit 0) E' [] H')), Q (loopE (execG PP XX (CG N hk (d + 4)) N noPr (.seq (.region 3 (rgn Tryd.f21 3) false) (.seq (.cond (.tmp 10) (.skip) (.exit 0)) (.seq (.block 1 (.seq (.region 4 (rgn Tryd.f21 4) false) (.seq (.region 5 (rgn Tryd.f21 5) false) (.block 2 (.seq (.block 7 (.seq (.block 6 (.seq (.block 5 (.seq (.block 4 (.seq (.block 3 (.seq (.seq (.seq (.region 6 (rgn Tryd.f21 6) false) (.cond (.tmp 15) (.exit 3) (.skip))) (.seq (.seq (.region 7 (rgn Tryd.f21 7) false) (.cond (.tmp 18) (.exit 4) (.skip))) (.seq (.seq (.region 8 (rgn Tryd.f21 8) false) (.cond (.tmp 21) (.exit 5) (.skip))) (.seq (.region 9 (rgn Tryd.f21 9) false) (.cond (.tmp 28) (.exit 6) (.skip)))))) (.exit 7))) (.seq (.region 10 (rgn Tryd.f21 10) false) (.exit 2)))) (.seq (.region 11 (rgn Tryd.f21 11) false) (.exit 2)))) (.seq (.seq (.region 12 (rgn Tryd.f21 12) false) (.seq (.seq (.region 13 (rgn Tryd.f21 13) false) (.cond (.tmp 45) (.region 14 (rgn Tryd.f21 14) false) (.skip))) (.region 15 (rgn Tryd.f21 15) false))) (.exit 2)))) (.region 16 (rgn Tryd.f21 16) false))) (.seq (.region 17 (rgn Tryd.f21 17) false) (.exit 2))))))) (.region 18 (rgn Tryd.f21 18) false)))) none) m E [] H k)
  | 0, i, m + 1, hn, hm, E, H, va, e0, e3, e8, e9, hB, hx => by
    rw [loopE_succ]
    have hi : i = t.length := by omega
    subst hi
    have hlt : decide ((t.length : Int) < (t.length : Int)) = false := decide_eq_false (by omega)
    rw [List.take_length] at hB
    have l3 := tl (rgn Tryd.f21 3)
    conv at l3 => rhs; simp only [rgn, opsAt, codeOf, Tryd.f21, gS, gN, reduceIte, Nat.reduceEqDiff, tA]
    simp (decide := true) only [↓execG_seq, ↓g_region, ↓execG_exit, ↓g_else, thenE_norm, thenE_exit, ↓r_nil, ↓r_cons, ↓o_binOp, nextE_app, putG_bool, normK_app, evalE_tmp, upd_some, bindO_ok, reduceIte, ↓reg_lit l3, e8, e9, binA_lss, hlt]
    exact hx _ _ va (by simp (decide := true) only [upd_some, reduceIte, e3]) hB.1 hB.2
  | n + 1, i, m + 1, hn, hm, E, H, va, e0, e3, e8, e9, hB, hx => by
    rw [loopE_succ]
    have hi : i < t.length := by omega
    have hlt : decide ((i : Int) < (t.length : Int)) = true := decide_eq_true (by omega)
    have w : IntKind.i64.wrap ((i : Int) + 1) = ((i + 1 : Nat) : Int) := by rw [wrap_i64 (by omega) (by omega)]; omega
    have hix := idx_str hi
    have hbt := body_take t hi
    have hbl := (body_len (t.take i)).2
    have htl : (t.take i).length ≤ 20000000 := by rw [List.length_take]; omega
    obtain ⟨hE, hB⟩ := hB
    have app : ∀ w : List UInt8, w.length ≤ 4 → ∃ v' H', appendA PP #[26, 26] va (.slice (some ⟨H.next, 0, none⟩) w.length w.length) (H.alloc 1 (w.map f8)) = some (v', H') ∧ Ext G0 H' ∧ BRow H' v' (34 :: bodyB (t.take i) ++ w) G0.next := fun w hw =>
      app_new hG0.fresh hE hB w (by rw [List.length_cons]; omega)
    generalize hc : t[i] = c at hix hbt
    have l3 := tl (rgn Tryd.f21 3)
    conv at l3 => rhs; simp only [rgn, opsAt, codeOf, Tryd.f21, gS, gN, reduceIte, Nat.reduceEqDiff, tA]
    have l4 := tl (rgn Tryd.f21 4)
    conv at l4 => rhs; simp only [rgn, opsAt, codeOf, Tryd.f21, gS, gN, reduceIte, Nat.reduceEqDiff, tA]
    have l5 := tl (rgn Tryd.f21 5)
    conv at l5 => rhs; simp only [rgn, opsAt, codeOf, Tryd.f21, gS, gN, reduceIte, Nat.reduceEqDiff, tA]
    have l6 := tl (rgn Tryd.f21 6)
    conv at l6 => rhs; simp only [rgn, opsAt, codeOf, Tryd.f21, gS, gN, reduceIte, Nat.reduceEqDiff, tA]
    have l7 := tl (rgn Tryd.f21 7)
    conv at l7 => rhs; simp only [rgn, opsAt, codeOf, Tryd.f21, gS, gN, reduceIte, Nat.reduceEqDiff, tA]
    have l8 := tl (rgn Tryd.f21 8)
    conv at l8 => rhs; simp only [rgn, opsAt, codeOf, Tryd.f21, gS, gN, reduceIte, Nat.reduceEqDiff, tA]
    have l9 := tl (rgn Tryd.f21 9)
    conv at l9 => rhs; simp only [rgn, opsAt, codeOf, Tryd.f21, gS, gN, reduceIte, Nat.reduceEqDiff, tA]
    have l10 := tl (rgn Tryd.f21 10)
    conv at l10 => rhs; simp only [rgn, opsAt, codeOf, Tryd.f21, gS, gN, reduceIte, Nat.reduceEqDiff, tA]
    have l11 := tl (rgn Tryd.f21 11)
    conv at l11 => rhs; simp only [rgn, opsAt, codeOf, Tryd.f21, gS, gN, reduceIte, Nat.reduceEqDiff, tA]
    have l12 := tl (rgn Tryd.f21 12)
    conv at l12 => rhs; simp only [rgn, opsAt, codeOf, Tryd.f21, gS, gN, reduceIte, Nat.reduceEqDiff, tA]
    have l13 := tl (rgn Tryd.f21 13)
    conv at l13 => rhs; simp only [rgn, opsAt, codeOf, Tryd.f21, gS, gN, reduceIte, Nat.reduceEqDiff, tA]
    have l14 := tl (rgn Tryd.f21 14)
    conv at l14 => rhs; simp only [rgn, opsAt, codeOf, Tryd.f21, gS, gN, reduceIte, Nat.reduceEqDiff, tA]
    have l15 := tl (rgn Tryd.f21 15)
    conv at l15 => rhs; simp only [rgn, opsAt, codeOf, Tryd.f21, gS, gN, reduceIte, Nat.reduceEqDiff, tA]
    have l16 := tl (rgn Tryd.f21 16)
    conv at l16 => rhs; simp only [rgn, opsAt, codeOf, Tryd.f21, gS, gN, reduceIte, Nat.reduceEqDiff, tA]
    have l17 := tl (rgn Tryd.f21 17)
    conv at l17 => rhs; simp only [rgn, opsAt, codeOf, Tryd.f21, gS, gN, reduceIte, Nat.reduceEqDiff, tA]
    have l18 := tl (rgn Tryd.f21 18)
    conv at l18 => rhs; simp only [rgn, opsAt, codeOf, Tryd.f21, gS, gN, reduceIte, Nat.reduceEqDiff, tA]
    by_cases c10 : c = 10
    · have z10 : ((c.toNat : Int) == 10) = true := by rw [c10]; rfl
      have he : escB c = [92, 110] := by rw [c10]; rfl
      rw [he] at hbt
      obtain ⟨v1, H1, a1, x1, r1⟩ := app [92, 110] (by decide)
      rw [← hbt] at r1
      have a1 : appendA PP #[26, 26] va (.slice (some ⟨H.next, 0, none⟩) 2 2) (H.alloc 1 [.int .u8 92, .int .u8 110]) = some (v1, H1) := a1
      simp (decide := true) only [↓execG_seq, ↓g_region, ↓execG_block, ↓execG_skip, ↓execG_exit, ↓g_if, thenE_norm, thenE_exit, leaveB_norm, g_leave, g_pass, ↓r_nil, ↓r_cons, ↓o_move, ↓o_assign, ↓o_buildSlice, ↓o_binOp, ↓o_index, ↓o_builtin, nextE_app, putK_app, putO_app, putG_bool, putG_int, normK_app, evalE_tmp, evalE_const, upd_some, bindO_ok, bindV_ok, reduceIte, map_two, ↓reg_lit l3, ↓reg_lit l4, ↓reg_lit l5, ↓reg_lit l6, ↓reg_lit l10, ↓reg_lit l18, e0, e3, e8, e9, binA_lss, binA_eql, hlt, hix, app_builtin2, binA_add, w, z10, bslice2, a1]
      exact q_then K B hG0 hsm hN n (i + 1) m (by omega) (by omega) (by simp (decide := true) only [upd_some, reduceIte, e0]) (by simp (decide := true) only [upd_some, reduceIte, e3]) (by simp (decide := true) only [upd_some, reduceIte, e8]) (by simp (decide := true) only [upd_some, reduceIte, e9]) ⟨x1, r1⟩ hx
    have z10 : ((c.toNat : Int) == 10) = false := (toNat_eq c 10).trans (decide_eq_false c10)
    by_cases c9 : c = 9
    · have z9 : ((c.toNat : Int) == 9) = true := by rw [c9]; rfl
      have he : escB c = [92, 116] := by rw [c9]; rfl
      rw [he] at hbt
      obtain ⟨v1, H1, a1, x1, r1⟩ := app [92, 116] (by decide)
      rw [← hbt] at r1
      have a1 : appendA PP #[26, 26] va (.slice (some ⟨H.next, 0, none⟩) 2 2) (H.alloc 1 [.int .u8 92, .int .u8 116]) = some (v1, H1) := a1
      simp (decide := true) only [↓execG_seq, ↓g_region, ↓execG_block, ↓execG_skip, ↓execG_exit, ↓g_if, ↓g_else, thenE_norm, thenE_exit, leaveB_norm, g_leave, g_pass, ↓r_nil, ↓r_cons, ↓o_move, ↓o_assign, ↓o_buildSlice, ↓o_binOp, ↓o_index, ↓o_builtin, nextE_app, putK_app, putO_app, putG_bool, putG_int, normK_app, evalE_tmp, evalE_const, upd_some, bindO_ok, bindV_ok, reduceIte, map_two, ↓reg_lit l3, ↓reg_lit l4, ↓reg_lit l5, ↓reg_lit l6, ↓reg_lit l7, ↓reg_lit l11, ↓reg_lit l18, e0, e3, e8, e9, binA_lss, binA_eql, hlt, hix, app_builtin2, binA_add, w, z10, z9, bslice2, a1]
      exact q_then K B hG0 hsm hN n (i + 1) m (by omega) (by omega) (by simp (decide := true) only [upd_some, reduceIte, e0]) (by simp (decide := true) only [upd_some, reduceIte, e3]) (by simp (decide := true) only [upd_some, reduceIte, e8]) (by simp (decide := true) only [upd_some, reduceIte, e9]) ⟨x1, r1⟩ hx
    have z9 : ((c.toNat : Int) == 9) = false := (toNat_eq c 9).trans (decide_eq_false c9)
    by_cases cc : c.toNat < 32 ∨ 126 < c.toNat
    · have he : escB c = [92, 120, hexD (c.toNat / 16), hexD (c.toNat % 16)] := by unfold escB; rw [if_neg c10, if_neg c9, if_pos cc]
      rw [he] at hbt
      have hu := c.toNat_lt
      obtain ⟨v1, H1, a1, x1, r1⟩ := app [92, 120] (by decide)
      have a1 : appendA PP #[26, 26] va (.slice (some ⟨H.next, 0, none⟩) 2 2) (H.alloc 1 [.int .u8 92, .int .u8 120]) = some (v1, H1) := a1
      have wu : IntKind.u64.wrap (c.toNat : Int) = (c.toNat : Int) := wrap_u64' (by omega) (by omega)
      have lb : (34 :: bodyB (t.take i)).length ≤ 80000001 := by rw [List.length_cons]; omega
      by_cases c16 : c.toNat < 16
      · have g32 : decide ((c.toNat : Int) < 32) = true := decide_eq_true (by omega)
        have g16 : decide ((c.toNat : Int) < 16) = true := decide_eq_true (by omega)
        obtain ⟨v2, H2, a2, x2, r2⟩ := app_new hG0.fresh x1 r1 [48] (by rw [List.length_append]; simp only [List.length_cons, List.length_nil] at *; omega)
        have a2 : appendA PP #[26, 26] v1 (.slice (some ⟨H1.next, 0, none⟩) 1 1) (H1.alloc 1 [.int .u8 48]) = some (v2, H2) := a2
        obtain ⟨v3, H3, a3, x3, r3⟩ := hex_one (N := N) (hk := hk) (d := d) K B hG0.fresh (hG0.trans x2) x2 r2 c16 (by omega) (by rw [List.length_append, List.length_append]; simp only [List.length_cons, List.length_nil] at *; omega)
        have hd0 : hexD (c.toNat / 16) = 48 := by rw [show c.toNat / 16 = 0 by omega]; rfl
        have hd1 : c.toNat % 16 = c.toNat := by omega
        have er : 34 :: bodyB (t.take i) ++ [92, 120] ++ [48] ++ [hexD c.toNat] = 34 :: bodyB (t.take (i + 1)) := by rw [hbt, hd0, hd1]; simp
        rw [er] at r3
        simp (decide := true) only [↓execG_seq, ↓g_region, ↓execG_block, ↓execG_skip, ↓execG_exit, ↓g_if, ↓g_else, thenE_norm, thenE_exit, leaveB_norm, g_leave, g_pass, ↓r_nil, ↓r_cons, ↓o_move, ↓o_assign, ↓o_pickt, ↓o_buildSlice, ↓o_binOp, ↓o_convert, ↓o_index, ↓o_builtin, ↓o_callf, nextE_app, putK_app, putO_app, putG_bool, putG_int, normK_app, evalE_tmp, evalE_const, upd_some, bindO_ok, bindV_ok, reduceIte, map_one, map_two, map_three, Bool.not_false, ↓reg_lit l3, ↓reg_lit l4, ↓reg_lit l5, ↓reg_lit l6, ↓reg_lit l7, ↓reg_lit l8, ↓reg_lit l12, ↓reg_lit l13, ↓reg_lit l14, ↓reg_lit l15, ↓reg_lit l18, ↓r_no _ 2 false 24 _ gd21_8_2, e0, e3, e8, e9, binA_lss, binA_eql, hlt, hix, app_builtin2, binA_add, w, z10, z9, g32, g16, bslice2, bslice1, a1, a2, conv_u64, wu, callK_fn Tryd.func37 rfl rfl a3]
        exact q_then K B hG0 hsm hN n (i + 1) m (by omega) (by omega) (by simp (decide := true) only [upd_some, reduceIte, e0]) (by simp (decide := true) only [upd_some, reduceIte, e3]) (by simp (decide := true) only [upd_some, reduceIte, e8]) (by simp (decide := true) only [upd_some, reduceIte, e9]) ⟨x3, r3⟩ hx
      · have g16 : decide ((c.toNat : Int) < 16) = false := decide_eq_false (by omega)
        obtain ⟨v3, H3, a3, x3, r3⟩ := hex_two (N := N) (hk := hk) (d := d) K B hG0.fresh (hG0.trans x1) x1 r1 (by omega) hu (by omega) (by rw [List.length_append]; simp only [List.length_cons, List.length_nil] at *; omega)
        have er : 34 :: bodyB (t.take i) ++ [92, 120] ++ [hexD (c.toNat / 16), hexD (c.toNat % 16)] = 34 :: bodyB (t.take (i + 1)) := by rw [hbt]; simp
        rw [er] at r3
        by_cases c32 : c.toNat < 32
        · have g32 : decide ((c.toNat : Int) < 32) = true := decide_eq_true (by omega)
          simp (decide := true) only [↓execG_seq, ↓g_region, ↓execG_block, ↓execG_skip, ↓execG_exit, ↓g_if, ↓g_else, thenE_norm, thenE_exit, leaveB_norm, g_leave, g_pass, ↓r_nil, ↓r_cons, ↓o_move, ↓o_assign, ↓o_pickt, ↓o_buildSlice, ↓o_binOp, ↓o_convert, ↓o_index, ↓o_builtin, ↓o_callf, nextE_app, putK_app, putO_app, putG_bool, putG_int, normK_app, evalE_tmp, evalE_const, upd_some, bindO_ok, bindV_ok, reduceIte, map_two, map_three, Bool.not_false, ↓reg_lit l3, ↓reg_lit l4, ↓reg_lit l5, ↓reg_lit l6, ↓reg_lit l7, ↓reg_lit l8, ↓reg_lit l12, ↓reg_lit l13, ↓reg_lit l15, ↓reg_lit l18, ↓r_no _ 2 false 24 _ gd21_8_2, e0, e3, e8, e9, binA_lss, binA_eql, hlt, hix, app_builtin2, binA_add, w, z10, z9, g32, g16, bslice2, a1, conv_u64, wu, callK_fn Tryd.func37 rfl rfl a3]
          exact q_then K B hG0 hsm hN n (i + 1) m (by omega) (by omega) (by simp (decide := true) only [upd_some, reduceIte, e0]) (by simp (decide := true) only [upd_some, reduceIte, e3]) (by simp (decide := true) only [upd_some, reduceIte, e8]) (by simp (decide := true) only [upd_some, reduceIte, e9]) ⟨x3, r3⟩ hx
        · have g32 : decide ((c.toNat : Int) < 32) = false := decide_eq_false (by omega)
          have g126 : decide ((c.toNat : Int) > 126) = true := decide_eq_true (by omega)
          simp (decide := true) only [↓execG_seq, ↓g_region, ↓execG_block, ↓execG_skip, ↓execG_exit, ↓g_if, ↓g_else, thenE_norm, thenE_exit, leaveB_norm, g_leave, g_pass, ↓r_nil, ↓r_cons, ↓o_move, ↓o_assign, ↓o_pickf, ↓o_buildSlice, ↓o_binOp, ↓o_convert, ↓o_index, ↓o_builtin, ↓o_callf, nextE_app, putK_app, putO_app, putG_bool, putG_int, normK_app, evalE_tmp, evalE_const, upd_some, bindO_ok, bindV_ok, reduceIte, map_two, map_three, ↓reg_lit l3, ↓reg_lit l4, ↓reg_lit l5, ↓reg_lit l6, ↓reg_lit l7, ↓reg_lit l8, ↓reg_lit l12, ↓reg_lit l13, ↓reg_lit l15, ↓reg_lit l18, ↓r_yes _ 2 false 24 _ gd21_8_2, e0, e3, e8, e9, binA_lss, binA_gtr, binA_eql, hlt, hix, app_builtin2, binA_add, w, z10, z9, g32, g126, g16, bslice2, a1, conv_u64, wu, callK_fn Tryd.func37 rfl rfl a3]
          exact q_then K B hG0 hsm hN n (i + 1) m (by omega) (by omega) (by simp (decide := true) only [upd_some, reduceIte, e0]) (by simp (decide := true) only [upd_some, reduceIte, e3]) (by simp (decide := true) only [upd_some, reduceIte, e8]) (by simp (decide := true) only [upd_some, reduceIte, e9]) ⟨x3, r3⟩ hx
    have g32 : decide ((c.toNat : Int) < 32) = false := decide_eq_false (by omega)
    have g126 : decide ((c.toNat : Int) > 126) = false := decide_eq_false (by omega)
    by_cases cq : c = 34 ∨ c = 92
    · have he : escB c = [92, c] := by unfold escB; rw [if_neg c10, if_neg c9, if_neg cc, if_pos cq]
      rw [he] at hbt
      obtain ⟨v1, H1, a1, x1, r1⟩ := app [92] (by decide)
      have a1 : appendA PP #[26, 26] va (.slice (some ⟨H.next, 0, none⟩) 1 1) (H.alloc 1 [.int .u8 92]) = some (v1, H1) := a1
      obtain ⟨v2, H2, a2, x2, r2⟩ := app_new hG0.fresh x1 r1 [c] (by rw [List.length_append]; simp only [List.length_cons, List.length_nil] at *; omega)
      have a2 : appendA PP #[26, 26] v1 (.slice (some ⟨H1.next, 0, none⟩) 1 1) (H1.alloc 1 [.int .u8 (c.toNat : Int)]) = some (v2, H2) := a2
      have er : 34 :: bodyB (t.take i) ++ [92] ++ [c] = 34 :: bodyB (t.take (i + 1)) := by rw [hbt]; simp
      rw [er] at r2
      by_cases c34 : c = 34
      · have z34 : ((c.toNat : Int) == 34) = true := by rw [c34]; rfl
        simp (decide := true) only [↓execG_seq, ↓g_region, ↓execG_block, ↓execG_skip, ↓execG_exit, ↓g_if, ↓g_else, thenE_norm, thenE_exit, leaveB_norm, g_leave, g_pass, ↓r_nil, ↓r_cons, ↓o_move, ↓o_assign, ↓o_pickt, ↓o_pickf, ↓o_buildSlice, ↓o_binOp, ↓o_index, ↓o_builtin, nextE_app, putK_app, putO_app, putG_bool, putG_int, normK_app, evalE_tmp, evalE_const, upd_some, bindO_ok, bindV_ok, reduceIte, map_one, map_two, Bool.not_false, ↓reg_lit l3, ↓reg_lit l4, ↓reg_lit l5, ↓reg_lit l6, ↓reg_lit l7, ↓reg_lit l8, ↓reg_lit l9, ↓reg_lit l16, ↓reg_lit l17, ↓reg_lit l18, ↓r_yes _ 2 false 24 _ gd21_8_2, ↓r_no _ 2 false 31 _ gd21_9_2, e0, e3, e8, e9, binA_lss, binA_gtr, binA_eql, hlt, hix, app_builtin2, binA_add, w, z10, z9, g32, g126, z34, bslice1, a1, a2]
        exact q_then K B hG0 hsm hN n (i + 1) m (by omega) (by omega) (by simp (decide := true) only [upd_some, reduceIte, e0]) (by simp (decide := true) only [upd_some, reduceIte, e3]) (by simp (decide := true) only [upd_some, reduceIte, e8]) (by simp (decide := true) only [upd_some, reduceIte, e9]) ⟨x2, r2⟩ hx
      · have z34 : ((c.toNat : Int) == 34) = false := (toNat_eq c 34).trans (decide_eq_false c34)
        have z92 : ((c.toNat : Int) == 92) = true := by rcases cq with h | h; exact absurd h c34; rw [h]; rfl
        simp (decide := true) only [↓execG_seq, ↓g_region, ↓execG_block, ↓execG_skip, ↓execG_exit, ↓g_if, ↓g_else, thenE_norm, thenE_exit, leaveB_norm, g_leave, g_pass, ↓r_nil, ↓r_cons, ↓o_move, ↓o_assign, ↓o_pickf, ↓o_buildSlice, ↓o_binOp, ↓o_index, ↓o_builtin, nextE_app, putK_app, putO_app, putG_bool, putG_int, normK_app, evalE_tmp, evalE_const, upd_some, bindO_ok, bindV_ok, reduceIte, map_one, map_two, ↓reg_lit l3, ↓reg_lit l4, ↓reg_lit l5, ↓reg_lit l6, ↓reg_lit l7, ↓reg_lit l8, ↓reg_lit l9, ↓reg_lit l16, ↓reg_lit l17, ↓reg_lit l18, ↓r_yes _ 2 false 24 _ gd21_8_2, ↓r_yes _ 2 false 31 _ gd21_9_2, e0, e3, e8, e9, binA_lss, binA_gtr, binA_eql, hlt, hix, app_builtin2, binA_add, w, z10, z9, g32, g126, z34, z92, bslice1, a1, a2]
        exact q_then K B hG0 hsm hN n (i + 1) m (by omega) (by omega) (by simp (decide := true) only [upd_some, reduceIte, e0]) (by simp (decide := true) only [upd_some, reduceIte, e3]) (by simp (decide := true) only [upd_some, reduceIte, e8]) (by simp (decide := true) only [upd_some, reduceIte, e9]) ⟨x2, r2⟩ hx
    · have he : escB c = [c] := by unfold escB; rw [if_neg c10, if_neg c9, if_neg cc, if_neg cq]
      rw [he] at hbt
      have z34 : ((c.toNat : Int) == 34) = false := (toNat_eq c 34).trans (decide_eq_false fun h => cq (.inl h))
      have z92 : ((c.toNat : Int) == 92) = false := (toNat_eq c 92).trans (decide_eq_false fun h => cq (.inr h))
      obtain ⟨v1, H1, a1, x1, r1⟩ := app [c] (by simp)
      rw [← hbt] at r1
      have a1 : appendA PP #[26, 26] va (.slice (some ⟨H.next, 0, none⟩) 1 1) (H.alloc 1 [.int .u8 (c.toNat : Int)]) = some (v1, H1) := a1
      simp (decide := true) only [↓execG_seq, ↓g_region, ↓execG_block, ↓execG_skip, ↓execG_exit, ↓g_if, ↓g_else, thenE_norm, thenE_exit, leaveB_norm, g_leave, g_pass, ↓r_nil, ↓r_cons, ↓o_move, ↓o_assign, ↓o_pickf, ↓o_buildSlice, ↓o_binOp, ↓o_index, ↓o_builtin, nextE_app, putK_app, putO_app, putG_bool, putG_int, normK_app, evalE_tmp, evalE_const, upd_some, bindO_ok, bindV_ok, reduceIte, map_one, map_two, ↓reg_lit l3, ↓reg_lit l4, ↓reg_lit l5, ↓reg_lit l6, ↓reg_lit l7, ↓reg_lit l8, ↓reg_lit l9, ↓reg_lit l17, ↓reg_lit l18, ↓r_yes _ 2 false 24 _ gd21_8_2, ↓r_yes _ 2 false 31 _ gd21_9_2, e0, e3, e8, e9, binA_lss, binA_gtr, binA_eql, hlt, hix, app_builtin2, binA_add, w, z10, z9, g32, g126, z34, z92, bslice1, a1]
      exact q_then K B hG0 hsm hN n (i + 1) m (by omega) (by omega) (by simp (decide := true) only [upd_some, reduceIte, e0]) (by simp (decide := true) only [upd_some, reduceIte, e3]) (by simp (decide := true) only [upd_some, reduceIte, e8]) (by simp (decide := true) only [upd_some, reduceIte, e9]) ⟨x1, r1⟩ hx
end
theorem call_quote {N : Nat} {hk : Hook} {d : Nat} {t : List UInt8} {H : Heap} (K : HkOk hk) (B : HkB hk) (hG : Ext GE H) (hsm : t.length ≤ 20000000) (hN : t.length + 100 < N) :
    ∃ v H', Ext H H' ∧ BRow H' v (quoteB t) H.next ∧ CG N hk (d + 5) 21 #[.string ⟨⟨t⟩⟩] H = some (.ret v, H') := by
  have main : ∃ R0 : R, CG N hk (d + 5) 21 #[.string ⟨⟨t⟩⟩] H = R0 ∧ ∃ v H', (Ext H H' ∧ BRow H' v (quoteB t) H.next) ∧ R0 = some (.ret v, H') := by
    refine ⟨_, callG_fn (K.nil _ _ _ rfl) Tryd.func21 (c := codeOf Tryd.f21) rfl rfl rfl (pr := noPr) rfl, ?_⟩
    rw [code21]
    generalize hF : finE PP Tryd.f21 = F
    have x1 : Ext H (H.alloc 1 [.int .u8 34]) := Ext.alloc hG.fresh 1 _
    have r1 : BRow (H.alloc 1 [.int .u8 34]) (.slice (some ⟨H.next, 0, none⟩) 1 1) (34 :: bodyB (t.take 0)) H.next := .inr ⟨by simp, H.next, rfl, by rw [Heap.get_alloc, if_pos rfl]; rfl, Nat.le_refl _⟩
    have l0 := tl (rgn Tryd.f21 0)
    conv at l0 => rhs; simp only [rgn, opsAt, codeOf, Tryd.f21, gS, gN, reduceIte, Nat.reduceEqDiff, tA]
    have l1 := tl (rgn Tryd.f21 1)
    conv at l1 => rhs; simp only [rgn, opsAt, codeOf, Tryd.f21, gS, gN, reduceIte, Nat.reduceEqDiff, tA]
    have l2 := tl (rgn Tryd.f21 2)
    conv at l2 => rhs; simp only [rgn, opsAt, codeOf, Tryd.f21, gS, gN, reduceIte, Nat.reduceEqDiff, tA]
    have l19 := tl (rgn Tryd.f21 19)
    conv at l19 => rhs; simp only [rgn, opsAt, codeOf, Tryd.f21, gS, gN, reduceIte, Nat.reduceEqDiff, tA]
    simp (decide := true) only [↓execG_seq, ↓g_region, ↓execG_block, thenE_norm, ↓r_nil, ↓r_cons, ↓o_move, ↓o_assign, ↓o_buildSlice, ↓o_builtin, nextE_app, putK_app, normK_app, evalE_tmp, evalE_const, upd_some, bindV_ok, reduceIte, map_one, startE_0, ↓reg_lit l0, ↓reg_lit l1, ↓reg_lit l2, ↓execG_loop, bslice1, len_str]
    refine q_then (G0 := H) (Q := fun r => ∃ v H', (Ext H H' ∧ BRow H' v (quoteB t) H.next) ∧ r = some (.ret v, H')) K B hG hsm (by omega) t.length 0 N (by omega) (by omega) (va := .slice (some ⟨H.next, 0, none⟩) 1 1) ?_ ?_ ?_ ?_ ⟨x1, r1⟩ (fun E' H' va' e3 x2 r2 => ?_)
    · simp (decide := true) only [upd_some, reduceIte, startE_0]
    · simp (decide := true) only [upd_some, reduceIte]
    · simp (decide := true) only [upd_some, reduceIte]
    · simp (decide := true) only [upd_some, reduceIte]; rfl
    have hl := (body_len t).2
    obtain ⟨v3, H3, a3, x3, r3⟩ := app_new hG.fresh x2 r2 [34] (by rw [List.length_cons]; simp only [List.length_cons, List.length_nil]; omega)
    have a3 : appendA PP #[26, 26] va' (.slice (some ⟨H'.next, 0, none⟩) 1 1) (H'.alloc 1 [.int .u8 34]) = some (v3, H3) := a3
    refine ⟨v3, H3, ⟨x3, r3⟩, ?_⟩
    simp (decide := true) only [↓execG_seq, ↓g_region, ↓execG_ret, thenE_norm, g_leave, ↓r_nil, ↓r_cons, ↓o_move, ↓o_assign, ↓o_buildSlice, ↓o_builtin, nextE_app, putK_app, normK_app, evalE_tmp, evalE_const, upd_some, bindV_ok, reduceIte, map_one, map_two, ↓reg_lit l19, e3, bslice1, app_builtin2, a3]
    rw [← hF, finE_ret (l := [v3]) (by simp (decide := true) [Tryd.f21, resE, upd_some])]
    rfl
  obtain ⟨R0, m1, v, H', ⟨m2, m3⟩, m4⟩ := main
  exact ⟨v, H', m2, m3, m1.trans m4⟩
end Go.Am
/- Is a word a name? -/
open Go.Proofs
namespace Go.Am
section ops
variable {P : Program} {X : Xf} {K : Kf} {d : Option Tmp} {t : TypeId} {p : String} {af : Array Edge} {g : Option (Nat × Bool)} {E : Env} {ds : List Deferred} {H : Heap} {k : KE} {kp : List PanicEntry → KE}
theorem o_range (e : TypeId) (x : Operand) : opE P X K ⟨d, .range e x, t, p, af, g⟩ E ds H k kp = bindV (rangeA P e (evalE E x) H) (putK E d ds k) := id rfl
theorem o_next (x : Operand) (b : Bool) : opE P X K ⟨d, .next x b, t, p, af, g⟩ E ds H k kp = bindV (nextA (evalE E x) b H) (putK E d ds k) := id rfl
end ops
theorem wbB_eq (u : UInt8) : wbB u = ((clsI u == 3) || (clsI u == 4)) := by
  unfold wbB isWL
  simp only [isL]
  exact Bool.or_comm _ _
theorem conv_r8 (x : Int) (H : Heap) : convertA PP 21 5 (.int .i32 x) H = some (.int .u8 (IntKind.u8.wrap x), H) := by kernel_rfl
theorem code29 : codeOf Tryd.f29 = .seq (.region 0 (rgn Tryd.f29 0) false) (.seq (.region 1 (rgn Tryd.f29 1) false) (.ret)) := by kernel_rfl
theorem gd29_1_3 : ((rgn Tryd.f29 1)[3]?).bind (·.dst) = some 6 := by kernel_rfl
theorem code28 : codeOf Tryd.f28 = .seq (.region 0 (rgn Tryd.f28 0) false) (.seq (.region 1 (rgn Tryd.f28 1) false) (.ret)) := by kernel_rfl
theorem gd28_1_2 : ((rgn Tryd.f28 1)[2]?).bind (·.dst) = some 5 := by kernel_rfl
theorem code58 : codeOf Tryd.f58 = .seq (.region 0 (rgn Tryd.f58 0) false) (.seq (.seq (.region 1 (rgn Tryd.f58 1) false) (.block 0 (.loop (.seq (.region 2 (rgn Tryd.f58 2) false) (.seq (.cond (.tmp 12) (.skip) (.exit 0)) (.block 1 (.seq (.region 3 (rgn Tryd.f58 3) false) (.seq (.region 4 (rgn Tryd.f58 4) false) (.cond (.tmp 19) (.seq (.region 5 (rgn Tryd.f58 5) false) (.ret)) (.skip)))))))))) (.seq (.region 6 (rgn Tryd.f58 6) false) (.ret))) := by kernel_rfl
theorem code43 : codeOf Tryd.f43 = .seq (.region 0 (rgn Tryd.f43 0) false) (.seq (.region 1 (rgn Tryd.f43 1) false) (.ret)) := by kernel_rfl
theorem code27 : codeOf Tryd.f27 = .seq (.region 0 (rgn Tryd.f27 0) false) (.seq (.region 1 (rgn Tryd.f27 1) false) (.ret)) := by kernel_rfl
theorem code12 : codeOf Tryd.f12 = .seq (.region 0 (rgn Tryd.f12 0) false) (.seq (.seq (.region 1 (rgn Tryd.f12 1) false) (.cond (.tmp 21) (.seq (.region 2 (rgn Tryd.f12 2) false) (.ret)) (.skip))) (.seq (.region 3 (rgn Tryd.f12 3) false) (.ret))) := by kernel_rfl
theorem gd12_1_3 : ((rgn Tryd.f12 1)[3]?).bind (·.dst) = some 6 := by kernel_rfl
theorem gd12_1_8 : ((rgn Tryd.f12 1)[8]?).bind (·.dst) = some 11 := by kernel_rfl
theorem gd12_1_14 : ((rgn Tryd.f12 1)[14]?).bind (·.dst) = some 17 := by kernel_rfl

section
variable {N : Nat} {hk : Hook} {d : Nat} {H : Heap}
theorem call_wb (K : HkOk hk) (hG : Ext GE H) (u : UInt8) : CG N hk (d + 2) 29 #[.int .u8 (u.toNat : Int)] H = some (.ret (.bool (wbB u)), H) := by
  have hc := call_cls (N := N) (hk := hk) (d := d) hG u (fun _ _ => K.nil _ _ _ rfl)
  have main : ∃ R0 : R, CG N hk (d + 2) 29 #[.int .u8 (u.toNat : Int)] H = R0 ∧ R0 = some (.ret (.bool (wbB u)), H) := by
    refine ⟨_, callG_fn (K.nil _ _ _ rfl) Tryd.func29 (c := codeOf Tryd.f29) rfl rfl rfl (pr := noPr) rfl, ?_⟩
    rw [code29]
    generalize hF : finE PP Tryd.f29 = F
    rw [wbB_eq]
    have l0 := tl (rgn Tryd.f29 0)
    conv at l0 => rhs; simp only [rgn, opsAt, codeOf, Tryd.f29, gS, gN, reduceIte, Nat.reduceEqDiff, tA]
    have l1 := tl (rgn Tryd.f29 1)
    conv at l1 => rhs; simp only [rgn, opsAt, codeOf, Tryd.f29, gS, gN, reduceIte, Nat.reduceEqDiff, tA]
    cases h3 : (clsI u == 3) with
    | true =>
      simp (decide := true) only [↓execG_seq, ↓g_region, ↓execG_ret, thenE_norm, ↓r_nil, ↓r_cons, ↓o_move, ↓o_assign, ↓o_pickt, ↓o_binOp, ↓o_callf, nextE_app, putK_app, putG_bool, normK_app, evalE_tmp, evalE_const, upd_some, bindO_ok, reduceIte, map_one, startE_0, Bool.not_false, ↓reg_lit l0, ↓reg_lit l1, ↓r_no _ 3 false 6 _ gd29_1_3, callK_fn Tryd.func26 rfl rfl hc, binA_eql, h3]
      rw [← hF, finE_ret (l := [.bool true]) (by simp (decide := true) [Tryd.f29, resE, upd_some])]
      rfl
    | false =>
      simp (decide := true) only [↓execG_seq, ↓g_region, ↓execG_ret, thenE_norm, ↓r_nil, ↓r_cons, ↓o_move, ↓o_assign, ↓o_pickf, ↓o_binOp, ↓o_callf, nextE_app, putK_app, putG_bool, normK_app, evalE_tmp, evalE_const, upd_some, bindO_ok, reduceIte, map_one, startE_0, ↓reg_lit l0, ↓reg_lit l1, ↓r_yes _ 3 false 6 _ gd29_1_3, callK_fn Tryd.func26 rfl rfl hc, binA_eql, h3]
      rw [← hF, finE_ret (l := [.bool (clsI u == 4)]) (by simp (decide := true) [Tryd.f29, resE, upd_some])]
      rfl
  obtain ⟨R0, m1, m2⟩ := main
  exact m1.trans m2
/-- Does a rune end a word? -/
def badR (r : Nat) : Bool := decide (127 < r) || !wbB (UInt8.ofNat r)
theorem call_pred (K : HkOk hk) (hG : Ext GE H) (r : Nat) : CG N hk (d + 3) 28 #[.int .i32 (r : Int)] H = some (.ret (.bool (badR r)), H) := by
  have main : ∃ R0 : R, CG N hk (d + 3) 28 #[.int .i32 (r : Int)] H = R0 ∧ R0 = some (.ret (.bool (badR r)), H) := by
    refine ⟨_, callG_fn (K.nil _ _ _ rfl) Tryd.func28 (c := codeOf Tryd.f28) rfl rfl rfl (pr := noPr) rfl, ?_⟩
    rw [code28]
    generalize hF : finE PP Tryd.f28 = F
    have l0 := tl (rgn Tryd.f28 0)
    conv at l0 => rhs; simp only [rgn, opsAt, codeOf, Tryd.f28, gS, gN, reduceIte, Nat.reduceEqDiff, tA]
    have l1 := tl (rgn Tryd.f28 1)
    conv at l1 => rhs; simp only [rgn, opsAt, codeOf, Tryd.f28, gS, gN, reduceIte, Nat.reduceEqDiff, tA]
    by_cases h : 127 < r
    · have g : decide ((r : Int) > 127) = true := decide_eq_true (by omega)
      simp (decide := true) only [↓execG_seq, ↓g_region, ↓execG_ret, thenE_norm, ↓r_nil, ↓r_cons, ↓o_move, ↓o_assign, ↓o_pickt, ↓o_binOp, nextE_app, putG_bool, normK_app, evalE_tmp, evalE_const, upd_some, bindO_ok, reduceIte, startE_0, Bool.not_false, ↓reg_lit l0, ↓reg_lit l1, ↓r_no _ 2 false 5 _ gd28_1_2, binA_gtr, g]
      rw [← hF, finE_ret (l := [.bool true]) (by simp (decide := true) [Tryd.f28, resE, upd_some])]
      rw [badR, decide_eq_true h]; rfl
    · have g : decide ((r : Int) > 127) = false := decide_eq_false (by omega)
      have hu : ((UInt8.ofNat r).toNat : Int) = (r : Int) := by simp; omega
      have wr : IntKind.u8.wrap (r : Int) = ((UInt8.ofNat r).toNat : Int) := by rw [hu]; exact wrap_u8' (by omega) (by omega)
      have hc := call_wb (N := N) (hk := hk) (d := d) K hG (UInt8.ofNat r)
      have hn : unA PP .not (.bool (wbB (UInt8.ofNat r))) = some (.bool (!wbB (UInt8.ofNat r))) := by cases wbB (UInt8.ofNat r) <;> kernel_rfl
      simp (decide := true) only [↓execG_seq, ↓g_region, ↓execG_ret, thenE_norm, ↓r_nil, ↓r_cons, ↓o_move, ↓o_assign, ↓o_pickf, ↓o_binOp, ↓o_unOp, ↓o_convert, ↓o_callf, nextE_app, putK_app, putG_bool, normK_app, evalE_tmp, evalE_const, upd_some, bindO_ok, bindV_ok, reduceIte, map_one, startE_0, ↓reg_lit l0, ↓reg_lit l1, ↓r_yes _ 2 false 5 _ gd28_1_2, binA_gtr, g, conv_r8, wr, callK_fn Tryd.func29 rfl rfl hc, hn]
      rw [← hF, finE_ret (l := [.bool (!wbB (UInt8.ofNat r))]) (by simp (decide := true) [Tryd.f28, resE, upd_some])]
      rw [badR, decide_eq_false h]; rfl
  obtain ⟨R0, m1, m2⟩ := main
  exact m1.trans m2
end
def iterB (s : List UInt8) (pos : Nat) : Blk := ⟨[], true, 0, some (.stringIter ⟨⟨s⟩⟩ pos)⟩
theorem next_end {H : Heap} {q : Nat} {s : List UInt8} {pos : Nat} (h : H.get q = some (iterB s pos)) (hp : ¬ pos < s.length) : nextA (.pointer (some ⟨q, 0, none⟩)) true H = some (.tuple #[.bool false], H) := by
  have e : (⟨⟨s⟩⟩ : ByteArray).size = s.length := rfl
  simp [nextA, h, iterB, e, hp]
theorem next_some {H : Heap} {q : Nat} {s : List UInt8} {pos : Nat} (h : H.get q = some (iterB s pos)) (hp : pos < s.length) : nextA (.pointer (some ⟨q, 0, none⟩)) true H = some (.tuple #[.bool true, .int .i64 (pos : Int), .int .i32 ((Utf8.decode ⟨⟨s⟩⟩ pos).1 : Int)], H.set q (iterB s (pos + (Utf8.decode ⟨⟨s⟩⟩ pos).2))) := by
  have e : (⟨⟨s⟩⟩ : ByteArray).size = s.length := rfl
  simp [nextA, h, iterB, e, hp]
theorem decode_low {s : List UInt8} {pos : Nat} (hp : pos < s.length) (h : s[pos].toNat < 128) : Utf8.decode ⟨⟨s⟩⟩ pos = (s[pos].toNat, 1) := decode_ascii ⟨⟨s⟩⟩ pos hp h
theorem decode_high {s : List UInt8} {pos : Nat} (hp : pos < s.length) (h : ¬ s[pos].toNat < 128) : 127 < (Utf8.decode ⟨⟨s⟩⟩ pos).1 := by
  have hb : ((⟨⟨s⟩⟩ : ByteArray).get! (pos + 0)).toNat = s[pos].toNat := by
    have : (⟨⟨s⟩⟩ : ByteArray).get! (pos + 0) = s[pos] := by simp [ByteArray.get!, hp]
    rw [this]
  have re : 127 < Utf8.runeError := by decide
  unfold Utf8.decode
  simp only [hb]
  rw [if_neg (by omega)]
  repeat' split
  all_goals first | exact re | (rename_i h; simp only [Bool.and_eq_true, decide_eq_true_eq] at h; show 127 < _; omega) | (show 127 < _; omega)
section
variable {N : Nat} {hk : Hook} {d : Nat} {H0 : Heap} {q : Nat} {s : List UInt8} {Q : R → Prop} {k : KOE}
theorem set_ext {H : Heap} (hE : Ext H0 H) (hq : H0.next ≤ q) (hqn : q < H.next) (hf0 : Fresh H0) (x : Blk) : Ext H0 (H.set q x) := by
  refine ⟨hE.next, fun b y hy => ?_, fun b hb => ?_⟩
  · have := lt_next hf0 hy
    rw [Heap.get_set, if_neg (by omega)]; exact hE.keep b y hy
  · have hb' : H.next ≤ b := hb
    rw [Heap.get_set, if_neg (by omega)]; exact hE.fresh b hb'
theorem arr_one (x : Value) : (#[] : Array Value) ++ #[x] ++ #[] = #[x] := by simp
theorem x_idx (K : HkOk hk) (hG : Ext GE H0) (hq0 : H0.next ≤ q) : ∀ (n pos m : Nat) (_ : pos + n = s.length) (_ : n < m) {E : Env} {H : Heap} (_ : E 1 = .func (.func 28) #[] #[]) (_ : E 2 = .bool true) (_ : E 10 = .pointer (some ⟨q, 0, none⟩)) (_ : Ext H0 H) (_ : q < H.next) (_ : H.get q = some (iterB s pos))
    (_ : (s.drop pos).all wbB = true → ∀ E' H', Ext H0 H' → Q (k (.exit 0) E' [] H')) (_ : (s.drop pos).all wbB = false → ∀ E' H' (j : Nat), E' 6 = .int .i64 (j : Int) → Ext H0 H' → Q (k .ret E' [] H')), Q (loopE (execG PP XX (CG N hk (d + 3)) N noPr (.seq (.region 2 (rgn Tryd.f58 2) false) (.seq (.cond (.tmp 12) (.skip) (.exit 0)) (.block 1 (.seq (.region 3 (rgn Tryd.f58 3) false) (.seq (.region 4 (rgn Tryd.f58 4) false) (.cond (.tmp 19) (.seq (.region 5 (rgn Tryd.f58 5) false) (.ret)) (.skip))))))) none) m E [] H k)
  | 0, pos, m + 1, hn, hm, E, H, e1, e2, e10, hE, hqn, hH, h1, h2 => by
    rw [loopE_succ]
    have hne := next_end hH (by omega : ¬ pos < s.length)
    have q0 : ∀ (x : Value), extractA (.tuple #[x]) 0 = some x := fun _ => rfl
    have l2 := tl (rgn Tryd.f58 2)
    conv at l2 => rhs; simp only [rgn, opsAt, codeOf, Tryd.f58, gS, gN, reduceIte, Nat.reduceEqDiff, tA]
    simp (decide := true) only [↓execG_seq, ↓g_region, ↓execG_exit, ↓g_else, thenE_norm, thenE_exit, ↓r_nil, ↓r_cons, ↓o_extract, nextE_app, putK_app, putO_app, normK_app, evalE_tmp, upd_some, bindO_ok, bindV_ok, reduceIte, ↓reg_lit l2, e10, ↓o_next, hne, q0]
    exact h1 (by rw [List.drop_eq_nil_of_le (by omega)]; rfl) _ _ hE
  | n + 1, pos, m + 1, hn, hm, E, H, e1, e2, e10, hE, hqn, hH, h1, h2 => by
    rw [loopE_succ]
    have hp : pos < s.length := by omega
    have hne := next_some hH hp
    have q0 : ∀ (x y z : Value), extractA (.tuple #[x, y, z]) 0 = some x := fun _ _ _ => rfl
    have q1 : ∀ (x y z : Value), extractA (.tuple #[x, y, z]) 1 = some y := fun _ _ _ => rfl
    have q2 : ∀ (x y z : Value), extractA (.tuple #[x, y, z]) 2 = some z := fun _ _ _ => rfl
    rw [List.drop_eq_getElem_cons hp, List.all_cons] at h1 h2
    have x1 := set_ext hE hq0 hqn hG.fresh (iterB s (pos + (Utf8.decode ⟨⟨s⟩⟩ pos).2))
    have hc := call_pred (N := N) (hk := hk) (d := d) (H := H.set q (iterB s (pos + (Utf8.decode ⟨⟨s⟩⟩ pos).2))) K (hG.trans x1) (Utf8.decode ⟨⟨s⟩⟩ pos).1
    have eqt : ∀ b : Bool, binA PP .eql 4 (.tmp 17) (.tmp 18) (.bool b) (.bool true) = some (.bool b) := fun b => by cases b <;> kernel_rfl
    have l2 := tl (rgn Tryd.f58 2)
    conv at l2 => rhs; simp only [rgn, opsAt, codeOf, Tryd.f58, gS, gN, reduceIte, Nat.reduceEqDiff, tA]
    have l3 := tl (rgn Tryd.f58 3)
    conv at l3 => rhs; simp only [rgn, opsAt, codeOf, Tryd.f58, gS, gN, reduceIte, Nat.reduceEqDiff, tA]
    have l4 := tl (rgn Tryd.f58 4)
    conv at l4 => rhs; simp only [rgn, opsAt, codeOf, Tryd.f58, gS, gN, reduceIte, Nat.reduceEqDiff, tA]
    have l5 := tl (rgn Tryd.f58 5)
    conv at l5 => rhs; simp only [rgn, opsAt, codeOf, Tryd.f58, gS, gN, reduceIte, Nat.reduceEqDiff, tA]
    by_cases hw : wbB s[pos] = true
    · have hlow : s[pos].toNat < 128 := by
        have := each_byte (p := fun u => !wbB u || decide (u.toNat < 128)) (by decide +kernel) s[pos]
        simpa [hw] using this
      have hd := decode_low hp hlow
      rw [hd] at hne hc x1
      have hb : badR s[pos].toNat = false := by
        unfold badR
        rw [decide_eq_false (by omega)]
        have e : UInt8.ofNat s[pos].toNat = s[pos] := by simp
        rw [e, hw]; rfl
      rw [hb] at hc
      rw [hw, Bool.true_and] at h1 h2
      simp only at hne hc x1
      simp (decide := true) only [↓execG_seq, ↓g_region, ↓execG_block, ↓execG_skip, ↓g_if, ↓g_else, thenE_norm, leaveB_norm, ↓r_nil, ↓r_cons, ↓o_move, ↓o_assign, ↓o_binOp, ↓o_extract, nextE_app, putK_app, putO_app, putG_bool, normK_app, evalE_tmp, upd_some, bindO_ok, bindV_ok, reduceIte, map_one, ↓reg_lit l2, ↓reg_lit l3, ↓reg_lit l4, e1, e2, e10, ↓o_next, hne, q0, q1, q2, o_callv 15 _ _ 28 #[] #[], arr_one, callK_fn Tryd.func28 rfl rfl hc, eqt]
      refine x_idx K hG hq0 n (pos + 1) m (by omega) (by omega) (by simp (decide := true) only [upd_some, reduceIte, e1]) (by simp (decide := true) only [upd_some, reduceIte, e2]) (by simp (decide := true) only [upd_some, reduceIte, e10]) x1 hqn (by rw [Heap.get_set, if_pos rfl]) h1 h2
    · have hw : wbB s[pos] = false := by simpa using hw
      have hb : badR (Utf8.decode ⟨⟨s⟩⟩ pos).1 = true := by
        unfold badR
        by_cases hlow : s[pos].toNat < 128
        · have e : UInt8.ofNat s[pos].toNat = s[pos] := by simp
          rw [decode_low hp hlow]
          simp only
          rw [e, hw]; simp
        · rw [decide_eq_true (decode_high hp hlow)]; rfl
      rw [hb] at hc
      simp (decide := true) only [↓execG_seq, ↓g_region, ↓execG_block, ↓execG_ret, ↓execG_skip, ↓g_if, thenE_norm, thenE_ret, leaveB_ret, ↓r_nil, ↓r_cons, ↓o_move, ↓o_assign, ↓o_binOp, ↓o_extract, nextE_app, putK_app, putO_app, putG_bool, normK_app, evalE_tmp, upd_some, bindO_ok, bindV_ok, reduceIte, map_one, ↓reg_lit l2, ↓reg_lit l3, ↓reg_lit l4, ↓reg_lit l5, e1, e2, e10, ↓o_next, hne, q0, q1, q2, o_callv 15 _ _ 28 #[] #[], arr_one, callK_fn Tryd.func28 rfl rfl hc, eqt]
      exact h2 (by rw [hw]; rfl) _ _ pos (by simp (decide := true) only [upd_some, reduceIte]) x1
end
section
variable {N : Nat} {hk : Hook} {d : Nat} {H : Heap} {s : List UInt8}
theorem call_idx (K : HkOk hk) (hG : Ext GE H) (hN : s.length < N) : ∃ (z : Int) (H' : Heap), CG N hk (d + 4) 58 #[.string ⟨⟨s⟩⟩, .func (.func 28) #[] #[], .bool true] H = some (.ret (.int .i64 z), H') ∧ Ext H H' ∧ (decide (z ≥ 0) = !s.all wbB) := by
  have main : ∃ R0 : R, CG N hk (d + 4) 58 #[.string ⟨⟨s⟩⟩, .func (.func 28) #[] #[], .bool true] H = R0 ∧ ∃ (z : Int) (H' : Heap), R0 = some (.ret (.int .i64 z), H') ∧ Ext H H' ∧ (decide (z ≥ 0) = !s.all wbB) := by
    refine ⟨_, callG_fn (K.nil _ _ _ rfl) Tryd.func58 (c := codeOf Tryd.f58) rfl rfl rfl (pr := noPr) rfl, ?_⟩
    rw [code58]
    generalize hF : finE PP Tryd.f58 = F
    have hr : rangeA PP 9 (.string ⟨⟨s⟩⟩) H = some (.pointer (some ⟨H.next, 0, none⟩), H.allocO (.stringIter ⟨⟨s⟩⟩ 0)) := by simp only [rangeA, undStr]
    have x1 : Ext H (H.allocO (.stringIter ⟨⟨s⟩⟩ 0)) := by
      refine ⟨Nat.le_succ _, fun b y hy => ?_, fun b hb => ?_⟩
      · have := lt_next hG.fresh hy
        rw [Heap.get_allocO, if_neg (by omega)]; exact hy
      · have hb' : H.next + 1 ≤ b := hb
        rw [Heap.get_allocO, if_neg (by omega)]; exact hG.fresh b (by omega)
    have l0 := tl (rgn Tryd.f58 0)
    conv at l0 => rhs; simp only [rgn, opsAt, codeOf, Tryd.f58, gS, gN, reduceIte, Nat.reduceEqDiff, tA]
    have l1 := tl (rgn Tryd.f58 1)
    conv at l1 => rhs; simp only [rgn, opsAt, codeOf, Tryd.f58, gS, gN, reduceIte, Nat.reduceEqDiff, tA]
    have l6 := tl (rgn Tryd.f58 6)
    conv at l6 => rhs; simp only [rgn, opsAt, codeOf, Tryd.f58, gS, gN, reduceIte, Nat.reduceEqDiff, tA]
    simp (decide := true) only [↓execG_seq, ↓g_region, ↓execG_block, thenE_norm, ↓r_nil, ↓r_cons, ↓o_move, ↓o_assign, nextE_app, putK_app, normK_app, evalE_tmp, evalE_const, upd_some, bindV_ok, reduceIte, startE_0, ↓reg_lit l0, ↓reg_lit l1, ↓execG_loop, ↓o_range, hr]
    refine x_idx (s := s) (H0 := H) (q := H.next) (Q := fun r => ∃ (z : Int) (H' : Heap), r = some (.ret (.int .i64 z), H') ∧ Ext H H' ∧ (decide (z ≥ 0) = !s.all wbB)) K hG (Nat.le_refl _) s.length 0 N (by omega) hN ?_ ?_ ?_ x1 (Nat.lt_succ_self _) (by rw [Heap.get_allocO, if_pos rfl]; rfl) (fun ha E' H' hE => ?_) (fun ha E' H' j e6 hE => ?_)
    · simp (decide := true) only [upd_some, reduceIte, startE_1]
    · simp (decide := true) only [upd_some, reduceIte, startE_2]
    · simp (decide := true) only [upd_some, reduceIte]
    · rw [List.drop_zero] at ha
      refine ⟨-1, H', ?_, hE, by rw [ha]; rfl⟩
      simp (decide := true) only [↓execG_seq, ↓g_region, ↓execG_ret, thenE_norm, g_leave, ↓r_nil, ↓r_cons, ↓o_assign, nextE_app, normK_app, evalE_const, ↓reg_lit l6]
      rw [← hF, finE_ret (l := [.int .i64 (-1)]) (by simp (decide := true) [Tryd.f58, resE, upd_some])]
      rfl
    · rw [List.drop_zero] at ha
      refine ⟨j, H', ?_, hE, by rw [ha, decide_eq_true (by omega)]; rfl⟩
      simp (decide := true) only [thenE_ret, leaveB_ret]
      rw [← hF, finE_ret (l := [.int .i64 (j : Int)]) (by simp (decide := true) [Tryd.f58, resE, e6])]
      rfl
  obtain ⟨R0, m1, z, H', m2, m3⟩ := main
  exact ⟨z, H', m1.trans m2, m3⟩
theorem call_has (K : HkOk hk) (hG : Ext GE H) (hN : s.length < N) : ∃ H', CG N hk (d + 6) 27 #[.string ⟨⟨s⟩⟩, .func (.func 28) #[] #[]] H = some (.ret (.bool (!s.all wbB)), H') ∧ Ext H H' := by
  obtain ⟨z, H', h1, h2, h3⟩ := call_idx (N := N) (hk := hk) (d := d) K hG hN
  have m43 : ∃ R0 : R, CG N hk (d + 5) 43 #[.string ⟨⟨s⟩⟩, .func (.func 28) #[] #[]] H = R0 ∧ R0 = some (.ret (.int .i64 z), H') := by
    refine ⟨_, callG_fn (K.nil _ _ _ rfl) Tryd.func43 (c := codeOf Tryd.f43) rfl rfl rfl (pr := noPr) rfl, ?_⟩
    rw [code43]
    generalize hF : finE PP Tryd.f43 = F
    have l0 := tl (rgn Tryd.f43 0)
    conv at l0 => rhs; simp only [rgn, opsAt, codeOf, Tryd.f43, gS, gN, reduceIte, Nat.reduceEqDiff, tA]
    have l1 := tl (rgn Tryd.f43 1)
    conv at l1 => rhs; simp only [rgn, opsAt, codeOf, Tryd.f43, gS, gN, reduceIte, Nat.reduceEqDiff, tA]
    simp (decide := true) only [↓execG_seq, ↓g_region, ↓execG_ret, thenE_norm, ↓r_nil, ↓r_cons, ↓o_move, ↓o_assign, ↓o_callf, nextE_app, putK_app, normK_app, evalE_tmp, evalE_const, upd_some, reduceIte, map_three, startE_0, startE_1, ↓reg_lit l0, ↓reg_lit l1, callK_fn Tryd.func58 rfl rfl h1]
    rw [← hF, finE_ret (l := [.int .i64 z]) (by simp (decide := true) [Tryd.f43, resE, upd_some])]
    rfl
  obtain ⟨R1, n1, n2⟩ := m43
  have h43 := n1.trans n2
  have m27 : ∃ R0 : R, CG N hk (d + 6) 27 #[.string ⟨⟨s⟩⟩, .func (.func 28) #[] #[]] H = R0 ∧ R0 = some (.ret (.bool (!s.all wbB)), H') := by
    refine ⟨_, callG_fn (K.nil _ _ _ rfl) Tryd.func27 (c := codeOf Tryd.f27) rfl rfl rfl (pr := noPr) rfl, ?_⟩
    rw [code27]
    generalize hF : finE PP Tryd.f27 = F
    have l0 := tl (rgn Tryd.f27 0)
    conv at l0 => rhs; simp only [rgn, opsAt, codeOf, Tryd.f27, gS, gN, reduceIte, Nat.reduceEqDiff, tA]
    have l1 := tl (rgn Tryd.f27 1)
    conv at l1 => rhs; simp only [rgn, opsAt, codeOf, Tryd.f27, gS, gN, reduceIte, Nat.reduceEqDiff, tA]
    simp (decide := true) only [↓execG_seq, ↓g_region, ↓execG_ret, thenE_norm, ↓r_nil, ↓r_cons, ↓o_move, ↓o_assign, ↓o_binOp, ↓o_callf, nextE_app, putK_app, putG_bool, normK_app, evalE_tmp, evalE_const, upd_some, bindO_ok, reduceIte, map_two, startE_0, startE_1, ↓reg_lit l0, ↓reg_lit l1, callK_fn Tryd.func43 rfl rfl h43, binA_geq, h3]
    rw [← hF, finE_ret (l := [.bool (!s.all wbB)]) (by simp (decide := true) [Tryd.f27, resE, upd_some])]
    rfl
  obtain ⟨R2, o1, o2⟩ := m27
  exact ⟨H', o1.trans o2, h2⟩
theorem call_legal (K : HkOk hk) (hG : Ext GE H) (hsm : s.length < 9223372036854775807) (hN : 100 < N) : ∃ H', CG N hk (d + 7) 12 #[.string ⟨⟨s⟩⟩] H = some (.ret (.bool (legalI s)), H') ∧ Ext H H' := by
  have self : Ext H H := ⟨Nat.le_refl _, fun _ _ h => h, hG.fresh⟩
  have main : ∃ R0 : R, CG N hk (d + 7) 12 #[.string ⟨⟨s⟩⟩] H = R0 ∧ ∃ H', R0 = some (.ret (.bool (legalI s)), H') ∧ Ext H H' := by
    refine ⟨_, callG_fn (K.nil _ _ _ rfl) Tryd.func12 (c := codeOf Tryd.f12) rfl rfl rfl (pr := noPr) rfl, ?_⟩
    rw [code12]
    generalize hF : finE PP Tryd.f12 = F
    have l0 := tl (rgn Tryd.f12 0)
    conv at l0 => rhs; simp only [rgn, opsAt, codeOf, Tryd.f12, gS, gN, reduceIte, Nat.reduceEqDiff, tA]
    have l1 := tl (rgn Tryd.f12 1)
    conv at l1 => rhs; simp only [rgn, opsAt, codeOf, Tryd.f12, gS, gN, reduceIte, Nat.reduceEqDiff, tA]
    have l2 := tl (rgn Tryd.f12 2)
    conv at l2 => rhs; simp only [rgn, opsAt, codeOf, Tryd.f12, gS, gN, reduceIte, Nat.reduceEqDiff, tA]
    have l3 := tl (rgn Tryd.f12 3)
    conv at l3 => rhs; simp only [rgn, opsAt, codeOf, Tryd.f12, gS, gN, reduceIte, Nat.reduceEqDiff, tA]
    by_cases h1 : s.length < 1
    · have g1 : decide ((s.length : Int) < 1) = true := decide_eq_true (by omega)
      have hl : legalI s = false := by unfold legalI; rw [decide_eq_false (show ¬ 1 ≤ s.length by omega)]; rfl
      refine ⟨H, ?_, self⟩
      simp (decide := true) only [↓execG_seq, ↓g_region, ↓execG_ret, ↓g_if, thenE_norm, thenE_ret, ↓r_nil, ↓r_cons, ↓o_move, ↓o_assign, ↓o_pickt, ↓o_binOp, ↓o_builtin, nextE_app, putK_app, putG_bool, normK_app, evalE_tmp, evalE_const, upd_some, bindO_ok, reduceIte, map_one, startE_0, Bool.not_false, ↓reg_lit l0, ↓reg_lit l1, ↓reg_lit l2, ↓r_no _ 3 false 6 _ gd12_1_3, ↓r_no _ 8 false 11 _ gd12_1_8, ↓r_no _ 14 false 17 _ gd12_1_14, len_str, binA_lss, g1]
      rw [← hF, finE_ret (l := [.bool false]) (by simp (decide := true) [Tryd.f12, resE, upd_some])]
      rw [hl]; rfl
    have g1 : decide ((s.length : Int) < 1) = false := decide_eq_false (by omega)
    by_cases h2 : 32 < s.length
    · have g2 : decide ((s.length : Int) > 32) = true := decide_eq_true (by omega)
      have hl : legalI s = false := by unfold legalI; rw [decide_eq_false (show ¬ s.length ≤ 32 by omega), Bool.and_false]; rfl
      refine ⟨H, ?_, self⟩
      simp (decide := true) only [↓execG_seq, ↓g_region, ↓execG_ret, ↓g_if, thenE_norm, thenE_ret, ↓r_nil, ↓r_cons, ↓o_move, ↓o_assign, ↓o_pickt, ↓o_pickf, ↓o_binOp, ↓o_builtin, nextE_app, putK_app, putG_bool, normK_app, evalE_tmp, evalE_const, upd_some, bindO_ok, reduceIte, map_one, startE_0, Bool.not_false, ↓reg_lit l0, ↓reg_lit l1, ↓reg_lit l2, ↓r_yes _ 3 false 6 _ gd12_1_3, ↓r_no _ 8 false 11 _ gd12_1_8, ↓r_no _ 14 false 17 _ gd12_1_14, len_str, binA_lss, binA_gtr, g1, g2]
      rw [← hF, finE_ret (l := [.bool false]) (by simp (decide := true) [Tryd.f12, resE, upd_some])]
      rw [hl]; rfl
    have g2 : decide ((s.length : Int) > 32) = false := decide_eq_false (by omega)
    have h0 : 0 < s.length := by omega
    have hix : indexA PP 9 (.string ⟨⟨s⟩⟩) (.int .i64 0) = some (.int .u8 (s[0].toNat : Int)) := idx_str (i := 0) h0
    have hcl := call_cls (N := N) (hk := hk) (d := d + 5) hG s[0] (fun _ _ => K.nil _ _ _ rfl)
    have hcl : CG N hk (d + 6) 26 #[.int .u8 (s[0].toNat : Int)] H = some (.ret (.int .u8 (clsI s[0])), H) := hcl
    have hhd : s.headD 0 = s[0] := by
      cases s with
      | nil => simp at h0
      | cons u r => rfl
    by_cases h4 : clsI s[0] = 4
    · have g4 : (clsI s[0] != 4) = false := by rw [h4]; rfl
      obtain ⟨H1, x1, hres⟩ := call_res (N := N) (hk := hk) (d := d + 4) hG s (by omega) K.nil K.fields
      have hres : CG N hk (d + 6) 16 #[.string ⟨⟨s⟩⟩] H = some (.ret (.int .i64 (resI s)), H1) := hres
      by_cases hr : resI s = 0
      · have gr : (resI s != 0) = false := by rw [hr]; rfl
        obtain ⟨H2, hh, x2⟩ := call_has (N := N) (hk := hk) (d := d) (H := H1) (s := s) K (hG.trans x1) (by omega)
        have hl : legalI s = s.all wbB := by
          unfold legalI
          rw [decide_eq_true (show 1 ≤ s.length by omega), decide_eq_true (show s.length ≤ 32 by omega), hhd, decide_eq_true h4, decide_eq_true hr]; rfl
        have hn : ∀ b : Bool, unA PP .not (.bool (!b)) = some (.bool b) := fun b => by cases b <;> kernel_rfl
        refine ⟨H2, ?_, x1.trans x2⟩
        simp (decide := true) only [↓execG_seq, ↓g_region, ↓execG_ret, ↓execG_skip, ↓g_else, thenE_norm, ↓r_nil, ↓r_cons, ↓o_move, ↓o_assign, ↓o_pickf, ↓o_binOp, ↓o_unOp, ↓o_index, ↓o_builtin, ↓o_callf, nextE_app, putK_app, putO_app, putG_bool, normK_app, evalE_tmp, evalE_const, evalE_func, upd_some, bindO_ok, reduceIte, map_one, map_two, startE_0, ↓reg_lit l0, ↓reg_lit l1, ↓reg_lit l3, ↓r_yes _ 3 false 6 _ gd12_1_3, ↓r_yes _ 8 false 11 _ gd12_1_8, ↓r_yes _ 14 false 17 _ gd12_1_14, len_str, binA_lss, binA_gtr, binA_neq, g1, g2, hix, callK_fn Tryd.func26 rfl rfl hcl, g4, callK_fn Tryd.func16 rfl rfl hres, gr, callK_fn Tryd.func27 rfl rfl hh, hn]
        rw [← hF, finE_ret (l := [.bool (s.all wbB)]) (by simp (decide := true) [Tryd.f12, resE, upd_some])]
        rw [hl]; rfl
      · have gr : (resI s != 0) = true := by simpa using hr
        have hl : legalI s = false := by unfold legalI; rw [decide_eq_false hr, Bool.and_false]; rfl
        refine ⟨H1, ?_, x1⟩
        simp (decide := true) only [↓execG_seq, ↓g_region, ↓execG_ret, ↓g_if, thenE_norm, thenE_ret, ↓r_nil, ↓r_cons, ↓o_move, ↓o_assign, ↓o_pickf, ↓o_binOp, ↓o_index, ↓o_builtin, ↓o_callf, nextE_app, putK_app, putO_app, putG_bool, normK_app, evalE_tmp, evalE_const, upd_some, bindO_ok, reduceIte, map_one, startE_0, ↓reg_lit l0, ↓reg_lit l1, ↓reg_lit l2, ↓r_yes _ 3 false 6 _ gd12_1_3, ↓r_yes _ 8 false 11 _ gd12_1_8, ↓r_yes _ 14 false 17 _ gd12_1_14, len_str, binA_lss, binA_gtr, binA_neq, g1, g2, hix, callK_fn Tryd.func26 rfl rfl hcl, g4, callK_fn Tryd.func16 rfl rfl hres, gr]
        rw [← hF, finE_ret (l := [.bool false]) (by simp (decide := true) [Tryd.f12, resE, upd_some])]
        rw [hl]; rfl
    · have g4 : (clsI s[0] != 4) = true := by simpa using h4
      have hl : legalI s = false := by unfold legalI; rw [hhd, decide_eq_false h4, Bool.and_false]; rfl
      refine ⟨H, ?_, self⟩
      simp (decide := true) only [↓execG_seq, ↓g_region, ↓execG_ret, ↓g_if, thenE_norm, thenE_ret, ↓r_nil, ↓r_cons, ↓o_move, ↓o_assign, ↓o_pickt, ↓o_pickf, ↓o_binOp, ↓o_index, ↓o_builtin, ↓o_callf, nextE_app, putK_app, putO_app, putG_bool, normK_app, evalE_tmp, evalE_const, upd_some, bindO_ok, reduceIte, map_one, startE_0, Bool.not_false, ↓reg_lit l0, ↓reg_lit l1, ↓reg_lit l2, ↓r_yes _ 3 false 6 _ gd12_1_3, ↓r_yes _ 8 false 11 _ gd12_1_8, ↓r_no _ 14 false 17 _ gd12_1_14, len_str, binA_lss, binA_gtr, binA_neq, g1, g2, hix, callK_fn Tryd.func26 rfl rfl hcl, g4]
      rw [← hF, finE_ret (l := [.bool false]) (by simp (decide := true) [Tryd.f12, resE, upd_some])]
      rw [hl]; rfl
  obtain ⟨R0, m1, H', m2, m3⟩ := main
  exact ⟨H', m1.trans m2, m3⟩
end
end Go.Am
