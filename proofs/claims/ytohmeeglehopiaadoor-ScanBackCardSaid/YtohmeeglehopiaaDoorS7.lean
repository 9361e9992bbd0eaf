/- A text: its escapes. -/
import Derived.Test.YtohmeeglehopiaaDoorS6
open Go.Proofs
namespace Go.Am
section
set_option maxRecDepth 100000 in
theorem e_end {N : Nat} {H0 H : Heap} {a : Option Addr} {c : Nat} {s : List UInt8} {b t i : Nat} {E : Env} {Q : R → Prop} {k : KOE} {hk : Hook} {d : Nat} {v : Value} {o : List UInt8} (x : Ctx H0 a c s b) (h : Txt H0 H b a s.length c i v o) (hi : i < s.length) (e0 : E 0 = .pointer (some ⟨b, 0, none⟩)) (e1 : E 1 = .pointer (some ⟨t, 0, none⟩)) (e5 : E 5 = v) (hj : i + 1 = s.length) (hx : ∀ E' H', E' 4 = .bool false → Txt H0 H' b a s.length c (i + 1) v o → Q (k .ret E' [] H')) :
    Q (execG PP XX (CG N hk (d + 2)) N noPr (.seq (.region 15 (rgn Tryd.f41 15) false) (.seq (.seq (.region 16 (rgn Tryd.f41 16) true) (.cond (.tmp 80) (.seq (.region 17 (rgn Tryd.f41 17) false) (.ret)) (.skip))) (.seq (.seq (.region 18 (rgn Tryd.f41 18) true) (.seq (.region 19 (rgn Tryd.f41 19) false) (.block 1 (.seq (.region 21 (rgn Tryd.f41 21) false) (.cond (.tmp 92) (.region 22 (rgn Tryd.f41 22) false) (.seq (.region 23 (rgn Tryd.f41 23) false) (.cond (.tmp 94) (.region 24 (rgn Tryd.f41 24) false) (.seq (.seq (.region 25 (rgn Tryd.f41 25) false) (.cond (.tmp 96) (.skip) (.region 26 (rgn Tryd.f41 26) false))) (.cond (.tmp 96) (.skip) (.seq (.region 27 (rgn Tryd.f41 27) false) (.cond (.tmp 99) (.seq (.region 28 (rgn Tryd.f41 28) false) (.seq (.seq (.region 29 (rgn Tryd.f41 29) false) (.block 2 (.loop (.seq (.region 30 (rgn Tryd.f41 30) false) (.seq (.cond (.tmp 102) (.skip) (.exit 2)) (.seq (.block 3 (.seq (.region 31 (rgn Tryd.f41 31) false) (.seq (.seq (.region 32 (rgn Tryd.f41 32) true) (.cond (.tmp 133) (.seq (.region 33 (rgn Tryd.f41 33) false) (.ret)) (.skip))) (.region 34 (rgn Tryd.f41 34) true)))) (.region 35 (rgn Tryd.f41 35) false))))))) (.region 36 (rgn Tryd.f41 36) false))) (.seq (.region 20 (rgn Tryd.f41 20) false) (.ret))))))))))))) (.seq (.region 37 (rgn Tryd.f41 37) false) (.goto 0))))) none E [] H k) := by
  have hsm := x.row.small
  have w1 : IntKind.i64.wrap ((i : Int) + 1) = ((i + 1 : Nat) : Int) := by rw [wrap_i64 (by omega) (by omega)]; omega
  have hz : (((i + 1 : Nat) : Int) == (s.length : Int)) = decide (i + 1 = s.length) := by
    rw [Bool.eq_iff_iff, beq_iff_eq, decide_eq_true_eq]; omega
  have h1 := h.set x.lt (i + 1)
  rw [decide_eq_true hj] at hz
  have l15 := tl (rgn Tryd.f41 15)
  conv at l15 => rhs; simp only [rgn, opsAt, codeOf, Tryd.f41, gS, gN, reduceIte, Nat.reduceEqDiff, tA]
  have l16 := tl (rgn Tryd.f41 16)
  conv at l16 => rhs; simp only [rgn, opsAt, codeOf, Tryd.f41, gS, gN, reduceIte, Nat.reduceEqDiff, tA]
  have l17 := tl (rgn Tryd.f41 17)
  conv at l17 => rhs; simp only [rgn, opsAt, codeOf, Tryd.f41, gS, gN, reduceIte, Nat.reduceEqDiff, tA]
  simp (decide := true) only [↓execG_seq, ↓g_region, ↓execG_ret, ↓g_if, thenE_norm, thenE_ret, ↓r_nil, ↓r_cons, ↓o_move, ↓o_assign, ↓o_load, ↓o_store, ↓o_nilCheck, ↓o_binOp, ↓o_fieldAddr, ↓o_builtin, nextE_app, putK_app, putO_app, putG_bool, putG_int, normK_app, nilCheckA_ok, evalE_tmp, evalE_const, upd_some, upd_none, bindO_ok, bindV_ok, reduceIte, map_one, ↓reg_lit l15, ↓reg_lit l16, ↓reg_lit l17, e0, fld0, fld1, load_at h.here, binA_add, w1, store_at h.here, load_at h1.here, load_src h1.here, len_slice (ts := #[26]) rfl und34, binA_eql, hz]
  exact hx _ _ (by simp (decide := true) only [upd_some, reduceIte]) h1
set_option maxRecDepth 100000 in
theorem e_n {N : Nat} {H0 H : Heap} {a : Option Addr} {c : Nat} {s : List UInt8} {b t i : Nat} {E : Env} {Q : R → Prop} {k : KOE} {hk : Hook} {d : Nat} {v : Value} {o : List UInt8} (x : Ctx H0 a c s b) (h : Txt H0 H b a s.length c i v o) (hi : i < s.length) (e0 : E 0 = .pointer (some ⟨b, 0, none⟩)) (e1 : E 1 = .pointer (some ⟨t, 0, none⟩)) (e5 : E 5 = v) (hj : ¬ i + 1 = s.length) (hc : s.getD (i + 1) 0 = 110) (hn : o.length ≤ 1048576)
    (hx : ∀ E' H' v', E' 0 = .pointer (some ⟨b, 0, none⟩) → E' 1 = .pointer (some ⟨t, 0, none⟩) → E' 5 = v' → Txt H0 H' b a s.length c (i + 1) v' (o ++ [10]) → Q (k (.goto 0) E' [] H')) :
    Q (execG PP XX (CG N hk (d + 2)) N noPr (.seq (.region 15 (rgn Tryd.f41 15) false) (.seq (.seq (.region 16 (rgn Tryd.f41 16) true) (.cond (.tmp 80) (.seq (.region 17 (rgn Tryd.f41 17) false) (.ret)) (.skip))) (.seq (.seq (.region 18 (rgn Tryd.f41 18) true) (.seq (.region 19 (rgn Tryd.f41 19) false) (.block 1 (.seq (.region 21 (rgn Tryd.f41 21) false) (.cond (.tmp 92) (.region 22 (rgn Tryd.f41 22) false) (.seq (.region 23 (rgn Tryd.f41 23) false) (.cond (.tmp 94) (.region 24 (rgn Tryd.f41 24) false) (.seq (.seq (.region 25 (rgn Tryd.f41 25) false) (.cond (.tmp 96) (.skip) (.region 26 (rgn Tryd.f41 26) false))) (.cond (.tmp 96) (.skip) (.seq (.region 27 (rgn Tryd.f41 27) false) (.cond (.tmp 99) (.seq (.region 28 (rgn Tryd.f41 28) false) (.seq (.seq (.region 29 (rgn Tryd.f41 29) false) (.block 2 (.loop (.seq (.region 30 (rgn Tryd.f41 30) false) (.seq (.cond (.tmp 102) (.skip) (.exit 2)) (.seq (.block 3 (.seq (.region 31 (rgn Tryd.f41 31) false) (.seq (.seq (.region 32 (rgn Tryd.f41 32) true) (.cond (.tmp 133) (.seq (.region 33 (rgn Tryd.f41 33) false) (.ret)) (.skip))) (.region 34 (rgn Tryd.f41 34) true)))) (.region 35 (rgn Tryd.f41 35) false))))))) (.region 36 (rgn Tryd.f41 36) false))) (.seq (.region 20 (rgn Tryd.f41 20) false) (.ret))))))))))))) (.seq (.region 37 (rgn Tryd.f41 37) false) (.goto 0))))) none E [] H k) := by
  have hsm := x.row.small
  have w1 : IntKind.i64.wrap ((i : Int) + 1) = ((i + 1 : Nat) : Int) := by rw [wrap_i64 (by omega) (by omega)]; omega
  have hz : (((i + 1 : Nat) : Int) == (s.length : Int)) = decide (i + 1 = s.length) := by
    rw [Bool.eq_iff_iff, beq_iff_eq, decide_eq_true_eq]; omega
  have h1 := h.set x.lt (i + 1)
  have hj : i + 1 < s.length := by omega
  have hgd : s.getD (i + 1) 0 = s[i + 1] := by simp [List.getD, hj]
  rw [decide_eq_false (by omega)] at hz
  obtain ⟨y, rfl, hl⟩ := (h1.row x).bts.cell (i + 1) hj
  have hix := index_row (n := s.length) (c := c) (a := y) hj
  have hcv : s[i + 1] = 110 := by rw [← hgd]; exact hc
  have z110 : ((110 : Int) == 110) = true := rfl
  have hcn : (s[i + 1].toNat : Int) = 110 := by rw [hcv]; rfl
  obtain ⟨v', H', a1, a2⟩ := h1.add x.gg.fresh x.lt 10 hn
  have a1 : appendA PP #[26, 26] v (.slice (some ⟨(H.set b (cur (some y) s.length c (i + 1))).next, 0, none⟩) 1 1) ((H.set b (cur (some y) s.length c (i + 1))).alloc 1 [.int .u8 10]) = some (v', H') := a1
  have l15 := tl (rgn Tryd.f41 15)
  conv at l15 => rhs; simp only [rgn, opsAt, codeOf, Tryd.f41, gS, gN, reduceIte, Nat.reduceEqDiff, tA]
  have l16 := tl (rgn Tryd.f41 16)
  conv at l16 => rhs; simp only [rgn, opsAt, codeOf, Tryd.f41, gS, gN, reduceIte, Nat.reduceEqDiff, tA]
  have l18 := tl (rgn Tryd.f41 18)
  conv at l18 => rhs; simp only [rgn, opsAt, codeOf, Tryd.f41, gS, gN, reduceIte, Nat.reduceEqDiff, tA]
  have l19 := tl (rgn Tryd.f41 19)
  conv at l19 => rhs; simp only [rgn, opsAt, codeOf, Tryd.f41, gS, gN, reduceIte, Nat.reduceEqDiff, tA]
  have l21 := tl (rgn Tryd.f41 21)
  conv at l21 => rhs; simp only [rgn, opsAt, codeOf, Tryd.f41, gS, gN, reduceIte, Nat.reduceEqDiff, tA]
  have l22 := tl (rgn Tryd.f41 22)
  conv at l22 => rhs; simp only [rgn, opsAt, codeOf, Tryd.f41, gS, gN, reduceIte, Nat.reduceEqDiff, tA]
  have l37 := tl (rgn Tryd.f41 37)
  conv at l37 => rhs; simp only [rgn, opsAt, codeOf, Tryd.f41, gS, gN, reduceIte, Nat.reduceEqDiff, tA]
  simp (decide := true) only [↓execG_seq, ↓g_region, ↓execG_block, ↓execG_skip, ↓g_if, ↓g_else, thenE_norm, leaveB_norm, ↓r_nil, ↓r_cons, ↓o_move, ↓o_assign, ↓o_buildSlice, ↓o_load, ↓o_store, ↓o_nilCheck, ↓o_binOp, ↓o_fieldAddr, ↓o_indexAddr, ↓o_builtin, nextE_app, putK_app, putO_app, putG_bool, putG_int, normK_app, nilCheckA_ok, evalE_tmp, evalE_const, upd_some, upd_none, bindO_ok, bindV_ok, reduceIte, map_one, map_two, ↓reg_lit l15, ↓reg_lit l16, ↓reg_lit l18, ↓reg_lit l19, ↓reg_lit l21, ↓reg_lit l22, ↓reg_lit l37, ↓execG_goto, beq_self_eq_true, e5, hcn, bslice1, app_bytes, a1, e0, fld0, fld1, load_at h.here, binA_add, w1, store_at h.here, load_at h1.here, load_src h1.here, len_slice (ts := #[26]) rfl und34, binA_eql, hz, hix, load_byte hl]
  exact hx _ H' v' (by simp (decide := true) only [upd_some, reduceIte, e0]) (by simp (decide := true) only [upd_some, reduceIte, e1]) (by simp (decide := true) only [upd_some, reduceIte]) a2
set_option maxRecDepth 100000 in
theorem e_t {N : Nat} {H0 H : Heap} {a : Option Addr} {c : Nat} {s : List UInt8} {b t i : Nat} {E : Env} {Q : R → Prop} {k : KOE} {hk : Hook} {d : Nat} {v : Value} {o : List UInt8} (x : Ctx H0 a c s b) (h : Txt H0 H b a s.length c i v o) (hi : i < s.length) (e0 : E 0 = .pointer (some ⟨b, 0, none⟩)) (e1 : E 1 = .pointer (some ⟨t, 0, none⟩)) (e5 : E 5 = v) (hj : ¬ i + 1 = s.length) (hc : s.getD (i + 1) 0 = 116) (hn : o.length ≤ 1048576)
    (hx : ∀ E' H' v', E' 0 = .pointer (some ⟨b, 0, none⟩) → E' 1 = .pointer (some ⟨t, 0, none⟩) → E' 5 = v' → Txt H0 H' b a s.length c (i + 1) v' (o ++ [9]) → Q (k (.goto 0) E' [] H')) :
    Q (execG PP XX (CG N hk (d + 2)) N noPr (.seq (.region 15 (rgn Tryd.f41 15) false) (.seq (.seq (.region 16 (rgn Tryd.f41 16) true) (.cond (.tmp 80) (.seq (.region 17 (rgn Tryd.f41 17) false) (.ret)) (.skip))) (.seq (.seq (.region 18 (rgn Tryd.f41 18) true) (.seq (.region 19 (rgn Tryd.f41 19) false) (.block 1 (.seq (.region 21 (rgn Tryd.f41 21) false) (.cond (.tmp 92) (.region 22 (rgn Tryd.f41 22) false) (.seq (.region 23 (rgn Tryd.f41 23) false) (.cond (.tmp 94) (.region 24 (rgn Tryd.f41 24) false) (.seq (.seq (.region 25 (rgn Tryd.f41 25) false) (.cond (.tmp 96) (.skip) (.region 26 (rgn Tryd.f41 26) false))) (.cond (.tmp 96) (.skip) (.seq (.region 27 (rgn Tryd.f41 27) false) (.cond (.tmp 99) (.seq (.region 28 (rgn Tryd.f41 28) false) (.seq (.seq (.region 29 (rgn Tryd.f41 29) false) (.block 2 (.loop (.seq (.region 30 (rgn Tryd.f41 30) false) (.seq (.cond (.tmp 102) (.skip) (.exit 2)) (.seq (.block 3 (.seq (.region 31 (rgn Tryd.f41 31) false) (.seq (.seq (.region 32 (rgn Tryd.f41 32) true) (.cond (.tmp 133) (.seq (.region 33 (rgn Tryd.f41 33) false) (.ret)) (.skip))) (.region 34 (rgn Tryd.f41 34) true)))) (.region 35 (rgn Tryd.f41 35) false))))))) (.region 36 (rgn Tryd.f41 36) false))) (.seq (.region 20 (rgn Tryd.f41 20) false) (.ret))))))))))))) (.seq (.region 37 (rgn Tryd.f41 37) false) (.goto 0))))) none E [] H k) := by
  have hsm := x.row.small
  have w1 : IntKind.i64.wrap ((i : Int) + 1) = ((i + 1 : Nat) : Int) := by rw [wrap_i64 (by omega) (by omega)]; omega
  have hz : (((i + 1 : Nat) : Int) == (s.length : Int)) = decide (i + 1 = s.length) := by
    rw [Bool.eq_iff_iff, beq_iff_eq, decide_eq_true_eq]; omega
  have h1 := h.set x.lt (i + 1)
  have hj : i + 1 < s.length := by omega
  have hgd : s.getD (i + 1) 0 = s[i + 1] := by simp [List.getD, hj]
  rw [decide_eq_false (by omega)] at hz
  obtain ⟨y, rfl, hl⟩ := (h1.row x).bts.cell (i + 1) hj
  have hix := index_row (n := s.length) (c := c) (a := y) hj
  have hcv : s[i + 1] = 116 := by rw [← hgd]; exact hc
  have z110 : ((116 : Int) == 110) = false := rfl
  have z116 : ((116 : Int) == 116) = true := rfl
  have hcn : (s[i + 1].toNat : Int) = 116 := by rw [hcv]; rfl
  obtain ⟨v', H', a1, a2⟩ := h1.add x.gg.fresh x.lt 9 hn
  have a1 : appendA PP #[26, 26] v (.slice (some ⟨(H.set b (cur (some y) s.length c (i + 1))).next, 0, none⟩) 1 1) ((H.set b (cur (some y) s.length c (i + 1))).alloc 1 [.int .u8 9]) = some (v', H') := a1
  have l15 := tl (rgn Tryd.f41 15)
  conv at l15 => rhs; simp only [rgn, opsAt, codeOf, Tryd.f41, gS, gN, reduceIte, Nat.reduceEqDiff, tA]
  have l16 := tl (rgn Tryd.f41 16)
  conv at l16 => rhs; simp only [rgn, opsAt, codeOf, Tryd.f41, gS, gN, reduceIte, Nat.reduceEqDiff, tA]
  have l18 := tl (rgn Tryd.f41 18)
  conv at l18 => rhs; simp only [rgn, opsAt, codeOf, Tryd.f41, gS, gN, reduceIte, Nat.reduceEqDiff, tA]
  have l19 := tl (rgn Tryd.f41 19)
  conv at l19 => rhs; simp only [rgn, opsAt, codeOf, Tryd.f41, gS, gN, reduceIte, Nat.reduceEqDiff, tA]
  have l21 := tl (rgn Tryd.f41 21)
  conv at l21 => rhs; simp only [rgn, opsAt, codeOf, Tryd.f41, gS, gN, reduceIte, Nat.reduceEqDiff, tA]
  have l23 := tl (rgn Tryd.f41 23)
  conv at l23 => rhs; simp only [rgn, opsAt, codeOf, Tryd.f41, gS, gN, reduceIte, Nat.reduceEqDiff, tA]
  have l24 := tl (rgn Tryd.f41 24)
  conv at l24 => rhs; simp only [rgn, opsAt, codeOf, Tryd.f41, gS, gN, reduceIte, Nat.reduceEqDiff, tA]
  have l37 := tl (rgn Tryd.f41 37)
  conv at l37 => rhs; simp only [rgn, opsAt, codeOf, Tryd.f41, gS, gN, reduceIte, Nat.reduceEqDiff, tA]
  simp (decide := true) only [↓execG_seq, ↓g_region, ↓execG_block, ↓execG_skip, ↓g_if, ↓g_else, thenE_norm, leaveB_norm, ↓r_nil, ↓r_cons, ↓o_move, ↓o_assign, ↓o_buildSlice, ↓o_load, ↓o_store, ↓o_nilCheck, ↓o_binOp, ↓o_fieldAddr, ↓o_indexAddr, ↓o_builtin, nextE_app, putK_app, putO_app, putG_bool, putG_int, normK_app, nilCheckA_ok, evalE_tmp, evalE_const, upd_some, upd_none, bindO_ok, bindV_ok, reduceIte, map_one, map_two, ↓reg_lit l15, ↓reg_lit l16, ↓reg_lit l18, ↓reg_lit l19, ↓reg_lit l21, ↓reg_lit l23, ↓reg_lit l24, ↓reg_lit l37, ↓execG_goto, beq_self_eq_true, e5, z110, hcn, bslice1, app_bytes, a1, e0, fld0, fld1, load_at h.here, binA_add, w1, store_at h.here, load_at h1.here, load_src h1.here, len_slice (ts := #[26]) rfl und34, binA_eql, hz, hix, load_byte hl]
  exact hx _ H' v' (by simp (decide := true) only [upd_some, reduceIte, e0]) (by simp (decide := true) only [upd_some, reduceIte, e1]) (by simp (decide := true) only [upd_some, reduceIte]) a2
set_option maxRecDepth 100000 in
theorem e_q {N : Nat} {H0 H : Heap} {a : Option Addr} {c : Nat} {s : List UInt8} {b t i : Nat} {E : Env} {Q : R → Prop} {k : KOE} {hk : Hook} {d : Nat} {v : Value} {o : List UInt8} (x : Ctx H0 a c s b) (h : Txt H0 H b a s.length c i v o) (hi : i < s.length) (e0 : E 0 = .pointer (some ⟨b, 0, none⟩)) (e1 : E 1 = .pointer (some ⟨t, 0, none⟩)) (e5 : E 5 = v) (hj : ¬ i + 1 = s.length) (hc : s.getD (i + 1) 0 = 34) (hn : o.length ≤ 1048576)
    (hx : ∀ E' H' v', E' 0 = .pointer (some ⟨b, 0, none⟩) → E' 1 = .pointer (some ⟨t, 0, none⟩) → E' 5 = v' → Txt H0 H' b a s.length c (i + 1) v' (o ++ [34]) → Q (k (.goto 0) E' [] H')) :
    Q (execG PP XX (CG N hk (d + 2)) N noPr (.seq (.region 15 (rgn Tryd.f41 15) false) (.seq (.seq (.region 16 (rgn Tryd.f41 16) true) (.cond (.tmp 80) (.seq (.region 17 (rgn Tryd.f41 17) false) (.ret)) (.skip))) (.seq (.seq (.region 18 (rgn Tryd.f41 18) true) (.seq (.region 19 (rgn Tryd.f41 19) false) (.block 1 (.seq (.region 21 (rgn Tryd.f41 21) false) (.cond (.tmp 92) (.region 22 (rgn Tryd.f41 22) false) (.seq (.region 23 (rgn Tryd.f41 23) false) (.cond (.tmp 94) (.region 24 (rgn Tryd.f41 24) false) (.seq (.seq (.region 25 (rgn Tryd.f41 25) false) (.cond (.tmp 96) (.skip) (.region 26 (rgn Tryd.f41 26) false))) (.cond (.tmp 96) (.skip) (.seq (.region 27 (rgn Tryd.f41 27) false) (.cond (.tmp 99) (.seq (.region 28 (rgn Tryd.f41 28) false) (.seq (.seq (.region 29 (rgn Tryd.f41 29) false) (.block 2 (.loop (.seq (.region 30 (rgn Tryd.f41 30) false) (.seq (.cond (.tmp 102) (.skip) (.exit 2)) (.seq (.block 3 (.seq (.region 31 (rgn Tryd.f41 31) false) (.seq (.seq (.region 32 (rgn Tryd.f41 32) true) (.cond (.tmp 133) (.seq (.region 33 (rgn Tryd.f41 33) false) (.ret)) (.skip))) (.region 34 (rgn Tryd.f41 34) true)))) (.region 35 (rgn Tryd.f41 35) false))))))) (.region 36 (rgn Tryd.f41 36) false))) (.seq (.region 20 (rgn Tryd.f41 20) false) (.ret))))))))))))) (.seq (.region 37 (rgn Tryd.f41 37) false) (.goto 0))))) none E [] H k) := by
  have hsm := x.row.small
  have w1 : IntKind.i64.wrap ((i : Int) + 1) = ((i + 1 : Nat) : Int) := by rw [wrap_i64 (by omega) (by omega)]; omega
  have hz : (((i + 1 : Nat) : Int) == (s.length : Int)) = decide (i + 1 = s.length) := by
    rw [Bool.eq_iff_iff, beq_iff_eq, decide_eq_true_eq]; omega
  have h1 := h.set x.lt (i + 1)
  have hj : i + 1 < s.length := by omega
  have hgd : s.getD (i + 1) 0 = s[i + 1] := by simp [List.getD, hj]
  rw [decide_eq_false (by omega)] at hz
  obtain ⟨y, rfl, hl⟩ := (h1.row x).bts.cell (i + 1) hj
  have hix := index_row (n := s.length) (c := c) (a := y) hj
  have hcv : s[i + 1] = 34 := by rw [← hgd]; exact hc
  have z110 : ((34 : Int) == 110) = false := rfl
  have z116 : ((34 : Int) == 116) = false := rfl
  have z34 : ((34 : Int) == 34) = true := rfl
  have hcn : (s[i + 1].toNat : Int) = 34 := by rw [hcv]; rfl
  obtain ⟨v', H', a1, a2⟩ := h1.add x.gg.fresh x.lt 34 hn
  have a1 : appendA PP #[26, 26] v (.slice (some ⟨(H.set b (cur (some y) s.length c (i + 1))).next, 0, none⟩) 1 1) ((H.set b (cur (some y) s.length c (i + 1))).alloc 1 [.int .u8 34]) = some (v', H') := a1
  have l15 := tl (rgn Tryd.f41 15)
  conv at l15 => rhs; simp only [rgn, opsAt, codeOf, Tryd.f41, gS, gN, reduceIte, Nat.reduceEqDiff, tA]
  have l16 := tl (rgn Tryd.f41 16)
  conv at l16 => rhs; simp only [rgn, opsAt, codeOf, Tryd.f41, gS, gN, reduceIte, Nat.reduceEqDiff, tA]
  have l18 := tl (rgn Tryd.f41 18)
  conv at l18 => rhs; simp only [rgn, opsAt, codeOf, Tryd.f41, gS, gN, reduceIte, Nat.reduceEqDiff, tA]
  have l19 := tl (rgn Tryd.f41 19)
  conv at l19 => rhs; simp only [rgn, opsAt, codeOf, Tryd.f41, gS, gN, reduceIte, Nat.reduceEqDiff, tA]
  have l21 := tl (rgn Tryd.f41 21)
  conv at l21 => rhs; simp only [rgn, opsAt, codeOf, Tryd.f41, gS, gN, reduceIte, Nat.reduceEqDiff, tA]
  have l23 := tl (rgn Tryd.f41 23)
  conv at l23 => rhs; simp only [rgn, opsAt, codeOf, Tryd.f41, gS, gN, reduceIte, Nat.reduceEqDiff, tA]
  have l25 := tl (rgn Tryd.f41 25)
  conv at l25 => rhs; simp only [rgn, opsAt, codeOf, Tryd.f41, gS, gN, reduceIte, Nat.reduceEqDiff, tA]
  have l37 := tl (rgn Tryd.f41 37)
  conv at l37 => rhs; simp only [rgn, opsAt, codeOf, Tryd.f41, gS, gN, reduceIte, Nat.reduceEqDiff, tA]
  simp (decide := true) only [↓execG_seq, ↓g_region, ↓execG_block, ↓execG_skip, ↓g_if, ↓g_else, thenE_norm, leaveB_norm, ↓r_nil, ↓r_cons, ↓o_move, ↓o_assign, ↓o_buildSlice, ↓o_load, ↓o_store, ↓o_nilCheck, ↓o_binOp, ↓o_fieldAddr, ↓o_indexAddr, ↓o_builtin, nextE_app, putK_app, putO_app, putG_bool, putG_int, normK_app, nilCheckA_ok, evalE_tmp, evalE_const, upd_some, upd_none, bindO_ok, bindV_ok, reduceIte, map_one, map_two, ↓reg_lit l15, ↓reg_lit l16, ↓reg_lit l18, ↓reg_lit l19, ↓reg_lit l21, ↓reg_lit l23, ↓reg_lit l25, ↓reg_lit l37, ↓execG_goto, beq_self_eq_true, e5, z110, z116, hcn, bslice1, app_bytes, a1, e0, fld0, fld1, load_at h.here, binA_add, w1, store_at h.here, load_at h1.here, load_src h1.here, len_slice (ts := #[26]) rfl und34, binA_eql, hz, hix, load_byte hl]
  exact hx _ H' v' (by simp (decide := true) only [upd_some, reduceIte, e0]) (by simp (decide := true) only [upd_some, reduceIte, e1]) (by simp (decide := true) only [upd_some, reduceIte]) a2
set_option maxRecDepth 100000 in
theorem e_b {N : Nat} {H0 H : Heap} {a : Option Addr} {c : Nat} {s : List UInt8} {b t i : Nat} {E : Env} {Q : R → Prop} {k : KOE} {hk : Hook} {d : Nat} {v : Value} {o : List UInt8} (x : Ctx H0 a c s b) (h : Txt H0 H b a s.length c i v o) (hi : i < s.length) (e0 : E 0 = .pointer (some ⟨b, 0, none⟩)) (e1 : E 1 = .pointer (some ⟨t, 0, none⟩)) (e5 : E 5 = v) (hj : ¬ i + 1 = s.length) (hc : s.getD (i + 1) 0 = 92) (hn : o.length ≤ 1048576)
    (hx : ∀ E' H' v', E' 0 = .pointer (some ⟨b, 0, none⟩) → E' 1 = .pointer (some ⟨t, 0, none⟩) → E' 5 = v' → Txt H0 H' b a s.length c (i + 1) v' (o ++ [92]) → Q (k (.goto 0) E' [] H')) :
    Q (execG PP XX (CG N hk (d + 2)) N noPr (.seq (.region 15 (rgn Tryd.f41 15) false) (.seq (.seq (.region 16 (rgn Tryd.f41 16) true) (.cond (.tmp 80) (.seq (.region 17 (rgn Tryd.f41 17) false) (.ret)) (.skip))) (.seq (.seq (.region 18 (rgn Tryd.f41 18) true) (.seq (.region 19 (rgn Tryd.f41 19) false) (.block 1 (.seq (.region 21 (rgn Tryd.f41 21) false) (.cond (.tmp 92) (.region 22 (rgn Tryd.f41 22) false) (.seq (.region 23 (rgn Tryd.f41 23) false) (.cond (.tmp 94) (.region 24 (rgn Tryd.f41 24) false) (.seq (.seq (.region 25 (rgn Tryd.f41 25) false) (.cond (.tmp 96) (.skip) (.region 26 (rgn Tryd.f41 26) false))) (.cond (.tmp 96) (.skip) (.seq (.region 27 (rgn Tryd.f41 27) false) (.cond (.tmp 99) (.seq (.region 28 (rgn Tryd.f41 28) false) (.seq (.seq (.region 29 (rgn Tryd.f41 29) false) (.block 2 (.loop (.seq (.region 30 (rgn Tryd.f41 30) false) (.seq (.cond (.tmp 102) (.skip) (.exit 2)) (.seq (.block 3 (.seq (.region 31 (rgn Tryd.f41 31) false) (.seq (.seq (.region 32 (rgn Tryd.f41 32) true) (.cond (.tmp 133) (.seq (.region 33 (rgn Tryd.f41 33) false) (.ret)) (.skip))) (.region 34 (rgn Tryd.f41 34) true)))) (.region 35 (rgn Tryd.f41 35) false))))))) (.region 36 (rgn Tryd.f41 36) false))) (.seq (.region 20 (rgn Tryd.f41 20) false) (.ret))))))))))))) (.seq (.region 37 (rgn Tryd.f41 37) false) (.goto 0))))) none E [] H k) := by
  have hsm := x.row.small
  have w1 : IntKind.i64.wrap ((i : Int) + 1) = ((i + 1 : Nat) : Int) := by rw [wrap_i64 (by omega) (by omega)]; omega
  have hz : (((i + 1 : Nat) : Int) == (s.length : Int)) = decide (i + 1 = s.length) := by
    rw [Bool.eq_iff_iff, beq_iff_eq, decide_eq_true_eq]; omega
  have h1 := h.set x.lt (i + 1)
  have hj : i + 1 < s.length := by omega
  have hgd : s.getD (i + 1) 0 = s[i + 1] := by simp [List.getD, hj]
  rw [decide_eq_false (by omega)] at hz
  obtain ⟨y, rfl, hl⟩ := (h1.row x).bts.cell (i + 1) hj
  have hix := index_row (n := s.length) (c := c) (a := y) hj
  have hcv : s[i + 1] = 92 := by rw [← hgd]; exact hc
  have z110 : ((92 : Int) == 110) = false := rfl
  have z116 : ((92 : Int) == 116) = false := rfl
  have z34 : ((92 : Int) == 34) = false := rfl
  have z92 : ((92 : Int) == 92) = true := rfl
  have hcn : (s[i + 1].toNat : Int) = 92 := by rw [hcv]; rfl
  obtain ⟨v', H', a1, a2⟩ := h1.add x.gg.fresh x.lt 92 hn
  have a1 : appendA PP #[26, 26] v (.slice (some ⟨(H.set b (cur (some y) s.length c (i + 1))).next, 0, none⟩) 1 1) ((H.set b (cur (some y) s.length c (i + 1))).alloc 1 [.int .u8 92]) = some (v', H') := a1
  have l15 := tl (rgn Tryd.f41 15)
  conv at l15 => rhs; simp only [rgn, opsAt, codeOf, Tryd.f41, gS, gN, reduceIte, Nat.reduceEqDiff, tA]
  have l16 := tl (rgn Tryd.f41 16)
  conv at l16 => rhs; simp only [rgn, opsAt, codeOf, Tryd.f41, gS, gN, reduceIte, Nat.reduceEqDiff, tA]
  have l18 := tl (rgn Tryd.f41 18)
  conv at l18 => rhs; simp only [rgn, opsAt, codeOf, Tryd.f41, gS, gN, reduceIte, Nat.reduceEqDiff, tA]
  have l19 := tl (rgn Tryd.f41 19)
  conv at l19 => rhs; simp only [rgn, opsAt, codeOf, Tryd.f41, gS, gN, reduceIte, Nat.reduceEqDiff, tA]
  have l21 := tl (rgn Tryd.f41 21)
  conv at l21 => rhs; simp only [rgn, opsAt, codeOf, Tryd.f41, gS, gN, reduceIte, Nat.reduceEqDiff, tA]
  have l23 := tl (rgn Tryd.f41 23)
  conv at l23 => rhs; simp only [rgn, opsAt, codeOf, Tryd.f41, gS, gN, reduceIte, Nat.reduceEqDiff, tA]
  have l25 := tl (rgn Tryd.f41 25)
  conv at l25 => rhs; simp only [rgn, opsAt, codeOf, Tryd.f41, gS, gN, reduceIte, Nat.reduceEqDiff, tA]
  have l26 := tl (rgn Tryd.f41 26)
  conv at l26 => rhs; simp only [rgn, opsAt, codeOf, Tryd.f41, gS, gN, reduceIte, Nat.reduceEqDiff, tA]
  have l37 := tl (rgn Tryd.f41 37)
  conv at l37 => rhs; simp only [rgn, opsAt, codeOf, Tryd.f41, gS, gN, reduceIte, Nat.reduceEqDiff, tA]
  simp (decide := true) only [↓execG_seq, ↓g_region, ↓execG_block, ↓execG_skip, ↓g_if, ↓g_else, thenE_norm, leaveB_norm, ↓r_nil, ↓r_cons, ↓o_move, ↓o_assign, ↓o_buildSlice, ↓o_load, ↓o_store, ↓o_nilCheck, ↓o_binOp, ↓o_fieldAddr, ↓o_indexAddr, ↓o_builtin, nextE_app, putK_app, putO_app, putG_bool, putG_int, normK_app, nilCheckA_ok, evalE_tmp, evalE_const, upd_some, upd_none, bindO_ok, bindV_ok, reduceIte, map_one, map_two, ↓reg_lit l15, ↓reg_lit l16, ↓reg_lit l18, ↓reg_lit l19, ↓reg_lit l21, ↓reg_lit l23, ↓reg_lit l25, ↓reg_lit l26, ↓reg_lit l37, ↓execG_goto, beq_self_eq_true, e5, z110, z116, z34, hcn, bslice1, app_bytes, a1, e0, fld0, fld1, load_at h.here, binA_add, w1, store_at h.here, load_at h1.here, load_src h1.here, len_slice (ts := #[26]) rfl und34, binA_eql, hz, hix, load_byte hl]
  exact hx _ H' v' (by simp (decide := true) only [upd_some, reduceIte, e0]) (by simp (decide := true) only [upd_some, reduceIte, e1]) (by simp (decide := true) only [upd_some, reduceIte]) a2

set_option maxRecDepth 100000 in
theorem e_bad {N : Nat} {H0 H : Heap} {a : Option Addr} {c : Nat} {s : List UInt8} {b t i : Nat} {E : Env} {Q : R → Prop} {k : KOE} {hk : Hook} {d : Nat} {v : Value} {o : List UInt8} (x : Ctx H0 a c s b) (h : Txt H0 H b a s.length c i v o) (hi : i < s.length) (e0 : E 0 = .pointer (some ⟨b, 0, none⟩)) (e1 : E 1 = .pointer (some ⟨t, 0, none⟩)) (e5 : E 5 = v) (hj : ¬ i + 1 = s.length) (c1 : ¬ s.getD (i + 1) 0 = 110) (c2 : ¬ s.getD (i + 1) 0 = 116) (c3 : ¬ s.getD (i + 1) 0 = 34) (c4 : ¬ s.getD (i + 1) 0 = 92) (c5 : ¬ s.getD (i + 1) 0 = 120)
    (hx : ∀ E' H', E' 4 = .bool false → Txt H0 H' b a s.length c (i + 1) v o → Q (k .ret E' [] H')) :
    Q (execG PP XX (CG N hk (d + 2)) N noPr (.seq (.region 15 (rgn Tryd.f41 15) false) (.seq (.seq (.region 16 (rgn Tryd.f41 16) true) (.cond (.tmp 80) (.seq (.region 17 (rgn Tryd.f41 17) false) (.ret)) (.skip))) (.seq (.seq (.region 18 (rgn Tryd.f41 18) true) (.seq (.region 19 (rgn Tryd.f41 19) false) (.block 1 (.seq (.region 21 (rgn Tryd.f41 21) false) (.cond (.tmp 92) (.region 22 (rgn Tryd.f41 22) false) (.seq (.region 23 (rgn Tryd.f41 23) false) (.cond (.tmp 94) (.region 24 (rgn Tryd.f41 24) false) (.seq (.seq (.region 25 (rgn Tryd.f41 25) false) (.cond (.tmp 96) (.skip) (.region 26 (rgn Tryd.f41 26) false))) (.cond (.tmp 96) (.skip) (.seq (.region 27 (rgn Tryd.f41 27) false) (.cond (.tmp 99) (.seq (.region 28 (rgn Tryd.f41 28) false) (.seq (.seq (.region 29 (rgn Tryd.f41 29) false) (.block 2 (.loop (.seq (.region 30 (rgn Tryd.f41 30) false) (.seq (.cond (.tmp 102) (.skip) (.exit 2)) (.seq (.block 3 (.seq (.region 31 (rgn Tryd.f41 31) false) (.seq (.seq (.region 32 (rgn Tryd.f41 32) true) (.cond (.tmp 133) (.seq (.region 33 (rgn Tryd.f41 33) false) (.ret)) (.skip))) (.region 34 (rgn Tryd.f41 34) true)))) (.region 35 (rgn Tryd.f41 35) false))))))) (.region 36 (rgn Tryd.f41 36) false))) (.seq (.region 20 (rgn Tryd.f41 20) false) (.ret))))))))))))) (.seq (.region 37 (rgn Tryd.f41 37) false) (.goto 0))))) none E [] H k) := by
  have hsm := x.row.small
  have w1 : IntKind.i64.wrap ((i : Int) + 1) = ((i + 1 : Nat) : Int) := by rw [wrap_i64 (by omega) (by omega)]; omega
  have hz : (((i + 1 : Nat) : Int) == (s.length : Int)) = decide (i + 1 = s.length) := by
    rw [Bool.eq_iff_iff, beq_iff_eq, decide_eq_true_eq]; omega
  have h1 := h.set x.lt (i + 1)
  have hj : i + 1 < s.length := by omega
  have hgd : s.getD (i + 1) 0 = s[i + 1] := by simp [List.getD, hj]
  rw [decide_eq_false (by omega)] at hz
  obtain ⟨y, rfl, hl⟩ := (h1.row x).bts.cell (i + 1) hj
  have hix := index_row (n := s.length) (c := c) (a := y) hj
  rw [hgd] at c1 c2 c3 c4 c5
  have z110 : ((s[i + 1].toNat : Int) == 110) = false := (toNat_eq s[i + 1] 110).trans (decide_eq_false c1)
  have z116 : ((s[i + 1].toNat : Int) == 116) = false := (toNat_eq s[i + 1] 116).trans (decide_eq_false c2)
  have z34 : ((s[i + 1].toNat : Int) == 34) = false := (toNat_eq s[i + 1] 34).trans (decide_eq_false c3)
  have z92 : ((s[i + 1].toNat : Int) == 92) = false := (toNat_eq s[i + 1] 92).trans (decide_eq_false c4)
  have z120 : ((s[i + 1].toNat : Int) == 120) = false := (toNat_eq s[i + 1] 120).trans (decide_eq_false c5)
  have l15 := tl (rgn Tryd.f41 15)
  conv at l15 => rhs; simp only [rgn, opsAt, codeOf, Tryd.f41, gS, gN, reduceIte, Nat.reduceEqDiff, tA]
  have l16 := tl (rgn Tryd.f41 16)
  conv at l16 => rhs; simp only [rgn, opsAt, codeOf, Tryd.f41, gS, gN, reduceIte, Nat.reduceEqDiff, tA]
  have l18 := tl (rgn Tryd.f41 18)
  conv at l18 => rhs; simp only [rgn, opsAt, codeOf, Tryd.f41, gS, gN, reduceIte, Nat.reduceEqDiff, tA]
  have l19 := tl (rgn Tryd.f41 19)
  conv at l19 => rhs; simp only [rgn, opsAt, codeOf, Tryd.f41, gS, gN, reduceIte, Nat.reduceEqDiff, tA]
  have l20 := tl (rgn Tryd.f41 20)
  conv at l20 => rhs; simp only [rgn, opsAt, codeOf, Tryd.f41, gS, gN, reduceIte, Nat.reduceEqDiff, tA]
  have l21 := tl (rgn Tryd.f41 21)
  conv at l21 => rhs; simp only [rgn, opsAt, codeOf, Tryd.f41, gS, gN, reduceIte, Nat.reduceEqDiff, tA]
  have l23 := tl (rgn Tryd.f41 23)
  conv at l23 => rhs; simp only [rgn, opsAt, codeOf, Tryd.f41, gS, gN, reduceIte, Nat.reduceEqDiff, tA]
  have l25 := tl (rgn Tryd.f41 25)
  conv at l25 => rhs; simp only [rgn, opsAt, codeOf, Tryd.f41, gS, gN, reduceIte, Nat.reduceEqDiff, tA]
  have l26 := tl (rgn Tryd.f41 26)
  conv at l26 => rhs; simp only [rgn, opsAt, codeOf, Tryd.f41, gS, gN, reduceIte, Nat.reduceEqDiff, tA]
  have l27 := tl (rgn Tryd.f41 27)
  conv at l27 => rhs; simp only [rgn, opsAt, codeOf, Tryd.f41, gS, gN, reduceIte, Nat.reduceEqDiff, tA]
  simp (decide := true) only [↓execG_seq, ↓g_region, ↓execG_block, ↓execG_ret, ↓execG_skip, ↓g_else, thenE_norm, thenE_ret, leaveB_ret, ↓r_nil, ↓r_cons, ↓o_move, ↓o_assign, ↓o_load, ↓o_store, ↓o_nilCheck, ↓o_binOp, ↓o_fieldAddr, ↓o_indexAddr, ↓o_builtin, nextE_app, putK_app, putO_app, putG_bool, putG_int, normK_app, nilCheckA_ok, evalE_tmp, evalE_const, upd_some, upd_none, bindO_ok, bindV_ok, reduceIte, map_one, ↓reg_lit l15, ↓reg_lit l16, ↓reg_lit l18, ↓reg_lit l19, ↓reg_lit l20, ↓reg_lit l21, ↓reg_lit l23, ↓reg_lit l25, ↓reg_lit l26, ↓reg_lit l27, z110, z116, z34, z92, z120, e0, fld0, fld1, load_at h.here, binA_add, w1, store_at h.here, load_at h1.here, load_src h1.here, len_slice (ts := #[26]) rfl und34, binA_eql, hz, hix, load_byte hl]
  exact hx _ _ (by simp (decide := true) only [upd_some, reduceIte]) h1
set_option maxRecDepth 100000 in
/-- Two hex digits: one of them. -/
theorem x_end {N : Nat} {H0 H : Heap} {a : Option Addr} {c : Nat} {s : List UInt8} {b t i : Nat} {E : Env} {Q : R → Prop} {k : KOE} {hk : Hook} {d : Nat} {v : Value} {o : List UInt8} (x : Ctx H0 a c s b) (h : Txt H0 H b a s.length c i v o) (hi : i < s.length) (e0 : E 0 = .pointer (some ⟨b, 0, none⟩)) (e1 : E 1 = .pointer (some ⟨t, 0, none⟩)) (e5 : E 5 = v) {q : Int} (e101 : E 101 = .int .i64 q) (hq : q < 2) (hj : i + 1 = s.length) (hx : ∀ E' H', E' 4 = .bool false → Txt H0 H' b a s.length c (i + 1) v o → Q (k .ret E' [] H')) :
    Q (execG PP XX (CG N hk (d + 2)) N noPr (.seq (.region 30 (rgn Tryd.f41 30) false) (.seq (.cond (.tmp 102) (.skip) (.exit 2)) (.seq (.block 3 (.seq (.region 31 (rgn Tryd.f41 31) false) (.seq (.seq (.region 32 (rgn Tryd.f41 32) true) (.cond (.tmp 133) (.seq (.region 33 (rgn Tryd.f41 33) false) (.ret)) (.skip))) (.region 34 (rgn Tryd.f41 34) true)))) (.region 35 (rgn Tryd.f41 35) false)))) none E [] H k) := by
  have hsm := x.row.small
  have w1 : IntKind.i64.wrap ((i : Int) + 1) = ((i + 1 : Nat) : Int) := by rw [wrap_i64 (by omega) (by omega)]; omega
  have hz : (((i + 1 : Nat) : Int) == (s.length : Int)) = decide (i + 1 = s.length) := by
    rw [Bool.eq_iff_iff, beq_iff_eq, decide_eq_true_eq]; omega
  have h1 := h.set x.lt (i + 1)
  rw [decide_eq_true hj] at hz
  have hlt : decide (q < 2) = true := decide_eq_true hq
  have l30 := tl (rgn Tryd.f41 30)
  conv at l30 => rhs; simp only [rgn, opsAt, codeOf, Tryd.f41, gS, gN, reduceIte, Nat.reduceEqDiff, tA]
  have l31 := tl (rgn Tryd.f41 31)
  conv at l31 => rhs; simp only [rgn, opsAt, codeOf, Tryd.f41, gS, gN, reduceIte, Nat.reduceEqDiff, tA]
  have l32 := tl (rgn Tryd.f41 32)
  conv at l32 => rhs; simp only [rgn, opsAt, codeOf, Tryd.f41, gS, gN, reduceIte, Nat.reduceEqDiff, tA]
  have l33 := tl (rgn Tryd.f41 33)
  conv at l33 => rhs; simp only [rgn, opsAt, codeOf, Tryd.f41, gS, gN, reduceIte, Nat.reduceEqDiff, tA]
  simp (decide := true) only [↓execG_seq, ↓g_region, ↓execG_block, ↓execG_ret, ↓execG_skip, ↓g_if, thenE_norm, thenE_ret, leaveB_ret, ↓r_nil, ↓r_cons, ↓o_move, ↓o_assign, ↓o_pickt, ↓o_load, ↓o_store, ↓o_nilCheck, ↓o_binOp, ↓o_fieldAddr, ↓o_builtin, nextE_app, putK_app, putO_app, putG_bool, putG_int, normK_app, nilCheckA_ok, evalE_tmp, evalE_const, upd_some, upd_none, bindO_ok, bindV_ok, reduceIte, map_one, Bool.not_false, ↓reg_lit l30, ↓reg_lit l31, ↓reg_lit l32, ↓reg_lit l33, ↓r_no _ 10 false 120 _ gd41_32_10, e101, binA_lss, hlt, e0, fld0, fld1, load_at h.here, binA_add, w1, store_at h.here, load_at h1.here, load_src h1.here, len_slice (ts := #[26]) rfl und34, binA_eql, hz]
  exact hx _ _ (by simp (decide := true) only [upd_some, reduceIte]) h1
set_option maxRecDepth 100000 in
theorem x_bad {N : Nat} {H0 H : Heap} {a : Option Addr} {c : Nat} {s : List UInt8} {b t i : Nat} {E : Env} {Q : R → Prop} {k : KOE} {hk : Hook} {d : Nat} {v : Value} {o : List UInt8} (x : Ctx H0 a c s b) (h : Txt H0 H b a s.length c i v o) (hi : i < s.length) (e0 : E 0 = .pointer (some ⟨b, 0, none⟩)) (e1 : E 1 = .pointer (some ⟨t, 0, none⟩)) (e5 : E 5 = v) (hhex : ∀ (u : UInt8) H, Ext GE H → hk 55 #[.int .u8 (u.toNat : Int)] H = some (some (.ret (.int .u64 (hexT u.toNat)), H))) {q : Int} (e101 : E 101 = .int .i64 q) (hq : q < 2) (hj : ¬ i + 1 = s.length) (h16 : hexT (s.getD (i + 1) 0).toNat = 16) (hx : ∀ E' H', E' 4 = .bool false → Txt H0 H' b a s.length c (i + 1) v o → Q (k .ret E' [] H')) :
    Q (execG PP XX (CG N hk (d + 2)) N noPr (.seq (.region 30 (rgn Tryd.f41 30) false) (.seq (.cond (.tmp 102) (.skip) (.exit 2)) (.seq (.block 3 (.seq (.region 31 (rgn Tryd.f41 31) false) (.seq (.seq (.region 32 (rgn Tryd.f41 32) true) (.cond (.tmp 133) (.seq (.region 33 (rgn Tryd.f41 33) false) (.ret)) (.skip))) (.region 34 (rgn Tryd.f41 34) true)))) (.region 35 (rgn Tryd.f41 35) false)))) none E [] H k) := by
  have hsm := x.row.small
  have w1 : IntKind.i64.wrap ((i : Int) + 1) = ((i + 1 : Nat) : Int) := by rw [wrap_i64 (by omega) (by omega)]; omega
  have hz : (((i + 1 : Nat) : Int) == (s.length : Int)) = decide (i + 1 = s.length) := by
    rw [Bool.eq_iff_iff, beq_iff_eq, decide_eq_true_eq]; omega
  have h1 := h.set x.lt (i + 1)
  have hj : i + 1 < s.length := by omega
  have hgd : s.getD (i + 1) 0 = s[i + 1] := by simp [List.getD, hj]
  rw [decide_eq_false (by omega)] at hz
  obtain ⟨y, rfl, hl⟩ := (h1.row x).bts.cell (i + 1) hj
  have hix := index_row (n := s.length) (c := c) (a := y) hj
  rw [hgd] at h16
  have hlt : decide (q < 2) = true := decide_eq_true hq
  have hcx : CG N hk (d + 2) 55 #[.int .u8 (s[i + 1].toNat : Int)] (H.set b (cur (some y) s.length c (i + 1))) = some (.ret (.int .u64 (hexT s[i + 1].toNat)), (H.set b (cur (some y) s.length c (i + 1)))) := callG_hook (hhex s[i + 1] _ (h1.gg x))
  rw [h16] at hcx
  have z16 : ((16 : Int) == 16) = true := rfl
  have l30 := tl (rgn Tryd.f41 30)
  conv at l30 => rhs; simp only [rgn, opsAt, codeOf, Tryd.f41, gS, gN, reduceIte, Nat.reduceEqDiff, tA]
  have l31 := tl (rgn Tryd.f41 31)
  conv at l31 => rhs; simp only [rgn, opsAt, codeOf, Tryd.f41, gS, gN, reduceIte, Nat.reduceEqDiff, tA]
  have l32 := tl (rgn Tryd.f41 32)
  conv at l32 => rhs; simp only [rgn, opsAt, codeOf, Tryd.f41, gS, gN, reduceIte, Nat.reduceEqDiff, tA]
  have l33 := tl (rgn Tryd.f41 33)
  conv at l33 => rhs; simp only [rgn, opsAt, codeOf, Tryd.f41, gS, gN, reduceIte, Nat.reduceEqDiff, tA]
  simp (decide := true) only [↓execG_seq, ↓g_region, ↓execG_block, ↓execG_ret, ↓execG_skip, ↓g_if, thenE_norm, thenE_ret, leaveB_ret, ↓r_nil, ↓r_cons, ↓o_move, ↓o_assign, ↓o_pickf, ↓o_load, ↓o_store, ↓o_nilCheck, ↓o_binOp, ↓o_fieldAddr, ↓o_indexAddr, ↓o_builtin, ↓o_callf, nextE_app, putK_app, putO_app, putG_bool, putG_int, normK_app, nilCheckA_ok, evalE_tmp, evalE_const, upd_some, upd_none, bindO_ok, bindV_ok, reduceIte, map_one, ↓reg_lit l30, ↓reg_lit l31, ↓reg_lit l32, ↓reg_lit l33, ↓r_yes _ 10 false 120 _ gd41_32_10, beq_self_eq_true, e101, binA_lss, hlt, callK_fn Tryd.func55 rfl rfl hcx, e0, fld0, fld1, load_at h.here, binA_add, w1, store_at h.here, load_at h1.here, load_src h1.here, len_slice (ts := #[26]) rfl und34, binA_eql, hz, hix, load_byte hl]
  exact hx _ _ (by simp (decide := true) only [upd_some, reduceIte]) h1
theorem binA_shl4 (x y : Operand) (n : Int) : binA PP .shl 27 x y (.int .u64 n) (.int .u64 4) = some (.int .u64 (IntKind.u64.wrap (n * 16))) := by kernel_rfl
theorem binA_or {x y : Operand} {n m : Nat} (hn : n < 16) (hm : m < 16) : binA PP .or 27 x y (.int .u64 ((n : Int) * 16)) (.int .u64 (m : Int)) = some (.int .u64 (((n * 16 + m : Nat)) : Int)) := by
  have e : binA PP .or 27 x y (.int .u64 ((n : Int) * 16)) (.int .u64 (m : Int)) = some (.int .u64 (IntKind.u64.wrap ((BitVec.ofInt 64 ((n : Int) * 16) ||| BitVec.ofInt 64 (m : Int)).toNat : Int))) := by kernel_rfl
  rw [e]
  have hall : (List.range 16).all (fun n => (List.range 16).all fun m => decide (IntKind.u64.wrap ((BitVec.ofInt 64 ((n : Int) * 16) ||| BitVec.ofInt 64 (m : Int)).toNat : Int) = ((n * 16 + m : Nat) : Int))) = true := by decide +kernel
  have h1 := List.all_eq_true.mp hall n (List.mem_range.mpr hn)
  have h2 := List.all_eq_true.mp h1 m (List.mem_range.mpr hm)
  rw [of_decide_eq_true h2]
set_option maxRecDepth 100000 in
theorem x_step {N : Nat} {H0 H : Heap} {a : Option Addr} {c : Nat} {s : List UInt8} {b t i : Nat} {E : Env} {Q : R → Prop} {k : KOE} {hk : Hook} {d : Nat} {v : Value} {o : List UInt8} (x : Ctx H0 a c s b) (h : Txt H0 H b a s.length c i v o) (hi : i < s.length) (e0 : E 0 = .pointer (some ⟨b, 0, none⟩)) (e1 : E 1 = .pointer (some ⟨t, 0, none⟩)) (e5 : E 5 = v) (hhex : ∀ (u : UInt8) H, Ext GE H → hk 55 #[.int .u8 (u.toNat : Int)] H = some (some (.ret (.int .u64 (hexT u.toNat)), H))) {q : Nat} {g : Nat} (e101 : E 101 = .int .i64 (q : Int)) (hq : (q : Int) < 2) (e7 : E 7 = .int .u64 (g : Int)) (hg : g < 16) (hj : ¬ i + 1 = s.length) (h16 : hexT (s.getD (i + 1) 0).toNat < 16)
    (hx : ∀ E', E' 0 = .pointer (some ⟨b, 0, none⟩) → E' 1 = .pointer (some ⟨t, 0, none⟩) → E' 5 = v → E' 7 = .int .u64 ((g * 16 + (hexT (s.getD (i + 1) 0).toNat).toNat : Nat) : Int) → E' 101 = .int .i64 ((q + 1 : Nat) : Int) → Txt H0 (H.set b (cur a s.length c (i + 1))) b a s.length c (i + 1) v o → Q (k .norm E' [] (H.set b (cur a s.length c (i + 1))))) :
    Q (execG PP XX (CG N hk (d + 2)) N noPr (.seq (.region 30 (rgn Tryd.f41 30) false) (.seq (.cond (.tmp 102) (.skip) (.exit 2)) (.seq (.block 3 (.seq (.region 31 (rgn Tryd.f41 31) false) (.seq (.seq (.region 32 (rgn Tryd.f41 32) true) (.cond (.tmp 133) (.seq (.region 33 (rgn Tryd.f41 33) false) (.ret)) (.skip))) (.region 34 (rgn Tryd.f41 34) true)))) (.region 35 (rgn Tryd.f41 35) false)))) none E [] H k) := by
  have hsm := x.row.small
  have w1 : IntKind.i64.wrap ((i : Int) + 1) = ((i + 1 : Nat) : Int) := by rw [wrap_i64 (by omega) (by omega)]; omega
  have hz : (((i + 1 : Nat) : Int) == (s.length : Int)) = decide (i + 1 = s.length) := by
    rw [Bool.eq_iff_iff, beq_iff_eq, decide_eq_true_eq]; omega
  have h1 := h.set x.lt (i + 1)
  have hj : i + 1 < s.length := by omega
  have hgd : s.getD (i + 1) 0 = s[i + 1] := by simp [List.getD, hj]
  rw [decide_eq_false (by omega)] at hz
  obtain ⟨y, rfl, hl⟩ := (h1.row x).bts.cell (i + 1) hj
  have hix := index_row (n := s.length) (c := c) (a := y) hj
  rw [hgd] at h16 hx
  have hlt : decide ((q : Int) < 2) = true := decide_eq_true hq
  have hnn := hexT_nn s[i + 1].toNat
  obtain ⟨m, hm⟩ : ∃ m : Nat, hexT s[i + 1].toNat = (m : Int) := ⟨(hexT s[i + 1].toNat).toNat, by omega⟩
  rw [hm] at h16 hx
  have hcx : CG N hk (d + 2) 55 #[.int .u8 (s[i + 1].toNat : Int)] (H.set b (cur (some y) s.length c (i + 1))) = some (.ret (.int .u64 (hexT s[i + 1].toNat)), (H.set b (cur (some y) s.length c (i + 1)))) := callG_hook (hhex s[i + 1] _ (h1.gg x))
  rw [hm] at hcx
  have hm16 : m < 16 := by omega
  have z16 : ((m : Int) == 16) = false := by simp; omega
  have w4 : IntKind.u64.wrap ((g : Int) * 16) = (g : Int) * 16 := wrap_u64' (by omega) (by omega)
  have w5 : IntKind.i64.wrap ((q : Int) + 1) = ((q + 1 : Nat) : Int) := by rw [wrap_i64 (by omega) (by omega)]; omega
  have hor := fun o1 o2 => binA_or (x := o1) (y := o2) hg hm16
  have l30 := tl (rgn Tryd.f41 30)
  conv at l30 => rhs; simp only [rgn, opsAt, codeOf, Tryd.f41, gS, gN, reduceIte, Nat.reduceEqDiff, tA]
  have l31 := tl (rgn Tryd.f41 31)
  conv at l31 => rhs; simp only [rgn, opsAt, codeOf, Tryd.f41, gS, gN, reduceIte, Nat.reduceEqDiff, tA]
  have l32 := tl (rgn Tryd.f41 32)
  conv at l32 => rhs; simp only [rgn, opsAt, codeOf, Tryd.f41, gS, gN, reduceIte, Nat.reduceEqDiff, tA]
  have l34 := tl (rgn Tryd.f41 34)
  conv at l34 => rhs; simp only [rgn, opsAt, codeOf, Tryd.f41, gS, gN, reduceIte, Nat.reduceEqDiff, tA]
  have l35 := tl (rgn Tryd.f41 35)
  conv at l35 => rhs; simp only [rgn, opsAt, codeOf, Tryd.f41, gS, gN, reduceIte, Nat.reduceEqDiff, tA]
  simp (decide := true) only [↓execG_seq, ↓g_region, ↓execG_block, ↓execG_skip, ↓g_if, ↓g_else, thenE_norm, leaveB_norm, ↓r_nil, ↓r_cons, ↓o_move, ↓o_assign, ↓o_pickf, ↓o_load, ↓o_store, ↓o_nilCheck, ↓o_binOp, ↓o_fieldAddr, ↓o_indexAddr, ↓o_builtin, ↓o_callf, nextE_app, putK_app, putO_app, putG_bool, putG_int, normK_app, nilCheckA_ok, evalE_tmp, evalE_const, upd_some, upd_none, bindO_ok, bindV_ok, reduceIte, map_one, ↓reg_lit l30, ↓reg_lit l31, ↓reg_lit l32, ↓reg_lit l34, ↓reg_lit l35, ↓r_yes _ 10 false 120 _ gd41_32_10, e101, e7, binA_lss, hlt, callK_fn Tryd.func55 rfl rfl hcx, z16, binA_shl4, w4, hor, w5, e0, fld0, fld1, load_at h.here, binA_add, w1, store_at h.here, load_at h1.here, load_src h1.here, len_slice (ts := #[26]) rfl und34, binA_eql, hz, hix, load_byte hl]
  exact hx _ (by simp (decide := true) only [upd_some, reduceIte, e0]) (by simp (decide := true) only [upd_some, reduceIte, e1]) (by simp (decide := true) only [upd_some, reduceIte, e5]) (by simp (decide := true) only [upd_some, reduceIte, Int.toNat_natCast]) (by simp (decide := true) only [upd_some, reduceIte]) h1
end
end Go.Am
/- A text: all of it. -/
open Go.Proofs
namespace Go.Am
theorem conv_u8 (x : Int) (H : Heap) : convertA PP 27 5 (.int .u64 x) H = some (.int .u8 (IntKind.u8.wrap x), H) := by kernel_rfl
section jumps
variable {K : Kf} {N : Nat}
theorem jt0 (E : Env) (ds : List Deferred) (H : Heap) (k : KOE) : execG PP XX K N noPr (.seq (.region 1 (rgn Tryd.f41 1) false) (.seq (.region 2 (rgn Tryd.f41 2) false) (.seq (.label 0) (.seq (.region 3 (rgn Tryd.f41 3) false) (.seq (.seq (.region 4 (rgn Tryd.f41 4) true) (.cond (.tmp 24) (.seq (.region 5 (rgn Tryd.f41 5) false) (.ret)) (.skip))) (.seq (.seq (.region 6 (rgn Tryd.f41 6) true) (.block 0 (.seq (.region 7 (rgn Tryd.f41 7) false) (.cond (.tmp 35) (.seq (.region 8 (rgn Tryd.f41 8) false) (.seq (.region 9 (rgn Tryd.f41 9) false) (.seq (.region 10 (rgn Tryd.f41 10) false) (.ret)))) (.seq (.region 11 (rgn Tryd.f41 11) false) (.cond (.tmp 50) (.goto 1) (.seq (.region 12 (rgn Tryd.f41 12) false) (.cond (.tmp 53) (.seq (.region 13 (rgn Tryd.f41 13) false) (.ret)) (.skip))))))))) (.seq (.region 14 (rgn Tryd.f41 14) false) (.seq (.goto 0) (.seq (.label 1) (.seq (.region 15 (rgn Tryd.f41 15) false) (.seq (.seq (.region 16 (rgn Tryd.f41 16) true) (.cond (.tmp 80) (.seq (.region 17 (rgn Tryd.f41 17) false) (.ret)) (.skip))) (.seq (.seq (.region 18 (rgn Tryd.f41 18) true) (.seq (.region 19 (rgn Tryd.f41 19) false) (.block 1 (.seq (.region 21 (rgn Tryd.f41 21) false) (.cond (.tmp 92) (.region 22 (rgn Tryd.f41 22) false) (.seq (.region 23 (rgn Tryd.f41 23) false) (.cond (.tmp 94) (.region 24 (rgn Tryd.f41 24) false) (.seq (.seq (.region 25 (rgn Tryd.f41 25) false) (.cond (.tmp 96) (.skip) (.region 26 (rgn Tryd.f41 26) false))) (.cond (.tmp 96) (.skip) (.seq (.region 27 (rgn Tryd.f41 27) false) (.cond (.tmp 99) (.seq (.region 28 (rgn Tryd.f41 28) false) (.seq (.seq (.region 29 (rgn Tryd.f41 29) false) (.block 2 (.loop (.seq (.region 30 (rgn Tryd.f41 30) false) (.seq (.cond (.tmp 102) (.skip) (.exit 2)) (.seq (.block 3 (.seq (.region 31 (rgn Tryd.f41 31) false) (.seq (.seq (.region 32 (rgn Tryd.f41 32) true) (.cond (.tmp 133) (.seq (.region 33 (rgn Tryd.f41 33) false) (.ret)) (.skip))) (.region 34 (rgn Tryd.f41 34) true)))) (.region 35 (rgn Tryd.f41 35) false))))))) (.region 36 (rgn Tryd.f41 36) false))) (.seq (.region 20 (rgn Tryd.f41 20) false) (.ret))))))))))))) (.seq (.region 37 (rgn Tryd.f41 37) false) (.goto 0)))))))))))))) (some 0) E ds H k = execG PP XX K N noPr (.seq (.region 3 (rgn Tryd.f41 3) false) (.seq (.seq (.region 4 (rgn Tryd.f41 4) true) (.cond (.tmp 24) (.seq (.region 5 (rgn Tryd.f41 5) false) (.ret)) (.skip))) (.seq (.seq (.region 6 (rgn Tryd.f41 6) true) (.block 0 (.seq (.region 7 (rgn Tryd.f41 7) false) (.cond (.tmp 35) (.seq (.region 8 (rgn Tryd.f41 8) false) (.seq (.region 9 (rgn Tryd.f41 9) false) (.seq (.region 10 (rgn Tryd.f41 10) false) (.ret)))) (.seq (.region 11 (rgn Tryd.f41 11) false) (.cond (.tmp 50) (.goto 1) (.seq (.region 12 (rgn Tryd.f41 12) false) (.cond (.tmp 53) (.seq (.region 13 (rgn Tryd.f41 13) false) (.ret)) (.skip))))))))) (.seq (.region 14 (rgn Tryd.f41 14) false) (.seq (.goto 0) (.seq (.label 1) (.seq (.region 15 (rgn Tryd.f41 15) false) (.seq (.seq (.region 16 (rgn Tryd.f41 16) true) (.cond (.tmp 80) (.seq (.region 17 (rgn Tryd.f41 17) false) (.ret)) (.skip))) (.seq (.seq (.region 18 (rgn Tryd.f41 18) true) (.seq (.region 19 (rgn Tryd.f41 19) false) (.block 1 (.seq (.region 21 (rgn Tryd.f41 21) false) (.cond (.tmp 92) (.region 22 (rgn Tryd.f41 22) false) (.seq (.region 23 (rgn Tryd.f41 23) false) (.cond (.tmp 94) (.region 24 (rgn Tryd.f41 24) false) (.seq (.seq (.region 25 (rgn Tryd.f41 25) false) (.cond (.tmp 96) (.skip) (.region 26 (rgn Tryd.f41 26) false))) (.cond (.tmp 96) (.skip) (.seq (.region 27 (rgn Tryd.f41 27) false) (.cond (.tmp 99) (.seq (.region 28 (rgn Tryd.f41 28) false) (.seq (.seq (.region 29 (rgn Tryd.f41 29) false) (.block 2 (.loop (.seq (.region 30 (rgn Tryd.f41 30) false) (.seq (.cond (.tmp 102) (.skip) (.exit 2)) (.seq (.block 3 (.seq (.region 31 (rgn Tryd.f41 31) false) (.seq (.seq (.region 32 (rgn Tryd.f41 32) true) (.cond (.tmp 133) (.seq (.region 33 (rgn Tryd.f41 33) false) (.ret)) (.skip))) (.region 34 (rgn Tryd.f41 34) true)))) (.region 35 (rgn Tryd.f41 35) false))))))) (.region 36 (rgn Tryd.f41 36) false))) (.seq (.region 20 (rgn Tryd.f41 20) false) (.ret))))))))))))) (.seq (.region 37 (rgn Tryd.f41 37) false) (.goto 0))))))))))) none E ds H k := by
  rw [j_right _ _ _ _ _ _ _ rfl, j_right _ _ _ _ _ _ _ rfl, j_left _ _ _ _ _ _ _ rfl, j_here, thenE_norm]
theorem jt1 (E : Env) (ds : List Deferred) (H : Heap) (k : KOE) : execG PP XX K N noPr (.seq (.region 1 (rgn Tryd.f41 1) false) (.seq (.region 2 (rgn Tryd.f41 2) false) (.seq (.label 0) (.seq (.region 3 (rgn Tryd.f41 3) false) (.seq (.seq (.region 4 (rgn Tryd.f41 4) true) (.cond (.tmp 24) (.seq (.region 5 (rgn Tryd.f41 5) false) (.ret)) (.skip))) (.seq (.seq (.region 6 (rgn Tryd.f41 6) true) (.block 0 (.seq (.region 7 (rgn Tryd.f41 7) false) (.cond (.tmp 35) (.seq (.region 8 (rgn Tryd.f41 8) false) (.seq (.region 9 (rgn Tryd.f41 9) false) (.seq (.region 10 (rgn Tryd.f41 10) false) (.ret)))) (.seq (.region 11 (rgn Tryd.f41 11) false) (.cond (.tmp 50) (.goto 1) (.seq (.region 12 (rgn Tryd.f41 12) false) (.cond (.tmp 53) (.seq (.region 13 (rgn Tryd.f41 13) false) (.ret)) (.skip))))))))) (.seq (.region 14 (rgn Tryd.f41 14) false) (.seq (.goto 0) (.seq (.label 1) (.seq (.region 15 (rgn Tryd.f41 15) false) (.seq (.seq (.region 16 (rgn Tryd.f41 16) true) (.cond (.tmp 80) (.seq (.region 17 (rgn Tryd.f41 17) false) (.ret)) (.skip))) (.seq (.seq (.region 18 (rgn Tryd.f41 18) true) (.seq (.region 19 (rgn Tryd.f41 19) false) (.block 1 (.seq (.region 21 (rgn Tryd.f41 21) false) (.cond (.tmp 92) (.region 22 (rgn Tryd.f41 22) false) (.seq (.region 23 (rgn Tryd.f41 23) false) (.cond (.tmp 94) (.region 24 (rgn Tryd.f41 24) false) (.seq (.seq (.region 25 (rgn Tryd.f41 25) false) (.cond (.tmp 96) (.skip) (.region 26 (rgn Tryd.f41 26) false))) (.cond (.tmp 96) (.skip) (.seq (.region 27 (rgn Tryd.f41 27) false) (.cond (.tmp 99) (.seq (.region 28 (rgn Tryd.f41 28) false) (.seq (.seq (.region 29 (rgn Tryd.f41 29) false) (.block 2 (.loop (.seq (.region 30 (rgn Tryd.f41 30) false) (.seq (.cond (.tmp 102) (.skip) (.exit 2)) (.seq (.block 3 (.seq (.region 31 (rgn Tryd.f41 31) false) (.seq (.seq (.region 32 (rgn Tryd.f41 32) true) (.cond (.tmp 133) (.seq (.region 33 (rgn Tryd.f41 33) false) (.ret)) (.skip))) (.region 34 (rgn Tryd.f41 34) true)))) (.region 35 (rgn Tryd.f41 35) false))))))) (.region 36 (rgn Tryd.f41 36) false))) (.seq (.region 20 (rgn Tryd.f41 20) false) (.ret))))))))))))) (.seq (.region 37 (rgn Tryd.f41 37) false) (.goto 0)))))))))))))) (some 1) E ds H k = execG PP XX K N noPr (.seq (.region 15 (rgn Tryd.f41 15) false) (.seq (.seq (.region 16 (rgn Tryd.f41 16) true) (.cond (.tmp 80) (.seq (.region 17 (rgn Tryd.f41 17) false) (.ret)) (.skip))) (.seq (.seq (.region 18 (rgn Tryd.f41 18) true) (.seq (.region 19 (rgn Tryd.f41 19) false) (.block 1 (.seq (.region 21 (rgn Tryd.f41 21) false) (.cond (.tmp 92) (.region 22 (rgn Tryd.f41 22) false) (.seq (.region 23 (rgn Tryd.f41 23) false) (.cond (.tmp 94) (.region 24 (rgn Tryd.f41 24) false) (.seq (.seq (.region 25 (rgn Tryd.f41 25) false) (.cond (.tmp 96) (.skip) (.region 26 (rgn Tryd.f41 26) false))) (.cond (.tmp 96) (.skip) (.seq (.region 27 (rgn Tryd.f41 27) false) (.cond (.tmp 99) (.seq (.region 28 (rgn Tryd.f41 28) false) (.seq (.seq (.region 29 (rgn Tryd.f41 29) false) (.block 2 (.loop (.seq (.region 30 (rgn Tryd.f41 30) false) (.seq (.cond (.tmp 102) (.skip) (.exit 2)) (.seq (.block 3 (.seq (.region 31 (rgn Tryd.f41 31) false) (.seq (.seq (.region 32 (rgn Tryd.f41 32) true) (.cond (.tmp 133) (.seq (.region 33 (rgn Tryd.f41 33) false) (.ret)) (.skip))) (.region 34 (rgn Tryd.f41 34) true)))) (.region 35 (rgn Tryd.f41 35) false))))))) (.region 36 (rgn Tryd.f41 36) false))) (.seq (.region 20 (rgn Tryd.f41 20) false) (.ret))))))))))))) (.seq (.region 37 (rgn Tryd.f41 37) false) (.goto 0))))) none E ds H k := by
  rw [j_right _ _ _ _ _ _ _ rfl, j_right _ _ _ _ _ _ _ rfl, j_right _ _ _ _ _ _ _ rfl, j_right _ _ _ _ _ _ _ rfl, j_right _ _ _ _ _ _ _ rfl, j_right _ _ _ _ _ _ _ rfl, j_right _ _ _ _ _ _ _ rfl, j_right _ _ _ _ _ _ _ rfl, j_left _ _ _ _ _ _ _ rfl, j_here, thenE_norm]
end jumps
theorem tab0 : hasLabel 0 (.seq (.region 1 (rgn Tryd.f41 1) false) (.seq (.region 2 (rgn Tryd.f41 2) false) (.seq (.label 0) (.seq (.region 3 (rgn Tryd.f41 3) false) (.seq (.seq (.region 4 (rgn Tryd.f41 4) true) (.cond (.tmp 24) (.seq (.region 5 (rgn Tryd.f41 5) false) (.ret)) (.skip))) (.seq (.seq (.region 6 (rgn Tryd.f41 6) true) (.block 0 (.seq (.region 7 (rgn Tryd.f41 7) false) (.cond (.tmp 35) (.seq (.region 8 (rgn Tryd.f41 8) false) (.seq (.region 9 (rgn Tryd.f41 9) false) (.seq (.region 10 (rgn Tryd.f41 10) false) (.ret)))) (.seq (.region 11 (rgn Tryd.f41 11) false) (.cond (.tmp 50) (.goto 1) (.seq (.region 12 (rgn Tryd.f41 12) false) (.cond (.tmp 53) (.seq (.region 13 (rgn Tryd.f41 13) false) (.ret)) (.skip))))))))) (.seq (.region 14 (rgn Tryd.f41 14) false) (.seq (.goto 0) (.seq (.label 1) (.seq (.region 15 (rgn Tryd.f41 15) false) (.seq (.seq (.region 16 (rgn Tryd.f41 16) true) (.cond (.tmp 80) (.seq (.region 17 (rgn Tryd.f41 17) false) (.ret)) (.skip))) (.seq (.seq (.region 18 (rgn Tryd.f41 18) true) (.seq (.region 19 (rgn Tryd.f41 19) false) (.block 1 (.seq (.region 21 (rgn Tryd.f41 21) false) (.cond (.tmp 92) (.region 22 (rgn Tryd.f41 22) false) (.seq (.region 23 (rgn Tryd.f41 23) false) (.cond (.tmp 94) (.region 24 (rgn Tryd.f41 24) false) (.seq (.seq (.region 25 (rgn Tryd.f41 25) false) (.cond (.tmp 96) (.skip) (.region 26 (rgn Tryd.f41 26) false))) (.cond (.tmp 96) (.skip) (.seq (.region 27 (rgn Tryd.f41 27) false) (.cond (.tmp 99) (.seq (.region 28 (rgn Tryd.f41 28) false) (.seq (.seq (.region 29 (rgn Tryd.f41 29) false) (.block 2 (.loop (.seq (.region 30 (rgn Tryd.f41 30) false) (.seq (.cond (.tmp 102) (.skip) (.exit 2)) (.seq (.block 3 (.seq (.region 31 (rgn Tryd.f41 31) false) (.seq (.seq (.region 32 (rgn Tryd.f41 32) true) (.cond (.tmp 133) (.seq (.region 33 (rgn Tryd.f41 33) false) (.ret)) (.skip))) (.region 34 (rgn Tryd.f41 34) true)))) (.region 35 (rgn Tryd.f41 35) false))))))) (.region 36 (rgn Tryd.f41 36) false))) (.seq (.region 20 (rgn Tryd.f41 20) false) (.ret))))))))))))) (.seq (.region 37 (rgn Tryd.f41 37) false) (.goto 0)))))))))))))) = true := by rfl
theorem tab1 : hasLabel 1 (.seq (.region 1 (rgn Tryd.f41 1) false) (.seq (.region 2 (rgn Tryd.f41 2) false) (.seq (.label 0) (.seq (.region 3 (rgn Tryd.f41 3) false) (.seq (.seq (.region 4 (rgn Tryd.f41 4) true) (.cond (.tmp 24) (.seq (.region 5 (rgn Tryd.f41 5) false) (.ret)) (.skip))) (.seq (.seq (.region 6 (rgn Tryd.f41 6) true) (.block 0 (.seq (.region 7 (rgn Tryd.f41 7) false) (.cond (.tmp 35) (.seq (.region 8 (rgn Tryd.f41 8) false) (.seq (.region 9 (rgn Tryd.f41 9) false) (.seq (.region 10 (rgn Tryd.f41 10) false) (.ret)))) (.seq (.region 11 (rgn Tryd.f41 11) false) (.cond (.tmp 50) (.goto 1) (.seq (.region 12 (rgn Tryd.f41 12) false) (.cond (.tmp 53) (.seq (.region 13 (rgn Tryd.f41 13) false) (.ret)) (.skip))))))))) (.seq (.region 14 (rgn Tryd.f41 14) false) (.seq (.goto 0) (.seq (.label 1) (.seq (.region 15 (rgn Tryd.f41 15) false) (.seq (.seq (.region 16 (rgn Tryd.f41 16) true) (.cond (.tmp 80) (.seq (.region 17 (rgn Tryd.f41 17) false) (.ret)) (.skip))) (.seq (.seq (.region 18 (rgn Tryd.f41 18) true) (.seq (.region 19 (rgn Tryd.f41 19) false) (.block 1 (.seq (.region 21 (rgn Tryd.f41 21) false) (.cond (.tmp 92) (.region 22 (rgn Tryd.f41 22) false) (.seq (.region 23 (rgn Tryd.f41 23) false) (.cond (.tmp 94) (.region 24 (rgn Tryd.f41 24) false) (.seq (.seq (.region 25 (rgn Tryd.f41 25) false) (.cond (.tmp 96) (.skip) (.region 26 (rgn Tryd.f41 26) false))) (.cond (.tmp 96) (.skip) (.seq (.region 27 (rgn Tryd.f41 27) false) (.cond (.tmp 99) (.seq (.region 28 (rgn Tryd.f41 28) false) (.seq (.seq (.region 29 (rgn Tryd.f41 29) false) (.block 2 (.loop (.seq (.region 30 (rgn Tryd.f41 30) false) (.seq (.cond (.tmp 102) (.skip) (.exit 2)) (.seq (.block 3 (.seq (.region 31 (rgn Tryd.f41 31) false) (.seq (.seq (.region 32 (rgn Tryd.f41 32) true) (.cond (.tmp 133) (.seq (.region 33 (rgn Tryd.f41 33) false) (.ret)) (.skip))) (.region 34 (rgn Tryd.f41 34) true)))) (.region 35 (rgn Tryd.f41 35) false))))))) (.region 36 (rgn Tryd.f41 36) false))) (.seq (.region 20 (rgn Tryd.f41 20) false) (.ret))))))))))))) (.seq (.region 37 (rgn Tryd.f41 37) false) (.goto 0)))))))))))))) = true := by rfl
def hexN (u : UInt8) : Nat := (hexT u.toNat).toNat
theorem x_done {K : Kf} {N : Nat} {H : Heap} {E : Env} {Q : R → Prop} {k : KOE} (e101 : E 101 = .int .i64 ((2 : Nat) : Int)) (hx : Q (k (.exit 2) (upd E (some 102) (.bool false)) [] H)) : Q (execG PP XX K N noPr (.seq (.region 30 (rgn Tryd.f41 30) false) (.seq (.cond (.tmp 102) (.skip) (.exit 2)) (.seq (.block 3 (.seq (.region 31 (rgn Tryd.f41 31) false) (.seq (.seq (.region 32 (rgn Tryd.f41 32) true) (.cond (.tmp 133) (.seq (.region 33 (rgn Tryd.f41 33) false) (.ret)) (.skip))) (.region 34 (rgn Tryd.f41 34) true)))) (.region 35 (rgn Tryd.f41 35) false)))) none E [] H k) := by
  have hlt : decide (((2 : Nat) : Int) < 2) = false := by decide
  have l30 := tl (rgn Tryd.f41 30)
  conv at l30 => rhs; simp only [rgn, opsAt, codeOf, Tryd.f41, gS, gN, reduceIte, Nat.reduceEqDiff, tA]
  simp (decide := true) only [↓execG_seq, ↓g_region, thenE_norm, ↓r_nil, ↓r_cons, ↓o_binOp, nextE_app, putG_bool, normK_app, evalE_tmp, evalE_const, bindO_ok, ↓reg_lit l30, e101, binA_lss]
  exact hx
set_option maxRecDepth 100000 in
theorem e_x {N : Nat} {H0 H : Heap} {a : Option Addr} {c : Nat} {s : List UInt8} {b t i : Nat} {E : Env} {Q : R → Prop} {k : KOE} {hk : Hook} {d : Nat} {v : Value} {o : List UInt8} (x : Ctx H0 a c s b) (h : Txt H0 H b a s.length c i v o) (hi : i < s.length) (e0 : E 0 = .pointer (some ⟨b, 0, none⟩)) (e1 : E 1 = .pointer (some ⟨t, 0, none⟩)) (e5 : E 5 = v) (hhex : ∀ (u : UInt8) H, Ext GE H → hk 55 #[.int .u8 (u.toNat : Int)] H = some (some (.ret (.int .u64 (hexT u.toNat)), H))) (hN : 4 < N) (hj : ¬ i + 1 = s.length) (hc : s.getD (i + 1) 0 = 120) (hn : o.length ≤ 1048576)
    (hb : ∀ e : Nat, ((e = i + 2 ∧ (i + 2 = s.length ∨ hexT (s.getD (i + 2) 0).toNat = 16)) ∨ (e = i + 3 ∧ i + 2 < s.length ∧ hexT (s.getD (i + 2) 0).toNat < 16 ∧ (i + 3 = s.length ∨ hexT (s.getD (i + 3) 0).toNat = 16))) →
      ∀ E' H', E' 4 = .bool false → Txt H0 H' b a s.length c e v o → Q (k .ret E' [] H'))
    (hg : i + 3 < s.length → hexT (s.getD (i + 2) 0).toNat < 16 → hexT (s.getD (i + 3) 0).toNat < 16 →
      ∀ E' H' v', E' 0 = .pointer (some ⟨b, 0, none⟩) → E' 1 = .pointer (some ⟨t, 0, none⟩) → E' 5 = v' → Txt H0 H' b a s.length c (i + 3) v' (o ++ [UInt8.ofNat (hexN (s.getD (i + 2) 0) * 16 + hexN (s.getD (i + 3) 0))]) → Q (k (.goto 0) E' [] H')) :
    Q (execG PP XX (CG N hk (d + 2)) N noPr (.seq (.region 15 (rgn Tryd.f41 15) false) (.seq (.seq (.region 16 (rgn Tryd.f41 16) true) (.cond (.tmp 80) (.seq (.region 17 (rgn Tryd.f41 17) false) (.ret)) (.skip))) (.seq (.seq (.region 18 (rgn Tryd.f41 18) true) (.seq (.region 19 (rgn Tryd.f41 19) false) (.block 1 (.seq (.region 21 (rgn Tryd.f41 21) false) (.cond (.tmp 92) (.region 22 (rgn Tryd.f41 22) false) (.seq (.region 23 (rgn Tryd.f41 23) false) (.cond (.tmp 94) (.region 24 (rgn Tryd.f41 24) false) (.seq (.seq (.region 25 (rgn Tryd.f41 25) false) (.cond (.tmp 96) (.skip) (.region 26 (rgn Tryd.f41 26) false))) (.cond (.tmp 96) (.skip) (.seq (.region 27 (rgn Tryd.f41 27) false) (.cond (.tmp 99) (.seq (.region 28 (rgn Tryd.f41 28) false) (.seq (.seq (.region 29 (rgn Tryd.f41 29) false) (.block 2 (.loop (.seq (.region 30 (rgn Tryd.f41 30) false) (.seq (.cond (.tmp 102) (.skip) (.exit 2)) (.seq (.block 3 (.seq (.region 31 (rgn Tryd.f41 31) false) (.seq (.seq (.region 32 (rgn Tryd.f41 32) true) (.cond (.tmp 133) (.seq (.region 33 (rgn Tryd.f41 33) false) (.ret)) (.skip))) (.region 34 (rgn Tryd.f41 34) true)))) (.region 35 (rgn Tryd.f41 35) false))))))) (.region 36 (rgn Tryd.f41 36) false))) (.seq (.region 20 (rgn Tryd.f41 20) false) (.ret))))))))))))) (.seq (.region 37 (rgn Tryd.f41 37) false) (.goto 0))))) none E [] H k) := by
  have hsm := x.row.small
  have w1 : IntKind.i64.wrap ((i : Int) + 1) = ((i + 1 : Nat) : Int) := by rw [wrap_i64 (by omega) (by omega)]; omega
  have hz : (((i + 1 : Nat) : Int) == (s.length : Int)) = decide (i + 1 = s.length) := by
    rw [Bool.eq_iff_iff, beq_iff_eq, decide_eq_true_eq]; omega
  have h1 := h.set x.lt (i + 1)
  have hj : i + 1 < s.length := by omega
  have hgd : s.getD (i + 1) 0 = s[i + 1] := by simp [List.getD, hj]
  rw [decide_eq_false (by omega)] at hz
  obtain ⟨y, rfl, hl⟩ := (h1.row x).bts.cell (i + 1) hj
  have hix := index_row (n := s.length) (c := c) (a := y) hj
  have hcv : s[i + 1] = 120 := by rw [← hgd]; exact hc
  have z110 : ((s[i + 1].toNat : Int) == 110) = false := by rw [hcv]; rfl
  have z116 : ((s[i + 1].toNat : Int) == 116) = false := by rw [hcv]; rfl
  have z34 : ((s[i + 1].toNat : Int) == 34) = false := by rw [hcv]; rfl
  have z92 : ((s[i + 1].toNat : Int) == 92) = false := by rw [hcv]; rfl
  have z120 : ((s[i + 1].toNat : Int) == 120) = true := by rw [hcv]; rfl
  obtain ⟨M, rfl⟩ : ∃ q, N = q + 1 + 1 + 1 := ⟨N - 3, by omega⟩
  have lt2 := fun u : UInt8 => hexT_le u.toNat
  have l15 := tl (rgn Tryd.f41 15)
  conv at l15 => rhs; simp only [rgn, opsAt, codeOf, Tryd.f41, gS, gN, reduceIte, Nat.reduceEqDiff, tA]
  have l16 := tl (rgn Tryd.f41 16)
  conv at l16 => rhs; simp only [rgn, opsAt, codeOf, Tryd.f41, gS, gN, reduceIte, Nat.reduceEqDiff, tA]
  have l18 := tl (rgn Tryd.f41 18)
  conv at l18 => rhs; simp only [rgn, opsAt, codeOf, Tryd.f41, gS, gN, reduceIte, Nat.reduceEqDiff, tA]
  have l19 := tl (rgn Tryd.f41 19)
  conv at l19 => rhs; simp only [rgn, opsAt, codeOf, Tryd.f41, gS, gN, reduceIte, Nat.reduceEqDiff, tA]
  have l21 := tl (rgn Tryd.f41 21)
  conv at l21 => rhs; simp only [rgn, opsAt, codeOf, Tryd.f41, gS, gN, reduceIte, Nat.reduceEqDiff, tA]
  have l23 := tl (rgn Tryd.f41 23)
  conv at l23 => rhs; simp only [rgn, opsAt, codeOf, Tryd.f41, gS, gN, reduceIte, Nat.reduceEqDiff, tA]
  have l25 := tl (rgn Tryd.f41 25)
  conv at l25 => rhs; simp only [rgn, opsAt, codeOf, Tryd.f41, gS, gN, reduceIte, Nat.reduceEqDiff, tA]
  have l26 := tl (rgn Tryd.f41 26)
  conv at l26 => rhs; simp only [rgn, opsAt, codeOf, Tryd.f41, gS, gN, reduceIte, Nat.reduceEqDiff, tA]
  have l27 := tl (rgn Tryd.f41 27)
  conv at l27 => rhs; simp only [rgn, opsAt, codeOf, Tryd.f41, gS, gN, reduceIte, Nat.reduceEqDiff, tA]
  have l28 := tl (rgn Tryd.f41 28)
  conv at l28 => rhs; simp only [rgn, opsAt, codeOf, Tryd.f41, gS, gN, reduceIte, Nat.reduceEqDiff, tA]
  have l29 := tl (rgn Tryd.f41 29)
  conv at l29 => rhs; simp only [rgn, opsAt, codeOf, Tryd.f41, gS, gN, reduceIte, Nat.reduceEqDiff, tA]
  simp (decide := true) only [↓execG_seq, ↓g_region, ↓execG_block, ↓execG_skip, ↓g_if, ↓g_else, thenE_norm, ↓r_nil, ↓r_cons, ↓o_move, ↓o_assign, ↓o_load, ↓o_store, ↓o_nilCheck, ↓o_binOp, ↓o_fieldAddr, ↓o_indexAddr, ↓o_builtin, nextE_app, putK_app, putO_app, putG_bool, putG_int, normK_app, nilCheckA_ok, evalE_tmp, evalE_const, upd_some, upd_none, bindO_ok, bindV_ok, reduceIte, map_one, ↓reg_lit l15, ↓reg_lit l16, ↓reg_lit l18, ↓reg_lit l19, ↓reg_lit l21, ↓reg_lit l23, ↓reg_lit l25, ↓reg_lit l26, ↓reg_lit l27, ↓reg_lit l28, ↓reg_lit l29, z110, z116, z34, z92, z120, ↓execG_loop, e0, fld0, fld1, load_at h.here, binA_add, w1, store_at h.here, load_at h1.here, load_src h1.here, len_slice (ts := #[26]) rfl und34, binA_eql, hz, hix, load_byte hl]
  rw [loopE_succ]
  by_cases q1 : i + 1 + 1 = s.length
  · refine x_end (t := t) x h1 hj ?_ ?_ ?_ (q := 0) ?_ (by decide) q1 fun E' H' e4 h' => ?_
    · simp (decide := true) only [upd_some, reduceIte, e0]
    · simp (decide := true) only [upd_some, reduceIte, e1]
    · simp (decide := true) only [upd_some, reduceIte, e5]
    · simp (decide := true) only [upd_some, reduceIte]
    · simp (decide := true) only [thenE_ret, leaveB_ret]
      exact hb (i + 2) (.inl ⟨rfl, .inl q1⟩) E' H' e4 h'
  by_cases q2 : hexT (s.getD (i + 1 + 1) 0).toNat = 16
  · refine x_bad (t := t) x h1 hj ?_ ?_ ?_ hhex (q := 0) ?_ (by decide) q1 q2 fun E' H' e4 h' => ?_
    · simp (decide := true) only [upd_some, reduceIte, e0]
    · simp (decide := true) only [upd_some, reduceIte, e1]
    · simp (decide := true) only [upd_some, reduceIte, e5]
    · simp (decide := true) only [upd_some, reduceIte]
    · simp (decide := true) only [thenE_ret, leaveB_ret]
      exact hb (i + 2) (.inl ⟨rfl, .inr q2⟩) E' H' e4 h'
  have q2' : hexT (s.getD (i + 1 + 1) 0).toNat < 16 := by have := lt2 (s.getD (i + 1 + 1) 0); omega
  refine x_step (t := t) x h1 hj ?_ ?_ ?_ hhex (q := 0) (g := 0) ?_ (by decide) ?_ (by decide) q1 q2' fun E2 a0 a1 a5 a7 a101 h2 => ?_
  · simp (decide := true) only [upd_some, reduceIte, e0]
  · simp (decide := true) only [upd_some, reduceIte, e1]
  · simp (decide := true) only [upd_some, reduceIte, e5]
  · simp (decide := true) only [upd_some, reduceIte]; rfl
  · simp (decide := true) only [upd_some, reduceIte]; rfl
  rw [thenE_norm, loopE_succ]
  by_cases q3 : i + 1 + 1 + 1 = s.length
  · refine x_end (t := t) x h2 (by omega) a0 a1 a5 (q := 1) a101 (by decide) q3 fun E' H' e4 h' => ?_
    simp (decide := true) only [thenE_ret, leaveB_ret]
    exact hb (i + 3) (.inr ⟨rfl, by omega, q2', .inl q3⟩) E' H' e4 h'
  by_cases q4 : hexT (s.getD (i + 1 + 1 + 1) 0).toNat = 16
  · refine x_bad (t := t) x h2 (by omega) a0 a1 a5 hhex (q := 1) a101 (by decide) q3 q4 fun E' H' e4 h' => ?_
    simp (decide := true) only [thenE_ret, leaveB_ret]
    exact hb (i + 3) (.inr ⟨rfl, by omega, q2', .inr q4⟩) E' H' e4 h'
  have q4' : hexT (s.getD (i + 1 + 1 + 1) 0).toNat < 16 := by have := lt2 (s.getD (i + 1 + 1 + 1) 0); omega
  have n2 := hexT_nn (s.getD (i + 1 + 1) 0).toNat
  have n3 := hexT_nn (s.getD (i + 1 + 1 + 1) 0).toNat
  have g2 : 0 * 16 + hexN (s.getD (i + 1 + 1) 0) < 16 := by unfold hexN; omega
  refine x_step (t := t) x h2 (by omega) a0 a1 a5 hhex (q := 1) (g := 0 * 16 + hexN (s.getD (i + 1 + 1) 0)) a101 (by decide) a7 g2 q3 q4' fun E3 b0 b1 b5 b7 b101 h3 => ?_
  rw [thenE_norm, loopE_succ]
  refine x_done b101 ?_
  have hu : ((UInt8.ofNat (hexN (s.getD (i + 1 + 1) 0) * 16 + hexN (s.getD (i + 1 + 1 + 1) 0))).toNat : Int) = (((0 * 16 + hexN (s.getD (i + 1 + 1) 0)) * 16 + hexN (s.getD (i + 1 + 1 + 1) 0) : Nat) : Int) := by
    have l3 : hexN (s.getD (i + 1 + 1 + 1) 0) < 16 := by unfold hexN; omega
    rw [UInt8.toNat_ofNat']; omega
  have wb : IntKind.u8.wrap (((0 * 16 + hexN (s.getD (i + 1 + 1) 0)) * 16 + hexN (s.getD (i + 1 + 1 + 1) 0) : Nat) : Int) = ((UInt8.ofNat (hexN (s.getD (i + 1 + 1) 0) * 16 + hexN (s.getD (i + 1 + 1 + 1) 0))).toNat : Int) := by
    rw [hu]
    have l3 : hexN (s.getD (i + 1 + 1 + 1) 0) < 16 := by unfold hexN; omega
    exact wrap_u8' (by omega) (by omega)
  obtain ⟨v', H', c1, c2⟩ := h3.add x.gg.fresh x.lt (UInt8.ofNat (hexN (s.getD (i + 1 + 1) 0) * 16 + hexN (s.getD (i + 1 + 1 + 1) 0))) hn
  have b7 : E3 7 = .int .u64 (((0 * 16 + hexN (s.getD (i + 1 + 1) 0)) * 16 + hexN (s.getD (i + 1 + 1 + 1) 0) : Nat) : Int) := b7
  have l36 := tl (rgn Tryd.f41 36)
  conv at l36 => rhs; simp only [rgn, opsAt, codeOf, Tryd.f41, gS, gN, reduceIte, Nat.reduceEqDiff, tA]
  have l37 := tl (rgn Tryd.f41 37)
  conv at l37 => rhs; simp only [rgn, opsAt, codeOf, Tryd.f41, gS, gN, reduceIte, Nat.reduceEqDiff, tA]
  simp (decide := true) only [↓execG_seq, ↓g_region, thenE_norm, thenE_exit, leaveB_norm, g_leave, ↓r_nil, ↓r_cons, ↓o_move, ↓o_assign, ↓o_buildSlice, ↓o_convert, ↓o_builtin, nextE_app, putK_app, normK_app, evalE_tmp, upd_some, bindV_ok, reduceIte, map_one, map_two, ↓reg_lit l36, ↓reg_lit l37, ↓execG_goto, b5, b7, conv_u8, wb, bslice1, app_bytes, c1]
  refine hg (by omega) q2' q4' _ H' v' ?_ ?_ ?_ c2
  · simp (decide := true) only [upd_some, reduceIte, b0]
  · simp (decide := true) only [upd_some, reduceIte, b1]
  · simp (decide := true) only [upd_some, reduceIte]
end Go.Am
/- A text: the contract. -/
open Go.Proofs
namespace Go.Am
/-- What a text's reading comes to. -/
inductive TR where
  | bad (e : Nat)
  | good (w : List UInt8) (e : Nat)
def textI (s : List UInt8) : Nat → Nat → List UInt8 → TR
  | 0, i, _ => .bad i
  | k + 1, i, o =>
    if i + 1 = s.length then .bad (i + 1)
    else if s.getD (i + 1) 0 = 34 then .good o (i + 2)
    else if s.getD (i + 1) 0 = 92 then
      (if i + 2 = s.length then .bad (i + 2)
       else if s.getD (i + 2) 0 = 110 then textI s k (i + 2) (o ++ [10])
       else if s.getD (i + 2) 0 = 116 then textI s k (i + 2) (o ++ [9])
       else if s.getD (i + 2) 0 = 34 then textI s k (i + 2) (o ++ [34])
       else if s.getD (i + 2) 0 = 92 then textI s k (i + 2) (o ++ [92])
       else if s.getD (i + 2) 0 = 120 then
         (if i + 3 = s.length ∨ hexT (s.getD (i + 3) 0).toNat = 16 then .bad (i + 3)
          else if i + 4 = s.length ∨ hexT (s.getD (i + 4) 0).toNat = 16 then .bad (i + 4)
          else textI s k (i + 4) (o ++ [UInt8.ofNat (hexN (s.getD (i + 3) 0) * 16 + hexN (s.getD (i + 4) 0))]))
       else .bad (i + 2))
    else if (s.getD (i + 1) 0).toNat < 32 ∨ 126 < (s.getD (i + 1) 0).toNat then .bad (i + 1)
    else textI s k (i + 1) (o ++ [s.getD (i + 1) 0])
def FinT (H0 : Heap) (a : Option Addr) (l c b t : Nat) (kd n0 f0 t0 : Int) (r : TR) (E' : Env) (H' : Heap) : Prop :=
  match r with
  | .bad e => E' 4 = .bool false ∧ ∃ v o, Txt H0 H' b a l c e v o
  | .good w e => E' 4 = .bool true ∧ Lexd H0 H' b (cur a l c e) t (tok kd n0 ⟨⟨w⟩⟩ f0 t0)
set_option maxRecDepth 100000 in
theorem t_then {N : Nat} {H0 : Heap} {a : Option Addr} {c : Nat} {s : List UInt8} {b t : Nat} {Q : R → Prop} {k : KOE} {hk : Hook} {d : Nat} {kd n0 f0 t0 : Int} (x : Ctx H0 a c s b) (hbt : t ≠ b) (ht : H0.get t = some (tok kd n0 .empty f0 t0)) (hhex : ∀ (u : UInt8) H, Ext GE H → hk 55 #[.int .u8 (u.toNat : Int)] H = some (some (.ret (.int .u64 (hexT u.toNat)), H))) (hN : 4 < N) (hs : s.length ≤ 1048576) :
    ∀ (f i : Nat) (o : List UInt8) (m : Nat) (_ : i < s.length) (_ : s.length ≤ i + f) (_ : o.length ≤ i) (_ : 2 * f < m) {H : Heap} {E : Env} {v : Value} (_ : Txt H0 H b a s.length c i v o) (_ : (E 0 = .pointer (some ⟨b, 0, none⟩) ∧ E 1 = .pointer (some ⟨t, 0, none⟩) ∧ E 5 = v))
      (_ : ∀ E' H', FinT H0 a s.length c b t kd n0 f0 t0 (textI s f i o) E' H' → Q (k .ret E' [] H')), Q (execG PP XX (CG N hk (d + 2)) N noPr (.seq (.region 3 (rgn Tryd.f41 3) false) (.seq (.seq (.region 4 (rgn Tryd.f41 4) true) (.cond (.tmp 24) (.seq (.region 5 (rgn Tryd.f41 5) false) (.ret)) (.skip))) (.seq (.seq (.region 6 (rgn Tryd.f41 6) true) (.block 0 (.seq (.region 7 (rgn Tryd.f41 7) false) (.cond (.tmp 35) (.seq (.region 8 (rgn Tryd.f41 8) false) (.seq (.region 9 (rgn Tryd.f41 9) false) (.seq (.region 10 (rgn Tryd.f41 10) false) (.ret)))) (.seq (.region 11 (rgn Tryd.f41 11) false) (.cond (.tmp 50) (.goto 1) (.seq (.region 12 (rgn Tryd.f41 12) false) (.cond (.tmp 53) (.seq (.region 13 (rgn Tryd.f41 13) false) (.ret)) (.skip))))))))) (.seq (.region 14 (rgn Tryd.f41 14) false) (.seq (.goto 0) (.seq (.label 1) (.seq (.region 15 (rgn Tryd.f41 15) false) (.seq (.seq (.region 16 (rgn Tryd.f41 16) true) (.cond (.tmp 80) (.seq (.region 17 (rgn Tryd.f41 17) false) (.ret)) (.skip))) (.seq (.seq (.region 18 (rgn Tryd.f41 18) true) (.seq (.region 19 (rgn Tryd.f41 19) false) (.block 1 (.seq (.region 21 (rgn Tryd.f41 21) false) (.cond (.tmp 92) (.region 22 (rgn Tryd.f41 22) false) (.seq (.region 23 (rgn Tryd.f41 23) false) (.cond (.tmp 94) (.region 24 (rgn Tryd.f41 24) false) (.seq (.seq (.region 25 (rgn Tryd.f41 25) false) (.cond (.tmp 96) (.skip) (.region 26 (rgn Tryd.f41 26) false))) (.cond (.tmp 96) (.skip) (.seq (.region 27 (rgn Tryd.f41 27) false) (.cond (.tmp 99) (.seq (.region 28 (rgn Tryd.f41 28) false) (.seq (.seq (.region 29 (rgn Tryd.f41 29) false) (.block 2 (.loop (.seq (.region 30 (rgn Tryd.f41 30) false) (.seq (.cond (.tmp 102) (.skip) (.exit 2)) (.seq (.block 3 (.seq (.region 31 (rgn Tryd.f41 31) false) (.seq (.seq (.region 32 (rgn Tryd.f41 32) true) (.cond (.tmp 133) (.seq (.region 33 (rgn Tryd.f41 33) false) (.ret)) (.skip))) (.region 34 (rgn Tryd.f41 34) true)))) (.region 35 (rgn Tryd.f41 35) false))))))) (.region 36 (rgn Tryd.f41 36) false))) (.seq (.region 20 (rgn Tryd.f41 20) false) (.ret))))))))))))) (.seq (.region 37 (rgn Tryd.f41 37) false) (.goto 0))))))))))) none E [] H (scopeK (.seq (.region 1 (rgn Tryd.f41 1) false) (.seq (.region 2 (rgn Tryd.f41 2) false) (.seq (.label 0) (.seq (.region 3 (rgn Tryd.f41 3) false) (.seq (.seq (.region 4 (rgn Tryd.f41 4) true) (.cond (.tmp 24) (.seq (.region 5 (rgn Tryd.f41 5) false) (.ret)) (.skip))) (.seq (.seq (.region 6 (rgn Tryd.f41 6) true) (.block 0 (.seq (.region 7 (rgn Tryd.f41 7) false) (.cond (.tmp 35) (.seq (.region 8 (rgn Tryd.f41 8) false) (.seq (.region 9 (rgn Tryd.f41 9) false) (.seq (.region 10 (rgn Tryd.f41 10) false) (.ret)))) (.seq (.region 11 (rgn Tryd.f41 11) false) (.cond (.tmp 50) (.goto 1) (.seq (.region 12 (rgn Tryd.f41 12) false) (.cond (.tmp 53) (.seq (.region 13 (rgn Tryd.f41 13) false) (.ret)) (.skip))))))))) (.seq (.region 14 (rgn Tryd.f41 14) false) (.seq (.goto 0) (.seq (.label 1) (.seq (.region 15 (rgn Tryd.f41 15) false) (.seq (.seq (.region 16 (rgn Tryd.f41 16) true) (.cond (.tmp 80) (.seq (.region 17 (rgn Tryd.f41 17) false) (.ret)) (.skip))) (.seq (.seq (.region 18 (rgn Tryd.f41 18) true) (.seq (.region 19 (rgn Tryd.f41 19) false) (.block 1 (.seq (.region 21 (rgn Tryd.f41 21) false) (.cond (.tmp 92) (.region 22 (rgn Tryd.f41 22) false) (.seq (.region 23 (rgn Tryd.f41 23) false) (.cond (.tmp 94) (.region 24 (rgn Tryd.f41 24) false) (.seq (.seq (.region 25 (rgn Tryd.f41 25) false) (.cond (.tmp 96) (.skip) (.region 26 (rgn Tryd.f41 26) false))) (.cond (.tmp 96) (.skip) (.seq (.region 27 (rgn Tryd.f41 27) false) (.cond (.tmp 99) (.seq (.region 28 (rgn Tryd.f41 28) false) (.seq (.seq (.region 29 (rgn Tryd.f41 29) false) (.block 2 (.loop (.seq (.region 30 (rgn Tryd.f41 30) false) (.seq (.cond (.tmp 102) (.skip) (.exit 2)) (.seq (.block 3 (.seq (.region 31 (rgn Tryd.f41 31) false) (.seq (.seq (.region 32 (rgn Tryd.f41 32) true) (.cond (.tmp 133) (.seq (.region 33 (rgn Tryd.f41 33) false) (.ret)) (.skip))) (.region 34 (rgn Tryd.f41 34) true)))) (.region 35 (rgn Tryd.f41 35) false))))))) (.region 36 (rgn Tryd.f41 36) false))) (.seq (.region 20 (rgn Tryd.f41 20) false) (.ret))))))))))))) (.seq (.region 37 (rgn Tryd.f41 37) false) (.goto 0)))))))))))))) (execG PP XX (CG N hk (d + 2)) N noPr (.seq (.region 1 (rgn Tryd.f41 1) false) (.seq (.region 2 (rgn Tryd.f41 2) false) (.seq (.label 0) (.seq (.region 3 (rgn Tryd.f41 3) false) (.seq (.seq (.region 4 (rgn Tryd.f41 4) true) (.cond (.tmp 24) (.seq (.region 5 (rgn Tryd.f41 5) false) (.ret)) (.skip))) (.seq (.seq (.region 6 (rgn Tryd.f41 6) true) (.block 0 (.seq (.region 7 (rgn Tryd.f41 7) false) (.cond (.tmp 35) (.seq (.region 8 (rgn Tryd.f41 8) false) (.seq (.region 9 (rgn Tryd.f41 9) false) (.seq (.region 10 (rgn Tryd.f41 10) false) (.ret)))) (.seq (.region 11 (rgn Tryd.f41 11) false) (.cond (.tmp 50) (.goto 1) (.seq (.region 12 (rgn Tryd.f41 12) false) (.cond (.tmp 53) (.seq (.region 13 (rgn Tryd.f41 13) false) (.ret)) (.skip))))))))) (.seq (.region 14 (rgn Tryd.f41 14) false) (.seq (.goto 0) (.seq (.label 1) (.seq (.region 15 (rgn Tryd.f41 15) false) (.seq (.seq (.region 16 (rgn Tryd.f41 16) true) (.cond (.tmp 80) (.seq (.region 17 (rgn Tryd.f41 17) false) (.ret)) (.skip))) (.seq (.seq (.region 18 (rgn Tryd.f41 18) true) (.seq (.region 19 (rgn Tryd.f41 19) false) (.block 1 (.seq (.region 21 (rgn Tryd.f41 21) false) (.cond (.tmp 92) (.region 22 (rgn Tryd.f41 22) false) (.seq (.region 23 (rgn Tryd.f41 23) false) (.cond (.tmp 94) (.region 24 (rgn Tryd.f41 24) false) (.seq (.seq (.region 25 (rgn Tryd.f41 25) false) (.cond (.tmp 96) (.skip) (.region 26 (rgn Tryd.f41 26) false))) (.cond (.tmp 96) (.skip) (.seq (.region 27 (rgn Tryd.f41 27) false) (.cond (.tmp 99) (.seq (.region 28 (rgn Tryd.f41 28) false) (.seq (.seq (.region 29 (rgn Tryd.f41 29) false) (.block 2 (.loop (.seq (.region 30 (rgn Tryd.f41 30) false) (.seq (.cond (.tmp 102) (.skip) (.exit 2)) (.seq (.block 3 (.seq (.region 31 (rgn Tryd.f41 31) false) (.seq (.seq (.region 32 (rgn Tryd.f41 32) true) (.cond (.tmp 133) (.seq (.region 33 (rgn Tryd.f41 33) false) (.ret)) (.skip))) (.region 34 (rgn Tryd.f41 34) true)))) (.region 35 (rgn Tryd.f41 35) false))))))) (.region 36 (rgn Tryd.f41 36) false))) (.seq (.region 20 (rgn Tryd.f41 20) false) (.ret))))))))))))) (.seq (.region 37 (rgn Tryd.f41 37) false) (.goto 0))))))))))))))) m k))
  | 0, i, o, m, hi, hf, ho, hm, H, E, v, h, he, hx => by omega
  | f + 1, i, o, m, hi, hf, ho, hm, H, E, v, h, he, hx => by
    obtain ⟨e0, e1, e5⟩ := he
    obtain ⟨m2, rfl⟩ : ∃ q, m = q + 1 + 1 := ⟨m - 2, by omega⟩
    have hm2 : 2 * f < m2 := by omega
    have hol : o.length ≤ 1048576 := by omega
    have next : ∀ (j : Nat) (u : UInt8) (q : Nat) (E' : Env) (H' : Heap) (v' : Value), i < j → j < s.length → q = m2 ∨ q = m2 + 1 → Txt H0 H' b a s.length c j v' (o ++ [u]) → E' 0 = .pointer (some ⟨b, 0, none⟩) → E' 1 = .pointer (some ⟨t, 0, none⟩) → E' 5 = v' →
        (∀ E' H', FinT H0 a s.length c b t kd n0 f0 t0 (textI s f j (o ++ [u])) E' H' → Q (k .ret E' [] H')) → Q (scopeK (.seq (.region 1 (rgn Tryd.f41 1) false) (.seq (.region 2 (rgn Tryd.f41 2) false) (.seq (.label 0) (.seq (.region 3 (rgn Tryd.f41 3) false) (.seq (.seq (.region 4 (rgn Tryd.f41 4) true) (.cond (.tmp 24) (.seq (.region 5 (rgn Tryd.f41 5) false) (.ret)) (.skip))) (.seq (.seq (.region 6 (rgn Tryd.f41 6) true) (.block 0 (.seq (.region 7 (rgn Tryd.f41 7) false) (.cond (.tmp 35) (.seq (.region 8 (rgn Tryd.f41 8) false) (.seq (.region 9 (rgn Tryd.f41 9) false) (.seq (.region 10 (rgn Tryd.f41 10) false) (.ret)))) (.seq (.region 11 (rgn Tryd.f41 11) false) (.cond (.tmp 50) (.goto 1) (.seq (.region 12 (rgn Tryd.f41 12) false) (.cond (.tmp 53) (.seq (.region 13 (rgn Tryd.f41 13) false) (.ret)) (.skip))))))))) (.seq (.region 14 (rgn Tryd.f41 14) false) (.seq (.goto 0) (.seq (.label 1) (.seq (.region 15 (rgn Tryd.f41 15) false) (.seq (.seq (.region 16 (rgn Tryd.f41 16) true) (.cond (.tmp 80) (.seq (.region 17 (rgn Tryd.f41 17) false) (.ret)) (.skip))) (.seq (.seq (.region 18 (rgn Tryd.f41 18) true) (.seq (.region 19 (rgn Tryd.f41 19) false) (.block 1 (.seq (.region 21 (rgn Tryd.f41 21) false) (.cond (.tmp 92) (.region 22 (rgn Tryd.f41 22) false) (.seq (.region 23 (rgn Tryd.f41 23) false) (.cond (.tmp 94) (.region 24 (rgn Tryd.f41 24) false) (.seq (.seq (.region 25 (rgn Tryd.f41 25) false) (.cond (.tmp 96) (.skip) (.region 26 (rgn Tryd.f41 26) false))) (.cond (.tmp 96) (.skip) (.seq (.region 27 (rgn Tryd.f41 27) false) (.cond (.tmp 99) (.seq (.region 28 (rgn Tryd.f41 28) false) (.seq (.seq (.region 29 (rgn Tryd.f41 29) false) (.block 2 (.loop (.seq (.region 30 (rgn Tryd.f41 30) false) (.seq (.cond (.tmp 102) (.skip) (.exit 2)) (.seq (.block 3 (.seq (.region 31 (rgn Tryd.f41 31) false) (.seq (.seq (.region 32 (rgn Tryd.f41 32) true) (.cond (.tmp 133) (.seq (.region 33 (rgn Tryd.f41 33) false) (.ret)) (.skip))) (.region 34 (rgn Tryd.f41 34) true)))) (.region 35 (rgn Tryd.f41 35) false))))))) (.region 36 (rgn Tryd.f41 36) false))) (.seq (.region 20 (rgn Tryd.f41 20) false) (.ret))))))))))))) (.seq (.region 37 (rgn Tryd.f41 37) false) (.goto 0)))))))))))))) (execG PP XX (CG N hk (d + 2)) N noPr (.seq (.region 1 (rgn Tryd.f41 1) false) (.seq (.region 2 (rgn Tryd.f41 2) false) (.seq (.label 0) (.seq (.region 3 (rgn Tryd.f41 3) false) (.seq (.seq (.region 4 (rgn Tryd.f41 4) true) (.cond (.tmp 24) (.seq (.region 5 (rgn Tryd.f41 5) false) (.ret)) (.skip))) (.seq (.seq (.region 6 (rgn Tryd.f41 6) true) (.block 0 (.seq (.region 7 (rgn Tryd.f41 7) false) (.cond (.tmp 35) (.seq (.region 8 (rgn Tryd.f41 8) false) (.seq (.region 9 (rgn Tryd.f41 9) false) (.seq (.region 10 (rgn Tryd.f41 10) false) (.ret)))) (.seq (.region 11 (rgn Tryd.f41 11) false) (.cond (.tmp 50) (.goto 1) (.seq (.region 12 (rgn Tryd.f41 12) false) (.cond (.tmp 53) (.seq (.region 13 (rgn Tryd.f41 13) false) (.ret)) (.skip))))))))) (.seq (.region 14 (rgn Tryd.f41 14) false) (.seq (.goto 0) (.seq (.label 1) (.seq (.region 15 (rgn Tryd.f41 15) false) (.seq (.seq (.region 16 (rgn Tryd.f41 16) true) (.cond (.tmp 80) (.seq (.region 17 (rgn Tryd.f41 17) false) (.ret)) (.skip))) (.seq (.seq (.region 18 (rgn Tryd.f41 18) true) (.seq (.region 19 (rgn Tryd.f41 19) false) (.block 1 (.seq (.region 21 (rgn Tryd.f41 21) false) (.cond (.tmp 92) (.region 22 (rgn Tryd.f41 22) false) (.seq (.region 23 (rgn Tryd.f41 23) false) (.cond (.tmp 94) (.region 24 (rgn Tryd.f41 24) false) (.seq (.seq (.region 25 (rgn Tryd.f41 25) false) (.cond (.tmp 96) (.skip) (.region 26 (rgn Tryd.f41 26) false))) (.cond (.tmp 96) (.skip) (.seq (.region 27 (rgn Tryd.f41 27) false) (.cond (.tmp 99) (.seq (.region 28 (rgn Tryd.f41 28) false) (.seq (.seq (.region 29 (rgn Tryd.f41 29) false) (.block 2 (.loop (.seq (.region 30 (rgn Tryd.f41 30) false) (.seq (.cond (.tmp 102) (.skip) (.exit 2)) (.seq (.block 3 (.seq (.region 31 (rgn Tryd.f41 31) false) (.seq (.seq (.region 32 (rgn Tryd.f41 32) true) (.cond (.tmp 133) (.seq (.region 33 (rgn Tryd.f41 33) false) (.ret)) (.skip))) (.region 34 (rgn Tryd.f41 34) true)))) (.region 35 (rgn Tryd.f41 35) false))))))) (.region 36 (rgn Tryd.f41 36) false))) (.seq (.region 20 (rgn Tryd.f41 20) false) (.ret))))))))))))) (.seq (.region 37 (rgn Tryd.f41 37) false) (.goto 0))))))))))))))) (q + 1) k (.goto 0) E' [] H') := fun j u q E' H' v' h1 h2 hq ht' z0 z1 z5 hx' => by
      rw [scopeK_goto tab0, scopeE_succ, jt0]
      exact t_then x hbt ht hhex hN hs f j (o ++ [u]) q h2 (by omega) (by simp; omega) (by omega) ht' ⟨z0, z1, z5⟩ hx'
    unfold textI at hx
    by_cases hj : i + 1 = s.length
    · rw [if_pos hj] at hx
      refine t_end (t := t) x h hi e0 e1 e5 hj fun E' H' e4 h' => ?_
      rw [scopeK_ret]
      exact hx E' H' ⟨e4, _, _, h'⟩
    rw [if_neg hj] at hx
    by_cases c34 : s.getD (i + 1) 0 = 34
    · rw [if_pos c34] at hx
      refine t_quote x h hi e0 e1 e5 hj c34 hbt ht fun E' H' e4 h' => ?_
      rw [scopeK_ret]
      exact hx E' H' ⟨e4, h'⟩
    rw [if_neg c34] at hx
    by_cases c92 : s.getD (i + 1) 0 = 92
    · rw [if_pos c92] at hx
      refine t_esc (t := t) x h hi e0 e1 e5 hj c34 c92 fun E2 H2 z0 z1 z5 h2 => ?_
      rw [scopeK_goto tab1, scopeE_succ, jt1]
      have hi2 : i + 1 < s.length := by omega
      by_cases hj2 : i + 2 = s.length
      · rw [if_pos hj2] at hx
        refine e_end (t := t) x h2 hi2 z0 z1 z5 hj2 fun E' H' e4 h' => ?_
        rw [scopeK_ret]
        exact hx E' H' ⟨e4, _, _, h'⟩
      rw [if_neg hj2] at hx
      by_cases c110 : s.getD (i + 2) 0 = 110
      · rw [if_pos c110] at hx
        exact e_n (t := t) x h2 hi2 z0 z1 z5 hj2 c110 hol fun E' H' v' w0 w1 w5 h' => next (i + 2) 10 m2 E' H' v' (by omega) (by omega) (.inl rfl) h' w0 w1 w5 hx
      rw [if_neg c110] at hx
      by_cases c116 : s.getD (i + 2) 0 = 116
      · rw [if_pos c116] at hx
        exact e_t (t := t) x h2 hi2 z0 z1 z5 hj2 c116 hol fun E' H' v' w0 w1 w5 h' => next (i + 2) 9 m2 E' H' v' (by omega) (by omega) (.inl rfl) h' w0 w1 w5 hx
      rw [if_neg c116] at hx
      by_cases d34 : s.getD (i + 2) 0 = 34
      · rw [if_pos d34] at hx
        exact e_q (t := t) x h2 hi2 z0 z1 z5 hj2 d34 hol fun E' H' v' w0 w1 w5 h' => next (i + 2) 34 m2 E' H' v' (by omega) (by omega) (.inl rfl) h' w0 w1 w5 hx
      rw [if_neg d34] at hx
      by_cases d92 : s.getD (i + 2) 0 = 92
      · rw [if_pos d92] at hx
        exact e_b (t := t) x h2 hi2 z0 z1 z5 hj2 d92 hol fun E' H' v' w0 w1 w5 h' => next (i + 2) 92 m2 E' H' v' (by omega) (by omega) (.inl rfl) h' w0 w1 w5 hx
      rw [if_neg d92] at hx
      by_cases d120 : s.getD (i + 2) 0 = 120
      · rw [if_pos d120] at hx
        refine e_x (t := t) x h2 hi2 z0 z1 z5 hhex hN hj2 d120 hol (fun e hq E' H' e4 h' => ?_) (fun q1 q2 q3 E' H' v' w0 w1 w5 h' => ?_)
        · rw [scopeK_ret]
          rcases hq with ⟨rfl, hq⟩ | ⟨rfl, q1, q2, hq⟩
          · rw [if_pos hq] at hx
            exact hx E' H' ⟨e4, _, _, h'⟩
          · have n1 : ¬ (i + 3 = s.length ∨ hexT (s.getD (i + 3) 0).toNat = 16) := fun q => by
              rcases q with q | q
              · have : i + 1 + 2 = i + 3 := rfl
                omega
              · have e : s.getD (i + 1 + 2) 0 = s.getD (i + 3) 0 := rfl
                rw [e] at q2; omega
            rw [if_neg n1, if_pos hq] at hx
            exact hx E' H' ⟨e4, _, _, h'⟩
        · have n1 : ¬ (i + 3 = s.length ∨ hexT (s.getD (i + 3) 0).toNat = 16) := fun q => by
            rcases q with q | q
            · omega
            · have e : s.getD (i + 1 + 2) 0 = s.getD (i + 3) 0 := rfl
              rw [e] at q2; omega
          have n2 : ¬ (i + 4 = s.length ∨ hexT (s.getD (i + 4) 0).toNat = 16) := fun q => by
            rcases q with q | q
            · omega
            · have e : s.getD (i + 1 + 3) 0 = s.getD (i + 4) 0 := rfl
              rw [e] at q3; omega
          rw [if_neg n1, if_neg n2] at hx
          exact next (i + 4) _ m2 E' H' v' (by omega) (by omega) (.inl rfl) h' w0 w1 w5 hx
      rw [if_neg d120] at hx
      refine e_bad (t := t) x h2 hi2 z0 z1 z5 hj2 c110 c116 d34 d92 d120 fun E' H' e4 h' => ?_
      rw [scopeK_ret]
      exact hx E' H' ⟨e4, _, _, h'⟩
    rw [if_neg c92] at hx
    by_cases hr : (s.getD (i + 1) 0).toNat < 32 ∨ 126 < (s.getD (i + 1) 0).toNat
    · rw [if_pos hr] at hx
      refine t_bad (t := t) x h hi e0 e1 e5 hj c34 c92 hr fun E' H' e4 h' => ?_
      rw [scopeK_ret]
      exact hx E' H' ⟨e4, _, _, h'⟩
    · rw [if_neg hr] at hx
      exact t_char (t := t) x h hi e0 e1 e5 hj c34 c92 hr hol fun E' H' v' w0 w1 w5 h' => next (i + 1) _ (m2 + 1) E' H' v' (by omega) (by omega) (.inr rfl) h' w0 w1 w5 hx
set_option maxRecDepth 100000 in
theorem call_text {N : Nat} {H : Heap} {a : Option Addr} {c : Nat} {s : List UInt8} {b t i : Nat} {hk : Hook} {d : Nat} {kd n0 f0 t0 : Int} (x : Ctx H a c s b) (hb : H.get b = some (cur a s.length c i)) (hbt : t ≠ b) (ht : H.get t = some (tok kd n0 .empty f0 t0)) (hhex : ∀ (u : UInt8) H, Ext GE H → hk 55 #[.int .u8 (u.toNat : Int)] H = some (some (.ret (.int .u64 (hexT u.toNat)), H))) (hN : 2 * s.length + 8 < N) (hs : s.length ≤ 1048576) (hi : i < s.length) (hh : ∀ f args H, okC f = true → hk f args H = none) :
    ∃ E' H', FinT H a s.length c b t kd n0 f0 t0 (textI s (s.length - i) i []) E' H' ∧ ∃ v, E' 4 = v ∧ CG N hk (d + 3) 41 #[.pointer (some ⟨b, 0, none⟩), .pointer (some ⟨t, 0, none⟩)] H = some (.ret v, H') := by
  have main : ∃ R0 : R, CG N hk (d + 3) 41 #[.pointer (some ⟨b, 0, none⟩), .pointer (some ⟨t, 0, none⟩)] H = R0 ∧ ∃ E' H', FinT H a s.length c b t kd n0 f0 t0 (textI s (s.length - i) i []) E' H' ∧ ∃ v, E' 4 = v ∧ R0 = some (.ret v, H') := by
    refine ⟨_, callG_fn (hh _ _ _ rfl) Tryd.func41 (c := codeOf Tryd.f41) rfl rfl rfl (pr := noPr) rfl, ?_⟩
    rw [code41]
    generalize hF : finE PP Tryd.f41 = F
    obtain ⟨M, rfl⟩ : ∃ q, N = q + 1 := ⟨N - 1, by omega⟩
    have h0 : Txt H H b a s.length c i (.slice none 0 0) [] := ⟨Nat.le_refl _, hb, fun z w _ h => h, x.gg.fresh, .inl ⟨rfl, rfl⟩⟩
    have l0 := tl (rgn Tryd.f41 0)
    conv at l0 => rhs; simp only [rgn, opsAt, codeOf, Tryd.f41, gS, gN, reduceIte, Nat.reduceEqDiff, tA]
    have l1 := tl (rgn Tryd.f41 1)
    conv at l1 => rhs; simp only [rgn, opsAt, codeOf, Tryd.f41, gS, gN, reduceIte, Nat.reduceEqDiff, tA]
    have l2 := tl (rgn Tryd.f41 2)
    conv at l2 => rhs; simp only [rgn, opsAt, codeOf, Tryd.f41, gS, gN, reduceIte, Nat.reduceEqDiff, tA]
    generalize hp : (.seq (.region 3 (rgn Tryd.f41 3) false) (.seq (.seq (.region 4 (rgn Tryd.f41 4) true) (.cond (.tmp 24) (.seq (.region 5 (rgn Tryd.f41 5) false) (.ret)) (.skip))) (.seq (.seq (.region 6 (rgn Tryd.f41 6) true) (.block 0 (.seq (.region 7 (rgn Tryd.f41 7) false) (.cond (.tmp 35) (.seq (.region 8 (rgn Tryd.f41 8) false) (.seq (.region 9 (rgn Tryd.f41 9) false) (.seq (.region 10 (rgn Tryd.f41 10) false) (.ret)))) (.seq (.region 11 (rgn Tryd.f41 11) false) (.cond (.tmp 50) (.goto 1) (.seq (.region 12 (rgn Tryd.f41 12) false) (.cond (.tmp 53) (.seq (.region 13 (rgn Tryd.f41 13) false) (.ret)) (.skip))))))))) (.seq (.region 14 (rgn Tryd.f41 14) false) (.seq (.goto 0) (.seq (.label 1) (.seq (.region 15 (rgn Tryd.f41 15) false) (.seq (.seq (.region 16 (rgn Tryd.f41 16) true) (.cond (.tmp 80) (.seq (.region 17 (rgn Tryd.f41 17) false) (.ret)) (.skip))) (.seq (.seq (.region 18 (rgn Tryd.f41 18) true) (.seq (.region 19 (rgn Tryd.f41 19) false) (.block 1 (.seq (.region 21 (rgn Tryd.f41 21) false) (.cond (.tmp 92) (.region 22 (rgn Tryd.f41 22) false) (.seq (.region 23 (rgn Tryd.f41 23) false) (.cond (.tmp 94) (.region 24 (rgn Tryd.f41 24) false) (.seq (.seq (.region 25 (rgn Tryd.f41 25) false) (.cond (.tmp 96) (.skip) (.region 26 (rgn Tryd.f41 26) false))) (.cond (.tmp 96) (.skip) (.seq (.region 27 (rgn Tryd.f41 27) false) (.cond (.tmp 99) (.seq (.region 28 (rgn Tryd.f41 28) false) (.seq (.seq (.region 29 (rgn Tryd.f41 29) false) (.block 2 (.loop (.seq (.region 30 (rgn Tryd.f41 30) false) (.seq (.cond (.tmp 102) (.skip) (.exit 2)) (.seq (.block 3 (.seq (.region 31 (rgn Tryd.f41 31) false) (.seq (.seq (.region 32 (rgn Tryd.f41 32) true) (.cond (.tmp 133) (.seq (.region 33 (rgn Tryd.f41 33) false) (.ret)) (.skip))) (.region 34 (rgn Tryd.f41 34) true)))) (.region 35 (rgn Tryd.f41 35) false))))))) (.region 36 (rgn Tryd.f41 36) false))) (.seq (.region 20 (rgn Tryd.f41 20) false) (.ret))))))))))))) (.seq (.region 37 (rgn Tryd.f41 37) false) (.goto 0)))))))))) : Code) = p0
    simp (decide := true) only [↓execG_seq, ↓g_region, thenE_norm, ↓r_nil, ↓r_cons, ↓o_assign, nextE_app, normK_app, evalE_const, ↓reg_lit l0, ↓reg_lit l1, ↓reg_lit l2, ↓execG_scope, ↓execG_label, ↓scopeE_succ]
    subst hp
    refine t_then (N := M + 1) (Q := fun r => ∃ E' H', FinT H a s.length c b t kd n0 f0 t0 (textI s (s.length - i) i []) E' H' ∧ ∃ v, E' 4 = v ∧ r = some (.ret v, H')) x hbt ht hhex (by omega) hs (s.length - i) i [] M hi (by omega) (Nat.zero_le _) (by omega) h0 ⟨?_, ?_, ?_⟩ (fun E' H' hf => ?_)
    · simp (decide := true) only [upd_some, reduceIte, startE_0]
    · simp (decide := true) only [upd_some, reduceIte, startE_1]
    · simp (decide := true) only [upd_some, reduceIte]
    · refine ⟨E', H', hf, E' 4, rfl, ?_⟩
      rw [← hF, finE_ret (l := [E' 4]) (by simp (decide := true) [Tryd.f41, resE])]
      rfl
  obtain ⟨R0, m1, E', H', m2, v, m3, m4⟩ := main
  exact ⟨E', H', m2, v, m3, m1.trans m4⟩
end Go.Am
