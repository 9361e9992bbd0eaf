/- Blanks and comments, as the law looks at them. -/
import Derived.Test.YtohmeeglehopiaaDoorT1
import Derived.Test.YtohmeeglehopiaaDoorP1
open Go.Proofs
namespace Go.Am
theorem code23 : codeOf Tryd.f23 = .seq (.region 0 (rgn Tryd.f23 0) false) (.seq (.region 1 (rgn Tryd.f23 1) false) (.seq (.seq (.region 2 (rgn Tryd.f23 2) false) (.block 0 (.loop (.seq (.seq (.region 3 (rgn Tryd.f23 3) false) (.cond (.tmp 8) (.skip) (.exit 0))) (.seq (.block 1 (.seq (.seq (.region 5 (rgn Tryd.f23 5) false) (.cond (.tmp 15) (.region 6 (rgn Tryd.f23 6) false) (.seq (.region 7 (rgn Tryd.f23 7) false) (.cond (.tmp 20) (.region 8 (rgn Tryd.f23 8) false) (.skip))))) (.seq (.region 9 (rgn Tryd.f23 9) false) (.cond (.tmp 50) (.seq (.region 10 (rgn Tryd.f23 10) false) (.ret)) (.skip))))) (.region 4 (rgn Tryd.f23 4) false)))))) (.seq (.region 11 (rgn Tryd.f23 11) false) (.ret)))) := by kernel_rfl
theorem gd23_9_2 : ((rgn Tryd.f23 9)[2]?).bind (·.dst) = some 23 := by kernel_rfl
theorem gd23_9_9 : ((rgn Tryd.f23 9)[9]?).bind (·.dst) = some 30 := by kernel_rfl
theorem gd23_9_16 : ((rgn Tryd.f23 9)[16]?).bind (·.dst) = some 37 := by kernel_rfl
theorem gd23_9_23 : ((rgn Tryd.f23 9)[23]?).bind (·.dst) = some 44 := by kernel_rfl

section
variable {K : Kf} {N : Nat} {H : Heap} {a : Option Addr} {c : Nat} {l : List UInt8} {Q : R → Prop} {k : KOE}
set_option maxHeartbeats 1000000 in
theorem b_then (hb : Brow H a l) (hsm : l.length < 9223372036854775807) : ∀ (n i m : Nat) (st : Bool) (_ : i + n = l.length) (_ : n < m) {E : Env} (_ : E 0 = .slice a l.length c) (_ : E 3 = .bool st) (_ : E 4 = .int .i64 (i : Int)) (_ : blankB st (l.drop i) = true)
    (_ : ∀ E', Q (k (.exit 0) E' [] H)), Q (loopE (execG PP XX K N noPr (.seq (.seq (.region 3 (rgn Tryd.f23 3) false) (.cond (.tmp 8) (.skip) (.exit 0))) (.seq (.block 1 (.seq (.seq (.region 5 (rgn Tryd.f23 5) false) (.cond (.tmp 15) (.region 6 (rgn Tryd.f23 6) false) (.seq (.region 7 (rgn Tryd.f23 7) false) (.cond (.tmp 20) (.region 8 (rgn Tryd.f23 8) false) (.skip))))) (.seq (.region 9 (rgn Tryd.f23 9) false) (.cond (.tmp 50) (.seq (.region 10 (rgn Tryd.f23 10) false) (.ret)) (.skip))))) (.region 4 (rgn Tryd.f23 4) false))) none) m E [] H k)
  | 0, i, m + 1, st, hn, hm, E, e0, e3, e4, _, hx => by
    rw [loopE_succ]
    have hlt : decide ((i : Int) < (l.length : Int)) = false := decide_eq_false (by omega)
    have l3 := tl (rgn Tryd.f23 3)
    conv at l3 => rhs; simp only [rgn, opsAt, codeOf, Tryd.f23, gS, gN, reduceIte, Nat.reduceEqDiff, tA]
    simp (decide := true) only [↓execG_seq, ↓g_region, ↓execG_exit, ↓g_else, thenE_norm, thenE_exit, ↓r_nil, ↓r_cons, ↓o_move, ↓o_binOp, ↓o_builtin, nextE_app, putK_app, putG_bool, normK_app, evalE_tmp, upd_some, bindO_ok, reduceIte, map_one, ↓reg_lit l3, e0, e4, len_slice (ts := #[26]) rfl und34, binA_lss, hlt]
    exact hx _
  | n + 1, i, m + 1, st, hn, hm, E, e0, e3, e4, hB, hx => by
    rw [loopE_succ]
    have hi : i < l.length := by omega
    have hlt : decide ((i : Int) < (l.length : Int)) = true := decide_eq_true (by omega)
    have w : IntKind.i64.wrap ((i : Int) + 1) = ((i + 1 : Nat) : Int) := by rw [wrap_i64 (by omega) (by omega)]; omega
    obtain ⟨b0, ea, hl⟩ := hb.bts.cell i hi
    have e0' := e0
    rw [ea] at e0'
    have hix := index_row (n := l.length) (c := c) (a := b0) hi
    rw [List.drop_eq_getElem_cons hi, blankB, Bool.and_eq_true] at hB
    obtain ⟨ho, hr⟩ := hB
    have l3 := tl (rgn Tryd.f23 3)
    conv at l3 => rhs; simp only [rgn, opsAt, codeOf, Tryd.f23, gS, gN, reduceIte, Nat.reduceEqDiff, tA]
    have l4 := tl (rgn Tryd.f23 4)
    conv at l4 => rhs; simp only [rgn, opsAt, codeOf, Tryd.f23, gS, gN, reduceIte, Nat.reduceEqDiff, tA]
    have l5 := tl (rgn Tryd.f23 5)
    conv at l5 => rhs; simp only [rgn, opsAt, codeOf, Tryd.f23, gS, gN, reduceIte, Nat.reduceEqDiff, tA]
    have l6 := tl (rgn Tryd.f23 6)
    conv at l6 => rhs; simp only [rgn, opsAt, codeOf, Tryd.f23, gS, gN, reduceIte, Nat.reduceEqDiff, tA]
    have l7 := tl (rgn Tryd.f23 7)
    conv at l7 => rhs; simp only [rgn, opsAt, codeOf, Tryd.f23, gS, gN, reduceIte, Nat.reduceEqDiff, tA]
    have l8 := tl (rgn Tryd.f23 8)
    conv at l8 => rhs; simp only [rgn, opsAt, codeOf, Tryd.f23, gS, gN, reduceIte, Nat.reduceEqDiff, tA]
    have l9 := tl (rgn Tryd.f23 9)
    conv at l9 => rhs; simp only [rgn, opsAt, codeOf, Tryd.f23, gS, gN, reduceIte, Nat.reduceEqDiff, tA]
    by_cases h10 : l[i] = 10
    · have z10 : ((l[i].toNat : Int) == 10) = true := by rw [h10]; rfl
      have n32 : ((l[i].toNat : Int) != 32) = true := by rw [h10]; rfl
      have n9 : ((l[i].toNat : Int) != 9) = true := by rw [h10]; rfl
      have n10 : ((l[i].toNat : Int) != 10) = false := by rw [h10]; rfl
      have hs : nextC st l[i] = false := by rw [h10]; rfl
      rw [hs] at hr
      simp (decide := true) only [↓execG_seq, ↓g_region, ↓execG_block, ↓execG_skip, ↓g_if, ↓g_else, thenE_norm, leaveB_norm, ↓r_nil, ↓r_cons, ↓o_move, ↓o_assign, ↓o_pickt, ↓o_pickf, ↓o_load, ↓o_binOp, ↓o_unOp, ↓o_indexAddr, ↓o_builtin, nextE_app, putK_app, putO_app, putG_bool, putG_int, normK_app, evalE_tmp, evalE_const, upd_some, bindO_ok, bindV_ok, reduceIte, map_one, Bool.not_true, ↓reg_lit l3, ↓reg_lit l5, ↓reg_lit l6, ↓reg_lit l9, ↓reg_lit l4, ↓r_yes _ 2 true 23 _ gd23_9_2, ↓r_yes _ 9 true 30 _ gd23_9_9, ↓r_yes _ 16 true 37 _ gd23_9_16, ↓r_no _ 23 true 44 _ gd23_9_23, e0', e3, e4, len_slice (ts := #[26]) rfl und34, binA_lss, hlt, hix, load_byte hl, binA_eql, binA_neq, not_f, binA_add, w, z10, n32, n9, n10]
      exact b_then hb hsm n (i + 1) m false (by omega) (by omega) (by simp (decide := true) only [upd_some, reduceIte, e0]) (by simp (decide := true) only [upd_some, reduceIte, e3]) (by simp (decide := true) only [upd_some, reduceIte, e4]) hr hx
    have z10 : ((l[i].toNat : Int) == 10) = false := (toNat_eq l[i] 10).trans (decide_eq_false h10)
    by_cases h35 : l[i] = 35
    · have z35 : ((l[i].toNat : Int) == 35) = true := by rw [h35]; rfl
      have hs : nextC st l[i] = true := by rw [h35]; rfl
      rw [hs] at hr
      simp (decide := true) only [↓execG_seq, ↓g_region, ↓execG_block, ↓execG_skip, ↓g_if, ↓g_else, thenE_norm, leaveB_norm, ↓r_nil, ↓r_cons, ↓o_move, ↓o_assign, ↓o_pickf, ↓o_load, ↓o_binOp, ↓o_unOp, ↓o_indexAddr, ↓o_builtin, nextE_app, putK_app, putO_app, putG_bool, putG_int, normK_app, evalE_tmp, evalE_const, upd_some, bindO_ok, bindV_ok, reduceIte, map_one, Bool.not_true, ↓reg_lit l3, ↓reg_lit l5, ↓reg_lit l7, ↓reg_lit l8, ↓reg_lit l9, ↓reg_lit l4, ↓r_no _ 2 true 23 _ gd23_9_2, ↓r_no _ 9 true 30 _ gd23_9_9, ↓r_no _ 16 true 37 _ gd23_9_16, ↓r_no _ 23 true 44 _ gd23_9_23, e0', e3, e4, len_slice (ts := #[26]) rfl und34, binA_lss, hlt, hix, load_byte hl, binA_eql, not_t, binA_add, w, z10, z35]
      exact b_then hb hsm n (i + 1) m true (by omega) (by omega) (by simp (decide := true) only [upd_some, reduceIte, e0]) (by simp (decide := true) only [upd_some, reduceIte, e3]) (by simp (decide := true) only [upd_some, reduceIte, e4]) hr hx
    have z35 : ((l[i].toNat : Int) == 35) = false := (toNat_eq l[i] 35).trans (decide_eq_false h35)
    have hs : nextC st l[i] = st := by unfold nextC; rw [if_neg h10, if_neg h35]
    rw [hs] at hr
    cases st with
    | true =>
      simp (decide := true) only [↓execG_seq, ↓g_region, ↓execG_block, ↓execG_skip, ↓g_if, ↓g_else, thenE_norm, leaveB_norm, ↓r_nil, ↓r_cons, ↓o_move, ↓o_assign, ↓o_pickf, ↓o_load, ↓o_binOp, ↓o_unOp, ↓o_indexAddr, ↓o_builtin, nextE_app, putK_app, putO_app, putG_bool, putG_int, normK_app, evalE_tmp, evalE_const, upd_some, bindO_ok, bindV_ok, reduceIte, map_one, Bool.not_true, ↓reg_lit l3, ↓reg_lit l5, ↓reg_lit l7, ↓reg_lit l9, ↓reg_lit l4, ↓r_no _ 2 true 23 _ gd23_9_2, ↓r_no _ 9 true 30 _ gd23_9_9, ↓r_no _ 16 true 37 _ gd23_9_16, ↓r_no _ 23 true 44 _ gd23_9_23, e0', e3, e4, len_slice (ts := #[26]) rfl und34, binA_lss, hlt, hix, load_byte hl, binA_eql, not_t, binA_add, w, z10, z35]
      exact b_then hb hsm n (i + 1) m true (by omega) (by omega) (by simp (decide := true) only [upd_some, reduceIte, e0]) (by simp (decide := true) only [upd_some, reduceIte, e3]) (by simp (decide := true) only [upd_some, reduceIte, e4]) hr hx
    | false =>
      have hu : l[i] = 32 ∨ l[i] = 9 ∨ l[i] = 13 := by
        unfold okB at ho
        rw [hs] at ho
        simp at ho
        rcases ho with ((ho | ho) | ho) | ho
        · exact .inl ho
        · exact .inr (.inl ho)
        · exact absurd ho h10
        · exact .inr (.inr ho)
      rcases hu with h | h | h
      · have n32 : ((l[i].toNat : Int) != 32) = false := by rw [h]; rfl
        simp (decide := true) only [↓execG_seq, ↓g_region, ↓execG_block, ↓execG_skip, ↓g_if, ↓g_else, thenE_norm, leaveB_norm, ↓r_nil, ↓r_cons, ↓o_move, ↓o_assign, ↓o_pickt, ↓o_pickf, ↓o_load, ↓o_binOp, ↓o_unOp, ↓o_indexAddr, ↓o_builtin, nextE_app, putK_app, putO_app, putG_bool, putG_int, normK_app, evalE_tmp, evalE_const, upd_some, bindO_ok, bindV_ok, reduceIte, map_one, Bool.not_true, ↓reg_lit l3, ↓reg_lit l5, ↓reg_lit l7, ↓reg_lit l9, ↓reg_lit l4, ↓r_yes _ 2 true 23 _ gd23_9_2, ↓r_no _ 9 true 30 _ gd23_9_9, ↓r_no _ 16 true 37 _ gd23_9_16, ↓r_no _ 23 true 44 _ gd23_9_23, e0', e3, e4, len_slice (ts := #[26]) rfl und34, binA_lss, hlt, hix, load_byte hl, binA_eql, binA_neq, not_f, binA_add, w, z10, z35, n32]
        exact b_then hb hsm n (i + 1) m false (by omega) (by omega) (by simp (decide := true) only [upd_some, reduceIte, e0]) (by simp (decide := true) only [upd_some, reduceIte, e3]) (by simp (decide := true) only [upd_some, reduceIte, e4]) hr hx
      · have n32 : ((l[i].toNat : Int) != 32) = true := by rw [h]; rfl
        have n9 : ((l[i].toNat : Int) != 9) = false := by rw [h]; rfl
        simp (decide := true) only [↓execG_seq, ↓g_region, ↓execG_block, ↓execG_skip, ↓g_if, ↓g_else, thenE_norm, leaveB_norm, ↓r_nil, ↓r_cons, ↓o_move, ↓o_assign, ↓o_pickt, ↓o_pickf, ↓o_load, ↓o_binOp, ↓o_unOp, ↓o_indexAddr, ↓o_builtin, nextE_app, putK_app, putO_app, putG_bool, putG_int, normK_app, evalE_tmp, evalE_const, upd_some, bindO_ok, bindV_ok, reduceIte, map_one, Bool.not_true, ↓reg_lit l3, ↓reg_lit l5, ↓reg_lit l7, ↓reg_lit l9, ↓reg_lit l4, ↓r_yes _ 2 true 23 _ gd23_9_2, ↓r_yes _ 9 true 30 _ gd23_9_9, ↓r_no _ 16 true 37 _ gd23_9_16, ↓r_no _ 23 true 44 _ gd23_9_23, e0', e3, e4, len_slice (ts := #[26]) rfl und34, binA_lss, hlt, hix, load_byte hl, binA_eql, binA_neq, not_f, binA_add, w, z10, z35, n32, n9]
        exact b_then hb hsm n (i + 1) m false (by omega) (by omega) (by simp (decide := true) only [upd_some, reduceIte, e0]) (by simp (decide := true) only [upd_some, reduceIte, e3]) (by simp (decide := true) only [upd_some, reduceIte, e4]) hr hx
      · have n32 : ((l[i].toNat : Int) != 32) = true := by rw [h]; rfl
        have n9 : ((l[i].toNat : Int) != 9) = true := by rw [h]; rfl
        have n10 : ((l[i].toNat : Int) != 10) = true := by rw [h]; rfl
        have n13 : ((l[i].toNat : Int) != 13) = false := by rw [h]; rfl
        simp (decide := true) only [↓execG_seq, ↓g_region, ↓execG_block, ↓execG_skip, ↓g_if, ↓g_else, thenE_norm, leaveB_norm, ↓r_nil, ↓r_cons, ↓o_move, ↓o_assign, ↓o_pickt, ↓o_load, ↓o_binOp, ↓o_unOp, ↓o_indexAddr, ↓o_builtin, nextE_app, putK_app, putO_app, putG_bool, putG_int, normK_app, evalE_tmp, evalE_const, upd_some, bindO_ok, bindV_ok, reduceIte, map_one, ↓reg_lit l3, ↓reg_lit l5, ↓reg_lit l7, ↓reg_lit l9, ↓reg_lit l4, ↓r_yes _ 2 true 23 _ gd23_9_2, ↓r_yes _ 9 true 30 _ gd23_9_9, ↓r_yes _ 16 true 37 _ gd23_9_16, ↓r_yes _ 23 true 44 _ gd23_9_23, e0', e3, e4, len_slice (ts := #[26]) rfl und34, binA_lss, hlt, hix, load_byte hl, binA_eql, binA_neq, not_f, binA_add, w, z10, z35, n32, n9, n10, n13]
        exact b_then hb hsm n (i + 1) m false (by omega) (by omega) (by simp (decide := true) only [upd_some, reduceIte, e0]) (by simp (decide := true) only [upd_some, reduceIte, e3]) (by simp (decide := true) only [upd_some, reduceIte, e4]) hr hx
end
theorem call_blank {N : Nat} {hk : Hook} {d : Nat} {H : Heap} {a : Option Addr} {l : List UInt8} {c : Nat} (hh : ∀ f args H, okC f = true → hk f args H = none) (hb : Brow H a l) (hB : blankB false l = true) (hsm : l.length < 9223372036854775807) (hN : l.length < N) :
    CG N hk (d + 1) 23 #[.slice a l.length c] H = some (.ret (.bool true), H) := by
  have main : ∃ R0 : R, CG N hk (d + 1) 23 #[.slice a l.length c] H = R0 ∧ R0 = some (.ret (.bool true), H) := by
    refine ⟨_, callG_fn (hh _ _ _ rfl) Tryd.func23 (c := codeOf Tryd.f23) rfl rfl rfl (pr := noPr) rfl, ?_⟩
    rw [code23]
    generalize hF : finE PP Tryd.f23 = F
    have l0 := tl (rgn Tryd.f23 0)
    conv at l0 => rhs; simp only [rgn, opsAt, codeOf, Tryd.f23, gS, gN, reduceIte, Nat.reduceEqDiff, tA]
    have l1 := tl (rgn Tryd.f23 1)
    conv at l1 => rhs; simp only [rgn, opsAt, codeOf, Tryd.f23, gS, gN, reduceIte, Nat.reduceEqDiff, tA]
    have l2 := tl (rgn Tryd.f23 2)
    conv at l2 => rhs; simp only [rgn, opsAt, codeOf, Tryd.f23, gS, gN, reduceIte, Nat.reduceEqDiff, tA]
    have l11 := tl (rgn Tryd.f23 11)
    conv at l11 => rhs; simp only [rgn, opsAt, codeOf, Tryd.f23, gS, gN, reduceIte, Nat.reduceEqDiff, tA]
    simp (decide := true) only [↓execG_seq, ↓g_region, ↓execG_block, thenE_norm, ↓r_nil, ↓r_cons, ↓o_assign, nextE_app, normK_app, evalE_const, ↓reg_lit l0, ↓reg_lit l1, ↓reg_lit l2, ↓execG_loop]
    refine b_then (c := c) (Q := fun r => r = some (.ret (.bool true), H)) hb hsm l.length 0 N false (by omega) hN ?_ ?_ ?_ (by rw [List.drop_zero]; exact hB) (fun E' => ?_)
    · simp (decide := true) only [upd_some, reduceIte, startE_0]
    · simp (decide := true) only [upd_some, reduceIte]
    · simp (decide := true) only [upd_some, reduceIte]; rfl
    · simp (decide := true) only [↓execG_seq, ↓g_region, ↓execG_ret, thenE_norm, g_leave, ↓r_nil, ↓r_cons, ↓o_assign, nextE_app, normK_app, evalE_const, ↓reg_lit l11]
      rw [← hF, finE_ret (l := [.bool true]) (by simp (decide := true) [Tryd.f23, resE, upd_some])]
      rfl
  obtain ⟨R0, m1, m2⟩ := main
  exact m1.trans m2
theorem cut_mid {H : Heap} {a : Option Addr} {s : List UInt8} {c x y : Nat} (h : Brow H a s) (hx : x ≤ y) (hy : y ≤ s.length) (hc : s.length ≤ c) :
    ∃ a' c', sliceOpA PP 26 (.slice a s.length c) (some (.int .i64 (x : Int))) (some (.int .i64 (y : Int))) none H = some (.slice a' ((s.drop x).take (y - x)).length c') ∧ Brow H a' ((s.drop x).take (y - x)) := by
  have hl : ((s.drop x).take (y - x)).length = y - x := by rw [List.length_take, List.length_drop]; omega
  simp only [sliceOpA, und34, size5, sliceA]
  cases a with
  | none =>
    have hs := h.nil rfl
    subst hs
    have h0 : y = 0 := by simpa using hy
    subst h0
    obtain rfl : x = 0 := by omega
    exact ⟨none, 0, by rw [if_pos ⟨by omega, by omega, by omega⟩]; rfl, ⟨fun b hb => (by simp at hb), fun _ => rfl, by simp⟩⟩
  | some a =>
    obtain ⟨z, h1, h2, h3, h4⟩ := h.row a rfl
    obtain ⟨k1, k2⟩ := look_add h1 x
    refine ⟨some (a.add x), c - x, ?_, ⟨fun b hb => ?_, fun e => (by cases e), by rw [hl]; have := h.small; omega⟩⟩
    · rw [if_pos ⟨by omega, by omega, by omega⟩]
      have e : ((y : Int) - (x : Int)).toNat = y - x := by omega
      simp [h1, h2, hl, e]
    · obtain rfl := Option.some.inj hb
      refine ⟨z, k1, h2, by rw [hl, k2]; omega, ?_⟩
      rw [hl, k2, List.map_take, List.map_drop, ← h4]
      rw [List.drop_take, List.drop_drop, List.take_take]
      rw [Nat.min_eq_left (by omega)]
theorem cut_end {H : Heap} {a : Option Addr} {s : List UInt8} {c x : Nat} (h : Brow H a s) (hx : x ≤ s.length) (hc : s.length ≤ c) :
    ∃ a' c', sliceOpA PP 26 (.slice a s.length c) (some (.int .i64 (x : Int))) none none H = some (.slice a' (s.drop x).length c') ∧ Brow H a' (s.drop x) := by
  obtain ⟨a', c', h1, h2⟩ := cut_mid h hx (Nat.le_refl _) hc
  have e : (s.drop x).take (s.length - x) = s.drop x := List.take_of_length_le (by rw [List.length_drop]; omega)
  rw [e] at h1 h2
  refine ⟨a', c', ?_, h2⟩
  rw [← h1]
  simp only [sliceOpA, und34, size5]
end Go.Am
/- Lexemes apart: the two rounds of the law. -/
open Go.Proofs
namespace Go.Am
theorem aggI : aggT PP 3 = some false := by decide +kernel
theorem aggU : aggT PP 27 = some false := by decide +kernel
theorem tcells_at : ∀ (ts : List Tk) (i j : Nat) (tk : Tk), ts[i]? = some tk → j < 5 → (ts.flatMap Tk.cells)[i * 5 + j]? = tk.cells[j]?
  | [], i, j, tk, h, _ => by simp at h
  | t :: ts, 0, j, tk, h, hj => by
    have e : t = tk := by simpa using h
    subst e
    rw [List.flatMap_cons, Nat.zero_mul, Nat.zero_add, List.getElem?_append_left (by simp [Tk.cells]; omega)]
  | t :: ts, i + 1, j, tk, h, hj => by
    have h' : ts[i]? = some tk := by simpa using h
    have l5 : t.cells.length = 5 := rfl
    rw [List.flatMap_cons, List.getElem?_append_right (by rw [l5]; omega), l5, show (i + 1) * 5 + j - 5 = i * 5 + j by omega]
    exact tcells_at ts i j tk h' hj
theorem ld_tok {H : Heap} {q : Nat} {ts : List Tk} {i j : Nat} {tk : Tk} {v : Value} (h : H.get q = some ⟨ts.flatMap Tk.cells, true, 5, none⟩) (hi : ts[i]? = some tk) (hj : j < 5) (hv : tk.cells[j]? = some v) : ld1 H ⟨q, i * 5 + j, none⟩ = some (v, H) := by
  simp only [ld1, look, h, tcells_at ts i j tk hi hj, hv]
theorem load_from {H : Heap} {q : Nat} {ts : List Tk} {i : Nat} {tk : Tk} (h : H.get q = some ⟨ts.flatMap Tk.cells, true, 5, none⟩) (hi : ts[i]? = some tk) : loadA PP 3 (.pointer (some ⟨q, i * 5 + 3, none⟩)) H = some (.int .i64 (tk.from_ : Int), H) := by
  simp only [loadA, aggI]; exact ld_tok h hi (by decide) rfl
theorem load_to {H : Heap} {q : Nat} {ts : List Tk} {i : Nat} {tk : Tk} (h : H.get q = some ⟨ts.flatMap Tk.cells, true, 5, none⟩) (hi : ts[i]? = some tk) : loadA PP 3 (.pointer (some ⟨q, i * 5 + 4, none⟩)) H = some (.int .i64 (tk.to_ : Int), H) := by
  simp only [loadA, aggI]; exact ld_tok h hi (by decide) rfl
theorem ldk_tok {H : Heap} {q : Nat} {ts : List Tk} {i : Nat} {tk : Tk} (h : H.get q = some ⟨ts.flatMap Tk.cells, true, 5, none⟩) (hi : ts[i]? = some tk) : loadA PP 3 (.pointer (some ⟨q, i * 5, none⟩)) H = some (.int .i64 tk.kind, H) := by
  simp only [loadA, aggI]; exact ld_tok (j := 0) h hi (by decide) rfl
theorem load_num {H : Heap} {q : Nat} {ts : List Tk} {i : Nat} {tk : Tk} (h : H.get q = some ⟨ts.flatMap Tk.cells, true, 5, none⟩) (hi : ts[i]? = some tk) : loadA PP 27 (.pointer (some ⟨q, i * 5 + 1, none⟩)) H = some (.int .u64 tk.n, H) := by
  simp only [loadA, aggU]; exact ld_tok h hi (by decide) rfl
theorem load_text {H : Heap} {q : Nat} {ts : List Tk} {i : Nat} {tk : Tk} (h : H.get q = some ⟨ts.flatMap Tk.cells, true, 5, none⟩) (hi : ts[i]? = some tk) : loadA PP 9 (.pointer (some ⟨q, i * 5 + 2, none⟩)) H = some (.string tk.w, H) := by
  simp only [loadA, aggS]; exact ld_tok h hi (by decide) rfl
theorem sizeTok : sizeT PP 29 = some 5 := by decide +kernel
theorem undToks : PP.underlying 22 = some (.slice 29) := Tryd.underlying22
theorem index_toks {q i n : Nat} (h : i < n) : indexAddrA PP 22 (.slice (some ⟨q, 0, none⟩) n n) (.int .i64 (i : Int)) = some (.pointer (some ⟨q, i * 5, none⟩)) := by
  have e : (⟨q, 0, none⟩ : Addr).add (i * 5) = ⟨q, i * 5, none⟩ := by rw [Addr.add_lit, Nat.zero_add]
  simp [indexAddrA, sizeTok, at_, e, h]
theorem tk0 (q o : Nat) : fieldAddrA PP 29 (.pointer (some ⟨q, o, none⟩)) 0 = some (.pointer (some ⟨q, o, none⟩)) := by kernel_rfl
theorem tk1 (q o : Nat) : fieldAddrA PP 29 (.pointer (some ⟨q, o, none⟩)) 1 = some (.pointer (some ⟨q, o + 1, none⟩)) := by kernel_rfl
theorem tk2 (q o : Nat) : fieldAddrA PP 29 (.pointer (some ⟨q, o, none⟩)) 2 = some (.pointer (some ⟨q, o + 2, none⟩)) := by kernel_rfl
theorem tk3 (q o : Nat) : fieldAddrA PP 29 (.pointer (some ⟨q, o, none⟩)) 3 = some (.pointer (some ⟨q, o + 3, none⟩)) := by kernel_rfl
theorem tk4 (q o : Nat) : fieldAddrA PP 29 (.pointer (some ⟨q, o, none⟩)) 4 = some (.pointer (some ⟨q, o + 4, none⟩)) := by kernel_rfl
theorem binA_neqs (o1 o2 : Operand) (a : ByteArray) : binA PP .neq 9 o1 o2 (.string a) (.string a) = some (.bool false) := by
  unfold binA
  rw [if_pos (by simp [ground, atomic])]
  simp only [eqGuard, binOp, pureRun_bind, Op.stringOp]
  simp [pureRun_pure]
theorem TkRow.ext {H H' : Heap} {v : Value} {ts : List Tk} {lo : Nat} (h : TkRow H v ts lo) (x : Ext H H') : TkRow H' v ts lo := by
  rcases h with o | ⟨o1, q, o2, o3, o4⟩
  · exact .inl o
  · exact .inr ⟨o1, q, o2, x.keep _ _ o3, o4⟩
theorem TkRow.len {H : Heap} {v : Value} {ts : List Tk} {lo : Nat} (h : TkRow H v ts lo) : ∃ a, v = .slice a ts.length ts.length := by
  rcases h with ⟨rfl, rfl⟩ | ⟨_, q, rfl, _⟩
  · exact ⟨none, rfl⟩
  · exact ⟨_, rfl⟩
theorem TkRow.at_ {H : Heap} {v : Value} {ts : List Tk} {lo i : Nat} (h : TkRow H v ts lo) (hi : i < ts.length) : ∃ q, v = .slice (some ⟨q, 0, none⟩) ts.length ts.length ∧ H.get q = some ⟨ts.flatMap Tk.cells, true, 5, none⟩ := by
  rcases h with ⟨rfl, rfl⟩ | ⟨_, q, rfl, h, _⟩
  · simp at hi
  · exact ⟨q, rfl, h⟩
theorem BRow.ext {H H' : Heap} {v : Value} {o : List UInt8} {lo : Nat} (h : BRow H v o lo) (x : Ext H H') : BRow H' v o lo := by
  rcases h with p | ⟨o1, q, o2, o3, o4⟩
  · exact .inl p
  · exact .inr ⟨o1, q, o2, x.keep _ _ o3, o4⟩
theorem lt_next {H : Heap} (hf : Fresh H) {z : Nat} {y : Blk} (h : H.get z = some y) : z < H.next := by
  rcases Nat.lt_or_ge z H.next with q | q
  · exact q
  · rw [hf z q] at h; cases h
theorem apart_part (s : List UInt8) (ts : List Tk) (i : Nat) : (apartB s (ts.take i)).length ≤ (apartB s ts).length := by
  have e : apartB s ts = apartB s (ts.take i) ++ apartB s (ts.drop i) := by
    unfold apartB
    rw [← List.flatMap_append, List.take_append_drop]
  rw [e, List.length_append]; omega
theorem code7 : codeOf Tryd.f7 = .seq (.region 0 (rgn Tryd.f7 0) false) (.seq (.region 1 (rgn Tryd.f7 1) false) (.seq (.seq (.region 2 (rgn Tryd.f7 2) false) (.cond (.tmp 20) (.seq (.region 3 (rgn Tryd.f7 3) false) (.ret)) (.skip))) (.seq (.region 4 (rgn Tryd.f7 4) false) (.seq (.region 5 (rgn Tryd.f7 5) false) (.seq (.seq (.region 6 (rgn Tryd.f7 6) false) (.block 0 (.loop (.seq (.seq (.region 7 (rgn Tryd.f7 7) false) (.cond (.tmp 25) (.skip) (.exit 0))) (.seq (.block 1 (.seq (.seq (.region 9 (rgn Tryd.f7 9) true) (.cond (.tmp 69) (.seq (.region 10 (rgn Tryd.f7 10) false) (.ret)) (.skip))) (.seq (.region 11 (rgn Tryd.f7 11) false) (.region 12 (rgn Tryd.f7 12) false)))) (.region 8 (rgn Tryd.f7 8) false)))))) (.seq (.seq (.region 13 (rgn Tryd.f7 13) false) (.cond (.tmp 91) (.seq (.region 14 (rgn Tryd.f7 14) false) (.ret)) (.skip))) (.seq (.seq (.region 15 (rgn Tryd.f7 15) false) (.cond (.tmp 94) (.seq (.region 16 (rgn Tryd.f7 16) false) (.ret)) (.skip))) (.seq (.region 17 (rgn Tryd.f7 17) false) (.seq (.seq (.region 18 (rgn Tryd.f7 18) false) (.cond (.tmp 110) (.seq (.region 19 (rgn Tryd.f7 19) false) (.ret)) (.skip))) (.seq (.seq (.region 20 (rgn Tryd.f7 20) false) (.block 2 (.loop (.seq (.seq (.region 21 (rgn Tryd.f7 21) false) (.cond (.tmp 114) (.skip) (.exit 2))) (.seq (.block 3 (.seq (.region 23 (rgn Tryd.f7 23) true) (.cond (.tmp 153) (.seq (.region 24 (rgn Tryd.f7 24) false) (.ret)) (.skip)))) (.region 22 (rgn Tryd.f7 22) false)))))) (.seq (.region 25 (rgn Tryd.f7 25) false) (.ret)))))))))))) := by kernel_rfl
theorem gd7_9_7 : ((rgn Tryd.f7 9)[7]?).bind (·.dst) = some 35 := by kernel_rfl
theorem gd7_9_20 : ((rgn Tryd.f7 9)[20]?).bind (·.dst) = some 48 := by kernel_rfl
theorem gd7_9_30 : ((rgn Tryd.f7 9)[30]?).bind (·.dst) = some 58 := by kernel_rfl
theorem gd7_18_2 : ((rgn Tryd.f7 18)[2]?).bind (·.dst) = some 104 := by kernel_rfl
theorem gd7_23_11 : ((rgn Tryd.f7 23)[11]?).bind (·.dst) = some 128 := by kernel_rfl
theorem gd7_23_24 : ((rgn Tryd.f7 23)[24]?).bind (·.dst) = some 141 := by kernel_rfl

section
variable {N : Nat} {hk : Hook} {d : Nat} {a : Option Addr} {c lo : Nat} {s : List UInt8} {ts : List Tk} {v : Value} {H2 : Heap} {Q : R → Prop} {k : KOE}
set_option maxRecDepth 100000 in
set_option maxHeartbeats 2000000 in
theorem a1_then (hh : ∀ f args H, okC f = true → hk f args H = none) (hf2 : Fresh H2) (ha : Brow H2 a s) (hv : TkRow H2 v ts lo) (hs : s.length ≤ 1048576) (hc : s.length ≤ c) (hN : s.length < N) (hbl : (apartB s ts).length ≤ 2097152) (htl : ts.length ≤ 2097152) :
    ∀ (n i m at_ : Nat) (_ : i + n = ts.length) (_ : n < m) {E : Env} {H : Heap} {va : Value} (_ : E 0 = .slice a s.length c) (_ : E 3 = v) (_ : E 6 = va) (_ : E 7 = .int .i64 (at_ : Int)) (_ : E 8 = .int .i64 (i : Int)) (_ : Ext H2 H) (_ : BRow H va (apartB s (ts.take i)) H2.next) (_ : Chain s at_ (ts.drop i))
      (_ : ∀ E' H' va' at', E' 0 = .slice a s.length c → E' 3 = v → E' 6 = va' → E' 7 = .int .i64 ((at' : Nat) : Int) → Ext H2 H' → BRow H' va' (apartB s ts) H2.next → Chain s at' [] → Q (k (.exit 0) E' [] H')), Q (loopE (execG PP XX (CG N hk (d + 5)) N noPr (.seq (.seq (.region 7 (rgn Tryd.f7 7) false) (.cond (.tmp 25) (.skip) (.exit 0))) (.seq (.block 1 (.seq (.seq (.region 9 (rgn Tryd.f7 9) true) (.cond (.tmp 69) (.seq (.region 10 (rgn Tryd.f7 10) false) (.ret)) (.skip))) (.seq (.region 11 (rgn Tryd.f7 11) false) (.region 12 (rgn Tryd.f7 12) false)))) (.region 8 (rgn Tryd.f7 8) false))) none) m E [] H k)
  | 0, i, m + 1, at_, hn, hm, E, H, va, e0, e3, e6, e7, e8, hE, hB, hC, hx => by
    rw [loopE_succ]
    obtain ⟨a1, ev⟩ := hv.len
    have e3' := e3.trans ev
    have hi : i = ts.length := by omega
    subst hi
    have hlt : decide ((ts.length : Int) < (ts.length : Int)) = false := decide_eq_false (by omega)
    rw [List.take_length] at hB
    rw [List.drop_length] at hC
    have l7 := tl (rgn Tryd.f7 7)
    conv at l7 => rhs; simp only [rgn, opsAt, codeOf, Tryd.f7, gS, gN, reduceIte, Nat.reduceEqDiff, tA]
    simp (decide := true) only [↓execG_seq, ↓g_region, ↓execG_exit, ↓g_else, thenE_norm, thenE_exit, ↓r_nil, ↓r_cons, ↓o_move, ↓o_binOp, ↓o_builtin, nextE_app, putK_app, putG_bool, normK_app, evalE_tmp, upd_some, bindO_ok, reduceIte, map_one, ↓reg_lit l7, e3', e8, len_toks, binA_lss, hlt]
    exact hx _ _ va at_ (by simp (decide := true) only [upd_some, reduceIte, e0]) (by simp (decide := true) only [upd_some, reduceIte, e3]) (by simp (decide := true) only [upd_some, reduceIte, e6]) (by simp (decide := true) only [upd_some, reduceIte, e7]) hE hB hC
  | n + 1, i, m + 1, at_, hn, hm, E, H, va, e0, e3, e6, e7, e8, hE, hB, hC, hx => by
    rw [loopE_succ]
    have hi : i < ts.length := by omega
    obtain ⟨q, ev, hq⟩ := hv.at_ hi
    have e3' := e3.trans ev
    have hq' := hE.keep q _ hq
    have hd := List.drop_eq_getElem_cons hi
    have hti : ts[i]? = some ts[i] := List.getElem?_eq_getElem hi
    rw [hd] at hC
    obtain ⟨h1, h2, h3, h4, h5⟩ := hC
    generalize htk : ts[i] = tk at hti h1 h2 h3 h4 h5
    have hlt : decide ((i : Int) < (ts.length : Int)) = true := decide_eq_true (by omega)
    have w : IntKind.i64.wrap ((i : Int) + 1) = ((i + 1 : Nat) : Int) := by rw [wrap_i64 (by omega) (by omega)]; omega
    have g1 : decide ((tk.from_ : Int) < (at_ : Int)) = false := decide_eq_false (by omega)
    have g2 : decide ((tk.to_ : Int) ≤ (tk.from_ : Int)) = false := decide_eq_false (by omega)
    have g3 : decide ((tk.to_ : Int) > (s.length : Int)) = false := decide_eq_false (by omega)
    have hix := index_toks (q := q) hi
    have hlf := load_from hq' hti
    have hlt4 := load_to hq' hti
    have ha' := ha.ext hE
    obtain ⟨b1, c1, s1, r1⟩ := cut_mid ha' h1 (show tk.from_ ≤ s.length by omega) hc
    have hbk : CG N hk (d + 5) 23 #[.slice b1 ((s.drop at_).take (tk.from_ - at_)).length c1] H = some (.ret (.bool true), H) := call_blank (d := d + 4) hh r1 h4 (by have := r1.small; rw [List.length_take, List.length_drop]; omega) (by rw [List.length_take, List.length_drop]; omega)
    obtain ⟨b2, c2, s2, r2⟩ := cut_mid ha' (show tk.from_ ≤ tk.to_ by omega) h3 hc
    have hpl := apart_part s ts i
    have hsl : ((s.drop tk.from_).take (tk.to_ - tk.from_)).length ≤ 1048576 := by rw [List.length_take, List.length_drop]; omega
    obtain ⟨v1, H1, p1, p2, p3, p4, p5⟩ := brow_app (u := 26) hB hE.fresh hE.next (.inl ⟨_, und34⟩) (src_row (c := c2) r2) (by omega)
    have x1 : Ext H2 H1 := ⟨Nat.le_trans hE.next p4, fun z y hy => p3 z y (lt_next hf2 hy) (hE.keep z y hy), p5⟩
    have hn1 : (H1.alloc 1 [.int .u8 32]).get H1.next = some ⟨[.int .u8 32], true, 1, none⟩ := by rw [Heap.get_alloc, if_pos rfl]
    have x2 : Ext H1 (H1.alloc 1 [.int .u8 32]) := Ext.alloc p5 1 _
    have src32 : srcCells (H1.alloc 1 [.int .u8 32]) 1 (.slice (some ⟨H1.next, 0, none⟩) 1 1) = some (([32] : List UInt8).length, ([32] : List UInt8).map f8) := by
      simp [srcCells, look, hn1, f8]
    obtain ⟨v2, H3, q1, q2, q3, q4, q5⟩ := brow_app (u := 26) (p2.ext x2) x2.fresh (Nat.le_trans x1.next x2.next) (.inl ⟨_, und34⟩) src32 (by rw [List.length_append]; simp only [List.length_cons, List.length_nil]; omega)
    have x3 : Ext H2 H3 := ⟨Nat.le_trans x1.next (Nat.le_trans x2.next q4), fun z y hy => q3 z y (lt_next hf2 hy) (x2.keep z y (x1.keep z y hy)), q5⟩
    have eb : apartB s (ts.take i) ++ (s.drop tk.from_).take (tk.to_ - tk.from_) ++ [32] = apartB s (ts.take (i + 1)) := by
      rw [List.take_add_one, hti]; exact (apartB_snoc s tk _).symm
    rw [eb] at q2
    have l7 := tl (rgn Tryd.f7 7)
    conv at l7 => rhs; simp only [rgn, opsAt, codeOf, Tryd.f7, gS, gN, reduceIte, Nat.reduceEqDiff, tA]
    have l8 := tl (rgn Tryd.f7 8)
    conv at l8 => rhs; simp only [rgn, opsAt, codeOf, Tryd.f7, gS, gN, reduceIte, Nat.reduceEqDiff, tA]
    have l9 := tl (rgn Tryd.f7 9)
    conv at l9 => rhs; simp only [rgn, opsAt, codeOf, Tryd.f7, gS, gN, reduceIte, Nat.reduceEqDiff, tA]
    have l11 := tl (rgn Tryd.f7 11)
    conv at l11 => rhs; simp only [rgn, opsAt, codeOf, Tryd.f7, gS, gN, reduceIte, Nat.reduceEqDiff, tA]
    have l12 := tl (rgn Tryd.f7 12)
    conv at l12 => rhs; simp only [rgn, opsAt, codeOf, Tryd.f7, gS, gN, reduceIte, Nat.reduceEqDiff, tA]
    simp (decide := true) only [↓execG_seq, ↓g_region, ↓execG_block, ↓execG_skip, ↓g_if, ↓g_else, thenE_norm, leaveB_norm, ↓r_nil, ↓r_cons, ↓o_move, ↓o_assign, ↓o_pickf, ↓o_buildSlice, ↓o_load, ↓o_binOp, ↓o_unOp, ↓o_slice, ↓o_fieldAddr, ↓o_indexAddr, ↓o_builtin, ↓o_callf, nextE_app, putK_app, putO_app, putG_bool, putG_int, normK_app, evalE_tmp, evalE_const, upd_some, bindO_ok, bindV_ok, reduceIte, map_one, map_two, ↓reg_lit l7, ↓reg_lit l9, ↓reg_lit l11, ↓reg_lit l12, ↓reg_lit l8, ↓r_yes _ 7 false 35 _ gd7_9_7, ↓r_yes _ 20 false 48 _ gd7_9_20, ↓r_yes _ 30 false 58 _ gd7_9_30, e0, e3', e6, e7, e8, len_toks, len_slice (ts := #[26]) rfl und34, binA_lss, binA_leq, binA_gtr, hlt, hix, tk3, tk4, hlf, hlt4, g1, g2, g3, ↓Option.map_some, ↓Option.map_none, s1, s2, callK_fn Tryd.func23 rfl rfl hbk, not_t, app_builtin2, p1, bslice1, q1, binA_add, w]
    exact a1_then hh hf2 ha hv hs hc hN hbl htl n (i + 1) m tk.to_ (by omega) (by omega) (by simp (decide := true) only [upd_some, reduceIte, e0]) (by simp (decide := true) only [upd_some, reduceIte, e3]) (by simp (decide := true) only [upd_some, reduceIte, e6]) (by simp (decide := true) only [upd_some, reduceIte, e7]) (by simp (decide := true) only [upd_some, reduceIte, e8]) x3 q2 h5 hx
set_option maxRecDepth 100000 in
set_option maxHeartbeats 2000000 in
theorem a2_then {H : Heap} {K : Kf} {v2 : Value} {ts2 : List Tk} {lo2 : Nat} (hv : TkRow H v ts lo) (hv2 : TkRow H v2 ts2 lo2) (hk : ts2.map Tk.key = ts.map Tk.key) (hs : ts2.length ≤ 2097152) :
    ∀ (n i m : Nat) (_ : i + n = ts2.length) (_ : n < m) {E : Env} (_ : E 3 = v) (_ : E 9 = v2) (_ : E 12 = .int .i64 (i : Int)) (_ : ∀ E', Q (k (.exit 2) E' [] H)), Q (loopE (execG PP XX K N noPr (.seq (.seq (.region 21 (rgn Tryd.f7 21) false) (.cond (.tmp 114) (.skip) (.exit 2))) (.seq (.block 3 (.seq (.region 23 (rgn Tryd.f7 23) true) (.cond (.tmp 153) (.seq (.region 24 (rgn Tryd.f7 24) false) (.ret)) (.skip)))) (.region 22 (rgn Tryd.f7 22) false))) none) m E [] H k)
  | 0, i, m + 1, hn, hm, E, e3, e9, e12, hx => by
    rw [loopE_succ]
    obtain ⟨a1, ev2⟩ := hv2.len
    have e9' := e9.trans ev2
    have hlt : decide ((i : Int) < (ts2.length : Int)) = false := decide_eq_false (by omega)
    have l21 := tl (rgn Tryd.f7 21)
    conv at l21 => rhs; simp only [rgn, opsAt, codeOf, Tryd.f7, gS, gN, reduceIte, Nat.reduceEqDiff, tA]
    simp (decide := true) only [↓execG_seq, ↓g_region, ↓execG_exit, ↓g_else, thenE_norm, thenE_exit, ↓r_nil, ↓r_cons, ↓o_move, ↓o_binOp, ↓o_builtin, nextE_app, putK_app, putG_bool, normK_app, evalE_tmp, upd_some, bindO_ok, reduceIte, map_one, ↓reg_lit l21, e9', e12, len_toks, binA_lss, hlt]
    exact hx _
  | n + 1, i, m + 1, hn, hm, E, e3, e9, e12, hx => by
    rw [loopE_succ]
    have hi2 : i < ts2.length := by omega
    have hll : ts2.length = ts.length := by have := congrArg List.length hk; simpa using this
    have hi : i < ts.length := by omega
    obtain ⟨q, ev, hq⟩ := hv.at_ hi
    obtain ⟨q2, ev2, hq2⟩ := hv2.at_ hi2
    have e3' := e3.trans ev
    have e9' := e9.trans ev2
    have t1 : ts[i]? = some ts[i] := List.getElem?_eq_getElem hi
    have t2 : ts2[i]? = some ts2[i] := List.getElem?_eq_getElem hi2
    have hkey : ts2[i].key = ts[i].key := by
      have := congrArg (fun l => l[i]?) hk
      simpa [t1, t2] using this
    obtain ⟨k1, k2, k3⟩ : ts2[i].kind = ts[i].kind ∧ ts2[i].n = ts[i].n ∧ ts2[i].w = ts[i].w := by
      unfold Tk.key at hkey
      simpa using hkey
    have hlt : decide ((i : Int) < (ts2.length : Int)) = true := decide_eq_true (by omega)
    have w : IntKind.i64.wrap ((i : Int) + 1) = ((i + 1 : Nat) : Int) := by rw [wrap_i64 (by omega) (by omega)]; omega
    have ix1 := index_toks (q := q) hi
    have ix2 := index_toks (q := q2) hi2
    have a1 := ldk_tok hq t1
    have a2 := load_num hq t1
    have a3 := load_text hq t1
    have b1 := ldk_tok hq2 t2
    have b2 := load_num hq2 t2
    have b3 := load_text hq2 t2
    rw [k1] at b1
    rw [k2] at b2
    rw [k3] at b3
    have z1 : (ts[i].kind != ts[i].kind) = false := by simp
    have z2 : (ts[i].n != ts[i].n) = false := by simp
    have l21 := tl (rgn Tryd.f7 21)
    conv at l21 => rhs; simp only [rgn, opsAt, codeOf, Tryd.f7, gS, gN, reduceIte, Nat.reduceEqDiff, tA]
    have l22 := tl (rgn Tryd.f7 22)
    conv at l22 => rhs; simp only [rgn, opsAt, codeOf, Tryd.f7, gS, gN, reduceIte, Nat.reduceEqDiff, tA]
    have l23 := tl (rgn Tryd.f7 23)
    conv at l23 => rhs; simp only [rgn, opsAt, codeOf, Tryd.f7, gS, gN, reduceIte, Nat.reduceEqDiff, tA]
    simp (decide := true) only [↓execG_seq, ↓g_region, ↓execG_block, ↓execG_skip, ↓g_if, ↓g_else, thenE_norm, leaveB_norm, ↓r_nil, ↓r_cons, ↓o_move, ↓o_assign, ↓o_pickf, ↓o_load, ↓o_binOp, ↓o_fieldAddr, ↓o_indexAddr, ↓o_builtin, nextE_app, putK_app, putO_app, putG_bool, putG_int, normK_app, evalE_tmp, evalE_const, upd_some, bindO_ok, bindV_ok, reduceIte, map_one, ↓reg_lit l21, ↓reg_lit l23, ↓reg_lit l22, ↓r_yes _ 11 false 128 _ gd7_23_11, ↓r_yes _ 24 false 141 _ gd7_23_24, e3', e9', e12, len_toks, binA_lss, hlt, ix1, ix2, tk0, tk1, tk2, a1, a2, a3, b1, b2, b3, binA_neq, z1, z2, binA_neqs, binA_add, w]
    exact a2_then hv hv2 hk hs n (i + 1) m (by omega) (by omega) (by simp (decide := true) only [upd_some, reduceIte, e3]) (by simp (decide := true) only [upd_some, reduceIte, e9]) (by simp (decide := true) only [upd_some, reduceIte, e12]) hx
end
end Go.Am
/- Lexemes apart: yes, whatever the text. -/
open Go.Proofs
namespace Go.Am
theorem toks_none_chain {s : List UInt8} (h : firstI s = none) : Chain s 0 (toksI s (s.length + 1) 0).1 ∧ firstI (apartB s (toksI s (s.length + 1) 0).1) = none ∧
    (toksI (apartB s (toksI s (s.length + 1) 0).1) ((apartB s (toksI s (s.length + 1) 0).1).length + 1) 0).1.map Tk.key = (toksI s (s.length + 1) 0).1.map Tk.key := by
  have e : ∀ s : List UInt8, toksI s (s.length + 1) 0 = toksL (s.length + 1) 0 (s.drop 0) := fun s => toksI_L s _ 0 (Nat.zero_le _)
  unfold firstI at h ⊢
  rw [e] at h ⊢
  have c := toks_chain s (s.length + 1) 0 (Nat.zero_le _) (by simp) h
  have b := toks_apart s (s.length + 1) 0 (Nat.zero_le _) (by simp) h [] (.inl rfl)
  refine ⟨c, ?_⟩
  rw [e]
  have := b ((apartB s (toksL (s.length + 1) 0 (s.drop 0)).1).length + 1) 0 (by simp)
  simpa using this
set_option maxRecDepth 100000 in
set_option maxHeartbeats 2000000 in
theorem call_apart {N : Nat} {hk : Hook} {d : Nat} {H : Heap} {a : Option Addr} {s : List UInt8} {c : Nat} (K : HkOk hk) (hkn : ∀ H, Ext GE H → hk 10 #[] H = some (some (.ret (.bool true), H))) (hG : Ext GE H) (ha : Brow H a s) (hc : s.length ≤ c) (hN : 5000000 < N) :
    ∃ H', Ext H H' ∧ CG N hk (d + 6) 7 #[.slice a s.length c] H = some (.ret (.bool true), H') := by
  have known : ∀ H', Ext H H' → CG N hk (d + 5) 10 #[] H' = some (.ret (.bool true), H') := fun H' e => callG_hook (hkn H' (hG.trans e))
  have self : Ext H H := ⟨Nat.le_refl _, fun _ _ h => h, hG.fresh⟩
  have main : ∃ R0 : R, CG N hk (d + 6) 7 #[.slice a s.length c] H = R0 ∧ ∃ H', Ext H H' ∧ R0 = some (.ret (.bool true), H') := by
    refine ⟨_, callG_fn (K.nil _ _ _ rfl) Tryd.func7 (c := codeOf Tryd.f7) rfl rfl rfl (pr := noPr) rfl, ?_⟩
    rw [code7]
    generalize hF : finE PP Tryd.f7 = F
    have l0 := tl (rgn Tryd.f7 0)
    conv at l0 => rhs; simp only [rgn, opsAt, codeOf, Tryd.f7, gS, gN, reduceIte, Nat.reduceEqDiff, tA]
    have l1 := tl (rgn Tryd.f7 1)
    conv at l1 => rhs; simp only [rgn, opsAt, codeOf, Tryd.f7, gS, gN, reduceIte, Nat.reduceEqDiff, tA]
    have l2 := tl (rgn Tryd.f7 2)
    conv at l2 => rhs; simp only [rgn, opsAt, codeOf, Tryd.f7, gS, gN, reduceIte, Nat.reduceEqDiff, tA]
    have l3 := tl (rgn Tryd.f7 3)
    conv at l3 => rhs; simp only [rgn, opsAt, codeOf, Tryd.f7, gS, gN, reduceIte, Nat.reduceEqDiff, tA]
    have l4 := tl (rgn Tryd.f7 4)
    conv at l4 => rhs; simp only [rgn, opsAt, codeOf, Tryd.f7, gS, gN, reduceIte, Nat.reduceEqDiff, tA]
    have l5 := tl (rgn Tryd.f7 5)
    conv at l5 => rhs; simp only [rgn, opsAt, codeOf, Tryd.f7, gS, gN, reduceIte, Nat.reduceEqDiff, tA]
    have l6 := tl (rgn Tryd.f7 6)
    conv at l6 => rhs; simp only [rgn, opsAt, codeOf, Tryd.f7, gS, gN, reduceIte, Nat.reduceEqDiff, tA]
    have l13 := tl (rgn Tryd.f7 13)
    conv at l13 => rhs; simp only [rgn, opsAt, codeOf, Tryd.f7, gS, gN, reduceIte, Nat.reduceEqDiff, tA]
    have l15 := tl (rgn Tryd.f7 15)
    conv at l15 => rhs; simp only [rgn, opsAt, codeOf, Tryd.f7, gS, gN, reduceIte, Nat.reduceEqDiff, tA]
    have l16 := tl (rgn Tryd.f7 16)
    conv at l16 => rhs; simp only [rgn, opsAt, codeOf, Tryd.f7, gS, gN, reduceIte, Nat.reduceEqDiff, tA]
    have l17 := tl (rgn Tryd.f7 17)
    conv at l17 => rhs; simp only [rgn, opsAt, codeOf, Tryd.f7, gS, gN, reduceIte, Nat.reduceEqDiff, tA]
    have l18 := tl (rgn Tryd.f7 18)
    conv at l18 => rhs; simp only [rgn, opsAt, codeOf, Tryd.f7, gS, gN, reduceIte, Nat.reduceEqDiff, tA]
    have l20 := tl (rgn Tryd.f7 20)
    conv at l20 => rhs; simp only [rgn, opsAt, codeOf, Tryd.f7, gS, gN, reduceIte, Nat.reduceEqDiff, tA]
    have l25 := tl (rgn Tryd.f7 25)
    conv at l25 => rhs; simp only [rgn, opsAt, codeOf, Tryd.f7, gS, gN, reduceIte, Nat.reduceEqDiff, tA]
    by_cases hlong : 1048576 < s.length
    · have ht : CG N hk (d + 5) 9 #[.slice a s.length c] H = some (.ret (.tuple #[.slice none 0 0, .int .i64 0, .int .i64 3]), H) := call_tokens_long (d := d + 4) K.nil hlong
      have z : ((3 : Int) != 0) = true := rfl
      have kn := known H self
      refine ⟨H, self, ?_⟩
      simp (decide := true) only [↓execG_seq, ↓g_region, ↓execG_ret, ↓g_if, thenE_norm, thenE_ret, ↓r_nil, ↓r_cons, ↓o_move, ↓o_assign, ↓o_binOp, ↓o_extract, ↓o_callf, nextE_app, putK_app, putO_app, putG_bool, normK_app, evalE_tmp, evalE_const, upd_some, bindO_ok, reduceIte, map_one, map_nil, startE_0, ↓reg_lit l0, ↓reg_lit l1, ↓reg_lit l2, ↓reg_lit l3, callK_fn Tryd.func9 rfl rfl ht, ext0, ext1, ext2, binA_neq, z, callK_fn Tryd.func10 rfl rfl kn]
      rw [← hF, finE_ret (l := [.bool true]) (by simp (decide := true) [Tryd.f7, resE, upd_some])]
      rfl
    obtain ⟨H2, x2, v, e, q, ht, hr⟩ := tokens_any (N := N) (hk := hk) (d := d) K hG ha (by omega) (by omega) hc
    rcases hr with ⟨hno, row, rfl, rfl⟩ | ⟨w, _, rfl, rfl, rfl⟩
    · obtain ⟨ch, ap1, ap2⟩ := toks_none_chain hno
      generalize hts : (toksI s (s.length + 1) 0).1 = ts at ch ap1 ap2 row
      have hal := apart_len s ts 0 ch
      have z : ((0 : Int) != 0) = false := rfl
      have hch0 : Chain s 0 (ts.drop 0) := by rw [List.drop_zero]; exact ch
      have htl : ts.length ≤ 2097152 := by
        have : ∀ (l : List Tk), l.length ≤ (apartB s l).length := fun l => by
          induction l with
          | nil => exact Nat.zero_le _
          | cons t l ih => rw [apartB_cons, List.length_append, List.length_cons, List.length_cons]; omega
        have := this ts
        omega
      simp (decide := true) only [↓execG_seq, ↓g_region, ↓execG_block, ↓execG_skip, ↓g_else, thenE_norm, ↓r_nil, ↓r_cons, ↓o_move, ↓o_assign, ↓o_binOp, ↓o_extract, ↓o_callf, nextE_app, putK_app, putO_app, putG_bool, normK_app, evalE_tmp, evalE_const, upd_some, bindO_ok, reduceIte, map_one, startE_0, ↓reg_lit l0, ↓reg_lit l1, ↓reg_lit l2, ↓reg_lit l4, ↓reg_lit l5, ↓reg_lit l6, callK_fn Tryd.func9 rfl rfl ht, ext0, ext1, ext2, binA_neq, z, ↓execG_loop]
      refine a1_then (ts := ts) (Q := fun r => ∃ H', Ext H H' ∧ r = some (.ret (.bool true), H')) K.nil x2.fresh (ha.ext x2) row (by omega) hc (by omega) (by omega) htl ts.length 0 N 0 (by omega) (by omega) (va := .slice none 0 0) ?_ ?_ ?_ ?_ ?_ ⟨Nat.le_refl _, fun _ _ h => h, x2.fresh⟩ (.inl ⟨rfl, rfl⟩) hch0 (fun E' H' va' at' q0 q3 q6 q7 x3 hB hC => ?_)
      · simp (decide := true) only [upd_some, reduceIte, startE_0]
      · simp (decide := true) only [upd_some, reduceIte]
      · simp (decide := true) only [upd_some, reduceIte]
      · simp (decide := true) only [upd_some, reduceIte]
        rfl
      · simp (decide := true) only [upd_some, reduceIte]
        rfl
      have x4 := x2.trans x3
      obtain ⟨hat, hbl⟩ := hC
      obtain ⟨b1, c1, s1, r1⟩ := cut_end (ha.ext x4) hat hc
      have hbk : CG N hk (d + 5) 23 #[.slice b1 (s.drop at').length c1] H' = some (.ret (.bool true), H') := call_blank (d := d + 4) K.nil r1 hbl (by rw [List.length_drop]; omega) (by rw [List.length_drop]; omega)
      obtain ⟨vb, rfl, hbr⟩ := hB.brow (by omega)
      by_cases hbig : 1048576 < (apartB s ts).length
      · have gb : decide (((apartB s ts).length : Int) > 1048576) = true := decide_eq_true (by omega)
        have kn := known H' x4
        refine ⟨H', x4, ?_⟩
        simp (decide := true) only [↓execG_seq, ↓g_region, ↓execG_ret, ↓execG_skip, ↓g_if, ↓g_else, thenE_norm, thenE_ret, g_leave, ↓r_nil, ↓r_cons, ↓o_move, ↓o_assign, ↓o_binOp, ↓o_unOp, ↓o_slice, ↓o_builtin, ↓o_callf, nextE_app, putK_app, putO_app, putG_bool, normK_app, evalE_tmp, evalE_const, upd_some, bindO_ok, reduceIte, map_one, map_nil, ↓reg_lit l13, ↓reg_lit l15, ↓reg_lit l16, q0, q6, q7, ↓Option.map_some, ↓Option.map_none, s1, callK_fn Tryd.func23 rfl rfl hbk, not_t, len_slice (ts := #[26]) rfl und34, binA_gtr, gb, callK_fn Tryd.func10 rfl rfl kn]
        rw [← hF, finE_ret (l := [.bool true]) (by simp (decide := true) [Tryd.f7, resE, upd_some])]
        rfl
      · have gb : decide (((apartB s ts).length : Int) > 1048576) = false := decide_eq_false (by omega)
        obtain ⟨H5, x5, v5, e5, q5, ht5, hr5⟩ := tokens_any (N := N) (hk := hk) (d := d) K (hG.trans x4) hbr (by omega) (by omega) (Nat.le_refl _)
        rcases hr5 with ⟨_, row5, rfl, rfl⟩ | ⟨w, hw, _⟩
        · generalize hts5 : (toksI (apartB s ts) ((apartB s ts).length + 1) 0).1 = ts5 at row5 ap2
          have hll : ts5.length = ts.length := by have := congrArg List.length ap2; simpa using this
          have row' : TkRow H5 v ts _ := (row.ext x3).ext x5
          obtain ⟨va1, hva1⟩ := row'.len
          obtain ⟨vb5, hvb5⟩ := row5.len
          have zl : (((ts5.length : Nat) : Int) != ((ts.length : Nat) : Int)) = false := by rw [hll]; simp
          have kn := known H5 (x4.trans x5)
          have q3' := q3
          rw [hva1] at q3'
          have ht6 := ht5
          rw [hvb5] at ht6
          simp (decide := true) only [↓execG_seq, ↓g_region, ↓execG_block, ↓execG_skip, ↓g_else, thenE_norm, g_leave, ↓r_nil, ↓r_cons, ↓o_move, ↓o_assign, ↓o_pickf, ↓o_binOp, ↓o_unOp, ↓o_slice, ↓o_extract, ↓o_builtin, ↓o_callf, nextE_app, putK_app, putO_app, putG_bool, normK_app, evalE_tmp, evalE_const, upd_some, bindO_ok, reduceIte, map_one, ↓reg_lit l13, ↓reg_lit l15, ↓reg_lit l17, ↓reg_lit l18, ↓reg_lit l20, ↓r_yes _ 2 false 104 _ gd7_18_2, q0, q3', q6, q7, ↓Option.map_some, ↓Option.map_none, s1, callK_fn Tryd.func23 rfl rfl hbk, not_t, len_slice (ts := #[26]) rfl und34, binA_gtr, gb, callK_fn Tryd.func9 rfl rfl ht6, ext0, ext1, ext2, binA_neq, z, len_toks, zl, ↓execG_loop]
          refine a2_then (Q := fun r => ∃ H', Ext H H' ∧ r = some (.ret (.bool true), H')) (ts := ts) (ts2 := ts5) (v := v) (v2 := v5) row' row5 ap2 (by omega) ts5.length 0 N (by omega) (by omega) ?_ ?_ ?_ (fun E6 => ?_)
          · simp (decide := true) only [upd_some, reduceIte, q3]
          · simp (decide := true) only [upd_some, reduceIte]
            exact hvb5.symm
          · simp (decide := true) only [upd_some, reduceIte]
            rfl
          refine ⟨H5, x4.trans x5, ?_⟩
          simp (decide := true) only [↓execG_seq, ↓g_region, ↓execG_ret, thenE_norm, g_leave, ↓r_nil, ↓r_cons, ↓o_assign, ↓o_callf, nextE_app, putK_app, normK_app, evalE_tmp, upd_some, reduceIte, map_nil, ↓reg_lit l25, callK_fn Tryd.func10 rfl rfl kn]
          rw [← hF, finE_ret (l := [.bool true]) (by simp (decide := true) [Tryd.f7, resE, upd_some])]
          rfl
        · have hw' : firstI (apartB s ts) = some w := hw
          rw [ap1] at hw'; cases hw'
    · have z : ((60 : Int) != 0) = true := rfl
      have kn := known H2 x2
      refine ⟨H2, x2, ?_⟩
      simp (decide := true) only [↓execG_seq, ↓g_region, ↓execG_ret, ↓g_if, thenE_norm, thenE_ret, ↓r_nil, ↓r_cons, ↓o_move, ↓o_assign, ↓o_binOp, ↓o_extract, ↓o_callf, nextE_app, putK_app, putO_app, putG_bool, normK_app, evalE_tmp, evalE_const, upd_some, bindO_ok, reduceIte, map_one, map_nil, startE_0, ↓reg_lit l0, ↓reg_lit l1, ↓reg_lit l2, ↓reg_lit l3, callK_fn Tryd.func9 rfl rfl ht, ext0, ext1, ext2, binA_neq, z, callK_fn Tryd.func10 rfl rfl kn]
      rw [← hF, finE_ret (l := [.bool true]) (by simp (decide := true) [Tryd.f7, resE, upd_some])]
      rfl
  obtain ⟨R0, m1, H', m2, m3⟩ := main
  exact ⟨H', m2, m1.trans m3⟩
end Go.Am
