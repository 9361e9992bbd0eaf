/- The reference: a text. -/
import Derived.Test.YtohmeeglehopiaaGreatDoorR2
open Go.Proofs
namespace Go.Am
/-- A row of bytes that is being made. -/
structure RS (H0 H : Heap) (v : Value) (o : List UInt8) : Prop where
  ext : Ext H0 H
  fr : Fresh H0
  out : BRow H v o H0.next
theorem RS.add {H0 H : Heap} {v : Value} {o : List UInt8} (h : RS H0 H v o) (u : UInt8) (hn : o.length ≤ 1048576) :
    ∃ v' H', appendA PP #[22, 22] v (.slice (some ⟨H.next, 0, none⟩) 1 1) (H.alloc 1 [.int .u8 (u.toNat : Int)]) = some (v', H') ∧ RS H0 H' v' (o ++ [u]) := by
  have hn0 := h.ext.next
  have q1 : (H.alloc 1 [.int .u8 (u.toNat : Int)]).get H.next = some ⟨[f8 u], true, 1, none⟩ := by rw [Heap.get_alloc, if_pos rfl]; rfl
  have f1 : Fresh (H.alloc 1 [.int .u8 (u.toNat : Int)]) := (Ext.alloc h.ext.fresh 1 _).fresh
  have b1 : BRow (H.alloc 1 [.int .u8 (u.toNat : Int)]) v o H0.next := by
    rcases h.out with o1 | ⟨o1, q, o2, o3, o4⟩
    · exact .inl o1
    · exact .inr ⟨o1, q, o2, (Ext.alloc h.ext.fresh 1 _).keep _ _ o3, o4⟩
  obtain ⟨v', H', a1, a2, a3, a4, a5⟩ := brow_append (lo := H0.next) b1 f1 (by show H0.next ≤ H.next + 1; omega) u q1 hn
  refine ⟨v', H', a1, ⟨⟨?_, fun z w h2 => ?_, a5⟩, h.fr, a2⟩⟩
  · have n6 : H.next + 1 ≤ H'.next := a4
    omega
  · have hz : z < H0.next := by
      by_cases cz : H0.next ≤ z
      · rw [h.fr z cz] at h2; cases h2
      · omega
    exact a3 z w hz ((Ext.alloc h.ext.fresh 1 _).keep _ _ (h.ext.keep z w h2))
theorem bne_of {x y : Int} {b : Bool} (h : (x == y) = b) : (x != y) = !b := by rw [bne, h]
theorem dT {h : Decidable True} : @decide True h = true := decide_eq_true trivial
theorem dF {h : Decidable False} : @decide False h = false := decide_eq_false id
theorem conv_ib (x : Int) (H : Heap) : convertA PP 3 5 (.int .i64 x) H = some (.int .u8 (IntKind.u8.wrap x), H) := by kernel_rfl
theorem code53 : codeOf Tryz.f53 = .seq (.region 0 (rgn Tryz.f53 0) false) (.seq (.region 1 (rgn Tryz.f53 1) false) (.seq (.region 2 (rgn Tryz.f53 2) false) (.block 0 (.loop (.block 1 (.seq (.seq (.region 3 (rgn Tryz.f53 3) false) (.cond (.tmp 17) (.seq (.region 4 (rgn Tryz.f53 4) false) (.ret)) (.skip))) (.seq (.region 5 (rgn Tryz.f53 5) false) (.seq (.seq (.region 6 (rgn Tryz.f53 6) false) (.cond (.tmp 24) (.seq (.region 7 (rgn Tryz.f53 7) false) (.ret)) (.skip))) (.seq (.seq (.region 8 (rgn Tryz.f53 8) false) (.cond (.tmp 34) (.seq (.region 9 (rgn Tryz.f53 9) false) (.ret)) (.skip))) (.seq (.region 10 (rgn Tryz.f53 10) false) (.seq (.seq (.region 11 (rgn Tryz.f53 11) false) (.cond (.tmp 40) (.seq (.region 12 (rgn Tryz.f53 12) false) (.exit 1)) (.skip))) (.seq (.seq (.region 13 (rgn Tryz.f53 13) false) (.cond (.tmp 48) (.seq (.region 14 (rgn Tryz.f53 14) false) (.ret)) (.skip))) (.seq (.seq (.region 15 (rgn Tryz.f53 15) false) (.block 2 (.seq (.region 17 (rgn Tryz.f53 17) false) (.cond (.tmp 56) (.region 18 (rgn Tryz.f53 18) false) (.seq (.region 19 (rgn Tryz.f53 19) false) (.cond (.tmp 61) (.region 20 (rgn Tryz.f53 20) false) (.seq (.seq (.region 21 (rgn Tryz.f53 21) false) (.cond (.tmp 66) (.skip) (.region 22 (rgn Tryz.f53 22) false))) (.cond (.tmp 66) (.region 23 (rgn Tryz.f53 23) false) (.seq (.region 24 (rgn Tryz.f53 24) false) (.cond (.tmp 75) (.seq (.region 25 (rgn Tryz.f53 25) false) (.seq (.seq (.region 26 (rgn Tryz.f53 26) false) (.block 3 (.loop (.seq (.seq (.region 27 (rgn Tryz.f53 27) false) (.cond (.tmp 78) (.skip) (.exit 3))) (.seq (.block 4 (.seq (.seq (.region 29 (rgn Tryz.f53 29) false) (.cond (.tmp 95) (.seq (.region 30 (rgn Tryz.f53 30) false) (.ret)) (.skip))) (.region 31 (rgn Tryz.f53 31) false))) (.region 28 (rgn Tryz.f53 28) false)))))) (.seq (.region 32 (rgn Tryz.f53 32) false) (.region 33 (rgn Tryz.f53 33) false)))) (.seq (.region 16 (rgn Tryz.f53 16) false) (.ret)))))))))))) (.region 34 (rgn Tryz.f53 34) false)))))))))))))) := by kernel_rfl
theorem gd53_8_2 : ((rgn Tryz.f53 8)[2]?).bind (·.dst) = some 31 := by kernel_rfl
theorem gd53_29_6 : ((rgn Tryz.f53 29)[6]?).bind (·.dst) = some 87 := by kernel_rfl

section
theorem rt_end {N : Nat} {H0 H : Heap} {s : List UInt8} {i : Nat} {E : Env} {Q : R → Prop} {k : KOE} {hk : Hook} {d : Nat} {v : Value} {o : List UInt8} (h : RS H0 H v o) (e0 : E 0 = .string ⟨⟨s⟩⟩) (e7 : E 7 = v) (e8 : E 8 = .int .i64 ((i + 1 : Nat) : Int)) (hi : i < s.length) (hsm : s.length ≤ 1048576) (hj : ¬ i + 1 < s.length) (hx : ∀ E', E' 4 = .string ⟨#[]⟩ → E' 5 = .int .i64 ((i + 1 : Nat) : Int) → E' 6 = .int .i64 ((i + 1 : Nat) : Int) → Q (k .ret E' [] H)) :
    Q (execG PP XX (CG N hk (d + 1)) N noPr (.block 1 (.seq (.seq (.region 3 (rgn Tryz.f53 3) false) (.cond (.tmp 17) (.seq (.region 4 (rgn Tryz.f53 4) false) (.ret)) (.skip))) (.seq (.region 5 (rgn Tryz.f53 5) false) (.seq (.seq (.region 6 (rgn Tryz.f53 6) false) (.cond (.tmp 24) (.seq (.region 7 (rgn Tryz.f53 7) false) (.ret)) (.skip))) (.seq (.seq (.region 8 (rgn Tryz.f53 8) false) (.cond (.tmp 34) (.seq (.region 9 (rgn Tryz.f53 9) false) (.ret)) (.skip))) (.seq (.region 10 (rgn Tryz.f53 10) false) (.seq (.seq (.region 11 (rgn Tryz.f53 11) false) (.cond (.tmp 40) (.seq (.region 12 (rgn Tryz.f53 12) false) (.exit 1)) (.skip))) (.seq (.seq (.region 13 (rgn Tryz.f53 13) false) (.cond (.tmp 48) (.seq (.region 14 (rgn Tryz.f53 14) false) (.ret)) (.skip))) (.seq (.seq (.region 15 (rgn Tryz.f53 15) false) (.block 2 (.seq (.region 17 (rgn Tryz.f53 17) false) (.cond (.tmp 56) (.region 18 (rgn Tryz.f53 18) false) (.seq (.region 19 (rgn Tryz.f53 19) false) (.cond (.tmp 61) (.region 20 (rgn Tryz.f53 20) false) (.seq (.seq (.region 21 (rgn Tryz.f53 21) false) (.cond (.tmp 66) (.skip) (.region 22 (rgn Tryz.f53 22) false))) (.cond (.tmp 66) (.region 23 (rgn Tryz.f53 23) false) (.seq (.region 24 (rgn Tryz.f53 24) false) (.cond (.tmp 75) (.seq (.region 25 (rgn Tryz.f53 25) false) (.seq (.seq (.region 26 (rgn Tryz.f53 26) false) (.block 3 (.loop (.seq (.seq (.region 27 (rgn Tryz.f53 27) false) (.cond (.tmp 78) (.skip) (.exit 3))) (.seq (.block 4 (.seq (.seq (.region 29 (rgn Tryz.f53 29) false) (.cond (.tmp 95) (.seq (.region 30 (rgn Tryz.f53 30) false) (.ret)) (.skip))) (.region 31 (rgn Tryz.f53 31) false))) (.region 28 (rgn Tryz.f53 28) false)))))) (.seq (.region 32 (rgn Tryz.f53 32) false) (.region 33 (rgn Tryz.f53 33) false)))) (.seq (.region 16 (rgn Tryz.f53 16) false) (.ret)))))))))))) (.region 34 (rgn Tryz.f53 34) false)))))))))) none E [] H k) := by
  have hlt : decide (((i + 1 : Nat) : Int) ≥ (s.length : Int)) = true := decide_eq_true (by omega)
  have l3 := tl (rgn Tryz.f53 3)
  conv at l3 => rhs; simp only [rgn, opsAt, codeOf, Tryz.f53, gS, gN, reduceIte, Nat.reduceEqDiff, tA]
  have l4 := tl (rgn Tryz.f53 4)
  conv at l4 => rhs; simp only [rgn, opsAt, codeOf, Tryz.f53, gS, gN, reduceIte, Nat.reduceEqDiff, tA]
  simp (decide := true) only [↓execG_seq, ↓g_region, ↓execG_block, ↓execG_ret, ↓g_if, thenE_norm, thenE_ret, leaveB_ret, ↓r_nil, ↓r_cons, ↓o_move, ↓o_assign, ↓o_binOp, ↓o_builtin, nextE_app, putK_app, putG_bool, normK_app, evalE_tmp, evalE_const, upd_some, bindO_ok, reduceIte, map_one, ↓reg_lit l3, ↓reg_lit l4, e0, e8, len_str, binA_geq, hlt]
  exact hx _ (by simp (decide := true) only [upd_some, reduceIte]) (by simp (decide := true) only [upd_some, reduceIte]) (by simp (decide := true) only [upd_some, reduceIte])
theorem rt_quote {N : Nat} {H0 H : Heap} {s : List UInt8} {i : Nat} {E : Env} {Q : R → Prop} {k : KOE} {hk : Hook} {d : Nat} {v : Value} {o : List UInt8} (h : RS H0 H v o) (e0 : E 0 = .string ⟨⟨s⟩⟩) (e7 : E 7 = v) (e8 : E 8 = .int .i64 ((i + 1 : Nat) : Int)) (hi : i < s.length) (hsm : s.length ≤ 1048576) (hj : i + 1 < s.length) (hc : s.getD (i + 1) 0 = 34) (hx : ∀ E', E' 4 = .string ⟨⟨o⟩⟩ → E' 5 = .int .i64 ((i + 2 : Nat) : Int) → E' 6 = .int .i64 (-1) → Q (k .ret E' [] H)) :
    Q (execG PP XX (CG N hk (d + 1)) N noPr (.block 1 (.seq (.seq (.region 3 (rgn Tryz.f53 3) false) (.cond (.tmp 17) (.seq (.region 4 (rgn Tryz.f53 4) false) (.ret)) (.skip))) (.seq (.region 5 (rgn Tryz.f53 5) false) (.seq (.seq (.region 6 (rgn Tryz.f53 6) false) (.cond (.tmp 24) (.seq (.region 7 (rgn Tryz.f53 7) false) (.ret)) (.skip))) (.seq (.seq (.region 8 (rgn Tryz.f53 8) false) (.cond (.tmp 34) (.seq (.region 9 (rgn Tryz.f53 9) false) (.ret)) (.skip))) (.seq (.region 10 (rgn Tryz.f53 10) false) (.seq (.seq (.region 11 (rgn Tryz.f53 11) false) (.cond (.tmp 40) (.seq (.region 12 (rgn Tryz.f53 12) false) (.exit 1)) (.skip))) (.seq (.seq (.region 13 (rgn Tryz.f53 13) false) (.cond (.tmp 48) (.seq (.region 14 (rgn Tryz.f53 14) false) (.ret)) (.skip))) (.seq (.seq (.region 15 (rgn Tryz.f53 15) false) (.block 2 (.seq (.region 17 (rgn Tryz.f53 17) false) (.cond (.tmp 56) (.region 18 (rgn Tryz.f53 18) false) (.seq (.region 19 (rgn Tryz.f53 19) false) (.cond (.tmp 61) (.region 20 (rgn Tryz.f53 20) false) (.seq (.seq (.region 21 (rgn Tryz.f53 21) false) (.cond (.tmp 66) (.skip) (.region 22 (rgn Tryz.f53 22) false))) (.cond (.tmp 66) (.region 23 (rgn Tryz.f53 23) false) (.seq (.region 24 (rgn Tryz.f53 24) false) (.cond (.tmp 75) (.seq (.region 25 (rgn Tryz.f53 25) false) (.seq (.seq (.region 26 (rgn Tryz.f53 26) false) (.block 3 (.loop (.seq (.seq (.region 27 (rgn Tryz.f53 27) false) (.cond (.tmp 78) (.skip) (.exit 3))) (.seq (.block 4 (.seq (.seq (.region 29 (rgn Tryz.f53 29) false) (.cond (.tmp 95) (.seq (.region 30 (rgn Tryz.f53 30) false) (.ret)) (.skip))) (.region 31 (rgn Tryz.f53 31) false))) (.region 28 (rgn Tryz.f53 28) false)))))) (.seq (.region 32 (rgn Tryz.f53 32) false) (.region 33 (rgn Tryz.f53 33) false)))) (.seq (.region 16 (rgn Tryz.f53 16) false) (.ret)))))))))))) (.region 34 (rgn Tryz.f53 34) false)))))))))) none E [] H k) := by
  have hlt : decide (((i + 1 : Nat) : Int) ≥ (s.length : Int)) = false := decide_eq_false (by omega)
  have hix := idx_str (s := s) hj
  have hgd : s.getD (i + 1) 0 = s[i + 1] := by simp [List.getD, hj]
  have w1 : IntKind.i64.wrap (((i + 1 : Nat) : Int) + 1) = ((i + 2 : Nat) : Int) := by rw [wrap_i64 (by omega) (by omega)]; omega
  rw [hgd] at hc
  have z34 : ((s[i + 1].toNat : Int) == 34) = true := (toNat_eq s[i + 1] 34).trans (decide_eq_true hc)
  have hcv := conv_row h.out
  have l3 := tl (rgn Tryz.f53 3)
  conv at l3 => rhs; simp only [rgn, opsAt, codeOf, Tryz.f53, gS, gN, reduceIte, Nat.reduceEqDiff, tA]
  have l5 := tl (rgn Tryz.f53 5)
  conv at l5 => rhs; simp only [rgn, opsAt, codeOf, Tryz.f53, gS, gN, reduceIte, Nat.reduceEqDiff, tA]
  have l6 := tl (rgn Tryz.f53 6)
  conv at l6 => rhs; simp only [rgn, opsAt, codeOf, Tryz.f53, gS, gN, reduceIte, Nat.reduceEqDiff, tA]
  have l7 := tl (rgn Tryz.f53 7)
  conv at l7 => rhs; simp only [rgn, opsAt, codeOf, Tryz.f53, gS, gN, reduceIte, Nat.reduceEqDiff, tA]
  simp (decide := true) only [↓execG_seq, ↓g_region, ↓execG_block, ↓execG_ret, ↓execG_skip, ↓g_if, ↓g_else, thenE_norm, thenE_ret, leaveB_ret, ↓r_nil, ↓r_cons, ↓o_move, ↓o_assign, ↓o_binOp, ↓o_convert, ↓o_index, ↓o_builtin, nextE_app, putK_app, putO_app, putG_bool, putG_int, normK_app, evalE_tmp, evalE_const, upd_some, bindO_ok, bindV_ok, reduceIte, map_one, ↓reg_lit l3, ↓reg_lit l5, ↓reg_lit l6, ↓reg_lit l7, e0, e7, e8, len_str, binA_geq, hlt, hix, binA_eql, binA_add, w1, z34, hcv]
  exact hx _ (by simp (decide := true) only [upd_some, reduceIte]) (by simp (decide := true) only [upd_some, reduceIte]) (by simp (decide := true) only [upd_some, reduceIte])
theorem rt_bad {N : Nat} {H0 H : Heap} {s : List UInt8} {i : Nat} {E : Env} {Q : R → Prop} {k : KOE} {hk : Hook} {d : Nat} {v : Value} {o : List UInt8} (h : RS H0 H v o) (e0 : E 0 = .string ⟨⟨s⟩⟩) (e7 : E 7 = v) (e8 : E 8 = .int .i64 ((i + 1 : Nat) : Int)) (hi : i < s.length) (hsm : s.length ≤ 1048576) (hj : i + 1 < s.length) (hc : ¬ s.getD (i + 1) 0 = 34) (hr : (s.getD (i + 1) 0).toNat < 32 ∨ 126 < (s.getD (i + 1) 0).toNat) (hx : ∀ E', E' 4 = .string ⟨#[]⟩ → E' 5 = .int .i64 ((i + 1 : Nat) : Int) → E' 6 = .int .i64 ((i + 1 : Nat) : Int) → Q (k .ret E' [] H)) :
    Q (execG PP XX (CG N hk (d + 1)) N noPr (.block 1 (.seq (.seq (.region 3 (rgn Tryz.f53 3) false) (.cond (.tmp 17) (.seq (.region 4 (rgn Tryz.f53 4) false) (.ret)) (.skip))) (.seq (.region 5 (rgn Tryz.f53 5) false) (.seq (.seq (.region 6 (rgn Tryz.f53 6) false) (.cond (.tmp 24) (.seq (.region 7 (rgn Tryz.f53 7) false) (.ret)) (.skip))) (.seq (.seq (.region 8 (rgn Tryz.f53 8) false) (.cond (.tmp 34) (.seq (.region 9 (rgn Tryz.f53 9) false) (.ret)) (.skip))) (.seq (.region 10 (rgn Tryz.f53 10) false) (.seq (.seq (.region 11 (rgn Tryz.f53 11) false) (.cond (.tmp 40) (.seq (.region 12 (rgn Tryz.f53 12) false) (.exit 1)) (.skip))) (.seq (.seq (.region 13 (rgn Tryz.f53 13) false) (.cond (.tmp 48) (.seq (.region 14 (rgn Tryz.f53 14) false) (.ret)) (.skip))) (.seq (.seq (.region 15 (rgn Tryz.f53 15) false) (.block 2 (.seq (.region 17 (rgn Tryz.f53 17) false) (.cond (.tmp 56) (.region 18 (rgn Tryz.f53 18) false) (.seq (.region 19 (rgn Tryz.f53 19) false) (.cond (.tmp 61) (.region 20 (rgn Tryz.f53 20) false) (.seq (.seq (.region 21 (rgn Tryz.f53 21) false) (.cond (.tmp 66) (.skip) (.region 22 (rgn Tryz.f53 22) false))) (.cond (.tmp 66) (.region 23 (rgn Tryz.f53 23) false) (.seq (.region 24 (rgn Tryz.f53 24) false) (.cond (.tmp 75) (.seq (.region 25 (rgn Tryz.f53 25) false) (.seq (.seq (.region 26 (rgn Tryz.f53 26) false) (.block 3 (.loop (.seq (.seq (.region 27 (rgn Tryz.f53 27) false) (.cond (.tmp 78) (.skip) (.exit 3))) (.seq (.block 4 (.seq (.seq (.region 29 (rgn Tryz.f53 29) false) (.cond (.tmp 95) (.seq (.region 30 (rgn Tryz.f53 30) false) (.ret)) (.skip))) (.region 31 (rgn Tryz.f53 31) false))) (.region 28 (rgn Tryz.f53 28) false)))))) (.seq (.region 32 (rgn Tryz.f53 32) false) (.region 33 (rgn Tryz.f53 33) false)))) (.seq (.region 16 (rgn Tryz.f53 16) false) (.ret)))))))))))) (.region 34 (rgn Tryz.f53 34) false)))))))))) none E [] H k) := by
  have hlt : decide (((i + 1 : Nat) : Int) ≥ (s.length : Int)) = false := decide_eq_false (by omega)
  have hix := idx_str (s := s) hj
  have hgd : s.getD (i + 1) 0 = s[i + 1] := by simp [List.getD, hj]
  have w1 : IntKind.i64.wrap (((i + 1 : Nat) : Int) + 1) = ((i + 2 : Nat) : Int) := by rw [wrap_i64 (by omega) (by omega)]; omega
  rw [hgd] at hc hr
  have z34 : ((s[i + 1].toNat : Int) == 34) = false := (toNat_eq s[i + 1] 34).trans (decide_eq_false hc)
  have l3 := tl (rgn Tryz.f53 3)
  conv at l3 => rhs; simp only [rgn, opsAt, codeOf, Tryz.f53, gS, gN, reduceIte, Nat.reduceEqDiff, tA]
  have l5 := tl (rgn Tryz.f53 5)
  conv at l5 => rhs; simp only [rgn, opsAt, codeOf, Tryz.f53, gS, gN, reduceIte, Nat.reduceEqDiff, tA]
  have l6 := tl (rgn Tryz.f53 6)
  conv at l6 => rhs; simp only [rgn, opsAt, codeOf, Tryz.f53, gS, gN, reduceIte, Nat.reduceEqDiff, tA]
  have l8 := tl (rgn Tryz.f53 8)
  conv at l8 => rhs; simp only [rgn, opsAt, codeOf, Tryz.f53, gS, gN, reduceIte, Nat.reduceEqDiff, tA]
  have l9 := tl (rgn Tryz.f53 9)
  conv at l9 => rhs; simp only [rgn, opsAt, codeOf, Tryz.f53, gS, gN, reduceIte, Nat.reduceEqDiff, tA]
  by_cases lo : s[i + 1].toNat < 32
  · have q32 : decide ((s[i + 1].toNat : Int) < 32) = true := decide_eq_true (by omega)
    simp (decide := true) only [↓execG_seq, ↓g_region, ↓execG_block, ↓execG_ret, ↓execG_skip, ↓g_if, ↓g_else, thenE_norm, thenE_ret, leaveB_ret, ↓r_nil, ↓r_cons, ↓o_move, ↓o_assign, ↓o_pickt, ↓o_binOp, ↓o_index, ↓o_builtin, nextE_app, putK_app, putO_app, putG_bool, normK_app, evalE_tmp, evalE_const, upd_some, bindO_ok, reduceIte, map_one, Bool.not_false, ↓reg_lit l3, ↓reg_lit l5, ↓reg_lit l6, ↓reg_lit l8, ↓reg_lit l9, ↓r_no _ 2 false 31 _ gd53_8_2, e0, e8, len_str, binA_geq, hlt, hix, binA_eql, z34, binA_lss, q32]
    exact hx _ (by simp (decide := true) only [upd_some, reduceIte]) (by simp (decide := true) only [upd_some, reduceIte]) (by simp (decide := true) only [upd_some, reduceIte])
  · have q32 : decide ((s[i + 1].toNat : Int) < 32) = false := decide_eq_false (by omega)
    have q126 : decide ((s[i + 1].toNat : Int) > 126) = true := decide_eq_true (by omega)
    simp (decide := true) only [↓execG_seq, ↓g_region, ↓execG_block, ↓execG_ret, ↓execG_skip, ↓g_if, ↓g_else, thenE_norm, thenE_ret, leaveB_ret, ↓r_nil, ↓r_cons, ↓o_move, ↓o_assign, ↓o_pickf, ↓o_binOp, ↓o_index, ↓o_builtin, nextE_app, putK_app, putO_app, putG_bool, normK_app, evalE_tmp, evalE_const, upd_some, bindO_ok, reduceIte, map_one, ↓reg_lit l3, ↓reg_lit l5, ↓reg_lit l6, ↓reg_lit l8, ↓reg_lit l9, ↓r_yes _ 2 false 31 _ gd53_8_2, e0, e8, len_str, binA_geq, hlt, hix, binA_eql, z34, binA_lss, q32, binA_gtr, q126]
    exact hx _ (by simp (decide := true) only [upd_some, reduceIte]) (by simp (decide := true) only [upd_some, reduceIte]) (by simp (decide := true) only [upd_some, reduceIte])
theorem rt_char {N : Nat} {H0 H : Heap} {s : List UInt8} {i : Nat} {E : Env} {Q : R → Prop} {k : KOE} {hk : Hook} {d : Nat} {v : Value} {o : List UInt8} (h : RS H0 H v o) (e0 : E 0 = .string ⟨⟨s⟩⟩) (e7 : E 7 = v) (e8 : E 8 = .int .i64 ((i + 1 : Nat) : Int)) (hi : i < s.length) (hsm : s.length ≤ 1048576) (hj : i + 1 < s.length) (hc : ¬ s.getD (i + 1) 0 = 34) (hc2 : ¬ s.getD (i + 1) 0 = 92) (hr : ¬ ((s.getD (i + 1) 0).toNat < 32 ∨ 126 < (s.getD (i + 1) 0).toNat)) (hn : o.length ≤ 1048576) (hx : ∀ E' H' v', E' 0 = .string ⟨⟨s⟩⟩ → E' 7 = v' → E' 8 = .int .i64 ((i + 2 : Nat) : Int) → RS H0 H' v' (o ++ [s.getD (i + 1) 0]) → Q (k .norm E' [] H')) :
    Q (execG PP XX (CG N hk (d + 1)) N noPr (.block 1 (.seq (.seq (.region 3 (rgn Tryz.f53 3) false) (.cond (.tmp 17) (.seq (.region 4 (rgn Tryz.f53 4) false) (.ret)) (.skip))) (.seq (.region 5 (rgn Tryz.f53 5) false) (.seq (.seq (.region 6 (rgn Tryz.f53 6) false) (.cond (.tmp 24) (.seq (.region 7 (rgn Tryz.f53 7) false) (.ret)) (.skip))) (.seq (.seq (.region 8 (rgn Tryz.f53 8) false) (.cond (.tmp 34) (.seq (.region 9 (rgn Tryz.f53 9) false) (.ret)) (.skip))) (.seq (.region 10 (rgn Tryz.f53 10) false) (.seq (.seq (.region 11 (rgn Tryz.f53 11) false) (.cond (.tmp 40) (.seq (.region 12 (rgn Tryz.f53 12) false) (.exit 1)) (.skip))) (.seq (.seq (.region 13 (rgn Tryz.f53 13) false) (.cond (.tmp 48) (.seq (.region 14 (rgn Tryz.f53 14) false) (.ret)) (.skip))) (.seq (.seq (.region 15 (rgn Tryz.f53 15) false) (.block 2 (.seq (.region 17 (rgn Tryz.f53 17) false) (.cond (.tmp 56) (.region 18 (rgn Tryz.f53 18) false) (.seq (.region 19 (rgn Tryz.f53 19) false) (.cond (.tmp 61) (.region 20 (rgn Tryz.f53 20) false) (.seq (.seq (.region 21 (rgn Tryz.f53 21) false) (.cond (.tmp 66) (.skip) (.region 22 (rgn Tryz.f53 22) false))) (.cond (.tmp 66) (.region 23 (rgn Tryz.f53 23) false) (.seq (.region 24 (rgn Tryz.f53 24) false) (.cond (.tmp 75) (.seq (.region 25 (rgn Tryz.f53 25) false) (.seq (.seq (.region 26 (rgn Tryz.f53 26) false) (.block 3 (.loop (.seq (.seq (.region 27 (rgn Tryz.f53 27) false) (.cond (.tmp 78) (.skip) (.exit 3))) (.seq (.block 4 (.seq (.seq (.region 29 (rgn Tryz.f53 29) false) (.cond (.tmp 95) (.seq (.region 30 (rgn Tryz.f53 30) false) (.ret)) (.skip))) (.region 31 (rgn Tryz.f53 31) false))) (.region 28 (rgn Tryz.f53 28) false)))))) (.seq (.region 32 (rgn Tryz.f53 32) false) (.region 33 (rgn Tryz.f53 33) false)))) (.seq (.region 16 (rgn Tryz.f53 16) false) (.ret)))))))))))) (.region 34 (rgn Tryz.f53 34) false)))))))))) none E [] H k) := by
  have hlt : decide (((i + 1 : Nat) : Int) ≥ (s.length : Int)) = false := decide_eq_false (by omega)
  have hix := idx_str (s := s) hj
  have hgd : s.getD (i + 1) 0 = s[i + 1] := by simp [List.getD, hj]
  have w1 : IntKind.i64.wrap (((i + 1 : Nat) : Int) + 1) = ((i + 2 : Nat) : Int) := by rw [wrap_i64 (by omega) (by omega)]; omega
  rw [hgd] at hc hc2 hr hx
  have z34 : ((s[i + 1].toNat : Int) == 34) = false := (toNat_eq s[i + 1] 34).trans (decide_eq_false hc)
  have z92 : ((s[i + 1].toNat : Int) != 92) = true := bne_of ((toNat_eq s[i + 1] 92).trans (decide_eq_false hc2))
  have q32 : decide ((s[i + 1].toNat : Int) < 32) = false := decide_eq_false (by omega)
  have q126 : decide ((s[i + 1].toNat : Int) > 126) = false := decide_eq_false (by omega)
  obtain ⟨v', H', a1, a2⟩ := h.add s[i + 1] hn
  have l3 := tl (rgn Tryz.f53 3)
  conv at l3 => rhs; simp only [rgn, opsAt, codeOf, Tryz.f53, gS, gN, reduceIte, Nat.reduceEqDiff, tA]
  have l5 := tl (rgn Tryz.f53 5)
  conv at l5 => rhs; simp only [rgn, opsAt, codeOf, Tryz.f53, gS, gN, reduceIte, Nat.reduceEqDiff, tA]
  have l6 := tl (rgn Tryz.f53 6)
  conv at l6 => rhs; simp only [rgn, opsAt, codeOf, Tryz.f53, gS, gN, reduceIte, Nat.reduceEqDiff, tA]
  have l8 := tl (rgn Tryz.f53 8)
  conv at l8 => rhs; simp only [rgn, opsAt, codeOf, Tryz.f53, gS, gN, reduceIte, Nat.reduceEqDiff, tA]
  have l10 := tl (rgn Tryz.f53 10)
  conv at l10 => rhs; simp only [rgn, opsAt, codeOf, Tryz.f53, gS, gN, reduceIte, Nat.reduceEqDiff, tA]
  have l11 := tl (rgn Tryz.f53 11)
  conv at l11 => rhs; simp only [rgn, opsAt, codeOf, Tryz.f53, gS, gN, reduceIte, Nat.reduceEqDiff, tA]
  have l12 := tl (rgn Tryz.f53 12)
  conv at l12 => rhs; simp only [rgn, opsAt, codeOf, Tryz.f53, gS, gN, reduceIte, Nat.reduceEqDiff, tA]
  simp (decide := true) only [↓execG_seq, ↓g_region, ↓execG_block, ↓execG_skip, ↓execG_exit, ↓g_if, ↓g_else, thenE_norm, thenE_exit, g_leave, ↓r_nil, ↓r_cons, ↓o_move, ↓o_assign, ↓o_pickf, ↓o_buildSlice, ↓o_binOp, ↓o_index, ↓o_builtin, nextE_app, putK_app, putO_app, putG_bool, putG_int, normK_app, evalE_tmp, evalE_const, upd_some, bindO_ok, bindV_ok, reduceIte, map_one, map_two, ↓reg_lit l3, ↓reg_lit l5, ↓reg_lit l6, ↓reg_lit l8, ↓reg_lit l10, ↓reg_lit l11, ↓reg_lit l12, ↓r_yes _ 2 false 31 _ gd53_8_2, e0, e7, e8, len_str, binA_geq, hlt, hix, binA_eql, binA_add, w1, z34, binA_neq, z92, binA_lss, q32, binA_gtr, q126, bslice1, app_bytes, a1]
  exact hx _ H' v' (by simp (decide := true) only [upd_some, reduceIte, e0]) (by simp (decide := true) only [upd_some, reduceIte, e7]) (by simp (decide := true) only [upd_some, reduceIte, e8]) a2
theorem rt_eend {N : Nat} {H0 H : Heap} {s : List UInt8} {i : Nat} {E : Env} {Q : R → Prop} {k : KOE} {hk : Hook} {d : Nat} {v : Value} {o : List UInt8} (h : RS H0 H v o) (e0 : E 0 = .string ⟨⟨s⟩⟩) (e7 : E 7 = v) (e8 : E 8 = .int .i64 ((i + 1 : Nat) : Int)) (hi : i < s.length) (hsm : s.length ≤ 1048576) (hj : i + 1 < s.length) (hj2 : ¬ i + 2 < s.length) (hc : s.getD (i + 1) 0 = 92) (hx : ∀ E', E' 4 = .string ⟨#[]⟩ → E' 5 = .int .i64 ((i + 2 : Nat) : Int) → E' 6 = .int .i64 ((i + 2 : Nat) : Int) → Q (k .ret E' [] H)) :
    Q (execG PP XX (CG N hk (d + 1)) N noPr (.block 1 (.seq (.seq (.region 3 (rgn Tryz.f53 3) false) (.cond (.tmp 17) (.seq (.region 4 (rgn Tryz.f53 4) false) (.ret)) (.skip))) (.seq (.region 5 (rgn Tryz.f53 5) false) (.seq (.seq (.region 6 (rgn Tryz.f53 6) false) (.cond (.tmp 24) (.seq (.region 7 (rgn Tryz.f53 7) false) (.ret)) (.skip))) (.seq (.seq (.region 8 (rgn Tryz.f53 8) false) (.cond (.tmp 34) (.seq (.region 9 (rgn Tryz.f53 9) false) (.ret)) (.skip))) (.seq (.region 10 (rgn Tryz.f53 10) false) (.seq (.seq (.region 11 (rgn Tryz.f53 11) false) (.cond (.tmp 40) (.seq (.region 12 (rgn Tryz.f53 12) false) (.exit 1)) (.skip))) (.seq (.seq (.region 13 (rgn Tryz.f53 13) false) (.cond (.tmp 48) (.seq (.region 14 (rgn Tryz.f53 14) false) (.ret)) (.skip))) (.seq (.seq (.region 15 (rgn Tryz.f53 15) false) (.block 2 (.seq (.region 17 (rgn Tryz.f53 17) false) (.cond (.tmp 56) (.region 18 (rgn Tryz.f53 18) false) (.seq (.region 19 (rgn Tryz.f53 19) false) (.cond (.tmp 61) (.region 20 (rgn Tryz.f53 20) false) (.seq (.seq (.region 21 (rgn Tryz.f53 21) false) (.cond (.tmp 66) (.skip) (.region 22 (rgn Tryz.f53 22) false))) (.cond (.tmp 66) (.region 23 (rgn Tryz.f53 23) false) (.seq (.region 24 (rgn Tryz.f53 24) false) (.cond (.tmp 75) (.seq (.region 25 (rgn Tryz.f53 25) false) (.seq (.seq (.region 26 (rgn Tryz.f53 26) false) (.block 3 (.loop (.seq (.seq (.region 27 (rgn Tryz.f53 27) false) (.cond (.tmp 78) (.skip) (.exit 3))) (.seq (.block 4 (.seq (.seq (.region 29 (rgn Tryz.f53 29) false) (.cond (.tmp 95) (.seq (.region 30 (rgn Tryz.f53 30) false) (.ret)) (.skip))) (.region 31 (rgn Tryz.f53 31) false))) (.region 28 (rgn Tryz.f53 28) false)))))) (.seq (.region 32 (rgn Tryz.f53 32) false) (.region 33 (rgn Tryz.f53 33) false)))) (.seq (.region 16 (rgn Tryz.f53 16) false) (.ret)))))))))))) (.region 34 (rgn Tryz.f53 34) false)))))))))) none E [] H k) := by
  have hlt : decide (((i + 1 : Nat) : Int) ≥ (s.length : Int)) = false := decide_eq_false (by omega)
  have hix := idx_str (s := s) hj
  have hgd : s.getD (i + 1) 0 = s[i + 1] := by simp [List.getD, hj]
  have w1 : IntKind.i64.wrap (((i + 1 : Nat) : Int) + 1) = ((i + 2 : Nat) : Int) := by rw [wrap_i64 (by omega) (by omega)]; omega
  rw [hgd] at hc
  have z34 : ((s[i + 1].toNat : Int) == 34) = false := (toNat_eq s[i + 1] 34).trans (by rw [hc]; rfl)
  have z92 : ((s[i + 1].toNat : Int) != 92) = false := bne_of ((toNat_eq s[i + 1] 92).trans (decide_eq_true hc))
  have q32 : decide ((s[i + 1].toNat : Int) < 32) = false := by rw [hc]; rfl
  have q126 : decide ((s[i + 1].toNat : Int) > 126) = false := by rw [hc]; rfl
  have hlt2 : decide (((i + 2 : Nat) : Int) ≥ (s.length : Int)) = true := decide_eq_true (by omega)
  have l3 := tl (rgn Tryz.f53 3)
  conv at l3 => rhs; simp only [rgn, opsAt, codeOf, Tryz.f53, gS, gN, reduceIte, Nat.reduceEqDiff, tA]
  have l5 := tl (rgn Tryz.f53 5)
  conv at l5 => rhs; simp only [rgn, opsAt, codeOf, Tryz.f53, gS, gN, reduceIte, Nat.reduceEqDiff, tA]
  have l6 := tl (rgn Tryz.f53 6)
  conv at l6 => rhs; simp only [rgn, opsAt, codeOf, Tryz.f53, gS, gN, reduceIte, Nat.reduceEqDiff, tA]
  have l8 := tl (rgn Tryz.f53 8)
  conv at l8 => rhs; simp only [rgn, opsAt, codeOf, Tryz.f53, gS, gN, reduceIte, Nat.reduceEqDiff, tA]
  have l10 := tl (rgn Tryz.f53 10)
  conv at l10 => rhs; simp only [rgn, opsAt, codeOf, Tryz.f53, gS, gN, reduceIte, Nat.reduceEqDiff, tA]
  have l11 := tl (rgn Tryz.f53 11)
  conv at l11 => rhs; simp only [rgn, opsAt, codeOf, Tryz.f53, gS, gN, reduceIte, Nat.reduceEqDiff, tA]
  have l13 := tl (rgn Tryz.f53 13)
  conv at l13 => rhs; simp only [rgn, opsAt, codeOf, Tryz.f53, gS, gN, reduceIte, Nat.reduceEqDiff, tA]
  have l14 := tl (rgn Tryz.f53 14)
  conv at l14 => rhs; simp only [rgn, opsAt, codeOf, Tryz.f53, gS, gN, reduceIte, Nat.reduceEqDiff, tA]
  simp (decide := true) only [↓execG_seq, ↓g_region, ↓execG_block, ↓execG_ret, ↓execG_skip, ↓g_if, ↓g_else, thenE_norm, thenE_ret, leaveB_ret, ↓r_nil, ↓r_cons, ↓o_move, ↓o_assign, ↓o_pickf, ↓o_binOp, ↓o_index, ↓o_builtin, nextE_app, putK_app, putO_app, putG_bool, putG_int, normK_app, evalE_tmp, evalE_const, upd_some, bindO_ok, reduceIte, map_one, ↓reg_lit l3, ↓reg_lit l5, ↓reg_lit l6, ↓reg_lit l8, ↓reg_lit l10, ↓reg_lit l11, ↓reg_lit l13, ↓reg_lit l14, ↓r_yes _ 2 false 31 _ gd53_8_2, e0, e8, len_str, binA_geq, hlt, hix, binA_eql, binA_add, w1, z34, binA_neq, z92, binA_lss, q32, binA_gtr, q126, hlt2]
  exact hx _ (by simp (decide := true) only [upd_some, reduceIte]) (by simp (decide := true) only [upd_some, reduceIte]) (by simp (decide := true) only [upd_some, reduceIte])
set_option maxRecDepth 100000 in
theorem rt_n {N : Nat} {H0 H : Heap} {s : List UInt8} {i : Nat} {E : Env} {Q : R → Prop} {k : KOE} {hk : Hook} {d : Nat} {v : Value} {o : List UInt8} (h : RS H0 H v o) (e0 : E 0 = .string ⟨⟨s⟩⟩) (e7 : E 7 = v) (e8 : E 8 = .int .i64 ((i + 1 : Nat) : Int)) (hi : i < s.length) (hsm : s.length ≤ 1048576) (hj : i + 1 < s.length) (hj2 : i + 2 < s.length) (hc : s.getD (i + 1) 0 = 92) (hc2 : s.getD (i + 2) 0 = 110) (hn : o.length ≤ 1048576) (hx : ∀ E' H' v', E' 0 = .string ⟨⟨s⟩⟩ → E' 7 = v' → E' 8 = .int .i64 ((i + 3 : Nat) : Int) → RS H0 H' v' (o ++ [10]) → Q (k .norm E' [] H')) :
    Q (execG PP XX (CG N hk (d + 1)) N noPr (.block 1 (.seq (.seq (.region 3 (rgn Tryz.f53 3) false) (.cond (.tmp 17) (.seq (.region 4 (rgn Tryz.f53 4) false) (.ret)) (.skip))) (.seq (.region 5 (rgn Tryz.f53 5) false) (.seq (.seq (.region 6 (rgn Tryz.f53 6) false) (.cond (.tmp 24) (.seq (.region 7 (rgn Tryz.f53 7) false) (.ret)) (.skip))) (.seq (.seq (.region 8 (rgn Tryz.f53 8) false) (.cond (.tmp 34) (.seq (.region 9 (rgn Tryz.f53 9) false) (.ret)) (.skip))) (.seq (.region 10 (rgn Tryz.f53 10) false) (.seq (.seq (.region 11 (rgn Tryz.f53 11) false) (.cond (.tmp 40) (.seq (.region 12 (rgn Tryz.f53 12) false) (.exit 1)) (.skip))) (.seq (.seq (.region 13 (rgn Tryz.f53 13) false) (.cond (.tmp 48) (.seq (.region 14 (rgn Tryz.f53 14) false) (.ret)) (.skip))) (.seq (.seq (.region 15 (rgn Tryz.f53 15) false) (.block 2 (.seq (.region 17 (rgn Tryz.f53 17) false) (.cond (.tmp 56) (.region 18 (rgn Tryz.f53 18) false) (.seq (.region 19 (rgn Tryz.f53 19) false) (.cond (.tmp 61) (.region 20 (rgn Tryz.f53 20) false) (.seq (.seq (.region 21 (rgn Tryz.f53 21) false) (.cond (.tmp 66) (.skip) (.region 22 (rgn Tryz.f53 22) false))) (.cond (.tmp 66) (.region 23 (rgn Tryz.f53 23) false) (.seq (.region 24 (rgn Tryz.f53 24) false) (.cond (.tmp 75) (.seq (.region 25 (rgn Tryz.f53 25) false) (.seq (.seq (.region 26 (rgn Tryz.f53 26) false) (.block 3 (.loop (.seq (.seq (.region 27 (rgn Tryz.f53 27) false) (.cond (.tmp 78) (.skip) (.exit 3))) (.seq (.block 4 (.seq (.seq (.region 29 (rgn Tryz.f53 29) false) (.cond (.tmp 95) (.seq (.region 30 (rgn Tryz.f53 30) false) (.ret)) (.skip))) (.region 31 (rgn Tryz.f53 31) false))) (.region 28 (rgn Tryz.f53 28) false)))))) (.seq (.region 32 (rgn Tryz.f53 32) false) (.region 33 (rgn Tryz.f53 33) false)))) (.seq (.region 16 (rgn Tryz.f53 16) false) (.ret)))))))))))) (.region 34 (rgn Tryz.f53 34) false)))))))))) none E [] H k) := by
  have hlt : decide (((i + 1 : Nat) : Int) ≥ (s.length : Int)) = false := decide_eq_false (by omega)
  have hix := idx_str (s := s) hj
  have hgd : s.getD (i + 1) 0 = s[i + 1] := by simp [List.getD, hj]
  have w1 : IntKind.i64.wrap (((i + 1 : Nat) : Int) + 1) = ((i + 2 : Nat) : Int) := by rw [wrap_i64 (by omega) (by omega)]; omega
  rw [hgd] at hc
  have z34 : ((s[i + 1].toNat : Int) == 34) = false := (toNat_eq s[i + 1] 34).trans (by rw [hc]; rfl)
  have z92 : ((s[i + 1].toNat : Int) != 92) = false := bne_of ((toNat_eq s[i + 1] 92).trans (decide_eq_true hc))
  have q32 : decide ((s[i + 1].toNat : Int) < 32) = false := by rw [hc]; rfl
  have q126 : decide ((s[i + 1].toNat : Int) > 126) = false := by rw [hc]; rfl
  have hlt2 : decide (((i + 2 : Nat) : Int) ≥ (s.length : Int)) = false := decide_eq_false (by omega)
  have hix2 := idx_str (s := s) hj2
  have hgd2 : s.getD (i + 2) 0 = s[i + 2] := by simp [List.getD, hj2]
  have w3 : IntKind.i64.wrap (((i + 2 : Nat) : Int) + 1) = ((i + 3 : Nat) : Int) := by rw [wrap_i64 (by omega) (by omega)]; omega
  rw [hgd2] at hc2
  have y110 : ((s[i + 2].toNat : Int) == 110) = true := (toNat_eq s[i + 2] 110).trans (by rw [hc2]; rfl)
  obtain ⟨v', H', a1, a2⟩ := h.add 10 hn
  have a1 : appendA PP #[22, 22] v (.slice (some ⟨H.next, 0, none⟩) 1 1) (H.alloc 1 [.int .u8 10]) = some (v', H') := a1
  have l3 := tl (rgn Tryz.f53 3)
  conv at l3 => rhs; simp only [rgn, opsAt, codeOf, Tryz.f53, gS, gN, reduceIte, Nat.reduceEqDiff, tA]
  have l5 := tl (rgn Tryz.f53 5)
  conv at l5 => rhs; simp only [rgn, opsAt, codeOf, Tryz.f53, gS, gN, reduceIte, Nat.reduceEqDiff, tA]
  have l6 := tl (rgn Tryz.f53 6)
  conv at l6 => rhs; simp only [rgn, opsAt, codeOf, Tryz.f53, gS, gN, reduceIte, Nat.reduceEqDiff, tA]
  have l8 := tl (rgn Tryz.f53 8)
  conv at l8 => rhs; simp only [rgn, opsAt, codeOf, Tryz.f53, gS, gN, reduceIte, Nat.reduceEqDiff, tA]
  have l10 := tl (rgn Tryz.f53 10)
  conv at l10 => rhs; simp only [rgn, opsAt, codeOf, Tryz.f53, gS, gN, reduceIte, Nat.reduceEqDiff, tA]
  have l11 := tl (rgn Tryz.f53 11)
  conv at l11 => rhs; simp only [rgn, opsAt, codeOf, Tryz.f53, gS, gN, reduceIte, Nat.reduceEqDiff, tA]
  have l13 := tl (rgn Tryz.f53 13)
  conv at l13 => rhs; simp only [rgn, opsAt, codeOf, Tryz.f53, gS, gN, reduceIte, Nat.reduceEqDiff, tA]
  have l15 := tl (rgn Tryz.f53 15)
  conv at l15 => rhs; simp only [rgn, opsAt, codeOf, Tryz.f53, gS, gN, reduceIte, Nat.reduceEqDiff, tA]
  have l17 := tl (rgn Tryz.f53 17)
  conv at l17 => rhs; simp only [rgn, opsAt, codeOf, Tryz.f53, gS, gN, reduceIte, Nat.reduceEqDiff, tA]
  have l18 := tl (rgn Tryz.f53 18)
  conv at l18 => rhs; simp only [rgn, opsAt, codeOf, Tryz.f53, gS, gN, reduceIte, Nat.reduceEqDiff, tA]
  have l34 := tl (rgn Tryz.f53 34)
  conv at l34 => rhs; simp only [rgn, opsAt, codeOf, Tryz.f53, gS, gN, reduceIte, Nat.reduceEqDiff, tA]
  simp (decide := true) only [↓execG_seq, ↓g_region, ↓execG_block, ↓execG_skip, ↓g_if, ↓g_else, thenE_norm, leaveB_norm, ↓r_nil, ↓r_cons, ↓o_move, ↓o_assign, ↓o_pickf, ↓o_buildSlice, ↓o_binOp, ↓o_index, ↓o_builtin, nextE_app, putK_app, putO_app, putG_bool, putG_int, normK_app, evalE_tmp, evalE_const, upd_some, bindO_ok, bindV_ok, reduceIte, map_one, map_two, ↓reg_lit l3, ↓reg_lit l5, ↓reg_lit l6, ↓reg_lit l8, ↓reg_lit l10, ↓reg_lit l11, ↓reg_lit l13, ↓reg_lit l15, ↓reg_lit l17, ↓reg_lit l18, ↓reg_lit l34, ↓r_yes _ 2 false 31 _ gd53_8_2, e0, e7, e8, len_str, binA_geq, hlt, hix, binA_eql, binA_add, w1, z34, binA_neq, z92, binA_lss, q32, binA_gtr, q126, hlt2, hix2, y110, bslice1, app_bytes, a1, w3]
  exact hx _ H' v' (by simp (decide := true) only [upd_some, reduceIte, e0]) (by simp (decide := true) only [upd_some, reduceIte, e7]) (by simp (decide := true) only [upd_some, reduceIte, e8]) a2
set_option maxRecDepth 100000 in
theorem rt_t {N : Nat} {H0 H : Heap} {s : List UInt8} {i : Nat} {E : Env} {Q : R → Prop} {k : KOE} {hk : Hook} {d : Nat} {v : Value} {o : List UInt8} (h : RS H0 H v o) (e0 : E 0 = .string ⟨⟨s⟩⟩) (e7 : E 7 = v) (e8 : E 8 = .int .i64 ((i + 1 : Nat) : Int)) (hi : i < s.length) (hsm : s.length ≤ 1048576) (hj : i + 1 < s.length) (hj2 : i + 2 < s.length) (hc : s.getD (i + 1) 0 = 92) (hc2 : s.getD (i + 2) 0 = 116) (hn : o.length ≤ 1048576) (hx : ∀ E' H' v', E' 0 = .string ⟨⟨s⟩⟩ → E' 7 = v' → E' 8 = .int .i64 ((i + 3 : Nat) : Int) → RS H0 H' v' (o ++ [9]) → Q (k .norm E' [] H')) :
    Q (execG PP XX (CG N hk (d + 1)) N noPr (.block 1 (.seq (.seq (.region 3 (rgn Tryz.f53 3) false) (.cond (.tmp 17) (.seq (.region 4 (rgn Tryz.f53 4) false) (.ret)) (.skip))) (.seq (.region 5 (rgn Tryz.f53 5) false) (.seq (.seq (.region 6 (rgn Tryz.f53 6) false) (.cond (.tmp 24) (.seq (.region 7 (rgn Tryz.f53 7) false) (.ret)) (.skip))) (.seq (.seq (.region 8 (rgn Tryz.f53 8) false) (.cond (.tmp 34) (.seq (.region 9 (rgn Tryz.f53 9) false) (.ret)) (.skip))) (.seq (.region 10 (rgn Tryz.f53 10) false) (.seq (.seq (.region 11 (rgn Tryz.f53 11) false) (.cond (.tmp 40) (.seq (.region 12 (rgn Tryz.f53 12) false) (.exit 1)) (.skip))) (.seq (.seq (.region 13 (rgn Tryz.f53 13) false) (.cond (.tmp 48) (.seq (.region 14 (rgn Tryz.f53 14) false) (.ret)) (.skip))) (.seq (.seq (.region 15 (rgn Tryz.f53 15) false) (.block 2 (.seq (.region 17 (rgn Tryz.f53 17) false) (.cond (.tmp 56) (.region 18 (rgn Tryz.f53 18) false) (.seq (.region 19 (rgn Tryz.f53 19) false) (.cond (.tmp 61) (.region 20 (rgn Tryz.f53 20) false) (.seq (.seq (.region 21 (rgn Tryz.f53 21) false) (.cond (.tmp 66) (.skip) (.region 22 (rgn Tryz.f53 22) false))) (.cond (.tmp 66) (.region 23 (rgn Tryz.f53 23) false) (.seq (.region 24 (rgn Tryz.f53 24) false) (.cond (.tmp 75) (.seq (.region 25 (rgn Tryz.f53 25) false) (.seq (.seq (.region 26 (rgn Tryz.f53 26) false) (.block 3 (.loop (.seq (.seq (.region 27 (rgn Tryz.f53 27) false) (.cond (.tmp 78) (.skip) (.exit 3))) (.seq (.block 4 (.seq (.seq (.region 29 (rgn Tryz.f53 29) false) (.cond (.tmp 95) (.seq (.region 30 (rgn Tryz.f53 30) false) (.ret)) (.skip))) (.region 31 (rgn Tryz.f53 31) false))) (.region 28 (rgn Tryz.f53 28) false)))))) (.seq (.region 32 (rgn Tryz.f53 32) false) (.region 33 (rgn Tryz.f53 33) false)))) (.seq (.region 16 (rgn Tryz.f53 16) false) (.ret)))))))))))) (.region 34 (rgn Tryz.f53 34) false)))))))))) none E [] H k) := by
  have hlt : decide (((i + 1 : Nat) : Int) ≥ (s.length : Int)) = false := decide_eq_false (by omega)
  have hix := idx_str (s := s) hj
  have hgd : s.getD (i + 1) 0 = s[i + 1] := by simp [List.getD, hj]
  have w1 : IntKind.i64.wrap (((i + 1 : Nat) : Int) + 1) = ((i + 2 : Nat) : Int) := by rw [wrap_i64 (by omega) (by omega)]; omega
  rw [hgd] at hc
  have z34 : ((s[i + 1].toNat : Int) == 34) = false := (toNat_eq s[i + 1] 34).trans (by rw [hc]; rfl)
  have z92 : ((s[i + 1].toNat : Int) != 92) = false := bne_of ((toNat_eq s[i + 1] 92).trans (decide_eq_true hc))
  have q32 : decide ((s[i + 1].toNat : Int) < 32) = false := by rw [hc]; rfl
  have q126 : decide ((s[i + 1].toNat : Int) > 126) = false := by rw [hc]; rfl
  have hlt2 : decide (((i + 2 : Nat) : Int) ≥ (s.length : Int)) = false := decide_eq_false (by omega)
  have hix2 := idx_str (s := s) hj2
  have hgd2 : s.getD (i + 2) 0 = s[i + 2] := by simp [List.getD, hj2]
  have w3 : IntKind.i64.wrap (((i + 2 : Nat) : Int) + 1) = ((i + 3 : Nat) : Int) := by rw [wrap_i64 (by omega) (by omega)]; omega
  rw [hgd2] at hc2
  have y110 : ((s[i + 2].toNat : Int) == 110) = false := (toNat_eq s[i + 2] 110).trans (by rw [hc2]; rfl)
  have y116 : ((s[i + 2].toNat : Int) == 116) = true := (toNat_eq s[i + 2] 116).trans (by rw [hc2]; rfl)
  obtain ⟨v', H', a1, a2⟩ := h.add 9 hn
  have a1 : appendA PP #[22, 22] v (.slice (some ⟨H.next, 0, none⟩) 1 1) (H.alloc 1 [.int .u8 9]) = some (v', H') := a1
  have l3 := tl (rgn Tryz.f53 3)
  conv at l3 => rhs; simp only [rgn, opsAt, codeOf, Tryz.f53, gS, gN, reduceIte, Nat.reduceEqDiff, tA]
  have l5 := tl (rgn Tryz.f53 5)
  conv at l5 => rhs; simp only [rgn, opsAt, codeOf, Tryz.f53, gS, gN, reduceIte, Nat.reduceEqDiff, tA]
  have l6 := tl (rgn Tryz.f53 6)
  conv at l6 => rhs; simp only [rgn, opsAt, codeOf, Tryz.f53, gS, gN, reduceIte, Nat.reduceEqDiff, tA]
  have l8 := tl (rgn Tryz.f53 8)
  conv at l8 => rhs; simp only [rgn, opsAt, codeOf, Tryz.f53, gS, gN, reduceIte, Nat.reduceEqDiff, tA]
  have l10 := tl (rgn Tryz.f53 10)
  conv at l10 => rhs; simp only [rgn, opsAt, codeOf, Tryz.f53, gS, gN, reduceIte, Nat.reduceEqDiff, tA]
  have l11 := tl (rgn Tryz.f53 11)
  conv at l11 => rhs; simp only [rgn, opsAt, codeOf, Tryz.f53, gS, gN, reduceIte, Nat.reduceEqDiff, tA]
  have l13 := tl (rgn Tryz.f53 13)
  conv at l13 => rhs; simp only [rgn, opsAt, codeOf, Tryz.f53, gS, gN, reduceIte, Nat.reduceEqDiff, tA]
  have l15 := tl (rgn Tryz.f53 15)
  conv at l15 => rhs; simp only [rgn, opsAt, codeOf, Tryz.f53, gS, gN, reduceIte, Nat.reduceEqDiff, tA]
  have l17 := tl (rgn Tryz.f53 17)
  conv at l17 => rhs; simp only [rgn, opsAt, codeOf, Tryz.f53, gS, gN, reduceIte, Nat.reduceEqDiff, tA]
  have l19 := tl (rgn Tryz.f53 19)
  conv at l19 => rhs; simp only [rgn, opsAt, codeOf, Tryz.f53, gS, gN, reduceIte, Nat.reduceEqDiff, tA]
  have l20 := tl (rgn Tryz.f53 20)
  conv at l20 => rhs; simp only [rgn, opsAt, codeOf, Tryz.f53, gS, gN, reduceIte, Nat.reduceEqDiff, tA]
  have l34 := tl (rgn Tryz.f53 34)
  conv at l34 => rhs; simp only [rgn, opsAt, codeOf, Tryz.f53, gS, gN, reduceIte, Nat.reduceEqDiff, tA]
  simp (decide := true) only [↓execG_seq, ↓g_region, ↓execG_block, ↓execG_skip, ↓g_if, ↓g_else, thenE_norm, leaveB_norm, ↓r_nil, ↓r_cons, ↓o_move, ↓o_assign, ↓o_pickf, ↓o_buildSlice, ↓o_binOp, ↓o_index, ↓o_builtin, nextE_app, putK_app, putO_app, putG_bool, putG_int, normK_app, evalE_tmp, evalE_const, upd_some, bindO_ok, bindV_ok, reduceIte, map_one, map_two, ↓reg_lit l3, ↓reg_lit l5, ↓reg_lit l6, ↓reg_lit l8, ↓reg_lit l10, ↓reg_lit l11, ↓reg_lit l13, ↓reg_lit l15, ↓reg_lit l17, ↓reg_lit l19, ↓reg_lit l20, ↓reg_lit l34, ↓r_yes _ 2 false 31 _ gd53_8_2, e0, e7, e8, len_str, binA_geq, hlt, hix, binA_eql, binA_add, w1, z34, binA_neq, z92, binA_lss, q32, binA_gtr, q126, hlt2, hix2, y110, y116, bslice1, app_bytes, a1, w3]
  exact hx _ H' v' (by simp (decide := true) only [upd_some, reduceIte, e0]) (by simp (decide := true) only [upd_some, reduceIte, e7]) (by simp (decide := true) only [upd_some, reduceIte, e8]) a2
set_option maxRecDepth 100000 in
theorem rt_q {N : Nat} {H0 H : Heap} {s : List UInt8} {i : Nat} {E : Env} {Q : R → Prop} {k : KOE} {hk : Hook} {d : Nat} {v : Value} {o : List UInt8} (h : RS H0 H v o) (e0 : E 0 = .string ⟨⟨s⟩⟩) (e7 : E 7 = v) (e8 : E 8 = .int .i64 ((i + 1 : Nat) : Int)) (hi : i < s.length) (hsm : s.length ≤ 1048576) (hj : i + 1 < s.length) (hj2 : i + 2 < s.length) (hc : s.getD (i + 1) 0 = 92) (hc2 : s.getD (i + 2) 0 = 34) (hn : o.length ≤ 1048576) (hx : ∀ E' H' v', E' 0 = .string ⟨⟨s⟩⟩ → E' 7 = v' → E' 8 = .int .i64 ((i + 3 : Nat) : Int) → RS H0 H' v' (o ++ [34]) → Q (k .norm E' [] H')) :
    Q (execG PP XX (CG N hk (d + 1)) N noPr (.block 1 (.seq (.seq (.region 3 (rgn Tryz.f53 3) false) (.cond (.tmp 17) (.seq (.region 4 (rgn Tryz.f53 4) false) (.ret)) (.skip))) (.seq (.region 5 (rgn Tryz.f53 5) false) (.seq (.seq (.region 6 (rgn Tryz.f53 6) false) (.cond (.tmp 24) (.seq (.region 7 (rgn Tryz.f53 7) false) (.ret)) (.skip))) (.seq (.seq (.region 8 (rgn Tryz.f53 8) false) (.cond (.tmp 34) (.seq (.region 9 (rgn Tryz.f53 9) false) (.ret)) (.skip))) (.seq (.region 10 (rgn Tryz.f53 10) false) (.seq (.seq (.region 11 (rgn Tryz.f53 11) false) (.cond (.tmp 40) (.seq (.region 12 (rgn Tryz.f53 12) false) (.exit 1)) (.skip))) (.seq (.seq (.region 13 (rgn Tryz.f53 13) false) (.cond (.tmp 48) (.seq (.region 14 (rgn Tryz.f53 14) false) (.ret)) (.skip))) (.seq (.seq (.region 15 (rgn Tryz.f53 15) false) (.block 2 (.seq (.region 17 (rgn Tryz.f53 17) false) (.cond (.tmp 56) (.region 18 (rgn Tryz.f53 18) false) (.seq (.region 19 (rgn Tryz.f53 19) false) (.cond (.tmp 61) (.region 20 (rgn Tryz.f53 20) false) (.seq (.seq (.region 21 (rgn Tryz.f53 21) false) (.cond (.tmp 66) (.skip) (.region 22 (rgn Tryz.f53 22) false))) (.cond (.tmp 66) (.region 23 (rgn Tryz.f53 23) false) (.seq (.region 24 (rgn Tryz.f53 24) false) (.cond (.tmp 75) (.seq (.region 25 (rgn Tryz.f53 25) false) (.seq (.seq (.region 26 (rgn Tryz.f53 26) false) (.block 3 (.loop (.seq (.seq (.region 27 (rgn Tryz.f53 27) false) (.cond (.tmp 78) (.skip) (.exit 3))) (.seq (.block 4 (.seq (.seq (.region 29 (rgn Tryz.f53 29) false) (.cond (.tmp 95) (.seq (.region 30 (rgn Tryz.f53 30) false) (.ret)) (.skip))) (.region 31 (rgn Tryz.f53 31) false))) (.region 28 (rgn Tryz.f53 28) false)))))) (.seq (.region 32 (rgn Tryz.f53 32) false) (.region 33 (rgn Tryz.f53 33) false)))) (.seq (.region 16 (rgn Tryz.f53 16) false) (.ret)))))))))))) (.region 34 (rgn Tryz.f53 34) false)))))))))) none E [] H k) := by
  have hlt : decide (((i + 1 : Nat) : Int) ≥ (s.length : Int)) = false := decide_eq_false (by omega)
  have hix := idx_str (s := s) hj
  have hgd : s.getD (i + 1) 0 = s[i + 1] := by simp [List.getD, hj]
  have w1 : IntKind.i64.wrap (((i + 1 : Nat) : Int) + 1) = ((i + 2 : Nat) : Int) := by rw [wrap_i64 (by omega) (by omega)]; omega
  rw [hgd] at hc
  have z34 : ((s[i + 1].toNat : Int) == 34) = false := (toNat_eq s[i + 1] 34).trans (by rw [hc]; rfl)
  have z92 : ((s[i + 1].toNat : Int) != 92) = false := bne_of ((toNat_eq s[i + 1] 92).trans (decide_eq_true hc))
  have q32 : decide ((s[i + 1].toNat : Int) < 32) = false := by rw [hc]; rfl
  have q126 : decide ((s[i + 1].toNat : Int) > 126) = false := by rw [hc]; rfl
  have hlt2 : decide (((i + 2 : Nat) : Int) ≥ (s.length : Int)) = false := decide_eq_false (by omega)
  have hix2 := idx_str (s := s) hj2
  have hgd2 : s.getD (i + 2) 0 = s[i + 2] := by simp [List.getD, hj2]
  have w3 : IntKind.i64.wrap (((i + 2 : Nat) : Int) + 1) = ((i + 3 : Nat) : Int) := by rw [wrap_i64 (by omega) (by omega)]; omega
  rw [hgd2] at hc2
  have y110 : ((s[i + 2].toNat : Int) == 110) = false := (toNat_eq s[i + 2] 110).trans (by rw [hc2]; rfl)
  have y116 : ((s[i + 2].toNat : Int) == 116) = false := (toNat_eq s[i + 2] 116).trans (by rw [hc2]; rfl)
  have y34 : ((s[i + 2].toNat : Int) == 34) = true := (toNat_eq s[i + 2] 34).trans (by rw [hc2]; rfl)
  obtain ⟨v', H', a1, a2⟩ := h.add s[i + 2] hn
  rw [hc2] at a2
  have l3 := tl (rgn Tryz.f53 3)
  conv at l3 => rhs; simp only [rgn, opsAt, codeOf, Tryz.f53, gS, gN, reduceIte, Nat.reduceEqDiff, tA]
  have l5 := tl (rgn Tryz.f53 5)
  conv at l5 => rhs; simp only [rgn, opsAt, codeOf, Tryz.f53, gS, gN, reduceIte, Nat.reduceEqDiff, tA]
  have l6 := tl (rgn Tryz.f53 6)
  conv at l6 => rhs; simp only [rgn, opsAt, codeOf, Tryz.f53, gS, gN, reduceIte, Nat.reduceEqDiff, tA]
  have l8 := tl (rgn Tryz.f53 8)
  conv at l8 => rhs; simp only [rgn, opsAt, codeOf, Tryz.f53, gS, gN, reduceIte, Nat.reduceEqDiff, tA]
  have l10 := tl (rgn Tryz.f53 10)
  conv at l10 => rhs; simp only [rgn, opsAt, codeOf, Tryz.f53, gS, gN, reduceIte, Nat.reduceEqDiff, tA]
  have l11 := tl (rgn Tryz.f53 11)
  conv at l11 => rhs; simp only [rgn, opsAt, codeOf, Tryz.f53, gS, gN, reduceIte, Nat.reduceEqDiff, tA]
  have l13 := tl (rgn Tryz.f53 13)
  conv at l13 => rhs; simp only [rgn, opsAt, codeOf, Tryz.f53, gS, gN, reduceIte, Nat.reduceEqDiff, tA]
  have l15 := tl (rgn Tryz.f53 15)
  conv at l15 => rhs; simp only [rgn, opsAt, codeOf, Tryz.f53, gS, gN, reduceIte, Nat.reduceEqDiff, tA]
  have l17 := tl (rgn Tryz.f53 17)
  conv at l17 => rhs; simp only [rgn, opsAt, codeOf, Tryz.f53, gS, gN, reduceIte, Nat.reduceEqDiff, tA]
  have l19 := tl (rgn Tryz.f53 19)
  conv at l19 => rhs; simp only [rgn, opsAt, codeOf, Tryz.f53, gS, gN, reduceIte, Nat.reduceEqDiff, tA]
  have l21 := tl (rgn Tryz.f53 21)
  conv at l21 => rhs; simp only [rgn, opsAt, codeOf, Tryz.f53, gS, gN, reduceIte, Nat.reduceEqDiff, tA]
  have l23 := tl (rgn Tryz.f53 23)
  conv at l23 => rhs; simp only [rgn, opsAt, codeOf, Tryz.f53, gS, gN, reduceIte, Nat.reduceEqDiff, tA]
  have l34 := tl (rgn Tryz.f53 34)
  conv at l34 => rhs; simp only [rgn, opsAt, codeOf, Tryz.f53, gS, gN, reduceIte, Nat.reduceEqDiff, tA]
  simp (decide := true) only [↓execG_seq, ↓g_region, ↓execG_block, ↓execG_skip, ↓g_if, ↓g_else, thenE_norm, leaveB_norm, ↓r_nil, ↓r_cons, ↓o_move, ↓o_assign, ↓o_pickf, ↓o_buildSlice, ↓o_binOp, ↓o_index, ↓o_builtin, nextE_app, putK_app, putO_app, putG_bool, putG_int, normK_app, evalE_tmp, evalE_const, upd_some, bindO_ok, bindV_ok, reduceIte, map_one, map_two, ↓reg_lit l3, ↓reg_lit l5, ↓reg_lit l6, ↓reg_lit l8, ↓reg_lit l10, ↓reg_lit l11, ↓reg_lit l13, ↓reg_lit l15, ↓reg_lit l17, ↓reg_lit l19, ↓reg_lit l21, ↓reg_lit l23, ↓reg_lit l34, ↓r_yes _ 2 false 31 _ gd53_8_2, e0, e7, e8, len_str, binA_geq, hlt, hix, binA_eql, binA_add, w1, z34, binA_neq, z92, binA_lss, q32, binA_gtr, q126, hlt2, hix2, y110, y116, y34, bslice1, app_bytes, a1, w3]
  exact hx _ H' v' (by simp (decide := true) only [upd_some, reduceIte, e0]) (by simp (decide := true) only [upd_some, reduceIte, e7]) (by simp (decide := true) only [upd_some, reduceIte, e8]) a2
set_option maxRecDepth 100000 in
theorem rt_b {N : Nat} {H0 H : Heap} {s : List UInt8} {i : Nat} {E : Env} {Q : R → Prop} {k : KOE} {hk : Hook} {d : Nat} {v : Value} {o : List UInt8} (h : RS H0 H v o) (e0 : E 0 = .string ⟨⟨s⟩⟩) (e7 : E 7 = v) (e8 : E 8 = .int .i64 ((i + 1 : Nat) : Int)) (hi : i < s.length) (hsm : s.length ≤ 1048576) (hj : i + 1 < s.length) (hj2 : i + 2 < s.length) (hc : s.getD (i + 1) 0 = 92) (hc2 : s.getD (i + 2) 0 = 92) (hn : o.length ≤ 1048576) (hx : ∀ E' H' v', E' 0 = .string ⟨⟨s⟩⟩ → E' 7 = v' → E' 8 = .int .i64 ((i + 3 : Nat) : Int) → RS H0 H' v' (o ++ [92]) → Q (k .norm E' [] H')) :
    Q (execG PP XX (CG N hk (d + 1)) N noPr (.block 1 (.seq (.seq (.region 3 (rgn Tryz.f53 3) false) (.cond (.tmp 17) (.seq (.region 4 (rgn Tryz.f53 4) false) (.ret)) (.skip))) (.seq (.region 5 (rgn Tryz.f53 5) false) (.seq (.seq (.region 6 (rgn Tryz.f53 6) false) (.cond (.tmp 24) (.seq (.region 7 (rgn Tryz.f53 7) false) (.ret)) (.skip))) (.seq (.seq (.region 8 (rgn Tryz.f53 8) false) (.cond (.tmp 34) (.seq (.region 9 (rgn Tryz.f53 9) false) (.ret)) (.skip))) (.seq (.region 10 (rgn Tryz.f53 10) false) (.seq (.seq (.region 11 (rgn Tryz.f53 11) false) (.cond (.tmp 40) (.seq (.region 12 (rgn Tryz.f53 12) false) (.exit 1)) (.skip))) (.seq (.seq (.region 13 (rgn Tryz.f53 13) false) (.cond (.tmp 48) (.seq (.region 14 (rgn Tryz.f53 14) false) (.ret)) (.skip))) (.seq (.seq (.region 15 (rgn Tryz.f53 15) false) (.block 2 (.seq (.region 17 (rgn Tryz.f53 17) false) (.cond (.tmp 56) (.region 18 (rgn Tryz.f53 18) false) (.seq (.region 19 (rgn Tryz.f53 19) false) (.cond (.tmp 61) (.region 20 (rgn Tryz.f53 20) false) (.seq (.seq (.region 21 (rgn Tryz.f53 21) false) (.cond (.tmp 66) (.skip) (.region 22 (rgn Tryz.f53 22) false))) (.cond (.tmp 66) (.region 23 (rgn Tryz.f53 23) false) (.seq (.region 24 (rgn Tryz.f53 24) false) (.cond (.tmp 75) (.seq (.region 25 (rgn Tryz.f53 25) false) (.seq (.seq (.region 26 (rgn Tryz.f53 26) false) (.block 3 (.loop (.seq (.seq (.region 27 (rgn Tryz.f53 27) false) (.cond (.tmp 78) (.skip) (.exit 3))) (.seq (.block 4 (.seq (.seq (.region 29 (rgn Tryz.f53 29) false) (.cond (.tmp 95) (.seq (.region 30 (rgn Tryz.f53 30) false) (.ret)) (.skip))) (.region 31 (rgn Tryz.f53 31) false))) (.region 28 (rgn Tryz.f53 28) false)))))) (.seq (.region 32 (rgn Tryz.f53 32) false) (.region 33 (rgn Tryz.f53 33) false)))) (.seq (.region 16 (rgn Tryz.f53 16) false) (.ret)))))))))))) (.region 34 (rgn Tryz.f53 34) false)))))))))) none E [] H k) := by
  have hlt : decide (((i + 1 : Nat) : Int) ≥ (s.length : Int)) = false := decide_eq_false (by omega)
  have hix := idx_str (s := s) hj
  have hgd : s.getD (i + 1) 0 = s[i + 1] := by simp [List.getD, hj]
  have w1 : IntKind.i64.wrap (((i + 1 : Nat) : Int) + 1) = ((i + 2 : Nat) : Int) := by rw [wrap_i64 (by omega) (by omega)]; omega
  rw [hgd] at hc
  have z34 : ((s[i + 1].toNat : Int) == 34) = false := (toNat_eq s[i + 1] 34).trans (by rw [hc]; rfl)
  have z92 : ((s[i + 1].toNat : Int) != 92) = false := bne_of ((toNat_eq s[i + 1] 92).trans (decide_eq_true hc))
  have q32 : decide ((s[i + 1].toNat : Int) < 32) = false := by rw [hc]; rfl
  have q126 : decide ((s[i + 1].toNat : Int) > 126) = false := by rw [hc]; rfl
  have hlt2 : decide (((i + 2 : Nat) : Int) ≥ (s.length : Int)) = false := decide_eq_false (by omega)
  have hix2 := idx_str (s := s) hj2
  have hgd2 : s.getD (i + 2) 0 = s[i + 2] := by simp [List.getD, hj2]
  have w3 : IntKind.i64.wrap (((i + 2 : Nat) : Int) + 1) = ((i + 3 : Nat) : Int) := by rw [wrap_i64 (by omega) (by omega)]; omega
  rw [hgd2] at hc2
  have y110 : ((s[i + 2].toNat : Int) == 110) = false := (toNat_eq s[i + 2] 110).trans (by rw [hc2]; rfl)
  have y116 : ((s[i + 2].toNat : Int) == 116) = false := (toNat_eq s[i + 2] 116).trans (by rw [hc2]; rfl)
  have y34 : ((s[i + 2].toNat : Int) == 34) = false := (toNat_eq s[i + 2] 34).trans (by rw [hc2]; rfl)
  have y92 : ((s[i + 2].toNat : Int) == 92) = true := (toNat_eq s[i + 2] 92).trans (by rw [hc2]; rfl)
  obtain ⟨v', H', a1, a2⟩ := h.add s[i + 2] hn
  rw [hc2] at a2
  have l3 := tl (rgn Tryz.f53 3)
  conv at l3 => rhs; simp only [rgn, opsAt, codeOf, Tryz.f53, gS, gN, reduceIte, Nat.reduceEqDiff, tA]
  have l5 := tl (rgn Tryz.f53 5)
  conv at l5 => rhs; simp only [rgn, opsAt, codeOf, Tryz.f53, gS, gN, reduceIte, Nat.reduceEqDiff, tA]
  have l6 := tl (rgn Tryz.f53 6)
  conv at l6 => rhs; simp only [rgn, opsAt, codeOf, Tryz.f53, gS, gN, reduceIte, Nat.reduceEqDiff, tA]
  have l8 := tl (rgn Tryz.f53 8)
  conv at l8 => rhs; simp only [rgn, opsAt, codeOf, Tryz.f53, gS, gN, reduceIte, Nat.reduceEqDiff, tA]
  have l10 := tl (rgn Tryz.f53 10)
  conv at l10 => rhs; simp only [rgn, opsAt, codeOf, Tryz.f53, gS, gN, reduceIte, Nat.reduceEqDiff, tA]
  have l11 := tl (rgn Tryz.f53 11)
  conv at l11 => rhs; simp only [rgn, opsAt, codeOf, Tryz.f53, gS, gN, reduceIte, Nat.reduceEqDiff, tA]
  have l13 := tl (rgn Tryz.f53 13)
  conv at l13 => rhs; simp only [rgn, opsAt, codeOf, Tryz.f53, gS, gN, reduceIte, Nat.reduceEqDiff, tA]
  have l15 := tl (rgn Tryz.f53 15)
  conv at l15 => rhs; simp only [rgn, opsAt, codeOf, Tryz.f53, gS, gN, reduceIte, Nat.reduceEqDiff, tA]
  have l17 := tl (rgn Tryz.f53 17)
  conv at l17 => rhs; simp only [rgn, opsAt, codeOf, Tryz.f53, gS, gN, reduceIte, Nat.reduceEqDiff, tA]
  have l19 := tl (rgn Tryz.f53 19)
  conv at l19 => rhs; simp only [rgn, opsAt, codeOf, Tryz.f53, gS, gN, reduceIte, Nat.reduceEqDiff, tA]
  have l21 := tl (rgn Tryz.f53 21)
  conv at l21 => rhs; simp only [rgn, opsAt, codeOf, Tryz.f53, gS, gN, reduceIte, Nat.reduceEqDiff, tA]
  have l22 := tl (rgn Tryz.f53 22)
  conv at l22 => rhs; simp only [rgn, opsAt, codeOf, Tryz.f53, gS, gN, reduceIte, Nat.reduceEqDiff, tA]
  have l23 := tl (rgn Tryz.f53 23)
  conv at l23 => rhs; simp only [rgn, opsAt, codeOf, Tryz.f53, gS, gN, reduceIte, Nat.reduceEqDiff, tA]
  have l34 := tl (rgn Tryz.f53 34)
  conv at l34 => rhs; simp only [rgn, opsAt, codeOf, Tryz.f53, gS, gN, reduceIte, Nat.reduceEqDiff, tA]
  simp (decide := true) only [↓execG_seq, ↓g_region, ↓execG_block, ↓execG_skip, ↓g_if, ↓g_else, thenE_norm, leaveB_norm, ↓r_nil, ↓r_cons, ↓o_move, ↓o_assign, ↓o_pickf, ↓o_buildSlice, ↓o_binOp, ↓o_index, ↓o_builtin, nextE_app, putK_app, putO_app, putG_bool, putG_int, normK_app, evalE_tmp, evalE_const, upd_some, bindO_ok, bindV_ok, reduceIte, map_one, map_two, ↓reg_lit l3, ↓reg_lit l5, ↓reg_lit l6, ↓reg_lit l8, ↓reg_lit l10, ↓reg_lit l11, ↓reg_lit l13, ↓reg_lit l15, ↓reg_lit l17, ↓reg_lit l19, ↓reg_lit l21, ↓reg_lit l22, ↓reg_lit l23, ↓reg_lit l34, ↓r_yes _ 2 false 31 _ gd53_8_2, e0, e7, e8, len_str, binA_geq, hlt, hix, binA_eql, binA_add, w1, z34, binA_neq, z92, binA_lss, q32, binA_gtr, q126, hlt2, hix2, y110, y116, y34, y92, bslice1, app_bytes, a1, w3]
  exact hx _ H' v' (by simp (decide := true) only [upd_some, reduceIte, e0]) (by simp (decide := true) only [upd_some, reduceIte, e7]) (by simp (decide := true) only [upd_some, reduceIte, e8]) a2
theorem rt_ebad {N : Nat} {H0 H : Heap} {s : List UInt8} {i : Nat} {E : Env} {Q : R → Prop} {k : KOE} {hk : Hook} {d : Nat} {v : Value} {o : List UInt8} (h : RS H0 H v o) (e0 : E 0 = .string ⟨⟨s⟩⟩) (e7 : E 7 = v) (e8 : E 8 = .int .i64 ((i + 1 : Nat) : Int)) (hi : i < s.length) (hsm : s.length ≤ 1048576) (hj : i + 1 < s.length) (hj2 : i + 2 < s.length) (hc : s.getD (i + 1) 0 = 92) (h1 : ¬ s.getD (i + 2) 0 = 110) (h2 : ¬ s.getD (i + 2) 0 = 116) (h3 : ¬ s.getD (i + 2) 0 = 34) (h4 : ¬ s.getD (i + 2) 0 = 92) (h5 : ¬ s.getD (i + 2) 0 = 120) (hx : ∀ E', E' 4 = .string ⟨#[]⟩ → E' 5 = .int .i64 ((i + 2 : Nat) : Int) → E' 6 = .int .i64 ((i + 2 : Nat) : Int) → Q (k .ret E' [] H)) :
    Q (execG PP XX (CG N hk (d + 1)) N noPr (.block 1 (.seq (.seq (.region 3 (rgn Tryz.f53 3) false) (.cond (.tmp 17) (.seq (.region 4 (rgn Tryz.f53 4) false) (.ret)) (.skip))) (.seq (.region 5 (rgn Tryz.f53 5) false) (.seq (.seq (.region 6 (rgn Tryz.f53 6) false) (.cond (.tmp 24) (.seq (.region 7 (rgn Tryz.f53 7) false) (.ret)) (.skip))) (.seq (.seq (.region 8 (rgn Tryz.f53 8) false) (.cond (.tmp 34) (.seq (.region 9 (rgn Tryz.f53 9) false) (.ret)) (.skip))) (.seq (.region 10 (rgn Tryz.f53 10) false) (.seq (.seq (.region 11 (rgn Tryz.f53 11) false) (.cond (.tmp 40) (.seq (.region 12 (rgn Tryz.f53 12) false) (.exit 1)) (.skip))) (.seq (.seq (.region 13 (rgn Tryz.f53 13) false) (.cond (.tmp 48) (.seq (.region 14 (rgn Tryz.f53 14) false) (.ret)) (.skip))) (.seq (.seq (.region 15 (rgn Tryz.f53 15) false) (.block 2 (.seq (.region 17 (rgn Tryz.f53 17) false) (.cond (.tmp 56) (.region 18 (rgn Tryz.f53 18) false) (.seq (.region 19 (rgn Tryz.f53 19) false) (.cond (.tmp 61) (.region 20 (rgn Tryz.f53 20) false) (.seq (.seq (.region 21 (rgn Tryz.f53 21) false) (.cond (.tmp 66) (.skip) (.region 22 (rgn Tryz.f53 22) false))) (.cond (.tmp 66) (.region 23 (rgn Tryz.f53 23) false) (.seq (.region 24 (rgn Tryz.f53 24) false) (.cond (.tmp 75) (.seq (.region 25 (rgn Tryz.f53 25) false) (.seq (.seq (.region 26 (rgn Tryz.f53 26) false) (.block 3 (.loop (.seq (.seq (.region 27 (rgn Tryz.f53 27) false) (.cond (.tmp 78) (.skip) (.exit 3))) (.seq (.block 4 (.seq (.seq (.region 29 (rgn Tryz.f53 29) false) (.cond (.tmp 95) (.seq (.region 30 (rgn Tryz.f53 30) false) (.ret)) (.skip))) (.region 31 (rgn Tryz.f53 31) false))) (.region 28 (rgn Tryz.f53 28) false)))))) (.seq (.region 32 (rgn Tryz.f53 32) false) (.region 33 (rgn Tryz.f53 33) false)))) (.seq (.region 16 (rgn Tryz.f53 16) false) (.ret)))))))))))) (.region 34 (rgn Tryz.f53 34) false)))))))))) none E [] H k) := by
  have hlt : decide (((i + 1 : Nat) : Int) ≥ (s.length : Int)) = false := decide_eq_false (by omega)
  have hix := idx_str (s := s) hj
  have hgd : s.getD (i + 1) 0 = s[i + 1] := by simp [List.getD, hj]
  have w1 : IntKind.i64.wrap (((i + 1 : Nat) : Int) + 1) = ((i + 2 : Nat) : Int) := by rw [wrap_i64 (by omega) (by omega)]; omega
  rw [hgd] at hc
  have z34 : ((s[i + 1].toNat : Int) == 34) = false := (toNat_eq s[i + 1] 34).trans (by rw [hc]; rfl)
  have z92 : ((s[i + 1].toNat : Int) != 92) = false := bne_of ((toNat_eq s[i + 1] 92).trans (decide_eq_true hc))
  have q32 : decide ((s[i + 1].toNat : Int) < 32) = false := by rw [hc]; rfl
  have q126 : decide ((s[i + 1].toNat : Int) > 126) = false := by rw [hc]; rfl
  have hlt2 : decide (((i + 2 : Nat) : Int) ≥ (s.length : Int)) = false := decide_eq_false (by omega)
  have hix2 := idx_str (s := s) hj2
  have hgd2 : s.getD (i + 2) 0 = s[i + 2] := by simp [List.getD, hj2]
  rw [hgd2] at h1 h2 h3 h4 h5
  have y110 : ((s[i + 2].toNat : Int) == 110) = false := (toNat_eq s[i + 2] 110).trans (decide_eq_false h1)
  have y116 : ((s[i + 2].toNat : Int) == 116) = false := (toNat_eq s[i + 2] 116).trans (decide_eq_false h2)
  have y34 : ((s[i + 2].toNat : Int) == 34) = false := (toNat_eq s[i + 2] 34).trans (decide_eq_false h3)
  have y92 : ((s[i + 2].toNat : Int) == 92) = false := (toNat_eq s[i + 2] 92).trans (decide_eq_false h4)
  have y120 : ((s[i + 2].toNat : Int) == 120) = false := (toNat_eq s[i + 2] 120).trans (decide_eq_false h5)
  have l3 := tl (rgn Tryz.f53 3)
  conv at l3 => rhs; simp only [rgn, opsAt, codeOf, Tryz.f53, gS, gN, reduceIte, Nat.reduceEqDiff, tA]
  have l5 := tl (rgn Tryz.f53 5)
  conv at l5 => rhs; simp only [rgn, opsAt, codeOf, Tryz.f53, gS, gN, reduceIte, Nat.reduceEqDiff, tA]
  have l6 := tl (rgn Tryz.f53 6)
  conv at l6 => rhs; simp only [rgn, opsAt, codeOf, Tryz.f53, gS, gN, reduceIte, Nat.reduceEqDiff, tA]
  have l8 := tl (rgn Tryz.f53 8)
  conv at l8 => rhs; simp only [rgn, opsAt, codeOf, Tryz.f53, gS, gN, reduceIte, Nat.reduceEqDiff, tA]
  have l10 := tl (rgn Tryz.f53 10)
  conv at l10 => rhs; simp only [rgn, opsAt, codeOf, Tryz.f53, gS, gN, reduceIte, Nat.reduceEqDiff, tA]
  have l11 := tl (rgn Tryz.f53 11)
  conv at l11 => rhs; simp only [rgn, opsAt, codeOf, Tryz.f53, gS, gN, reduceIte, Nat.reduceEqDiff, tA]
  have l13 := tl (rgn Tryz.f53 13)
  conv at l13 => rhs; simp only [rgn, opsAt, codeOf, Tryz.f53, gS, gN, reduceIte, Nat.reduceEqDiff, tA]
  have l15 := tl (rgn Tryz.f53 15)
  conv at l15 => rhs; simp only [rgn, opsAt, codeOf, Tryz.f53, gS, gN, reduceIte, Nat.reduceEqDiff, tA]
  have l17 := tl (rgn Tryz.f53 17)
  conv at l17 => rhs; simp only [rgn, opsAt, codeOf, Tryz.f53, gS, gN, reduceIte, Nat.reduceEqDiff, tA]
  have l19 := tl (rgn Tryz.f53 19)
  conv at l19 => rhs; simp only [rgn, opsAt, codeOf, Tryz.f53, gS, gN, reduceIte, Nat.reduceEqDiff, tA]
  have l21 := tl (rgn Tryz.f53 21)
  conv at l21 => rhs; simp only [rgn, opsAt, codeOf, Tryz.f53, gS, gN, reduceIte, Nat.reduceEqDiff, tA]
  have l22 := tl (rgn Tryz.f53 22)
  conv at l22 => rhs; simp only [rgn, opsAt, codeOf, Tryz.f53, gS, gN, reduceIte, Nat.reduceEqDiff, tA]
  have l24 := tl (rgn Tryz.f53 24)
  conv at l24 => rhs; simp only [rgn, opsAt, codeOf, Tryz.f53, gS, gN, reduceIte, Nat.reduceEqDiff, tA]
  have l16 := tl (rgn Tryz.f53 16)
  conv at l16 => rhs; simp only [rgn, opsAt, codeOf, Tryz.f53, gS, gN, reduceIte, Nat.reduceEqDiff, tA]
  simp (decide := true) only [↓execG_seq, ↓g_region, ↓execG_block, ↓execG_ret, ↓execG_skip, ↓g_else, thenE_norm, thenE_ret, leaveB_ret, ↓r_nil, ↓r_cons, ↓o_move, ↓o_assign, ↓o_pickf, ↓o_binOp, ↓o_index, ↓o_builtin, nextE_app, putK_app, putO_app, putG_bool, putG_int, normK_app, evalE_tmp, evalE_const, upd_some, bindO_ok, reduceIte, map_one, ↓reg_lit l3, ↓reg_lit l5, ↓reg_lit l6, ↓reg_lit l8, ↓reg_lit l10, ↓reg_lit l11, ↓reg_lit l13, ↓reg_lit l15, ↓reg_lit l17, ↓reg_lit l19, ↓reg_lit l21, ↓reg_lit l22, ↓reg_lit l24, ↓reg_lit l16, ↓r_yes _ 2 false 31 _ gd53_8_2, e0, e8, len_str, binA_geq, hlt, hix, binA_eql, binA_add, w1, z34, binA_neq, z92, binA_lss, q32, binA_gtr, q126, hlt2, hix2, y110, y116, y34, y92, y120]
  exact hx _ (by simp (decide := true) only [upd_some, reduceIte]) (by simp (decide := true) only [upd_some, reduceIte]) (by simp (decide := true) only [upd_some, reduceIte])
theorem hx_end1 {N : Nat} {H : Heap} {s : List UInt8} {i : Nat} {E : Env} {Q : R → Prop} {k : KOE} {hk : Hook} {d : Nat} {v : Value} {g : Nat} (e0 : E 0 = .string ⟨⟨s⟩⟩) (e7 : E 7 = v) (e8 : E 8 = .int .i64 ((i + 2 : Nat) : Int)) (e10 : E 10 = .int .i64 (g : Int)) (e11 : E 11 = .int .i64 1) (hsm : s.length ≤ 1048576) (hi : i + 2 < s.length) (hj : ¬ i + 3 < s.length) (hx : ∀ E', E' 4 = .string ⟨#[]⟩ → E' 5 = .int .i64 ((i + 3 : Nat) : Int) → E' 6 = .int .i64 ((i + 3 : Nat) : Int) → Q (k .ret E' [] H)) :
    Q (execG PP XX (CG N hk (d + 1)) N noPr (.seq (.seq (.region 27 (rgn Tryz.f53 27) false) (.cond (.tmp 78) (.skip) (.exit 3))) (.seq (.block 4 (.seq (.seq (.region 29 (rgn Tryz.f53 29) false) (.cond (.tmp 95) (.seq (.region 30 (rgn Tryz.f53 30) false) (.ret)) (.skip))) (.region 31 (rgn Tryz.f53 31) false))) (.region 28 (rgn Tryz.f53 28) false))) none E [] H k) := by
  have hle : decide ((1 : Int) ≤ 2) = true := rfl
  have wq : IntKind.i64.wrap (((i + 2 : Nat) : Int) + 1) = ((i + 3 : Nat) : Int) := by rw [wrap_i64 (by omega) (by omega)]; omega
  have hlt : decide (((i + 3 : Nat) : Int) ≥ (s.length : Int)) = true := decide_eq_true (by omega)
  have l27 := tl (rgn Tryz.f53 27)
  conv at l27 => rhs; simp only [rgn, opsAt, codeOf, Tryz.f53, gS, gN, reduceIte, Nat.reduceEqDiff, tA]
  have l29 := tl (rgn Tryz.f53 29)
  conv at l29 => rhs; simp only [rgn, opsAt, codeOf, Tryz.f53, gS, gN, reduceIte, Nat.reduceEqDiff, tA]
  have l30 := tl (rgn Tryz.f53 30)
  conv at l30 => rhs; simp only [rgn, opsAt, codeOf, Tryz.f53, gS, gN, reduceIte, Nat.reduceEqDiff, tA]
  simp (decide := true) only [↓execG_seq, ↓g_region, ↓execG_block, ↓execG_ret, ↓execG_skip, ↓g_if, thenE_norm, thenE_ret, leaveB_ret, ↓r_nil, ↓r_cons, ↓o_move, ↓o_assign, ↓o_pickt, ↓o_binOp, ↓o_builtin, nextE_app, putK_app, putG_bool, putG_int, normK_app, evalE_tmp, evalE_const, upd_some, bindO_ok, reduceIte, map_one, Bool.not_false, ↓reg_lit l27, ↓reg_lit l29, ↓reg_lit l30, ↓r_no _ 6 false 87 _ gd53_29_6, e0, e8, e11, len_str, binA_leq, dT, binA_add, wq, binA_geq, hlt]
  exact hx _ (by simp (decide := true) only [upd_some, reduceIte]) (by simp (decide := true) only [upd_some, reduceIte]) (by simp (decide := true) only [upd_some, reduceIte])
theorem hx_bad1 {N : Nat} {H : Heap} {s : List UInt8} {i : Nat} {E : Env} {Q : R → Prop} {k : KOE} {hk : Hook} {d : Nat} {v : Value} {g : Nat} (e0 : E 0 = .string ⟨⟨s⟩⟩) (e7 : E 7 = v) (e8 : E 8 = .int .i64 ((i + 2 : Nat) : Int)) (e10 : E 10 = .int .i64 (g : Int)) (e11 : E 11 = .int .i64 1) (hsm : s.length ≤ 1048576) (hi : i + 2 < s.length) (K : HkR hk) (hG : Ext GE H) (hj : i + 3 < s.length) (h16 : hexT (s.getD (i + 3) 0).toNat = 16) (hx : ∀ E', E' 4 = .string ⟨#[]⟩ → E' 5 = .int .i64 ((i + 3 : Nat) : Int) → E' 6 = .int .i64 ((i + 3 : Nat) : Int) → Q (k .ret E' [] H)) :
    Q (execG PP XX (CG N hk (d + 1)) N noPr (.seq (.seq (.region 27 (rgn Tryz.f53 27) false) (.cond (.tmp 78) (.skip) (.exit 3))) (.seq (.block 4 (.seq (.seq (.region 29 (rgn Tryz.f53 29) false) (.cond (.tmp 95) (.seq (.region 30 (rgn Tryz.f53 30) false) (.ret)) (.skip))) (.region 31 (rgn Tryz.f53 31) false))) (.region 28 (rgn Tryz.f53 28) false))) none E [] H k) := by
  have hle : decide ((1 : Int) ≤ 2) = true := rfl
  have wq : IntKind.i64.wrap (((i + 2 : Nat) : Int) + 1) = ((i + 3 : Nat) : Int) := by rw [wrap_i64 (by omega) (by omega)]; omega
  have hlt : decide (((i + 3 : Nat) : Int) ≥ (s.length : Int)) = false := decide_eq_false (by omega)
  have hix := idx_str (s := s) hj
  have hgd : s.getD (i + 3) 0 = s[i + 3] := by simp [List.getD, hj]
  rw [hgd] at h16
  have hd : CG N hk (d + 1) 67 #[.int .u8 (s[i + 3].toNat : Int)] H = some (.ret (.int .i64 (rhN s[i + 3].toNat)), H) := callG_hook (K.hex s[i + 3] H hG)
  have hneg : decide (rhN s[i + 3].toNat < 0) = true := decide_eq_true (rhN_no (by omega))
  have l27 := tl (rgn Tryz.f53 27)
  conv at l27 => rhs; simp only [rgn, opsAt, codeOf, Tryz.f53, gS, gN, reduceIte, Nat.reduceEqDiff, tA]
  have l29 := tl (rgn Tryz.f53 29)
  conv at l29 => rhs; simp only [rgn, opsAt, codeOf, Tryz.f53, gS, gN, reduceIte, Nat.reduceEqDiff, tA]
  have l30 := tl (rgn Tryz.f53 30)
  conv at l30 => rhs; simp only [rgn, opsAt, codeOf, Tryz.f53, gS, gN, reduceIte, Nat.reduceEqDiff, tA]
  simp (decide := true) only [↓execG_seq, ↓g_region, ↓execG_block, ↓execG_ret, ↓execG_skip, ↓g_if, thenE_norm, thenE_ret, leaveB_ret, ↓r_nil, ↓r_cons, ↓o_move, ↓o_assign, ↓o_pickf, ↓o_binOp, ↓o_index, ↓o_builtin, ↓o_callf, nextE_app, putK_app, putO_app, putG_bool, putG_int, normK_app, evalE_tmp, evalE_const, upd_some, bindO_ok, reduceIte, map_one, ↓reg_lit l27, ↓reg_lit l29, ↓reg_lit l30, ↓r_yes _ 6 false 87 _ gd53_29_6, e0, e8, e11, len_str, binA_leq, dT, binA_add, wq, binA_geq, hlt, hix, callK_fn Tryz.func67 rfl rfl hd, binA_lss, hneg]
  exact hx _ (by simp (decide := true) only [upd_some, reduceIte]) (by simp (decide := true) only [upd_some, reduceIte]) (by simp (decide := true) only [upd_some, reduceIte])
theorem hx_step1 {N : Nat} {H : Heap} {s : List UInt8} {i : Nat} {E : Env} {Q : R → Prop} {k : KOE} {hk : Hook} {d : Nat} {v : Value} {g : Nat} (e0 : E 0 = .string ⟨⟨s⟩⟩) (e7 : E 7 = v) (e8 : E 8 = .int .i64 ((i + 2 : Nat) : Int)) (e10 : E 10 = .int .i64 (g : Int)) (e11 : E 11 = .int .i64 1) (hsm : s.length ≤ 1048576) (hi : i + 2 < s.length) (K : HkR hk) (hG : Ext GE H) (hj : i + 3 < s.length) (h16 : hexT (s.getD (i + 3) 0).toNat < 16) (hg : g < 16) (hx : ∀ E', E' 0 = .string ⟨⟨s⟩⟩ → E' 7 = v → E' 8 = .int .i64 ((i + 2 : Nat) : Int) → E' 10 = .int .i64 ((g * 16 + hexN (s.getD (i + 3) 0) : Nat) : Int) → E' 11 = .int .i64 2 → Q (k .norm E' [] H)) :
    Q (execG PP XX (CG N hk (d + 1)) N noPr (.seq (.seq (.region 27 (rgn Tryz.f53 27) false) (.cond (.tmp 78) (.skip) (.exit 3))) (.seq (.block 4 (.seq (.seq (.region 29 (rgn Tryz.f53 29) false) (.cond (.tmp 95) (.seq (.region 30 (rgn Tryz.f53 30) false) (.ret)) (.skip))) (.region 31 (rgn Tryz.f53 31) false))) (.region 28 (rgn Tryz.f53 28) false))) none E [] H k) := by
  have hle : decide ((1 : Int) ≤ 2) = true := rfl
  have wq : IntKind.i64.wrap (((i + 2 : Nat) : Int) + 1) = ((i + 3 : Nat) : Int) := by rw [wrap_i64 (by omega) (by omega)]; omega
  have hlt : decide (((i + 3 : Nat) : Int) ≥ (s.length : Int)) = false := decide_eq_false (by omega)
  have hix := idx_str (s := s) hj
  have hgd : s.getD (i + 3) 0 = s[i + 3] := by simp [List.getD, hj]
  rw [hgd] at h16
  have hd : CG N hk (d + 1) 67 #[.int .u8 (s[i + 3].toNat : Int)] H = some (.ret (.int .i64 (rhN s[i + 3].toNat)), H) := callG_hook (K.hex s[i + 3] H hG)
  have hnn := hexT_nn s[i + 3].toNat
  rw [rhN_of h16] at hd
  have hN : (hexN s[i + 3] : Int) = hexT s[i + 3].toNat := by unfold hexN; omega
  rw [← hN] at hd h16 hnn
  rw [hgd] at hx
  have hneg : decide (((hexN s[i + 3] : Nat) : Int) < 0) = false := decide_eq_false (by omega)
  have wm : IntKind.i64.wrap (16 * (g : Int)) = ((g * 16 : Nat) : Int) := by rw [wrap_i64 (by omega) (by omega)]; omega
  have wa : IntKind.i64.wrap (((g * 16 : Nat) : Int) + ((hexN s[i + 3] : Nat) : Int)) = ((g * 16 + hexN s[i + 3] : Nat) : Int) := by rw [wrap_i64 (by omega) (by omega)]; omega
  have w1k : IntKind.i64.wrap (1 + 1) = 2 := by decide
  have l27 := tl (rgn Tryz.f53 27)
  conv at l27 => rhs; simp only [rgn, opsAt, codeOf, Tryz.f53, gS, gN, reduceIte, Nat.reduceEqDiff, tA]
  have l28 := tl (rgn Tryz.f53 28)
  conv at l28 => rhs; simp only [rgn, opsAt, codeOf, Tryz.f53, gS, gN, reduceIte, Nat.reduceEqDiff, tA]
  have l29 := tl (rgn Tryz.f53 29)
  conv at l29 => rhs; simp only [rgn, opsAt, codeOf, Tryz.f53, gS, gN, reduceIte, Nat.reduceEqDiff, tA]
  have l31 := tl (rgn Tryz.f53 31)
  conv at l31 => rhs; simp only [rgn, opsAt, codeOf, Tryz.f53, gS, gN, reduceIte, Nat.reduceEqDiff, tA]
  simp (decide := true) only [↓execG_seq, ↓g_region, ↓execG_block, ↓execG_skip, ↓g_if, ↓g_else, thenE_norm, leaveB_norm, ↓r_nil, ↓r_cons, ↓o_move, ↓o_assign, ↓o_pickf, ↓o_binOp, ↓o_index, ↓o_builtin, ↓o_callf, nextE_app, putK_app, putO_app, putG_bool, putG_int, normK_app, evalE_tmp, evalE_const, upd_some, bindO_ok, reduceIte, map_one, ↓reg_lit l27, ↓reg_lit l28, ↓reg_lit l29, ↓reg_lit l31, ↓r_yes _ 6 false 87 _ gd53_29_6, e0, e8, e10, e11, len_str, binA_leq, dT, binA_add, wq, binA_geq, hlt, hix, callK_fn Tryz.func67 rfl rfl hd, binA_lss, hneg, binA_mul, wm, wa, w1k]
  exact hx _ (by simp (decide := true) only [upd_some, reduceIte, e0]) (by simp (decide := true) only [upd_some, reduceIte, e7]) (by simp (decide := true) only [upd_some, reduceIte, e8]) (by simp (decide := true) only [upd_some, reduceIte, e10]) (by simp (decide := true) only [upd_some, reduceIte, e11])
theorem hx_end2 {N : Nat} {H : Heap} {s : List UInt8} {i : Nat} {E : Env} {Q : R → Prop} {k : KOE} {hk : Hook} {d : Nat} {v : Value} {g : Nat} (e0 : E 0 = .string ⟨⟨s⟩⟩) (e7 : E 7 = v) (e8 : E 8 = .int .i64 ((i + 2 : Nat) : Int)) (e10 : E 10 = .int .i64 (g : Int)) (e11 : E 11 = .int .i64 2) (hsm : s.length ≤ 1048576) (hi : i + 2 < s.length) (hj : ¬ i + 4 < s.length) (hx : ∀ E', E' 4 = .string ⟨#[]⟩ → E' 5 = .int .i64 ((i + 4 : Nat) : Int) → E' 6 = .int .i64 ((i + 4 : Nat) : Int) → Q (k .ret E' [] H)) :
    Q (execG PP XX (CG N hk (d + 1)) N noPr (.seq (.seq (.region 27 (rgn Tryz.f53 27) false) (.cond (.tmp 78) (.skip) (.exit 3))) (.seq (.block 4 (.seq (.seq (.region 29 (rgn Tryz.f53 29) false) (.cond (.tmp 95) (.seq (.region 30 (rgn Tryz.f53 30) false) (.ret)) (.skip))) (.region 31 (rgn Tryz.f53 31) false))) (.region 28 (rgn Tryz.f53 28) false))) none E [] H k) := by
  have hle : decide ((2 : Int) ≤ 2) = true := rfl
  have wq : IntKind.i64.wrap (((i + 2 : Nat) : Int) + 2) = ((i + 4 : Nat) : Int) := by rw [wrap_i64 (by omega) (by omega)]; omega
  have hlt : decide (((i + 4 : Nat) : Int) ≥ (s.length : Int)) = true := decide_eq_true (by omega)
  have l27 := tl (rgn Tryz.f53 27)
  conv at l27 => rhs; simp only [rgn, opsAt, codeOf, Tryz.f53, gS, gN, reduceIte, Nat.reduceEqDiff, tA]
  have l29 := tl (rgn Tryz.f53 29)
  conv at l29 => rhs; simp only [rgn, opsAt, codeOf, Tryz.f53, gS, gN, reduceIte, Nat.reduceEqDiff, tA]
  have l30 := tl (rgn Tryz.f53 30)
  conv at l30 => rhs; simp only [rgn, opsAt, codeOf, Tryz.f53, gS, gN, reduceIte, Nat.reduceEqDiff, tA]
  simp (decide := true) only [↓execG_seq, ↓g_region, ↓execG_block, ↓execG_ret, ↓execG_skip, ↓g_if, thenE_norm, thenE_ret, leaveB_ret, ↓r_nil, ↓r_cons, ↓o_move, ↓o_assign, ↓o_pickt, ↓o_binOp, ↓o_builtin, nextE_app, putK_app, putG_bool, putG_int, normK_app, evalE_tmp, evalE_const, upd_some, bindO_ok, reduceIte, map_one, Bool.not_false, ↓reg_lit l27, ↓reg_lit l29, ↓reg_lit l30, ↓r_no _ 6 false 87 _ gd53_29_6, e0, e8, e11, len_str, binA_leq, dT, binA_add, wq, binA_geq, hlt]
  exact hx _ (by simp (decide := true) only [upd_some, reduceIte]) (by simp (decide := true) only [upd_some, reduceIte]) (by simp (decide := true) only [upd_some, reduceIte])
theorem hx_bad2 {N : Nat} {H : Heap} {s : List UInt8} {i : Nat} {E : Env} {Q : R → Prop} {k : KOE} {hk : Hook} {d : Nat} {v : Value} {g : Nat} (e0 : E 0 = .string ⟨⟨s⟩⟩) (e7 : E 7 = v) (e8 : E 8 = .int .i64 ((i + 2 : Nat) : Int)) (e10 : E 10 = .int .i64 (g : Int)) (e11 : E 11 = .int .i64 2) (hsm : s.length ≤ 1048576) (hi : i + 2 < s.length) (K : HkR hk) (hG : Ext GE H) (hj : i + 4 < s.length) (h16 : hexT (s.getD (i + 4) 0).toNat = 16) (hx : ∀ E', E' 4 = .string ⟨#[]⟩ → E' 5 = .int .i64 ((i + 4 : Nat) : Int) → E' 6 = .int .i64 ((i + 4 : Nat) : Int) → Q (k .ret E' [] H)) :
    Q (execG PP XX (CG N hk (d + 1)) N noPr (.seq (.seq (.region 27 (rgn Tryz.f53 27) false) (.cond (.tmp 78) (.skip) (.exit 3))) (.seq (.block 4 (.seq (.seq (.region 29 (rgn Tryz.f53 29) false) (.cond (.tmp 95) (.seq (.region 30 (rgn Tryz.f53 30) false) (.ret)) (.skip))) (.region 31 (rgn Tryz.f53 31) false))) (.region 28 (rgn Tryz.f53 28) false))) none E [] H k) := by
  have hle : decide ((2 : Int) ≤ 2) = true := rfl
  have wq : IntKind.i64.wrap (((i + 2 : Nat) : Int) + 2) = ((i + 4 : Nat) : Int) := by rw [wrap_i64 (by omega) (by omega)]; omega
  have hlt : decide (((i + 4 : Nat) : Int) ≥ (s.length : Int)) = false := decide_eq_false (by omega)
  have hix := idx_str (s := s) hj
  have hgd : s.getD (i + 4) 0 = s[i + 4] := by simp [List.getD, hj]
  rw [hgd] at h16
  have hd : CG N hk (d + 1) 67 #[.int .u8 (s[i + 4].toNat : Int)] H = some (.ret (.int .i64 (rhN s[i + 4].toNat)), H) := callG_hook (K.hex s[i + 4] H hG)
  have hneg : decide (rhN s[i + 4].toNat < 0) = true := decide_eq_true (rhN_no (by omega))
  have l27 := tl (rgn Tryz.f53 27)
  conv at l27 => rhs; simp only [rgn, opsAt, codeOf, Tryz.f53, gS, gN, reduceIte, Nat.reduceEqDiff, tA]
  have l29 := tl (rgn Tryz.f53 29)
  conv at l29 => rhs; simp only [rgn, opsAt, codeOf, Tryz.f53, gS, gN, reduceIte, Nat.reduceEqDiff, tA]
  have l30 := tl (rgn Tryz.f53 30)
  conv at l30 => rhs; simp only [rgn, opsAt, codeOf, Tryz.f53, gS, gN, reduceIte, Nat.reduceEqDiff, tA]
  simp (decide := true) only [↓execG_seq, ↓g_region, ↓execG_block, ↓execG_ret, ↓execG_skip, ↓g_if, thenE_norm, thenE_ret, leaveB_ret, ↓r_nil, ↓r_cons, ↓o_move, ↓o_assign, ↓o_pickf, ↓o_binOp, ↓o_index, ↓o_builtin, ↓o_callf, nextE_app, putK_app, putO_app, putG_bool, putG_int, normK_app, evalE_tmp, evalE_const, upd_some, bindO_ok, reduceIte, map_one, ↓reg_lit l27, ↓reg_lit l29, ↓reg_lit l30, ↓r_yes _ 6 false 87 _ gd53_29_6, e0, e8, e11, len_str, binA_leq, dT, binA_add, wq, binA_geq, hlt, hix, callK_fn Tryz.func67 rfl rfl hd, binA_lss, hneg]
  exact hx _ (by simp (decide := true) only [upd_some, reduceIte]) (by simp (decide := true) only [upd_some, reduceIte]) (by simp (decide := true) only [upd_some, reduceIte])
theorem hx_step2 {N : Nat} {H : Heap} {s : List UInt8} {i : Nat} {E : Env} {Q : R → Prop} {k : KOE} {hk : Hook} {d : Nat} {v : Value} {g : Nat} (e0 : E 0 = .string ⟨⟨s⟩⟩) (e7 : E 7 = v) (e8 : E 8 = .int .i64 ((i + 2 : Nat) : Int)) (e10 : E 10 = .int .i64 (g : Int)) (e11 : E 11 = .int .i64 2) (hsm : s.length ≤ 1048576) (hi : i + 2 < s.length) (K : HkR hk) (hG : Ext GE H) (hj : i + 4 < s.length) (h16 : hexT (s.getD (i + 4) 0).toNat < 16) (hg : g < 16) (hx : ∀ E', E' 0 = .string ⟨⟨s⟩⟩ → E' 7 = v → E' 8 = .int .i64 ((i + 2 : Nat) : Int) → E' 10 = .int .i64 ((g * 16 + hexN (s.getD (i + 4) 0) : Nat) : Int) → E' 11 = .int .i64 3 → Q (k .norm E' [] H)) :
    Q (execG PP XX (CG N hk (d + 1)) N noPr (.seq (.seq (.region 27 (rgn Tryz.f53 27) false) (.cond (.tmp 78) (.skip) (.exit 3))) (.seq (.block 4 (.seq (.seq (.region 29 (rgn Tryz.f53 29) false) (.cond (.tmp 95) (.seq (.region 30 (rgn Tryz.f53 30) false) (.ret)) (.skip))) (.region 31 (rgn Tryz.f53 31) false))) (.region 28 (rgn Tryz.f53 28) false))) none E [] H k) := by
  have hle : decide ((2 : Int) ≤ 2) = true := rfl
  have wq : IntKind.i64.wrap (((i + 2 : Nat) : Int) + 2) = ((i + 4 : Nat) : Int) := by rw [wrap_i64 (by omega) (by omega)]; omega
  have hlt : decide (((i + 4 : Nat) : Int) ≥ (s.length : Int)) = false := decide_eq_false (by omega)
  have hix := idx_str (s := s) hj
  have hgd : s.getD (i + 4) 0 = s[i + 4] := by simp [List.getD, hj]
  rw [hgd] at h16
  have hd : CG N hk (d + 1) 67 #[.int .u8 (s[i + 4].toNat : Int)] H = some (.ret (.int .i64 (rhN s[i + 4].toNat)), H) := callG_hook (K.hex s[i + 4] H hG)
  have hnn := hexT_nn s[i + 4].toNat
  rw [rhN_of h16] at hd
  have hN : (hexN s[i + 4] : Int) = hexT s[i + 4].toNat := by unfold hexN; omega
  rw [← hN] at hd h16 hnn
  rw [hgd] at hx
  have hneg : decide (((hexN s[i + 4] : Nat) : Int) < 0) = false := decide_eq_false (by omega)
  have wm : IntKind.i64.wrap (16 * (g : Int)) = ((g * 16 : Nat) : Int) := by rw [wrap_i64 (by omega) (by omega)]; omega
  have wa : IntKind.i64.wrap (((g * 16 : Nat) : Int) + ((hexN s[i + 4] : Nat) : Int)) = ((g * 16 + hexN s[i + 4] : Nat) : Int) := by rw [wrap_i64 (by omega) (by omega)]; omega
  have w2k : IntKind.i64.wrap (2 + 1) = 3 := by decide
  have l27 := tl (rgn Tryz.f53 27)
  conv at l27 => rhs; simp only [rgn, opsAt, codeOf, Tryz.f53, gS, gN, reduceIte, Nat.reduceEqDiff, tA]
  have l28 := tl (rgn Tryz.f53 28)
  conv at l28 => rhs; simp only [rgn, opsAt, codeOf, Tryz.f53, gS, gN, reduceIte, Nat.reduceEqDiff, tA]
  have l29 := tl (rgn Tryz.f53 29)
  conv at l29 => rhs; simp only [rgn, opsAt, codeOf, Tryz.f53, gS, gN, reduceIte, Nat.reduceEqDiff, tA]
  have l31 := tl (rgn Tryz.f53 31)
  conv at l31 => rhs; simp only [rgn, opsAt, codeOf, Tryz.f53, gS, gN, reduceIte, Nat.reduceEqDiff, tA]
  simp (decide := true) only [↓execG_seq, ↓g_region, ↓execG_block, ↓execG_skip, ↓g_if, ↓g_else, thenE_norm, leaveB_norm, ↓r_nil, ↓r_cons, ↓o_move, ↓o_assign, ↓o_pickf, ↓o_binOp, ↓o_index, ↓o_builtin, ↓o_callf, nextE_app, putK_app, putO_app, putG_bool, putG_int, normK_app, evalE_tmp, evalE_const, upd_some, bindO_ok, reduceIte, map_one, ↓reg_lit l27, ↓reg_lit l28, ↓reg_lit l29, ↓reg_lit l31, ↓r_yes _ 6 false 87 _ gd53_29_6, e0, e8, e10, e11, len_str, binA_leq, dT, binA_add, wq, binA_geq, hlt, hix, callK_fn Tryz.func67 rfl rfl hd, binA_lss, hneg, binA_mul, wm, wa, w2k]
  exact hx _ (by simp (decide := true) only [upd_some, reduceIte, e0]) (by simp (decide := true) only [upd_some, reduceIte, e7]) (by simp (decide := true) only [upd_some, reduceIte, e8]) (by simp (decide := true) only [upd_some, reduceIte, e10]) (by simp (decide := true) only [upd_some, reduceIte, e11])
theorem hx_stop {N : Nat} {H : Heap} {s : List UInt8} {i : Nat} {E : Env} {Q : R → Prop} {k : KOE} {hk : Hook} {d : Nat} {v : Value} {g : Nat} (e0 : E 0 = .string ⟨⟨s⟩⟩) (e7 : E 7 = v) (e8 : E 8 = .int .i64 ((i + 2 : Nat) : Int)) (e10 : E 10 = .int .i64 (g : Int)) (e11 : E 11 = .int .i64 3) (hx : ∀ E', E' 0 = .string ⟨⟨s⟩⟩ → E' 7 = v → E' 8 = .int .i64 ((i + 2 : Nat) : Int) → E' 10 = .int .i64 (g : Int) → Q (k (.exit 3) E' [] H)) :
    Q (execG PP XX (CG N hk (d + 1)) N noPr (.seq (.seq (.region 27 (rgn Tryz.f53 27) false) (.cond (.tmp 78) (.skip) (.exit 3))) (.seq (.block 4 (.seq (.seq (.region 29 (rgn Tryz.f53 29) false) (.cond (.tmp 95) (.seq (.region 30 (rgn Tryz.f53 30) false) (.ret)) (.skip))) (.region 31 (rgn Tryz.f53 31) false))) (.region 28 (rgn Tryz.f53 28) false))) none E [] H k) := by
  have hle : decide ((3 : Int) ≤ 2) = false := rfl
  have l27 := tl (rgn Tryz.f53 27)
  conv at l27 => rhs; simp only [rgn, opsAt, codeOf, Tryz.f53, gS, gN, reduceIte, Nat.reduceEqDiff, tA]
  simp (decide := true) only [↓execG_seq, ↓g_region, ↓execG_exit, ↓g_else, thenE_norm, thenE_exit, ↓r_nil, ↓r_cons, ↓o_move, ↓o_binOp, nextE_app, putG_bool, normK_app, evalE_tmp, evalE_const, upd_some, bindO_ok, reduceIte, ↓reg_lit l27, e11, binA_leq, dF]
  exact hx _ (by simp (decide := true) only [upd_some, reduceIte, e0]) (by simp (decide := true) only [upd_some, reduceIte, e7]) (by simp (decide := true) only [upd_some, reduceIte, e8]) (by simp (decide := true) only [upd_some, reduceIte, e10])
/-- A byte by its two hex digits. -/
theorem rt_x {N : Nat} {H0 H : Heap} {s : List UInt8} {i : Nat} {E : Env} {Q : R → Prop} {k : KOE} {hk : Hook} {d : Nat} {v : Value} {o : List UInt8} (h : RS H0 H v o) (e0 : E 0 = .string ⟨⟨s⟩⟩) (e7 : E 7 = v) (e8 : E 8 = .int .i64 ((i + 1 : Nat) : Int)) (hi : i < s.length) (hsm : s.length ≤ 1048576) (K : HkR hk) (hG : Ext GE H) (hN : 4 < N) (hj : i + 1 < s.length) (hj2 : i + 2 < s.length) (hc : s.getD (i + 1) 0 = 92) (hc2 : s.getD (i + 2) 0 = 120) (hn : o.length ≤ 1048576)
    (hb : ∀ e E', (if i + 3 = s.length ∨ hexT (s.getD (i + 3) 0).toNat = 16 then e = i + 3 else (i + 4 = s.length ∨ hexT (s.getD (i + 4) 0).toNat = 16) ∧ e = i + 4) → E' 4 = .string ⟨#[]⟩ → E' 5 = .int .i64 ((e : Nat) : Int) → E' 6 = .int .i64 ((e : Nat) : Int) → Q (k .ret E' [] H))
    (hx : ¬ (i + 3 = s.length ∨ hexT (s.getD (i + 3) 0).toNat = 16) → ¬ (i + 4 = s.length ∨ hexT (s.getD (i + 4) 0).toNat = 16) → ∀ E' H' v', E' 0 = .string ⟨⟨s⟩⟩ → E' 7 = v' → E' 8 = .int .i64 ((i + 5 : Nat) : Int) → RS H0 H' v' (o ++ [UInt8.ofNat (hexN (s.getD (i + 3) 0) * 16 + hexN (s.getD (i + 4) 0))]) → Q (k .norm E' [] H')) :
    Q (execG PP XX (CG N hk (d + 1)) N noPr (.block 1 (.seq (.seq (.region 3 (rgn Tryz.f53 3) false) (.cond (.tmp 17) (.seq (.region 4 (rgn Tryz.f53 4) false) (.ret)) (.skip))) (.seq (.region 5 (rgn Tryz.f53 5) false) (.seq (.seq (.region 6 (rgn Tryz.f53 6) false) (.cond (.tmp 24) (.seq (.region 7 (rgn Tryz.f53 7) false) (.ret)) (.skip))) (.seq (.seq (.region 8 (rgn Tryz.f53 8) false) (.cond (.tmp 34) (.seq (.region 9 (rgn Tryz.f53 9) false) (.ret)) (.skip))) (.seq (.region 10 (rgn Tryz.f53 10) false) (.seq (.seq (.region 11 (rgn Tryz.f53 11) false) (.cond (.tmp 40) (.seq (.region 12 (rgn Tryz.f53 12) false) (.exit 1)) (.skip))) (.seq (.seq (.region 13 (rgn Tryz.f53 13) false) (.cond (.tmp 48) (.seq (.region 14 (rgn Tryz.f53 14) false) (.ret)) (.skip))) (.seq (.seq (.region 15 (rgn Tryz.f53 15) false) (.block 2 (.seq (.region 17 (rgn Tryz.f53 17) false) (.cond (.tmp 56) (.region 18 (rgn Tryz.f53 18) false) (.seq (.region 19 (rgn Tryz.f53 19) false) (.cond (.tmp 61) (.region 20 (rgn Tryz.f53 20) false) (.seq (.seq (.region 21 (rgn Tryz.f53 21) false) (.cond (.tmp 66) (.skip) (.region 22 (rgn Tryz.f53 22) false))) (.cond (.tmp 66) (.region 23 (rgn Tryz.f53 23) false) (.seq (.region 24 (rgn Tryz.f53 24) false) (.cond (.tmp 75) (.seq (.region 25 (rgn Tryz.f53 25) false) (.seq (.seq (.region 26 (rgn Tryz.f53 26) false) (.block 3 (.loop (.seq (.seq (.region 27 (rgn Tryz.f53 27) false) (.cond (.tmp 78) (.skip) (.exit 3))) (.seq (.block 4 (.seq (.seq (.region 29 (rgn Tryz.f53 29) false) (.cond (.tmp 95) (.seq (.region 30 (rgn Tryz.f53 30) false) (.ret)) (.skip))) (.region 31 (rgn Tryz.f53 31) false))) (.region 28 (rgn Tryz.f53 28) false)))))) (.seq (.region 32 (rgn Tryz.f53 32) false) (.region 33 (rgn Tryz.f53 33) false)))) (.seq (.region 16 (rgn Tryz.f53 16) false) (.ret)))))))))))) (.region 34 (rgn Tryz.f53 34) false)))))))))) none E [] H k) := by
  have hlt : decide (((i + 1 : Nat) : Int) ≥ (s.length : Int)) = false := decide_eq_false (by omega)
  have hix := idx_str (s := s) hj
  have hgd : s.getD (i + 1) 0 = s[i + 1] := by simp [List.getD, hj]
  have w1 : IntKind.i64.wrap (((i + 1 : Nat) : Int) + 1) = ((i + 2 : Nat) : Int) := by rw [wrap_i64 (by omega) (by omega)]; omega
  rw [hgd] at hc
  have z34 : ((s[i + 1].toNat : Int) == 34) = false := (toNat_eq s[i + 1] 34).trans (by rw [hc]; rfl)
  have z92 : ((s[i + 1].toNat : Int) != 92) = false := bne_of ((toNat_eq s[i + 1] 92).trans (decide_eq_true hc))
  have q32 : decide ((s[i + 1].toNat : Int) < 32) = false := by rw [hc]; rfl
  have q126 : decide ((s[i + 1].toNat : Int) > 126) = false := by rw [hc]; rfl
  have hlt2 : decide (((i + 2 : Nat) : Int) ≥ (s.length : Int)) = false := decide_eq_false (by omega)
  have hix2 := idx_str (s := s) hj2
  have hgd2 : s.getD (i + 2) 0 = s[i + 2] := by simp [List.getD, hj2]
  rw [hgd2] at hc2
  have y110 : ((s[i + 2].toNat : Int) == 110) = false := (toNat_eq s[i + 2] 110).trans (by rw [hc2]; rfl)
  have y116 : ((s[i + 2].toNat : Int) == 116) = false := (toNat_eq s[i + 2] 116).trans (by rw [hc2]; rfl)
  have y34 : ((s[i + 2].toNat : Int) == 34) = false := (toNat_eq s[i + 2] 34).trans (by rw [hc2]; rfl)
  have y92 : ((s[i + 2].toNat : Int) == 92) = false := (toNat_eq s[i + 2] 92).trans (by rw [hc2]; rfl)
  have y120 : ((s[i + 2].toNat : Int) == 120) = true := (toNat_eq s[i + 2] 120).trans (by rw [hc2]; rfl)
  obtain ⟨M, rfl⟩ : ∃ q, N = q + 1 + 1 + 1 := ⟨N - 3, by omega⟩
  have g0 : ∀ j, s.length ≤ j → s.getD j 0 = 0 := fun j hj => by simp [List.getD, List.getElem?_eq_none hj]
  have hz : hexT (0 : UInt8).toNat = 16 := by decide
  have m3 := hexT_le (s.getD (i + 3) 0).toNat
  have m4 := hexT_le (s.getD (i + 4) 0).toNat
  have e10 : ((0 : Nat) : Int) = 0 := rfl
  have l3 := tl (rgn Tryz.f53 3)
  conv at l3 => rhs; simp only [rgn, opsAt, codeOf, Tryz.f53, gS, gN, reduceIte, Nat.reduceEqDiff, tA]
  have l5 := tl (rgn Tryz.f53 5)
  conv at l5 => rhs; simp only [rgn, opsAt, codeOf, Tryz.f53, gS, gN, reduceIte, Nat.reduceEqDiff, tA]
  have l6 := tl (rgn Tryz.f53 6)
  conv at l6 => rhs; simp only [rgn, opsAt, codeOf, Tryz.f53, gS, gN, reduceIte, Nat.reduceEqDiff, tA]
  have l8 := tl (rgn Tryz.f53 8)
  conv at l8 => rhs; simp only [rgn, opsAt, codeOf, Tryz.f53, gS, gN, reduceIte, Nat.reduceEqDiff, tA]
  have l10 := tl (rgn Tryz.f53 10)
  conv at l10 => rhs; simp only [rgn, opsAt, codeOf, Tryz.f53, gS, gN, reduceIte, Nat.reduceEqDiff, tA]
  have l11 := tl (rgn Tryz.f53 11)
  conv at l11 => rhs; simp only [rgn, opsAt, codeOf, Tryz.f53, gS, gN, reduceIte, Nat.reduceEqDiff, tA]
  have l13 := tl (rgn Tryz.f53 13)
  conv at l13 => rhs; simp only [rgn, opsAt, codeOf, Tryz.f53, gS, gN, reduceIte, Nat.reduceEqDiff, tA]
  have l15 := tl (rgn Tryz.f53 15)
  conv at l15 => rhs; simp only [rgn, opsAt, codeOf, Tryz.f53, gS, gN, reduceIte, Nat.reduceEqDiff, tA]
  have l17 := tl (rgn Tryz.f53 17)
  conv at l17 => rhs; simp only [rgn, opsAt, codeOf, Tryz.f53, gS, gN, reduceIte, Nat.reduceEqDiff, tA]
  have l19 := tl (rgn Tryz.f53 19)
  conv at l19 => rhs; simp only [rgn, opsAt, codeOf, Tryz.f53, gS, gN, reduceIte, Nat.reduceEqDiff, tA]
  have l21 := tl (rgn Tryz.f53 21)
  conv at l21 => rhs; simp only [rgn, opsAt, codeOf, Tryz.f53, gS, gN, reduceIte, Nat.reduceEqDiff, tA]
  have l22 := tl (rgn Tryz.f53 22)
  conv at l22 => rhs; simp only [rgn, opsAt, codeOf, Tryz.f53, gS, gN, reduceIte, Nat.reduceEqDiff, tA]
  have l24 := tl (rgn Tryz.f53 24)
  conv at l24 => rhs; simp only [rgn, opsAt, codeOf, Tryz.f53, gS, gN, reduceIte, Nat.reduceEqDiff, tA]
  have l25 := tl (rgn Tryz.f53 25)
  conv at l25 => rhs; simp only [rgn, opsAt, codeOf, Tryz.f53, gS, gN, reduceIte, Nat.reduceEqDiff, tA]
  have l26 := tl (rgn Tryz.f53 26)
  conv at l26 => rhs; simp only [rgn, opsAt, codeOf, Tryz.f53, gS, gN, reduceIte, Nat.reduceEqDiff, tA]
  have l32 := tl (rgn Tryz.f53 32)
  conv at l32 => rhs; simp only [rgn, opsAt, codeOf, Tryz.f53, gS, gN, reduceIte, Nat.reduceEqDiff, tA]
  have l33 := tl (rgn Tryz.f53 33)
  conv at l33 => rhs; simp only [rgn, opsAt, codeOf, Tryz.f53, gS, gN, reduceIte, Nat.reduceEqDiff, tA]
  have l34 := tl (rgn Tryz.f53 34)
  conv at l34 => rhs; simp only [rgn, opsAt, codeOf, Tryz.f53, gS, gN, reduceIte, Nat.reduceEqDiff, tA]
  generalize hin : (.seq (.seq (.region 27 (rgn Tryz.f53 27) false) (.cond (.tmp 78) (.skip) (.exit 3))) (.seq (.block 4 (.seq (.seq (.region 29 (rgn Tryz.f53 29) false) (.cond (.tmp 95) (.seq (.region 30 (rgn Tryz.f53 30) false) (.ret)) (.skip))) (.region 31 (rgn Tryz.f53 31) false))) (.region 28 (rgn Tryz.f53 28) false)) : Code) = inn at *
  simp (decide := true) only [↓execG_seq, ↓g_region, ↓execG_block, ↓execG_skip, ↓g_if, ↓g_else, thenE_norm, ↓r_nil, ↓r_cons, ↓o_move, ↓o_assign, ↓o_pickf, ↓o_binOp, ↓o_index, ↓o_builtin, nextE_app, putK_app, putO_app, putG_bool, putG_int, normK_app, evalE_tmp, evalE_const, upd_some, bindO_ok, reduceIte, map_one, ↓reg_lit l3, ↓reg_lit l5, ↓reg_lit l6, ↓reg_lit l8, ↓reg_lit l10, ↓reg_lit l11, ↓reg_lit l13, ↓reg_lit l15, ↓reg_lit l17, ↓reg_lit l19, ↓reg_lit l21, ↓reg_lit l22, ↓reg_lit l24, ↓reg_lit l25, ↓reg_lit l26, ↓r_yes _ 2 false 31 _ gd53_8_2, e0, e8, len_str, binA_geq, hlt, hix, binA_eql, binA_add, w1, z34, binA_neq, z92, binA_lss, q32, binA_gtr, q126, hlt2, hix2, y110, y116, y34, y92, y120, ↓execG_loop, ↓loopE_succ]
  subst hin
  by_cases n1 : i + 3 < s.length
  · by_cases x1 : hexT (s.getD (i + 3) 0).toNat = 16
    · refine hx_bad1 (i := i) (v := v) (g := 0) (by simp (decide := true) only [upd_some, reduceIte, e0]) (by simp (decide := true) only [upd_some, reduceIte, e7]) (by simp (decide := true) only [upd_some, reduceIte, e8]) (by simp (decide := true) only [upd_some, reduceIte]; rfl) (by simp (decide := true) only [upd_some, reduceIte]) hsm hj2 K hG n1 x1 fun E' q4 q5 q6 => ?_
      simp (decide := true) only [↓execG_seq, ↓g_region, thenE_ret, leaveB_ret]
      exact hb (i + 3) E' (by rw [if_pos (.inr x1)]) q4 q5 q6
    refine hx_step1 (i := i) (v := v) (g := 0) (by simp (decide := true) only [upd_some, reduceIte, e0]) (by simp (decide := true) only [upd_some, reduceIte, e7]) (by simp (decide := true) only [upd_some, reduceIte, e8]) (by simp (decide := true) only [upd_some, reduceIte]; rfl) (by simp (decide := true) only [upd_some, reduceIte]) hsm hj2 K hG n1 (by omega) (by decide) fun E2 q0 q7 q8 q10 q11 => ?_
    have no1 : ¬ (i + 3 = s.length ∨ hexT (s.getD (i + 3) 0).toNat = 16) := fun h => h.elim (fun h => by omega) x1
    have g1 : hexN (s.getD (i + 3) 0) < 16 := by have := hexT_nn (s.getD (i + 3) 0).toNat; unfold hexN; omega
    rw [thenE_norm]
    by_cases n2 : i + 4 < s.length
    · by_cases x2 : hexT (s.getD (i + 4) 0).toNat = 16
      · refine hx_bad2 (i := i) (v := v) (g := 0 * 16 + hexN (s.getD (i + 3) 0)) q0 q7 q8 q10 q11 hsm hj2 K hG n2 x2 fun E' q4 q5 q6 => ?_
        simp (decide := true) only [↓execG_seq, ↓g_region, thenE_ret, leaveB_ret]
        exact hb (i + 4) E' (by rw [if_neg no1]; exact ⟨.inr x2, rfl⟩) q4 q5 q6
      refine hx_step2 (i := i) (v := v) (g := 0 * 16 + hexN (s.getD (i + 3) 0)) q0 q7 q8 q10 q11 hsm hj2 K hG n2 (by omega) (by omega) fun E3 p0 p7 p8 p10 p11 => ?_
      have no2 : ¬ (i + 4 = s.length ∨ hexT (s.getD (i + 4) 0).toNat = 16) := fun h => h.elim (fun h => by omega) x2
      have g2 : hexN (s.getD (i + 4) 0) < 16 := by have := hexT_nn (s.getD (i + 4) 0).toNat; unfold hexN; omega
      rw [thenE_norm]
      refine hx_stop (i := i) (v := v) p0 p7 p8 p10 p11 fun E4 r0 r7 r8 r10 => ?_
      have hu : (UInt8.ofNat (hexN (s.getD (i + 3) 0) * 16 + hexN (s.getD (i + 4) 0))).toNat = hexN (s.getD (i + 3) 0) * 16 + hexN (s.getD (i + 4) 0) := by
        rw [UInt8.toNat_ofNat']; omega
      have wb : IntKind.u8.wrap (((0 * 16 + hexN (s.getD (i + 3) 0)) * 16 + hexN (s.getD (i + 4) 0) : Nat) : Int) = ((UInt8.ofNat (hexN (s.getD (i + 3) 0) * 16 + hexN (s.getD (i + 4) 0))).toNat : Int) := by
        rw [wrap_u8' (by omega) (by omega), hu]; omega
      have hx := hx no1 no2
      generalize UInt8.ofNat (hexN (s.getD (i + 3) 0) * 16 + hexN (s.getD (i + 4) 0)) = ub at *
      obtain ⟨v', H', a1, a2⟩ := h.add ub hn
      have w4 : IntKind.i64.wrap (((i + 2 : Nat) : Int) + 2) = ((i + 4 : Nat) : Int) := by rw [wrap_i64 (by omega) (by omega)]; omega
      have w5 : IntKind.i64.wrap (((i + 4 : Nat) : Int) + 1) = ((i + 5 : Nat) : Int) := by rw [wrap_i64 (by omega) (by omega)]; omega
      simp (decide := true) only [↓execG_seq, ↓g_region, thenE_norm, thenE_exit, leaveB_norm, g_leave, ↓r_nil, ↓r_cons, ↓o_move, ↓o_assign, ↓o_buildSlice, ↓o_binOp, ↓o_convert, ↓o_builtin, nextE_app, putK_app, putG_int, normK_app, evalE_tmp, evalE_const, upd_some, bindO_ok, bindV_ok, reduceIte, map_one, map_two, ↓reg_lit l32, ↓reg_lit l33, ↓reg_lit l34, r7, r8, r10, conv_ib, wb, bslice1, app_bytes, a1, binA_add, w4, w5]
      exact hx _ H' v' (by simp (decide := true) only [upd_some, reduceIte, r0]) (by simp (decide := true) only [upd_some, reduceIte]) (by simp (decide := true) only [upd_some, reduceIte]) a2
    · refine hx_end2 (i := i) (v := v) (g := 0 * 16 + hexN (s.getD (i + 3) 0)) q0 q7 q8 q10 q11 hsm hj2 n2 fun E' q4 q5 q6 => ?_
      simp (decide := true) only [↓execG_seq, ↓g_region, thenE_ret, leaveB_ret]
      exact hb (i + 4) E' (by rw [if_neg no1]; exact ⟨.inl (by omega), rfl⟩) q4 q5 q6
  · refine hx_end1 (i := i) (v := v) (g := 0) (by simp (decide := true) only [upd_some, reduceIte, e0]) (by simp (decide := true) only [upd_some, reduceIte, e7]) (by simp (decide := true) only [upd_some, reduceIte, e8]) (by simp (decide := true) only [upd_some, reduceIte]; rfl) (by simp (decide := true) only [upd_some, reduceIte]) hsm hj2 n1 fun E' q4 q5 q6 => ?_
    simp (decide := true) only [↓execG_seq, ↓g_region, thenE_ret, leaveB_ret]
    exact hb (i + 3) E' (by rw [if_pos (.inl (by omega))]) q4 q5 q6
end
end Go.Am
/- The plain laws: an integer is told by its run, a sign by its byte and the next. -/
open Go.Proofs
namespace Go.Am
theorem runTo_all (s : List UInt8) : ∀ n i j, i ≤ j → j < runTo s n i → isW s j = true
  | 0, i, j, h1, h2 => by simp [runTo] at h2; omega
  | n + 1, i, j, h1, h2 => by
    unfold runTo at h2
    split at h2
    · rename_i hw
      by_cases e : j = i
      · rw [e]; exact hw
      · exact runTo_all s n (i + 1) j (by omega) h2
    · omega
theorem isW_out {s : List UInt8} {i : Nat} (hi : ¬ i < s.length) : isW s i = false := by rw [isW, isI_out hi, isI_out hi]; rfl
theorem runTo_stop (s : List UInt8) : ∀ n i, s.length ≤ i + n → isW s (runTo s n i) = false
  | 0, i, h => by
    rw [runTo]; exact isW_out (by omega)
  | n + 1, i, h => by
    unfold runTo
    split
    · exact runTo_stop s n (i + 1) (by omega)
    · rename_i hw; simpa using hw
/-- A run of word bytes, and the text that it stands in. -/
structure Run (s r : List UInt8) (i : Nat) : Prop where
  le : i + r.length ≤ s.length
  at_ : ∀ j, j < r.length → r.getD j 0 = s.getD (i + j) 0
  word : ∀ j, j < r.length → isW s (i + j) = true
  stop : isW s (i + r.length) = false
theorem run_of (s : List UInt8) {i : Nat} (hi : i ≤ s.length) : Run s ((s.take (runTo s (s.length - i) i)).drop i) i ∧ ((s.take (runTo s (s.length - i) i)).drop i).length = runTo s (s.length - i) i - i := by
  have g := runTo_ge s (s.length - i) i
  have hl : ((s.take (runTo s (s.length - i) i)).drop i).length = runTo s (s.length - i) i - i := by simp; omega
  refine ⟨⟨by rw [hl]; omega, fun j hj => ?_, fun j hj => ?_, ?_⟩, hl⟩
  · rw [hl] at hj
    simp only [List.getD, List.getElem?_drop, List.getElem?_take]
    rw [if_pos (by omega)]
  · rw [hl] at hj
    exact runTo_all s (s.length - i) i (i + j) (by omega) (by omega)
  · rw [hl, show i + (runTo s (s.length - i) i - i) = runTo s (s.length - i) i by omega]
    exact runTo_stop s _ i (by omega)
section
variable {s r : List UInt8} {i : Nat} (h : Run s r i)
include h
theorem Run.isI {j : Nat} (hj : j ≤ r.length) (q : Int) (hq : q = 3 ∨ q = 4) : Am.isI r j q = Am.isI s (i + j) q := by
  have hle := h.le
  by_cases c : j < r.length
  · unfold Am.isI
    rw [h.at_ j c, decide_eq_true c, decide_eq_true (by omega : i + j < s.length)]
  · have e : j = r.length := by omega
    have hs := h.stop
    rw [← e] at hs
    rw [isI_out c]
    simp only [isW, Bool.or_eq_false_iff] at hs
    rcases hq with rfl | rfl
    · exact hs.2.symm
    · exact hs.1.symm
theorem Run.isW {j : Nat} (hj : j ≤ r.length) : Am.isW r j = Am.isW s (i + j) := by
  unfold Am.isW
  rw [h.isI hj 4 (.inr rfl), h.isI hj 3 (.inl rfl)]
theorem Run.words : ∀ j, j < r.length → Am.isW r j = true := fun j hj => by rw [h.isW (by omega)]; exact h.word j hj
theorem Run.ends {m n x : Nat} (hi : Am.isW r x = false) (hx : x ≤ r.length) : x = r.length := by
  by_cases c : x < r.length
  · rw [h.words x c] at hi; cases hi
  · omega
end
def shI (i : Nat) : IR → IR
  | .bad e => .bad (i + e)
  | .good n e => .good n (i + e)
theorem hex_word (u : UInt8) : (!decide (hexT u.toNat < 16) || wbN u.toNat) = true := byte_all (p := fun u => (!decide (hexT u.toNat < 16) || wbN u.toNat)) (by decide +kernel) u
section
variable {s r : List UInt8} {i : Nat}
theorem sh_end (h : Run s r i) {j n : Nat} (hj : j ≤ r.length) : endI s (i + j) n = shI i (endI r j n) := by
  unfold endI
  rw [← h.isW hj]
  split <;> rfl
theorem sh_mul (h : Run s r i) {j n f : Nat} (hj : j < r.length) : mulI s (i + j) n f = shI i (mulI r j n f) := by
  unfold mulI
  split
  · exact sh_end h (j := j + 1) (by omega)
  · rfl
theorem sh_suf (h : Run s r i) {j n : Nat} (hj : j ≤ r.length) : sufI s (i + j) n = shI i (sufI r j n) := by
  unfold sufI
  rw [← h.isI hj 4 (.inr rfl)]
  split
  · rename_i h4
    have hl : j < r.length := isI_lt h4
    rw [← h.at_ j hl]
    split
    · exact sh_mul h hl
    · split
      · exact sh_mul h hl
      · rfl
  · exact sh_end h hj
theorem sh_dec (h : Run s r i) : ∀ (f' f j n : Nat), j ≤ r.length → r.length ≤ j + f' → s.length ≤ i + j + f → decI s f (i + j) n = shI i (decI r f' j n)
  | 0, f, j, n, hj, h1, h2 => by
    have e : Am.isI s (i + j) 3 = false := by rw [← h.isI hj 3 (.inl rfl)]; exact isI_out (by omega)
    have e3 : ∀ f, decI s (f + 1) (i + j) n = sufI s (i + j) n := fun f => by rw [decI, e]; rfl
    cases f with
    | zero => exact sh_suf h hj
    | succ f => rw [e3]; exact sh_suf h hj
  | f' + 1, f, j, n, hj, h1, h2 => by
    have hle := h.le
    cases h3 : Am.isI r j 3 with
    | true =>
      have hl : j < r.length := isI_lt h3
      obtain ⟨g, rfl⟩ : ∃ g, f = g + 1 := ⟨f - 1, by omega⟩
      have e : Am.isI s (i + j) 3 = true := by rw [← h.isI hj 3 (.inl rfl)]; exact h3
      rw [decI, decI, e, h3, if_pos rfl, if_pos rfl, ← h.at_ j hl]
      split
      · exact sh_dec h f' g (j + 1) _ (by omega) (by omega) (by omega)
      · rfl
    | false =>
      have e : Am.isI s (i + j) 3 = false := by rw [← h.isI hj 3 (.inl rfl)]; exact h3
      have e2 : decI r (f' + 1) j n = sufI r j n := by rw [decI, h3]; rfl
      rw [e2]
      cases f with
      | zero => exact sh_suf h hj
      | succ f => rw [decI, e]; exact sh_suf h hj
theorem sh_endH (h : Run s r i) {j n : Nat} (hj : j ≤ r.length) : endH s (i + 2) (i + j) n = shI i (endH r 2 j n) := by
  unfold endH
  by_cases c : j = 2
  · rw [if_pos c, if_pos (by omega)]; rfl
  · rw [if_neg c, if_neg (by omega)]; exact sh_suf h hj
theorem hexT_out (h : Run s r i) : ¬ hexT (s.getD (i + r.length) 0).toNat < 16 := by
  intro q
  have hs := h.stop
  by_cases c : i + r.length < s.length
  · rw [isW_wb c] at hs
    have := hex_word s[i + r.length]
    rw [clsI_of s c] at q
    rw [decide_eq_true q, hs] at this
    cases this
  · rw [show s.getD (i + r.length) 0 = 0 by simp [List.getD, List.getElem?_eq_none (by omega : s.length ≤ i + r.length)]] at q
    exact absurd q (by decide)
theorem sh_hex (h : Run s r i) : ∀ (f' f j n : Nat), j ≤ r.length → r.length ≤ j + f' → s.length ≤ i + j + f → hexI s (i + 2) f (i + j) n = shI i (hexI r 2 f' j n)
  | 0, f, j, n, hj, h1, h2 => by
    have ej : j = r.length := by omega
    have e : ¬ hexT (s.getD (i + j) 0).toNat < 16 := by rw [ej]; exact hexT_out h
    have e3 : ∀ f, hexI s (i + 2) (f + 1) (i + j) n = endH s (i + 2) (i + j) n := fun f => by rw [hexI, if_neg e]
    cases f with
    | zero => exact sh_endH h hj
    | succ f => rw [e3]; exact sh_endH h hj
  | f' + 1, f, j, n, hj, h1, h2 => by
    have hle := h.le
    by_cases h16 : hexT (s.getD (i + j) 0).toNat < 16
    · have hl : j < r.length := by
        by_cases c : j < r.length
        · exact c
        · have ej : j = r.length := by omega
          rw [ej] at h16
          exact absurd h16 (hexT_out h)
      obtain ⟨g, rfl⟩ : ∃ g, f = g + 1 := ⟨f - 1, by omega⟩
      have e := h.at_ j hl
      rw [hexI, hexI, e, if_pos h16, if_pos h16]
      split
      · exact sh_hex h f' g (j + 1) _ (by omega) (by omega) (by omega)
      · rfl
    · have e2 : hexI r 2 (f' + 1) j n = endH r 2 j n := by
        rw [hexI, if_neg]
        by_cases c : j < r.length
        · rw [h.at_ j c]; exact h16
        · rw [show r.getD j 0 = 0 by simp [List.getD, List.getElem?_eq_none (by omega : r.length ≤ j)]]; decide
      rw [e2]
      cases f with
      | zero => exact sh_endH h hj
      | succ f => rw [hexI, if_neg h16]; exact sh_endH h hj
/-- An integer is told by its run. -/
theorem sh_int (h : Run s r i) (h3 : Am.isI s i 3 = true) : intI s i = shI i (intI r 0) := by
  have hle := h.le
  have hr : 0 < r.length := by
    by_cases c : 0 < r.length
    · exact c
    · have hs := h.stop
      rw [show i + r.length = i by omega] at hs
      rw [isW, h3] at hs
      simp at hs
  have a0 := h.at_ 0 hr
  rw [Nat.add_zero] at a0
  have hc : (s.getD i 0 = 48 ∧ i + 1 < s.length ∧ s.getD (i + 1) 0 = 120) ↔ (r.getD 0 0 = 48 ∧ 0 + 1 < r.length ∧ r.getD (0 + 1) 0 = 120) := by
    rw [a0]
    constructor
    · rintro ⟨p, q, t⟩
      have hl : 1 < r.length := by
        by_cases c : 1 < r.length
        · exact c
        · have hs := h.stop
          rw [show i + r.length = i + 1 by omega, isW_wb q] at hs
          rw [clsI_of s q] at t
          rw [t] at hs
          exact absurd hs (by decide)
      have a1 := h.at_ 1 hl
      exact ⟨p, hl, by rw [Nat.zero_add, a1]; exact t⟩
    · rintro ⟨p, q, t⟩
      rw [Nat.zero_add] at q t
      have a1 := h.at_ 1 q
      exact ⟨p, by omega, by rw [← a1]; exact t⟩
  unfold intI
  by_cases c : s.getD i 0 = 48 ∧ i + 1 < s.length ∧ s.getD (i + 1) 0 = 120
  · rw [if_pos c, if_pos (hc.mp c)]
    have l2 := (hc.mp c).2.1
    exact sh_hex h (r.length - 2) (s.length - (i + 2)) 2 0 (by omega) (by omega) (by omega)
  · rw [if_neg c, if_neg (fun q => c (hc.mpr q))]
    exact sh_dec h r.length (s.length - i) 0 0 (by omega) (by omega) (by omega)
end
theorem endI_W {s : List UInt8} {i n m e : Nat} (h : endI s i n = .good m e) : isW s e = false := by
  unfold endI at h
  split at h
  · cases h
  · rename_i hw; injection h with h1 h2; rw [← h2]; simpa using hw
theorem mulI_W {s : List UInt8} {i n f m e : Nat} (h : mulI s i n f = .good m e) : isW s e = false := by
  unfold mulI at h
  split at h
  · exact endI_W h
  · cases h
theorem sufI_W {s : List UInt8} {i n m e : Nat} (h : sufI s i n = .good m e) : isW s e = false := by
  unfold sufI at h
  split at h
  · split at h
    · exact mulI_W h
    · split at h
      · exact mulI_W h
      · cases h
  · exact endI_W h
theorem decI_W {s : List UInt8} : ∀ (f i n m e : Nat), decI s f i n = .good m e → isW s e = false
  | 0, i, n, m, e, h => sufI_W h
  | f + 1, i, n, m, e, h => by
    unfold decI at h
    split at h
    · split at h
      · exact decI_W f _ _ m e h
      · cases h
    · exact sufI_W h
theorem hexI_W {s : List UInt8} {fr : Nat} : ∀ (f i n m e : Nat), hexI s fr f i n = .good m e → isW s e = false
  | 0, i, n, m, e, h => by
    unfold hexI endH at h
    split at h
    · cases h
    · exact sufI_W h
  | f + 1, i, n, m, e, h => by
    unfold hexI at h
    split at h
    · split at h
      · exact hexI_W f _ _ m e h
      · cases h
    · unfold endH at h
      split at h
      · cases h
      · exact sufI_W h
theorem intI_W {s : List UInt8} {i m e : Nat} (h : intI s i = .good m e) : isW s e = false := by
  unfold intI at h
  split at h
  · exact hexI_W _ _ _ m e h
  · exact decI_W _ _ _ m e h
theorem endI_bad {s : List UInt8} {i n e : Nat} (h : endI s i n = .bad e) : e = i := by
  unfold endI at h
  split at h
  · injection h with h; exact h.symm
  · cases h
theorem mulI_bad {s : List UInt8} {i n f e : Nat} (hi : i < s.length) (h : mulI s i n f = .bad e) : e ≤ s.length := by
  unfold mulI at h
  split at h
  · have := endI_bad h; omega
  · injection h with h; omega
theorem sufI_bad {s : List UInt8} {i n e : Nat} (hi : i ≤ s.length) (h : sufI s i n = .bad e) : e ≤ s.length := by
  unfold sufI at h
  split at h
  · rename_i h4
    have := isI_lt h4
    split at h
    · exact mulI_bad this h
    · split at h
      · exact mulI_bad this h
      · injection h with h; omega
  · have := endI_bad h; omega
theorem decI_bad {s : List UInt8} : ∀ (f i n e : Nat), i ≤ s.length → decI s f i n = .bad e → e ≤ s.length
  | 0, i, n, e, hi, h => sufI_bad hi h
  | f + 1, i, n, e, hi, h => by
    unfold decI at h
    split at h
    · rename_i h3
      have := isI_lt h3
      split at h
      · exact decI_bad f (i + 1) _ e (by omega) h
      · injection h with h; omega
    · exact sufI_bad hi h
theorem hexI_bad {s : List UInt8} {fr : Nat} : ∀ (f i n e : Nat), i + f ≤ s.length → hexI s fr f i n = .bad e → e ≤ s.length
  | 0, i, n, e, hi, h => by
    unfold hexI endH at h
    split at h
    · injection h with h; omega
    · exact sufI_bad (by omega) h
  | f + 1, i, n, e, hi, h => by
    unfold hexI at h
    split at h
    · split at h
      · exact hexI_bad f (i + 1) _ e (by omega) h
      · injection h with h; omega
    · unfold endH at h
      split at h
      · injection h with h; omega
      · exact sufI_bad (by omega) h
theorem intI_bad_le {s : List UInt8} {i e : Nat} (hi : i < s.length) (h : intI s i = .bad e) : e ≤ s.length := by
  unfold intI at h
  split at h
  · rename_i c
    exact hexI_bad _ _ _ e (by omega) h
  · exact decI_bad _ _ _ e (by omega) h
/-- An integer ends where its run ends. -/
theorem int_end {s : List UInt8} {i m e : Nat} (hi : i < s.length) (h3 : isI s i 3 = true) (h : intI s i = .good m e) : e = runTo s (s.length - i) i := by
  obtain ⟨hr, hl⟩ := run_of s (i := i) (by omega)
  have g := runTo_ge s (s.length - i) i
  have hw := intI_W h
  obtain ⟨g1, g2⟩ := intI_good hi h3 h
  have hs := sh_int hr h3
  rw [h] at hs
  cases hq : intI ((s.take (runTo s (s.length - i) i)).drop i) 0 with
  | bad x => rw [hq] at hs; cases hs
  | good n x =>
    rw [hq] at hs
    injection hs with _ he
    have r3 : isI ((s.take (runTo s (s.length - i) i)).drop i) 0 3 = true := by rw [hr.isI (Nat.zero_le _) 3 (.inl rfl)]; exact h3
    obtain ⟨g3, g4⟩ := intI_good (isI_lt r3) r3 hq
    have := hr.ends (m := 0) (n := 0) (intI_W hq) g4
    omega
/-- A sign by its byte and the next. -/
def mt2 (u : UInt8) (v : Int) (z : List UInt8) : Bool :=
  match z with
  | [x] => decide (u = x)
  | [x, y] => decide (u = x) && decide (v = (y.toNat : Int))
  | _ => false
def okZ (z : List UInt8) : Bool := match z with | [_] => true | [_, y] => y == 46 || y == 61 || y == 60 || y == 62 | _ => false
theorem signs_ok : signsL.all okZ = true := by decide +kernel
theorem mtS_eq {s : List UInt8} {p : Nat} (hp : p < s.length) {z : List UInt8} (hz : okZ z = true) : mtS s p z = mt2 s[p] (nextB s p) z := by
  have hd : s.drop p = s[p] :: s.drop (p + 1) := List.drop_eq_getElem_cons hp
  unfold mtS mt2
  match z, hz with
  | [x], _ =>
    have e : (s.take (p + 1)).drop p = [s[p]] := by
      rw [List.drop_take, show p + 1 - p = 1 by omega, hd]; rfl
    simp only [List.length_cons, List.length_nil, Nat.zero_add]
    rw [decide_eq_true (show p + 1 ≤ s.length by omega), e, Bool.true_and]
    rw [Bool.eq_iff_iff]; simp
  | [x, y], hz =>
    simp only [List.length_cons, List.length_nil, Nat.zero_add]
    unfold nextB
    by_cases c : p + 1 < s.length
    · have hd2 : s.drop (p + 1) = s[p + 1] :: s.drop (p + 1 + 1) := List.drop_eq_getElem_cons c
      have e : (s.take (p + (1 + 1))).drop p = [s[p], s[p + 1]] := by
        rw [List.drop_take, show p + (1 + 1) - p = 2 by omega, hd, hd2]; rfl
      rw [decide_eq_true (show p + (1 + 1) ≤ s.length by omega), e, Bool.true_and, if_pos c, clsI_of s c]
      rw [Bool.eq_iff_iff]
      simp only [decide_eq_true_eq, Bool.and_eq_true, List.cons.injEq, and_true]
      constructor
      · rintro ⟨a, b⟩; exact ⟨a, by rw [b]⟩
      · rintro ⟨a, b⟩; exact ⟨a, UInt8.toNat_inj.mp (by omega)⟩
    · rw [decide_eq_false (show ¬ p + (1 + 1) ≤ s.length by omega), if_neg c]
      simp only [okZ, Bool.or_eq_true, beq_iff_eq] at hz
      have : ¬ (0 : Int) = (y.toNat : Int) := by rcases hz with ((rfl | rfl) | rfl) | rfl <;> decide
      rw [decide_eq_false this, Bool.and_false]; rfl
theorem bestS_eq {f g : List UInt8 → Bool} : ∀ (l : List (List UInt8)) (i : Nat) (b : Int), (∀ z ∈ l, f z = g z) → bestS f l i b = bestS g l i b
  | [], _, _, _ => rfl
  | z :: l, i, b, h => by
    unfold bestS
    rw [h z (List.mem_cons_self ..)]
    exact bestS_eq l _ _ fun y hy => h y (List.mem_cons_of_mem _ hy)
theorem signF_eq {f g : List UInt8 → Bool} {u : UInt8} (h : ∀ z ∈ signsL, f z = g z) : signF f u = signF g u := by
  unfold signF
  rw [bestS_eq signsL 0 (-1) h]
def vr (v : Int) : Int := if v = 46 ∨ v = 61 ∨ v = 60 ∨ v = 62 then v else 0
theorem mt2_vr {u : UInt8} {v : Int} {z : List UInt8} (hz : okZ z = true) : mt2 u v z = mt2 u (vr v) z := by
  unfold mt2
  match z, hz with
  | [x], _ => rfl
  | [x, y], hz =>
    simp only [okZ, Bool.or_eq_true, beq_iff_eq] at hz
    simp only
    congr 1
    have : (v = (y.toNat : Int)) ↔ (vr v = (y.toNat : Int)) := by
      have e46 : ((46 : UInt8).toNat : Int) = 46 := rfl
      have e61 : ((61 : UInt8).toNat : Int) = 61 := rfl
      have e60 : ((60 : UInt8).toNat : Int) = 60 := rfl
      have e62 : ((62 : UInt8).toNat : Int) = 62 := rfl
      unfold vr
      split
      · rfl
      · rcases hz with ((rfl | rfl) | rfl) | rfl <;> omega
    rw [Bool.eq_iff_iff]; simpa using this
theorem signR_vr (u v : Int) : signR u v = signR u (vr v) := by
  unfold vr
  split
  · rfl
  · rename_i h
    unfold signR
    have n46 : ¬ v = 46 := fun e => h (.inl e)
    have n61 : ¬ v = 61 := fun e => h (.inr (.inl e))
    have n60 : ¬ v = 60 := fun e => h (.inr (.inr (.inl e)))
    have n62 : ¬ v = 62 := fun e => h (.inr (.inr (.inr e)))
    simp [n46, n61, n60, n62]
/-- What both say of a sign by its byte and the next, where no integer, word or text begins. -/
def sgOk (u : UInt8) (v : Int) : Bool :=
  decide (clsI u = 3) || decide (clsI u = 4) || decide (clsI u = 5) ||
    (if clsI u = 6 then (if (signR (u.toNat : Int) v).1 = 0 then decide (signF (mt2 u v) u = (0, (signR (u.toNat : Int) v).2, false)) else decide (signF (mt2 u v) u = ((signR (u.toNat : Int) v).1, (signR (u.toNat : Int) v).2, true)))
     else decide (signF (mt2 u v) u = (0, 0, false)))
theorem sgOk_0 (u : UInt8) : sgOk u 0 = true := byte_all (p := fun u => sgOk u 0) (by decide +kernel) u
theorem sgOk_46 (u : UInt8) : sgOk u 46 = true := byte_all (p := fun u => sgOk u 46) (by decide +kernel) u
theorem sgOk_61 (u : UInt8) : sgOk u 61 = true := byte_all (p := fun u => sgOk u 61) (by decide +kernel) u
theorem sgOk_60 (u : UInt8) : sgOk u 60 = true := byte_all (p := fun u => sgOk u 60) (by decide +kernel) u
theorem sgOk_62 (u : UInt8) : sgOk u 62 = true := byte_all (p := fun u => sgOk u 62) (by decide +kernel) u
theorem sgOk_vr (u : UInt8) (v : Int) : sgOk u (vr v) = true := by
  unfold vr
  split
  · rename_i h
    rcases h with rfl | rfl | rfl | rfl
    · exact sgOk_46 u
    · exact sgOk_61 u
    · exact sgOk_60 u
    · exact sgOk_62 u
  · exact sgOk_0 u
/-- The reference's sign and the program's. -/
theorem sign_law {s : List UInt8} {p : Nat} (hp : p < s.length) (h3 : ¬ clsI s[p] = 3) (h4 : ¬ clsI s[p] = 4) (h5 : ¬ clsI s[p] = 5) :
    (∃ k l, lexI s p = .good ⟨k, 0, .empty, p, p + l⟩ ∧ signF (mtS s p) s[p] = (k, l, true)) ∨ (∃ l, lexI s p = .bad (p + l) ∧ signF (mtS s p) s[p] = (0, l, false)) := by
  have hall := fun z hz => List.all_eq_true.mp signs_ok z hz
  have e1 : signF (mtS s p) s[p] = signF (mt2 s[p] (vr (nextB s p))) s[p] := signF_eq fun z hz => by rw [mtS_eq hp (hall z hz), mt2_vr (hall z hz)]
  have e2 := signR_vr (s[p].toNat : Int) (nextB s p)
  have hk := sgOk_vr s[p] (nextB s p)
  rw [e1]
  generalize vr (nextB s p) = v at *
  unfold sgOk at hk
  rw [decide_eq_false h3, decide_eq_false h4, decide_eq_false h5] at hk
  simp only [Bool.false_or] at hk
  unfold lexI
  rw [clsI_of s hp, if_neg h3, if_neg h4, if_neg h5]
  by_cases c6 : clsI s[p] = 6
  · rw [if_pos c6] at hk ⊢
    unfold signI
    rw [clsI_of s hp, e2]
    by_cases c : (signR (s[p].toNat : Int) v).1 = 0
    · rw [if_pos c] at hk ⊢
      exact .inr ⟨_, rfl, of_decide_eq_true hk⟩
    · rw [if_neg c] at hk ⊢
      exact .inl ⟨_, _, rfl, of_decide_eq_true hk⟩
  · rw [if_neg c6] at hk ⊢
    exact .inr ⟨0, by rw [Nat.add_zero], of_decide_eq_true hk⟩
end Go.Am
