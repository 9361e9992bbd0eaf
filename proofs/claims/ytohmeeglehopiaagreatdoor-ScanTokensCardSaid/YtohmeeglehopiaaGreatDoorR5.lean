/- Rows with room behind them; rows that are the same. -/
import Derived.Test.YtohmeeglehopiaaGreatDoorR4
open Go.Proofs
namespace Go.Am
/-- A row of bytes that may be written. -/
def rowL (o : List UInt8) : Blk := ⟨o.map f8, true, 1, none⟩
theorem rowL_brow {H : Heap} {q : Nat} {o s : List UInt8} (h : H.get q = some (rowL o)) (hp : s <+: o) (hl : o.length < 9223372036854775808) : Brow H (some ⟨q, 0, none⟩) s := by
  obtain ⟨t, rfl⟩ := hp
  refine ⟨fun b hb => ?_, fun e => by simp at e, by simp at hl; omega⟩
  injection hb with hb
  subst hb
  refine ⟨rowL (s ++ t), by simp only [look, h]; rfl, rfl, by simp [rowL], ?_⟩
  have e : f8 = fun u : UInt8 => Value.int .u8 (u.toNat : Int) := rfl
  simp [rowL, e]
theorem make_rowL (H : Heap) (L : Nat) (hL : L ≤ 140737488355328) : makeSliceA PP 22 (.int .i64 (L : Int)) (.int .i64 (L : Int)) H = some (.slice (some ⟨H.next, 0, none⟩) L L, H.alloc 1 ((List.replicate L 0).map f8)) := by
  obtain ⟨i, h1, h2, h3⟩ := infoB
  simp only [makeSliceA, und34, h1, zeroB]
  have hz : zeroRow [.int .u8 0] (L * 1) = (List.replicate L 0).map f8 := by
    simp only [zeroRow, Nat.mul_one]
    rw [List.map_replicate]
    apply List.ext_getElem
    · simp
    · intro j h1 h2; simp [Nat.mod_one, f8]
  have hm : (0 : Int) ≤ (L : Int) ∧ (L : Int) ≤ (L : Int) ∧ (L : Int) ≤ most ∧ ((1 : Nat) : Int) * (L : Int) ≤ most := by unfold most; omega
  simp only [List.length_cons, List.length_nil, h2, h3, if_true, makeA, Nat.zero_add]
  rw [if_pos hm]
  simp only [Int.toNat_natCast, hz]
theorem get_alloc1 (H : Heap) (o : List UInt8) : (H.alloc 1 (o.map f8)).get H.next = some (rowL o) := by rw [Heap.get_alloc, if_pos rfl]; rfl
theorem store_rowL {H : Heap} {q i : Nat} {o : List UInt8} (h : H.get q = some (rowL o)) (hi : i < o.length) (u : UInt8) {n : Int} (hn : n = (u.toNat : Int)) : storeA PP 5 (.pointer (some ((⟨q, 0, none⟩ : Addr).add i))) (.int .u8 n) H = some (undef, H.set q (rowL (o.set i u))) := by
  subst hn
  have e : (⟨q, 0, none⟩ : Addr).add i = ⟨q, i, none⟩ := by rw [Addr.add_lit, Nat.zero_add]
  rw [e]
  simp only [storeA, size5, stV]
  have ho : over (o.map f8) i [.int .u8 (u.toNat : Int)] = (o.set i u).map f8 := by
    rw [List.map_set]
    unfold over
    rw [List.set_eq_take_append_cons_drop, if_pos (by simpa using hi)]
    simp [f8]
  simp [Value.cells, st, look, h, rowL, Value.oneCell', ho, Nat.succ_le_of_lt hi]
theorem set_fill (s : List UInt8) (x y : UInt8) (j k : Nat) : (s ++ (List.replicate j x ++ List.replicate (k + 1) y)).set (s.length + j) x = s ++ (List.replicate (j + 1) x ++ List.replicate k y) := by
  rw [List.set_append, if_neg (by omega), Nat.add_sub_cancel_left, List.set_append, if_neg (by simp), List.length_replicate, Nat.sub_self, List.replicate_succ, List.set_cons_zero, List.replicate_succ']
  simp
theorem copy_row {H : Heap} {q : Nat} {a : Option Addr} {s : List UInt8} {c k : Nat} (h : Brow H a s) (hq : H.get q = some (rowL (List.replicate (s.length + k) 0))) (kk : Value → Heap → R) :
    builtinK PP .copy #[22, 22] #[.slice (some ⟨q, 0, none⟩) (s.length + k) (s.length + k), .slice a s.length c] H kk = kk (.int .i64 (s.length : Int)) (if s.length = 0 then H else H.set q (rowL (s ++ List.replicate k 0))) := by
  have e : f8 = fun u : UInt8 => Value.int .u8 (u.toNat : Int) := rfl
  simp only [builtinK, copyA]
  cases a with
  | none =>
    have hs := h.nil rfl
    subst hs
    simp [srcCells, cpy, size5, bindV]
  | some a =>
    obtain ⟨x, h1, h2, h3, h4⟩ := h.row a rfl
    have hsrc : srcCells H 1 (.slice (some a) s.length c) = some (s.length, s.map f8) := by
      simp only [srcCells, h1, Nat.mul_one]
      rw [if_pos h3, h4, e]
    by_cases h0 : s.length = 0
    · rw [h0] at hsrc
      simp [hsrc, cpy, size5, bindV, h0]
    · have ht : (s.map f8).take s.length = s.map f8 := by
        have : (s.map f8).length = s.length := by simp
        rw [← this, List.take_length]
      have hall : (s.map f8).all Value.oneCell' = true := f8_plain s
      have ho : over ((List.replicate (s.length + k) (0 : UInt8)).map f8) 0 (s.map f8) = (s ++ List.replicate k 0).map f8 := by
        simp [over]
      have hst : st H ⟨q, 0, none⟩ (s.map f8) = some (undef, H.set q (rowL (s ++ List.replicate k 0))) := by
        simp only [st, look, hq]
        simp only [rowL] at *
        rw [if_pos ⟨trivial, by simp, hall⟩, ho]
      simp [hsrc, cpy, size5, bindV, h0, ht, hst]
theorem code22 : codeOf Tryz.f22 = .seq (.region 0 (rgn Tryz.f22 0) false) (.seq (.region 1 (rgn Tryz.f22 1) false) (.seq (.region 2 (rgn Tryz.f22 2) false) (.seq (.seq (.region 3 (rgn Tryz.f22 3) false) (.block 0 (.loop (.seq (.seq (.region 4 (rgn Tryz.f22 4) false) (.cond (.tmp 19) (.skip) (.exit 0))) (.seq (.block 1 (.region 6 (rgn Tryz.f22 6) false)) (.region 5 (rgn Tryz.f22 5) false)))))) (.seq (.region 7 (rgn Tryz.f22 7) false) (.ret))))) := by kernel_rfl
theorem code23 : codeOf Tryz.f23 = .seq (.region 0 (rgn Tryz.f23 0) false) (.seq (.seq (.region 1 (rgn Tryz.f23 1) false) (.cond (.tmp 22) (.seq (.region 2 (rgn Tryz.f23 2) false) (.ret)) (.skip))) (.seq (.seq (.region 3 (rgn Tryz.f23 3) false) (.block 0 (.loop (.seq (.seq (.region 4 (rgn Tryz.f23 4) false) (.cond (.tmp 28) (.skip) (.exit 0))) (.seq (.block 1 (.seq (.region 6 (rgn Tryz.f23 6) false) (.cond (.tmp 36) (.seq (.region 7 (rgn Tryz.f23 7) false) (.ret)) (.skip)))) (.region 5 (rgn Tryz.f23 5) false)))))) (.seq (.region 8 (rgn Tryz.f23 8) false) (.ret)))) := by kernel_rfl
theorem gd23_1_6 : ((rgn Tryz.f23 1)[6]?).bind (·.dst) = some 14 := by kernel_rfl
theorem code14 : codeOf Tryz.f14 = .seq (.region 0 (rgn Tryz.f14 0) false) (.seq (.seq (.region 1 (rgn Tryz.f14 1) false) (.cond (.tmp 10) (.seq (.region 2 (rgn Tryz.f14 2) false) (.ret)) (.skip))) (.seq (.seq (.region 3 (rgn Tryz.f14 3) false) (.block 0 (.loop (.seq (.seq (.region 4 (rgn Tryz.f14 4) false) (.cond (.tmp 14) (.skip) (.exit 0))) (.seq (.block 1 (.seq (.region 6 (rgn Tryz.f14 6) true) (.cond (.tmp 25) (.seq (.region 7 (rgn Tryz.f14 7) false) (.ret)) (.skip)))) (.region 5 (rgn Tryz.f14 5) false)))))) (.seq (.region 8 (rgn Tryz.f14 8) false) (.ret)))) := by kernel_rfl
theorem code10 : codeOf Tryz.f10 = .seq (.region 0 (rgn Tryz.f10 0) false) (.seq (.seq (.region 1 (rgn Tryz.f10 1) false) (.cond (.tmp 10) (.seq (.region 2 (rgn Tryz.f10 2) false) (.ret)) (.skip))) (.seq (.seq (.region 3 (rgn Tryz.f10 3) false) (.block 0 (.loop (.seq (.seq (.region 4 (rgn Tryz.f10 4) false) (.cond (.tmp 14) (.skip) (.exit 0))) (.seq (.block 1 (.seq (.region 6 (rgn Tryz.f10 6) true) (.cond (.tmp 25) (.seq (.region 7 (rgn Tryz.f10 7) false) (.ret)) (.skip)))) (.region 5 (rgn Tryz.f10 5) false)))))) (.seq (.region 8 (rgn Tryz.f10 8) false) (.ret)))) := by kernel_rfl
theorem code6 : codeOf Tryz.f6 = .seq (.region 0 (rgn Tryz.f6 0) false) (.seq (.region 1 (rgn Tryz.f6 1) false) (.seq (.seq (.region 2 (rgn Tryz.f6 2) false) (.cond (.tmp 14) (.region 3 (rgn Tryz.f6 3) false) (.skip))) (.seq (.region 4 (rgn Tryz.f6 4) false) (.ret)))) := by kernel_rfl

section
variable {K : Kf} {N : Nat} {Q : R → Prop} {k : KOE}
theorem ry_then {s : List UInt8} {q : Nat} {G : Heap} (hG : Fresh G) (hq0 : G.next ≤ q) (hs : s.length ≤ 140737488355000) : ∀ (n j m : Nat) (_ : j + n = 80) (_ : n < m) {H : Heap} {E : Env} (_ : Ext G H) (_ : q < H.next) (_ : H.get q = some (rowL (s ++ (List.replicate j 165 ++ List.replicate n 0)))) (_ : E 1 = .int .u8 165) (_ : E 5 = .slice (some ⟨q, 0, none⟩) (s.length + 80) (s.length + 80)) (_ : E 6 = .int .i64 ((s.length + j : Nat) : Int))
    (_ : ∀ E' H', E' 5 = .slice (some ⟨q, 0, none⟩) (s.length + 80) (s.length + 80) → Ext G H' → H'.get q = some (rowL (s ++ List.replicate 80 165)) → Q (k (.exit 0) E' [] H')), Q (loopE (execG PP XX K N noPr (.seq (.seq (.region 4 (rgn Tryz.f22 4) false) (.cond (.tmp 19) (.skip) (.exit 0))) (.seq (.block 1 (.region 6 (rgn Tryz.f22 6) false)) (.region 5 (rgn Tryz.f22 5) false))) none) m E [] H k)
  | 0, j, m + 1, hn, hm, H, E, x, hqn, h, e1, e5, e6, hx => by
    rw [loopE_succ]
    have hj : j = 80 := by omega
    subst hj
    have hlt : decide (((s.length + 80 : Nat) : Int) < ((s.length + 80 : Nat) : Int)) = false := decide_eq_false (by omega)
    have l4 := tl (rgn Tryz.f22 4)
    conv at l4 => rhs; simp only [rgn, opsAt, codeOf, Tryz.f22, gS, gN, reduceIte, Nat.reduceEqDiff, tA]
    simp (decide := true) only [↓execG_seq, ↓g_region, ↓execG_exit, ↓g_else, thenE_norm, thenE_exit, ↓r_nil, ↓r_cons, ↓o_move, ↓o_binOp, ↓o_builtin, nextE_app, putK_app, putG_bool, normK_app, evalE_tmp, upd_some, bindO_ok, reduceIte, map_one, ↓reg_lit l4, e5, e6, len_slice (ts := #[22]) rfl und34, binA_lss, hlt]
    refine hx _ H (by simp (decide := true) only [upd_some, reduceIte, e5]) x ?_
    simpa using h
  | n + 1, j, m + 1, hn, hm, H, E, x, hqn, h, e1, e5, e6, hx => by
    rw [loopE_succ]
    have hlt : decide (((s.length + j : Nat) : Int) < ((s.length + 80 : Nat) : Int)) = true := decide_eq_true (by omega)
    have hix := index_row (n := s.length + 80) (c := s.length + 80) (a := ⟨q, 0, none⟩) (j := s.length + j) (by omega)
    have w : IntKind.i64.wrap (((s.length + j : Nat) : Int) + 1) = ((s.length + (j + 1) : Nat) : Int) := by rw [wrap_i64 (by omega) (by omega)]; omega
    have hst := store_rowL h (i := s.length + j) (by simp) 165 (n := 165) rfl
    rw [set_fill] at hst
    have l4 := tl (rgn Tryz.f22 4)
    conv at l4 => rhs; simp only [rgn, opsAt, codeOf, Tryz.f22, gS, gN, reduceIte, Nat.reduceEqDiff, tA]
    have l5 := tl (rgn Tryz.f22 5)
    conv at l5 => rhs; simp only [rgn, opsAt, codeOf, Tryz.f22, gS, gN, reduceIte, Nat.reduceEqDiff, tA]
    have l6 := tl (rgn Tryz.f22 6)
    conv at l6 => rhs; simp only [rgn, opsAt, codeOf, Tryz.f22, gS, gN, reduceIte, Nat.reduceEqDiff, tA]
    simp (decide := true) only [↓execG_seq, ↓g_region, ↓execG_block, ↓execG_skip, ↓g_if, thenE_norm, leaveB_norm, ↓r_nil, ↓r_cons, ↓o_move, ↓o_assign, ↓o_store, ↓o_binOp, ↓o_indexAddr, ↓o_builtin, nextE_app, putK_app, putO_app, putG_bool, putG_int, normK_app, evalE_tmp, evalE_const, upd_some, upd_none, bindO_ok, bindV_ok, reduceIte, map_one, ↓reg_lit l4, ↓reg_lit l5, ↓reg_lit l6, e1, e5, e6, len_slice (ts := #[22]) rfl und34, binA_lss, hlt, hix, hst, binA_add, w]
    exact ry_then hG hq0 hs n (j + 1) m (by omega) (by omega) (x.set hq0 hG hqn _) hqn (get_self _ _ _) (by simp (decide := true) only [upd_some, reduceIte, e1]) (by simp (decide := true) only [upd_some, reduceIte, e5]) (by simp (decide := true) only [upd_some, reduceIte]) hx
end
theorem call_roomy {N : Nat} {hk : Hook} {d : Nat} {H : Heap} {a : Option Addr} {s : List UInt8} {c : Nat} (hh : ∀ f args H, okC f = true → hk f args H = none) (hf : Fresh H) (hr : Brow H a s) (hs : s.length ≤ 140737488355000) (hN : 100 < N) :
    ∃ H', Ext H H' ∧ H'.get H.next = some (rowL (s ++ List.replicate 80 165)) ∧ CG N hk (d + 1) 22 #[.slice a s.length c, .int .u8 165] H = some (.ret (.slice (some ⟨H.next, 0, none⟩) (s.length + 80) (s.length + 80)), H') := by
  have main : ∃ R0 : R, CG N hk (d + 1) 22 #[.slice a s.length c, .int .u8 165] H = R0 ∧ ∃ H', Ext H H' ∧ H'.get H.next = some (rowL (s ++ List.replicate 80 165)) ∧ R0 = some (.ret (.slice (some ⟨H.next, 0, none⟩) (s.length + 80) (s.length + 80)), H') := by
    refine ⟨_, callG_fn (hh _ _ _ rfl) Tryz.func22 (c := codeOf Tryz.f22) rfl rfl rfl (pr := noPr) rfl, ?_⟩
    rw [code22]
    generalize hF : finE PP Tryz.f22 = F
    have w : IntKind.i64.wrap ((s.length : Int) + 80) = ((s.length + 80 : Nat) : Int) := by rw [wrap_i64 (by omega) (by omega)]; omega
    have hmk := make_rowL H (s.length + 80) (by omega)
    have x1 : Ext H (H.alloc 1 ((List.replicate (s.length + 80) 0).map f8)) := Ext.alloc hf 1 _
    have g1 := get_alloc1 H (List.replicate (s.length + 80) 0)
    have hcp := fun kk => copy_row (k := 80) (c := c) (hr.ext x1) g1 kk
    have hb : H.next < (H.alloc 1 ((List.replicate (s.length + 80) 0).map f8)).next := by show H.next < H.next + 1; omega
    have x2 : Ext H (if s.length = 0 then (H.alloc 1 ((List.replicate (s.length + 80) 0).map f8)) else (H.alloc 1 ((List.replicate (s.length + 80) 0).map f8)).set H.next (rowL (s ++ List.replicate 80 0))) := by
      split
      · exact x1
      · exact x1.set (Nat.le_refl _) hf hb _
    have g2 : (if s.length = 0 then (H.alloc 1 ((List.replicate (s.length + 80) 0).map f8)) else (H.alloc 1 ((List.replicate (s.length + 80) 0).map f8)).set H.next (rowL (s ++ List.replicate 80 0))).get H.next = some (rowL (s ++ (List.replicate 0 165 ++ List.replicate 80 0))) := by
      split
      · rename_i h0
        rw [g1, List.length_eq_zero_iff.mp h0]; rfl
      · exact get_self _ _ _
    have b2 : H.next < (if s.length = 0 then (H.alloc 1 ((List.replicate (s.length + 80) 0).map f8)) else (H.alloc 1 ((List.replicate (s.length + 80) 0).map f8)).set H.next (rowL (s ++ List.replicate 80 0))).next := by
      split <;> exact hb
    generalize (if s.length = 0 then (H.alloc 1 ((List.replicate (s.length + 80) 0).map f8)) else (H.alloc 1 ((List.replicate (s.length + 80) 0).map f8)).set H.next (rowL (s ++ List.replicate 80 0))) = H2 at hcp x2 g2 b2
    have l0 := tl (rgn Tryz.f22 0)
    conv at l0 => rhs; simp only [rgn, opsAt, codeOf, Tryz.f22, gS, gN, reduceIte, Nat.reduceEqDiff, tA]
    have l1 := tl (rgn Tryz.f22 1)
    conv at l1 => rhs; simp only [rgn, opsAt, codeOf, Tryz.f22, gS, gN, reduceIte, Nat.reduceEqDiff, tA]
    have l2 := tl (rgn Tryz.f22 2)
    conv at l2 => rhs; simp only [rgn, opsAt, codeOf, Tryz.f22, gS, gN, reduceIte, Nat.reduceEqDiff, tA]
    have l3 := tl (rgn Tryz.f22 3)
    conv at l3 => rhs; simp only [rgn, opsAt, codeOf, Tryz.f22, gS, gN, reduceIte, Nat.reduceEqDiff, tA]
    have l7 := tl (rgn Tryz.f22 7)
    conv at l7 => rhs; simp only [rgn, opsAt, codeOf, Tryz.f22, gS, gN, reduceIte, Nat.reduceEqDiff, tA]
    simp (decide := true) only [↓execG_seq, ↓g_region, ↓execG_block, thenE_norm, ↓r_nil, ↓r_cons, ↓o_move, ↓o_assign, ↓o_binOp, ↓o_makeSlice, ↓o_builtin, nextE_app, putK_app, putG_int, normK_app, evalE_tmp, evalE_const, upd_some, bindO_ok, bindV_ok, reduceIte, map_one, map_two, startE_0, ↓reg_lit l0, ↓reg_lit l1, ↓reg_lit l2, ↓reg_lit l3, ↓execG_loop, len_slice (ts := #[22]) rfl und34, binA_add, w, hmk, hcp]
    refine ry_then (s := s) (q := H.next) (G := H) (Q := fun r => ∃ H', Ext H H' ∧ H'.get H.next = some (rowL (s ++ List.replicate 80 165)) ∧ r = some (.ret (.slice (some ⟨H.next, 0, none⟩) (s.length + 80) (s.length + 80)), H')) hf (Nat.le_refl _) hs 80 0 N rfl (by omega) x2 b2 g2 ?_ ?_ ?_ fun E' H' e5 x3 g3 => ?_
    · simp (decide := true) only [upd_some, reduceIte, startE_1]
    · simp (decide := true) only [upd_some, reduceIte]
    · simp (decide := true) only [upd_some, reduceIte, Nat.add_zero]
    · simp (decide := true) only [↓execG_seq, ↓g_region, ↓execG_ret, thenE_norm, g_leave, ↓r_nil, ↓r_cons, ↓o_move, ↓o_assign, nextE_app, normK_app, evalE_tmp, upd_some, reduceIte, ↓reg_lit l7, e5]
      refine ⟨H', x3, g3, ?_⟩
      rw [← hF, finE_ret (l := [.slice (some ⟨H.next, 0, none⟩) (s.length + 80) (s.length + 80)]) (by simp (decide := true) [Tryz.f22, resE, upd_some])]
      rfl
  obtain ⟨R0, m1, H', m2, m3, m4⟩ := main
  exact ⟨H', m2, m3, m1.trans m4⟩
section
variable {K : Kf} {N : Nat} {Q : R → Prop} {k : KOE} {H : Heap}
theorem sb_then {a b : Option Addr} {s : List UInt8} {c c' : Nat} (ha : Brow H a s) (hb : Brow H b s) (hs : s.length ≤ 140737488355328) : ∀ (n i m : Nat) (_ : i + n = s.length) (_ : n < m) {E : Env} (_ : E 0 = .slice a s.length c) (_ : E 1 = .slice b s.length c') (_ : E 5 = .int .i64 (i : Int))
    (_ : ∀ E', Q (k (.exit 0) E' [] H)), Q (loopE (execG PP XX K N noPr (.seq (.seq (.region 4 (rgn Tryz.f14 4) false) (.cond (.tmp 14) (.skip) (.exit 0))) (.seq (.block 1 (.seq (.region 6 (rgn Tryz.f14 6) true) (.cond (.tmp 25) (.seq (.region 7 (rgn Tryz.f14 7) false) (.ret)) (.skip)))) (.region 5 (rgn Tryz.f14 5) false))) none) m E [] H k)
  | 0, i, m + 1, hn, hm, E, e0, e1, e5, hx => by
    rw [loopE_succ]
    have hlt : decide ((i : Int) < (s.length : Int)) = false := decide_eq_false (by omega)
    have l4 := tl (rgn Tryz.f14 4)
    conv at l4 => rhs; simp only [rgn, opsAt, codeOf, Tryz.f14, gS, gN, reduceIte, Nat.reduceEqDiff, tA]
    simp (decide := true) only [↓execG_seq, ↓g_region, ↓execG_exit, ↓g_else, thenE_norm, thenE_exit, ↓r_nil, ↓r_cons, ↓o_move, ↓o_binOp, ↓o_builtin, nextE_app, putK_app, putG_bool, normK_app, evalE_tmp, upd_some, bindO_ok, reduceIte, map_one, ↓reg_lit l4, e0, e5, len_slice (ts := #[22]) rfl und34, binA_lss, hlt]
    exact hx _
  | n + 1, i, m + 1, hn, hm, E, e0, e1, e5, hx => by
    rw [loopE_succ]
    have hi : i < s.length := by omega
    have hlt : decide ((i : Int) < (s.length : Int)) = true := decide_eq_true (by omega)
    have w : IntKind.i64.wrap ((i : Int) + 1) = ((i + 1 : Nat) : Int) := by rw [wrap_i64 (by omega) (by omega)]; omega
    obtain ⟨y, rfl, hl⟩ := ha.bts.cell i hi
    obtain ⟨z, rfl, hl2⟩ := hb.bts.cell i hi
    have hix := index_row (n := s.length) (c := c) (a := y) hi
    have hix2 := index_row (n := s.length) (c := c') (a := z) hi
    have hne : ((s[i].toNat : Int) != (s[i].toNat : Int)) = false := by simp
    have l4 := tl (rgn Tryz.f14 4)
    conv at l4 => rhs; simp only [rgn, opsAt, codeOf, Tryz.f14, gS, gN, reduceIte, Nat.reduceEqDiff, tA]
    have l5 := tl (rgn Tryz.f14 5)
    conv at l5 => rhs; simp only [rgn, opsAt, codeOf, Tryz.f14, gS, gN, reduceIte, Nat.reduceEqDiff, tA]
    have l6 := tl (rgn Tryz.f14 6)
    conv at l6 => rhs; simp only [rgn, opsAt, codeOf, Tryz.f14, gS, gN, reduceIte, Nat.reduceEqDiff, tA]
    simp (decide := true) only [↓execG_seq, ↓g_region, ↓execG_block, ↓execG_skip, ↓g_if, ↓g_else, thenE_norm, leaveB_norm, ↓r_nil, ↓r_cons, ↓o_move, ↓o_assign, ↓o_load, ↓o_binOp, ↓o_indexAddr, ↓o_builtin, nextE_app, putK_app, putO_app, putG_bool, putG_int, normK_app, evalE_tmp, evalE_const, upd_some, bindO_ok, bindV_ok, reduceIte, map_one, ↓reg_lit l4, ↓reg_lit l5, ↓reg_lit l6, e0, e1, e5, len_slice (ts := #[22]) rfl und34, binA_lss, hlt, hix, load_byte hl, hix2, load_byte hl2, binA_neq, hne, binA_add, w]
    exact sb_then (c := c) (c' := c') ha hb hs n (i + 1) m (by omega) (by omega) (by simp (decide := true) only [upd_some, reduceIte, e0]) (by simp (decide := true) only [upd_some, reduceIte, e1]) (by simp (decide := true) only [upd_some, reduceIte]) hx
end
theorem call_sameb {N : Nat} {hk : Hook} {d : Nat} {H : Heap} {a b : Option Addr} {s : List UInt8} {c c' : Nat} (hh : ∀ f args H, okC f = true → hk f args H = none) (ha : Brow H a s) (hb : Brow H b s) (hs : s.length ≤ 140737488355328) (hN : s.length < N) :
    CG N hk (d + 1) 14 #[.slice a s.length c, .slice b s.length c'] H = some (.ret (.bool true), H) := by
  have main : ∃ R0 : R, CG N hk (d + 1) 14 #[.slice a s.length c, .slice b s.length c'] H = R0 ∧ R0 = some (.ret (.bool true), H) := by
    refine ⟨_, callG_fn (hh _ _ _ rfl) Tryz.func14 (c := codeOf Tryz.f14) rfl rfl rfl (pr := noPr) rfl, ?_⟩
    rw [code14]
    generalize hF : finE PP Tryz.f14 = F
    have hne : ((s.length : Int) != (s.length : Int)) = false := by simp
    have l0 := tl (rgn Tryz.f14 0)
    conv at l0 => rhs; simp only [rgn, opsAt, codeOf, Tryz.f14, gS, gN, reduceIte, Nat.reduceEqDiff, tA]
    have l1 := tl (rgn Tryz.f14 1)
    conv at l1 => rhs; simp only [rgn, opsAt, codeOf, Tryz.f14, gS, gN, reduceIte, Nat.reduceEqDiff, tA]
    have l3 := tl (rgn Tryz.f14 3)
    conv at l3 => rhs; simp only [rgn, opsAt, codeOf, Tryz.f14, gS, gN, reduceIte, Nat.reduceEqDiff, tA]
    have l8 := tl (rgn Tryz.f14 8)
    conv at l8 => rhs; simp only [rgn, opsAt, codeOf, Tryz.f14, gS, gN, reduceIte, Nat.reduceEqDiff, tA]
    simp (decide := true) only [↓execG_seq, ↓g_region, ↓execG_block, ↓execG_skip, ↓g_else, thenE_norm, ↓r_nil, ↓r_cons, ↓o_move, ↓o_assign, ↓o_binOp, ↓o_builtin, nextE_app, putK_app, putG_bool, normK_app, evalE_tmp, evalE_const, upd_some, bindO_ok, reduceIte, map_one, startE_0, startE_1, ↓reg_lit l0, ↓reg_lit l1, ↓reg_lit l3, ↓execG_loop, len_slice (ts := #[22]) rfl und34, binA_neq, hne]
    refine sb_then (Q := fun r => r = some (.ret (.bool true), H)) ha hb hs s.length 0 N (by omega) hN (c := c) (c' := c') ?_ ?_ ?_ fun E' => ?_
    · simp (decide := true) only [upd_some, reduceIte, startE_0]
    · simp (decide := true) only [upd_some, reduceIte, startE_1]
    · simp (decide := true) only [upd_some, reduceIte]; rfl
    · simp (decide := true) only [↓execG_seq, ↓g_region, ↓execG_ret, thenE_norm, g_leave, ↓r_nil, ↓r_cons, ↓o_assign, nextE_app, normK_app, evalE_const, ↓reg_lit l8]
      rw [← hF, finE_ret (l := [.bool true]) (by simp (decide := true) [Tryz.f14, resE, upd_some])]
      rfl
  obtain ⟨R0, m1, m2⟩ := main
  exact m1.trans m2
theorem flat_at : ∀ (ts : List Tk) (i : Nat) (h : i < ts.length), ((ts.flatMap Tk.cells).drop (i * 5)).take 5 = ts[i].cells
  | t :: ts, 0, h => by simp [List.flatMap_cons, Tk.cells]
  | t :: ts, i + 1, h => by
    have e : (i + 1) * 5 = t.cells.length + i * 5 := by simp [Tk.cells]; omega
    rw [List.flatMap_cons, e, ← List.drop_drop, List.drop_left]
    exact flat_at ts i (by simpa using h)
theorem load_tkrow {H : Heap} {q : Nat} {ts : List Tk} (h : H.get q = some ⟨ts.flatMap Tk.cells, true, 5, none⟩) {i : Nat} (hi : i < ts.length) : loadA PP 42 (.pointer (some ⟨q, i * 5, none⟩)) H = some (.agg #[.int .i64 ts[i].kind, .int .u64 ts[i].n, .string ts[i].w, .int .i64 (ts[i].from_ : Int), .int .i64 (ts[i].to_ : Int)], H) := by
  have hl := cells_len ts
  simp only [loadA, agg29, size29]
  simp only [ldN, look, h]
  rw [if_pos (by omega), flat_at ts i hi]
  rfl
theorem index_toks {q i n : Nat} (h : i < n) : indexAddrA PP 33 (.slice (some ⟨q, 0, none⟩) n n) (.int .i64 (i : Int)) = some (.pointer (some ⟨q, i * 5, none⟩)) := by
  have e : (⟨q, 0, none⟩ : Addr).add (i * 5) = ⟨q, i * 5, none⟩ := by rw [Addr.add_lit, Nat.zero_add]
  simp [indexAddrA, size29, at_, e]
  omega
section
variable {K : Kf} {N : Nat} {Q : R → Prop} {k : KOE} {H : Heap}
theorem st_then {p q : Nat} {ts : List Tk} (hp : H.get p = some ⟨ts.flatMap Tk.cells, true, 5, none⟩) (hq : H.get q = some ⟨ts.flatMap Tk.cells, true, 5, none⟩) (hs : ts.length ≤ 140737488355328) : ∀ (n i m : Nat) (_ : i + n = ts.length) (_ : n < m) {E : Env} (_ : E 0 = .slice (some ⟨p, 0, none⟩) ts.length ts.length) (_ : E 1 = .slice (some ⟨q, 0, none⟩) ts.length ts.length) (_ : E 5 = .int .i64 (i : Int))
    (_ : ∀ E', Q (k (.exit 0) E' [] H)), Q (loopE (execG PP XX K N noPr (.seq (.seq (.region 4 (rgn Tryz.f10 4) false) (.cond (.tmp 14) (.skip) (.exit 0))) (.seq (.block 1 (.seq (.region 6 (rgn Tryz.f10 6) true) (.cond (.tmp 25) (.seq (.region 7 (rgn Tryz.f10 7) false) (.ret)) (.skip)))) (.region 5 (rgn Tryz.f10 5) false))) none) m E [] H k)
  | 0, i, m + 1, hn, hm, E, e0, e1, e5, hx => by
    rw [loopE_succ]
    have hlt : decide ((i : Int) < (ts.length : Int)) = false := decide_eq_false (by omega)
    have l4 := tl (rgn Tryz.f10 4)
    conv at l4 => rhs; simp only [rgn, opsAt, codeOf, Tryz.f10, gS, gN, reduceIte, Nat.reduceEqDiff, tA]
    simp (decide := true) only [↓execG_seq, ↓g_region, ↓execG_exit, ↓g_else, thenE_norm, thenE_exit, ↓r_nil, ↓r_cons, ↓o_move, ↓o_binOp, ↓o_builtin, nextE_app, putK_app, putG_bool, normK_app, evalE_tmp, upd_some, bindO_ok, reduceIte, map_one, ↓reg_lit l4, e0, e5, len_toks, binA_lss, hlt]
    exact hx _
  | n + 1, i, m + 1, hn, hm, E, e0, e1, e5, hx => by
    rw [loopE_succ]
    have hi : i < ts.length := by omega
    have hlt : decide ((i : Int) < (ts.length : Int)) = true := decide_eq_true (by omega)
    have w : IntKind.i64.wrap ((i : Int) + 1) = ((i + 1 : Nat) : Int) := by rw [wrap_i64 (by omega) (by omega)]; omega
    have hix := fun q => index_toks (q := q) hi
    have hl1 := load_tkrow hp hi
    have hl2 := load_tkrow hq hi
    have l4 := tl (rgn Tryz.f10 4)
    conv at l4 => rhs; simp only [rgn, opsAt, codeOf, Tryz.f10, gS, gN, reduceIte, Nat.reduceEqDiff, tA]
    have l5 := tl (rgn Tryz.f10 5)
    conv at l5 => rhs; simp only [rgn, opsAt, codeOf, Tryz.f10, gS, gN, reduceIte, Nat.reduceEqDiff, tA]
    have l6 := tl (rgn Tryz.f10 6)
    conv at l6 => rhs; simp only [rgn, opsAt, codeOf, Tryz.f10, gS, gN, reduceIte, Nat.reduceEqDiff, tA]
    simp (decide := true) only [↓execG_seq, ↓g_region, ↓execG_block, ↓execG_skip, ↓g_if, ↓g_else, thenE_norm, leaveB_norm, ↓r_nil, ↓r_cons, ↓o_move, ↓o_assign, ↓o_load, ↓o_binOp, ↓o_indexAddr, ↓o_builtin, nextE_app, putK_app, putO_app, putG_bool, putG_int, normK_app, evalE_tmp, evalE_const, upd_some, bindO_ok, bindV_ok, reduceIte, map_one, ↓reg_lit l4, ↓reg_lit l5, ↓reg_lit l6, e0, e1, e5, len_toks, binA_lss, hlt, hix, hl1, hl2, binA_toks, binA_add, w]
    exact st_then hp hq hs n (i + 1) m (by omega) (by omega) (by simp (decide := true) only [upd_some, reduceIte, e0]) (by simp (decide := true) only [upd_some, reduceIte, e1]) (by simp (decide := true) only [upd_some, reduceIte]) hx
end
theorem call_samet {N : Nat} {hk : Hook} {d : Nat} {H : Heap} {v w : Value} {ts : List Tk} {lo lo' : Nat} (hh : ∀ f args H, okC f = true → hk f args H = none) (ha : TkRow H v ts lo) (hb : TkRow H w ts lo') (hs : ts.length ≤ 140737488355328) (hN : ts.length < N) :
    CG N hk (d + 1) 10 #[v, w] H = some (.ret (.bool true), H) := by
  have main : ∃ R0 : R, CG N hk (d + 1) 10 #[v, w] H = R0 ∧ R0 = some (.ret (.bool true), H) := by
    refine ⟨_, callG_fn (hh _ _ _ rfl) Tryz.func10 (c := codeOf Tryz.f10) rfl rfl rfl (pr := noPr) rfl, ?_⟩
    rw [code10]
    generalize hF : finE PP Tryz.f10 = F
    rcases ha with ⟨rfl, rfl⟩ | ⟨hne, p, rfl, hp, _⟩
    · rcases hb with ⟨_, rfl⟩ | ⟨hne, _⟩
      · have hq : ((0 : Nat) : Int) = 0 := rfl
        obtain ⟨M, rfl⟩ : ∃ q, N = q + 1 := ⟨N - 1, by omega⟩
        have hlt : decide ((0 : Int) < ((0 : Nat) : Int)) = false := rfl
        have hne : (((0 : Nat) : Int) != ((0 : Nat) : Int)) = false := rfl
        have l0 := tl (rgn Tryz.f10 0)
        conv at l0 => rhs; simp only [rgn, opsAt, codeOf, Tryz.f10, gS, gN, reduceIte, Nat.reduceEqDiff, tA]
        have l1 := tl (rgn Tryz.f10 1)
        conv at l1 => rhs; simp only [rgn, opsAt, codeOf, Tryz.f10, gS, gN, reduceIte, Nat.reduceEqDiff, tA]
        have l3 := tl (rgn Tryz.f10 3)
        conv at l3 => rhs; simp only [rgn, opsAt, codeOf, Tryz.f10, gS, gN, reduceIte, Nat.reduceEqDiff, tA]
        have l4 := tl (rgn Tryz.f10 4)
        conv at l4 => rhs; simp only [rgn, opsAt, codeOf, Tryz.f10, gS, gN, reduceIte, Nat.reduceEqDiff, tA]
        have l8 := tl (rgn Tryz.f10 8)
        conv at l8 => rhs; simp only [rgn, opsAt, codeOf, Tryz.f10, gS, gN, reduceIte, Nat.reduceEqDiff, tA]
        simp (decide := true) only [↓execG_seq, ↓g_region, ↓execG_block, ↓execG_ret, ↓execG_skip, ↓execG_exit, ↓g_else, thenE_norm, thenE_exit, g_leave, ↓r_nil, ↓r_cons, ↓o_move, ↓o_assign, ↓o_binOp, ↓o_builtin, nextE_app, putK_app, putG_bool, normK_app, evalE_tmp, evalE_const, upd_some, bindO_ok, reduceIte, map_one, startE_0, startE_1, ↓reg_lit l0, ↓reg_lit l1, ↓reg_lit l3, ↓reg_lit l4, ↓reg_lit l8, ↓execG_loop, ↓loopE_succ, len_toks, binA_neq, hne, binA_lss, dF]
        rw [← hF, finE_ret (l := [.bool true]) (by simp (decide := true) [Tryz.f10, resE, upd_some])]
        rfl
      · exact absurd rfl hne
    · rcases hb with ⟨rfl, _⟩ | ⟨_, q, rfl, hq, _⟩
      · exact absurd rfl hne
      · have hne : ((ts.length : Int) != (ts.length : Int)) = false := by simp
        have l0 := tl (rgn Tryz.f10 0)
        conv at l0 => rhs; simp only [rgn, opsAt, codeOf, Tryz.f10, gS, gN, reduceIte, Nat.reduceEqDiff, tA]
        have l1 := tl (rgn Tryz.f10 1)
        conv at l1 => rhs; simp only [rgn, opsAt, codeOf, Tryz.f10, gS, gN, reduceIte, Nat.reduceEqDiff, tA]
        have l3 := tl (rgn Tryz.f10 3)
        conv at l3 => rhs; simp only [rgn, opsAt, codeOf, Tryz.f10, gS, gN, reduceIte, Nat.reduceEqDiff, tA]
        have l8 := tl (rgn Tryz.f10 8)
        conv at l8 => rhs; simp only [rgn, opsAt, codeOf, Tryz.f10, gS, gN, reduceIte, Nat.reduceEqDiff, tA]
        simp (decide := true) only [↓execG_seq, ↓g_region, ↓execG_block, ↓execG_skip, ↓g_else, thenE_norm, ↓r_nil, ↓r_cons, ↓o_move, ↓o_assign, ↓o_binOp, ↓o_builtin, nextE_app, putK_app, putG_bool, normK_app, evalE_tmp, evalE_const, upd_some, bindO_ok, reduceIte, map_one, startE_0, startE_1, ↓reg_lit l0, ↓reg_lit l1, ↓reg_lit l3, ↓execG_loop, len_toks, binA_neq, hne]
        refine st_then (Q := fun r => r = some (.ret (.bool true), H)) hp hq hs ts.length 0 N (by omega) hN ?_ ?_ ?_ fun E' => ?_
        · simp (decide := true) only [upd_some, reduceIte, startE_0]
        · simp (decide := true) only [upd_some, reduceIte, startE_1]
        · simp (decide := true) only [upd_some, reduceIte]; rfl
        · simp (decide := true) only [↓execG_seq, ↓g_region, ↓execG_ret, thenE_norm, g_leave, ↓r_nil, ↓r_cons, ↓o_assign, nextE_app, normK_app, evalE_const, ↓reg_lit l8]
          rw [← hF, finE_ret (l := [.bool true]) (by simp (decide := true) [Tryz.f10, resE, upd_some])]
          rfl
  obtain ⟨R0, m1, m2⟩ := main
  exact m1.trans m2
section
variable {K : Kf} {N : Nat} {Q : R → Prop} {k : KOE} {H : Heap}
theorem in_then' {q : Nat} {s : List UInt8} (hq : H.get q = some (rowL (s ++ List.replicate 80 165))) (hs : s.length ≤ 140737488355000) : ∀ (n j m : Nat) (_ : j + n = 80) (_ : n < m) {E : Env} (_ : E 0 = .slice (some ⟨q, 0, none⟩) (s.length + 80) (s.length + 80)) (_ : E 2 = .int .u8 165) (_ : E 7 = .int .i64 ((s.length + j : Nat) : Int))
    (_ : ∀ E', Q (k (.exit 0) E' [] H)), Q (loopE (execG PP XX K N noPr (.seq (.seq (.region 4 (rgn Tryz.f23 4) false) (.cond (.tmp 28) (.skip) (.exit 0))) (.seq (.block 1 (.seq (.region 6 (rgn Tryz.f23 6) false) (.cond (.tmp 36) (.seq (.region 7 (rgn Tryz.f23 7) false) (.ret)) (.skip)))) (.region 5 (rgn Tryz.f23 5) false))) none) m E [] H k)
  | 0, j, m + 1, hn, hm, E, e0, e2, e7, hx => by
    rw [loopE_succ]
    have hlt : decide (((s.length + j : Nat) : Int) < ((s.length + 80 : Nat) : Int)) = false := decide_eq_false (by omega)
    have l4 := tl (rgn Tryz.f23 4)
    conv at l4 => rhs; simp only [rgn, opsAt, codeOf, Tryz.f23, gS, gN, reduceIte, Nat.reduceEqDiff, tA]
    simp (decide := true) only [↓execG_seq, ↓g_region, ↓execG_exit, ↓g_else, thenE_norm, thenE_exit, ↓r_nil, ↓r_cons, ↓o_move, ↓o_binOp, ↓o_builtin, nextE_app, putK_app, putG_bool, normK_app, evalE_tmp, upd_some, bindO_ok, reduceIte, map_one, ↓reg_lit l4, e0, e7, len_slice (ts := #[22]) rfl und34, binA_lss, hlt]
    exact hx _
  | n + 1, j, m + 1, hn, hm, E, e0, e2, e7, hx => by
    rw [loopE_succ]
    have hl : (s ++ List.replicate 80 (165 : UInt8)).length = s.length + 80 := by simp
    have hb := rowL_brow hq List.prefix_rfl (by rw [hl]; omega)
    have hi : s.length + j < (s ++ List.replicate 80 (165 : UInt8)).length := by omega
    have hlt : decide (((s.length + j : Nat) : Int) < ((s.length + 80 : Nat) : Int)) = true := decide_eq_true (by omega)
    have w : IntKind.i64.wrap (((s.length + j : Nat) : Int) + 1) = ((s.length + (j + 1) : Nat) : Int) := by rw [wrap_i64 (by omega) (by omega)]; omega
    obtain ⟨y, hy, hld⟩ := hb.bts.cell (s.length + j) hi
    injection hy with hy
    subst hy
    have hv : (s ++ List.replicate 80 (165 : UInt8))[s.length + j] = 165 := by
      rw [List.getElem_append_right (by omega)]; exact List.getElem_replicate ..
    rw [hv] at hld
    have hix := index_row (n := s.length + 80) (c := s.length + 80) (a := ⟨q, 0, none⟩) (j := s.length + j) (by omega)
    have hld' := load_byte hld
    have h165 : (((165 : UInt8).toNat : Int)) = 165 := rfl
    rw [h165] at hld'
    have hne : ((165 : Int) != 165) = false := rfl
    have l4 := tl (rgn Tryz.f23 4)
    conv at l4 => rhs; simp only [rgn, opsAt, codeOf, Tryz.f23, gS, gN, reduceIte, Nat.reduceEqDiff, tA]
    have l5 := tl (rgn Tryz.f23 5)
    conv at l5 => rhs; simp only [rgn, opsAt, codeOf, Tryz.f23, gS, gN, reduceIte, Nat.reduceEqDiff, tA]
    have l6 := tl (rgn Tryz.f23 6)
    conv at l6 => rhs; simp only [rgn, opsAt, codeOf, Tryz.f23, gS, gN, reduceIte, Nat.reduceEqDiff, tA]
    simp (decide := true) only [↓execG_seq, ↓g_region, ↓execG_block, ↓execG_skip, ↓g_if, ↓g_else, thenE_norm, leaveB_norm, ↓r_nil, ↓r_cons, ↓o_move, ↓o_assign, ↓o_load, ↓o_binOp, ↓o_indexAddr, ↓o_builtin, nextE_app, putK_app, putO_app, putG_bool, putG_int, normK_app, evalE_tmp, evalE_const, upd_some, bindO_ok, bindV_ok, reduceIte, map_one, ↓reg_lit l4, ↓reg_lit l5, ↓reg_lit l6, e0, e2, e7, len_slice (ts := #[22]) rfl und34, binA_lss, hlt, hix, hld', binA_neq, hne, binA_add, w]
    exact in_then' hq hs n (j + 1) m (by omega) (by omega) (by simp (decide := true) only [upd_some, reduceIte, e0]) (by simp (decide := true) only [upd_some, reduceIte, e2]) (by simp (decide := true) only [upd_some, reduceIte]) hx
end
theorem slice_to {H : Heap} {q : Nat} {o : List UInt8} {c : Nat} (h : H.get q = some (rowL o)) {n k : Nat} (hk : k ≤ c) : sliceOpA PP 22 (.slice (some ⟨q, 0, none⟩) n c) none (some (.int .i64 (k : Int))) none H = some (.slice (some ⟨q, 0, none⟩) k c) := by
  have hl : look H ⟨q, 0, none⟩ = some (rowL o) := by simp only [look, h]; rfl
  have e : (⟨q, 0, none⟩ : Addr).add 0 = ⟨q, 0, none⟩ := rfl
  simp only [sliceOpA, und34, size5, sliceA, hl]
  rw [if_pos ⟨by omega, by omega, by omega⟩]
  simp [rowL, e]
theorem call_intact {N : Nat} {hk : Hook} {d : Nat} {H : Heap} {q : Nat} {a : Option Addr} {s : List UInt8} {c : Nat} (hh : ∀ f args H, okC f = true → hk f args H = none) (hq : H.get q = some (rowL (s ++ List.replicate 80 165))) (hr : Brow H a s) (hs : s.length ≤ 140737488355000) (hN : s.length + 100 < N) :
    CG N hk (d + 2) 23 #[.slice (some ⟨q, 0, none⟩) (s.length + 80) (s.length + 80), .slice a s.length c, .int .u8 165] H = some (.ret (.bool true), H) := by
  have main : ∃ R0 : R, CG N hk (d + 2) 23 #[.slice (some ⟨q, 0, none⟩) (s.length + 80) (s.length + 80), .slice a s.length c, .int .u8 165] H = R0 ∧ R0 = some (.ret (.bool true), H) := by
    refine ⟨_, callG_fn (hh _ _ _ rfl) Tryz.func23 (c := codeOf Tryz.f23) rfl rfl rfl (pr := noPr) rfl, ?_⟩
    rw [code23]
    generalize hF : finE PP Tryz.f23 = F
    have w : IntKind.i64.wrap ((s.length : Int) + 80) = ((s.length + 80 : Nat) : Int) := by rw [wrap_i64 (by omega) (by omega)]; omega
    have hne : (((s.length + 80 : Nat) : Int) != ((s.length + 80 : Nat) : Int)) = false := by simp
    have hsl := slice_to hq (n := s.length + 80) (c := s.length + 80) (k := s.length) (by omega)
    have hb := rowL_brow hq (s := s) (List.prefix_append _ _) (by simp; omega)
    have hsm := call_sameb (N := N) (hk := hk) (d := d) (c := s.length + 80) (c' := c) hh hb hr (by omega) (by omega)
    have l0 := tl (rgn Tryz.f23 0)
    conv at l0 => rhs; simp only [rgn, opsAt, codeOf, Tryz.f23, gS, gN, reduceIte, Nat.reduceEqDiff, tA]
    have l1 := tl (rgn Tryz.f23 1)
    conv at l1 => rhs; simp only [rgn, opsAt, codeOf, Tryz.f23, gS, gN, reduceIte, Nat.reduceEqDiff, tA]
    have l3 := tl (rgn Tryz.f23 3)
    conv at l3 => rhs; simp only [rgn, opsAt, codeOf, Tryz.f23, gS, gN, reduceIte, Nat.reduceEqDiff, tA]
    have l8 := tl (rgn Tryz.f23 8)
    conv at l8 => rhs; simp only [rgn, opsAt, codeOf, Tryz.f23, gS, gN, reduceIte, Nat.reduceEqDiff, tA]
    simp (decide := true) only [↓execG_seq, ↓g_region, ↓execG_block, ↓execG_skip, ↓g_else, thenE_norm, ↓r_nil, ↓r_cons, ↓o_move, ↓o_assign, ↓o_pickf, ↓o_binOp, ↓o_unOp, ↓o_slice, ↓o_builtin, ↓o_callf, nextE_app, putK_app, putO_app, putG_bool, putG_int, normK_app, evalE_tmp, evalE_const, upd_some, bindO_ok, reduceIte, map_one, map_two, startE_0, startE_1, ↓reg_lit l0, ↓reg_lit l1, ↓reg_lit l3, ↓r_yes _ 6 false 14 _ gd23_1_6, ↓execG_loop, len_slice (ts := #[22]) rfl und34, binA_add, w, binA_neq, hne, ↓Option.map_some, ↓Option.map_none, hsl, callK_fn Tryz.func14 rfl rfl hsm, not_t]
    refine in_then' (Q := fun r => r = some (.ret (.bool true), H)) hq hs 80 0 N rfl (by omega) ?_ ?_ ?_ fun E' => ?_
    · simp (decide := true) only [upd_some, reduceIte, startE_0]
    · simp (decide := true) only [upd_some, reduceIte, startE_2]
    · simp (decide := true) only [upd_some, reduceIte, Nat.add_zero]
    · simp (decide := true) only [↓execG_seq, ↓g_region, ↓execG_ret, thenE_norm, g_leave, ↓r_nil, ↓r_cons, ↓o_assign, nextE_app, normK_app, evalE_const, ↓reg_lit l8]
      rw [← hF, finE_ret (l := [.bool true]) (by simp (decide := true) [Tryz.f23, resE, upd_some])]
      rfl
  obtain ⟨R0, m1, m2⟩ := main
  exact m1.trans m2
theorem binA_rem {P : Program} {t : TypeId} {x y : Operand} {i : IntKind} {a b : Int} (h : b ≠ 0) : binA P .rem t x y (.int i a) (.int i b) = some (.int i (a.tmod b)) := by simp [binA, ground, atomic, eqGuard, binOp, Op.intDiv, h]; rfl
/-- A place within a text. -/
theorem call_within {N : Nat} {hk : Hook} {d : Nat} {H : Heap} (n : Int) (L : Nat) (hL : L ≤ 140737488355328) (hh : ∀ f args H, okC f = true → hk f args H = none) :
    ∃ x : Nat, x ≤ L ∧ CG N hk (d + 1) 6 #[.int .i64 n, .int .i64 0, .int .i64 (L : Int)] H = some (.ret (.int .i64 (x : Int)), H) := by
  have w1 : IntKind.i64.wrap ((L : Int) - 0) = (L : Int) := by rw [wrap_i64 (by omega) (by omega)]; omega
  have w2 : IntKind.i64.wrap ((L : Int) + 1) = ((L + 1 : Nat) : Int) := by rw [wrap_i64 (by omega) (by omega)]; omega
  have hm0 : ((L + 1 : Nat) : Int) ≠ 0 := by omega
  have r1 : n.tmod ((L + 1 : Nat) : Int) < ((L + 1 : Nat) : Int) := Int.tmod_lt_of_pos n (by omega)
  have r2 : -((L + 1 : Nat) : Int) < n.tmod ((L + 1 : Nat) : Int) := Int.lt_tmod_of_pos n (by omega)
  generalize hr : n.tmod ((L + 1 : Nat) : Int) = r at r1 r2
  by_cases hneg : r < 0
  · refine ⟨(r + ((L + 1 : Nat) : Int)).toNat, by omega, ?_⟩
    refine (callG_fn (hh _ _ _ rfl) Tryz.func6 (c := codeOf Tryz.f6) rfl rfl rfl (pr := noPr) rfl).trans ?_
    rw [code6]
    generalize hF : finE PP Tryz.f6 = F
    have hlt : decide (r < 0) = true := decide_eq_true hneg
    have w3 : IntKind.i64.wrap (r + (L : Int)) = r + (L : Int) := wrap_i64 (by omega) (by omega)
    have w4 : IntKind.i64.wrap (r + (L : Int) - 0) = r + (L : Int) := by rw [wrap_i64 (by omega) (by omega)]; omega
    have w5 : IntKind.i64.wrap (r + (L : Int) + 1) = r + ((L + 1 : Nat) : Int) := by rw [wrap_i64 (by omega) (by omega)]; omega
    have w6 : IntKind.i64.wrap (0 + (r + ((L + 1 : Nat) : Int))) = ((r + ((L + 1 : Nat) : Int)).toNat : Int) := by rw [wrap_i64 (by omega) (by omega)]; omega
    have l0 := tl (rgn Tryz.f6 0)
    conv at l0 => rhs; simp only [rgn, opsAt, codeOf, Tryz.f6, gS, gN, reduceIte, Nat.reduceEqDiff, tA]
    have l1 := tl (rgn Tryz.f6 1)
    conv at l1 => rhs; simp only [rgn, opsAt, codeOf, Tryz.f6, gS, gN, reduceIte, Nat.reduceEqDiff, tA]
    have l2 := tl (rgn Tryz.f6 2)
    conv at l2 => rhs; simp only [rgn, opsAt, codeOf, Tryz.f6, gS, gN, reduceIte, Nat.reduceEqDiff, tA]
    have l3 := tl (rgn Tryz.f6 3)
    conv at l3 => rhs; simp only [rgn, opsAt, codeOf, Tryz.f6, gS, gN, reduceIte, Nat.reduceEqDiff, tA]
    have l4 := tl (rgn Tryz.f6 4)
    conv at l4 => rhs; simp only [rgn, opsAt, codeOf, Tryz.f6, gS, gN, reduceIte, Nat.reduceEqDiff, tA]
    simp (decide := true) only [↓execG_seq, ↓g_region, ↓execG_ret, ↓g_if, thenE_norm, ↓r_nil, ↓r_cons, ↓o_move, ↓o_assign, ↓o_binOp, nextE_app, putG_bool, putG_int, normK_app, evalE_tmp, evalE_const, upd_some, bindO_ok, reduceIte, startE_0, startE_1, ↓reg_lit l0, ↓reg_lit l1, ↓reg_lit l2, ↓reg_lit l3, ↓reg_lit l4, startE_2, binA_sub, binA_add, binA_rem hm0, w1, w2, hr, binA_lss, hlt, w3, w4, w5, w6]
    rw [← hF, finE_ret (l := [.int .i64 ((r + ((L + 1 : Nat) : Int)).toNat : Int)]) (by simp (decide := true) [Tryz.f6, resE, upd_some])]
    rfl
  · refine ⟨r.toNat, by omega, ?_⟩
    refine (callG_fn (hh _ _ _ rfl) Tryz.func6 (c := codeOf Tryz.f6) rfl rfl rfl (pr := noPr) rfl).trans ?_
    rw [code6]
    generalize hF : finE PP Tryz.f6 = F
    have hlt : decide (r < 0) = false := decide_eq_false hneg
    have w6 : IntKind.i64.wrap (0 + r) = (r.toNat : Int) := by rw [wrap_i64 (by omega) (by omega)]; omega
    have l0 := tl (rgn Tryz.f6 0)
    conv at l0 => rhs; simp only [rgn, opsAt, codeOf, Tryz.f6, gS, gN, reduceIte, Nat.reduceEqDiff, tA]
    have l1 := tl (rgn Tryz.f6 1)
    conv at l1 => rhs; simp only [rgn, opsAt, codeOf, Tryz.f6, gS, gN, reduceIte, Nat.reduceEqDiff, tA]
    have l2 := tl (rgn Tryz.f6 2)
    conv at l2 => rhs; simp only [rgn, opsAt, codeOf, Tryz.f6, gS, gN, reduceIte, Nat.reduceEqDiff, tA]
    have l4 := tl (rgn Tryz.f6 4)
    conv at l4 => rhs; simp only [rgn, opsAt, codeOf, Tryz.f6, gS, gN, reduceIte, Nat.reduceEqDiff, tA]
    simp (decide := true) only [↓execG_seq, ↓g_region, ↓execG_ret, ↓execG_skip, ↓g_else, thenE_norm, ↓r_nil, ↓r_cons, ↓o_move, ↓o_assign, ↓o_binOp, nextE_app, putG_bool, putG_int, normK_app, evalE_tmp, evalE_const, upd_some, bindO_ok, reduceIte, startE_0, startE_1, ↓reg_lit l0, ↓reg_lit l1, ↓reg_lit l2, ↓reg_lit l4, startE_2, binA_sub, binA_add, binA_rem hm0, w1, w2, hr, binA_lss, hlt, w6]
    rw [← hF, finE_ret (l := [.int .i64 (r.toNat : Int)]) (by simp (decide := true) [Tryz.f6, resE, upd_some])]
    rfl
end Go.Am
/- The law on all texts: what it computes. -/
open Go.Proofs
namespace Go.Am
theorem code5 : codeOf Tryz.f5 = .seq (.region 0 (rgn Tryz.f5 0) false) (.seq (.region 1 (rgn Tryz.f5 1) false) (.seq (.region 2 (rgn Tryz.f5 2) false) (.seq (.region 3 (rgn Tryz.f5 3) false) (.seq (.region 4 (rgn Tryz.f5 4) false) (.ret))))) := by kernel_rfl
theorem gd5_4_3 : ((rgn Tryz.f5 4)[3]?).bind (·.dst) = some 30 := by kernel_rfl
theorem gd5_4_8 : ((rgn Tryz.f5 4)[8]?).bind (·.dst) = some 35 := by kernel_rfl
theorem gd5_4_13 : ((rgn Tryz.f5 4)[13]?).bind (·.dst) = some 40 := by kernel_rfl
theorem code3 : codeOf Tryz.f3 = .seq (.region 0 (rgn Tryz.f3 0) false) (.seq (.region 1 (rgn Tryz.f3 1) false) (.ret)) := by kernel_rfl
theorem gd3_1_2 : ((rgn Tryz.f3 1)[2]?).bind (·.dst) = some 7 := by kernel_rfl
theorem gd3_1_11 : ((rgn Tryz.f3 1)[11]?).bind (·.dst) = some 16 := by kernel_rfl
theorem gd3_1_15 : ((rgn Tryz.f3 1)[15]?).bind (·.dst) = some 20 := by kernel_rfl

/-- What both say of a text. -/
theorem both_say {N : Nat} {hk : Hook} {d : Nat} {H1 : Heap} {a b : Option Addr} {s : List UInt8} {c c' : Nat} (K : HkOk hk) (R : HkR hk) (hG : Ext GE H1) (ha : Brow H1 a s) (hb : Brow H1 b s) (hN : 2 * s.length + 200 < N) (hc : s.length ≤ c) :
    ∃ H2 H3 v w e q l lo, Ext H1 H2 ∧ Ext H2 H3 ∧ CG N hk (d + 5) 8 #[.slice a s.length c] H1 = some (.ret (.tuple #[v, .int .i64 e, .int .i64 q]), H2) ∧ CG N hk (d + 5) 9 #[.slice b s.length c'] H2 = some (.ret (.tuple #[w, .int .i64 e, .int .i64 q]), H3) ∧ TkRow H3 v l lo ∧ TkRow H3 w l lo ∧ l.length ≤ s.length := by
  by_cases hs : s.length ≤ 1048576
  · obtain ⟨H2, x2, v, e, q, h1, h2⟩ := tokens_any (N := N) (hk := hk) (d := d) K hG ha (by omega) hs hc
    obtain ⟨H3, x3, w, e', q', h3, h4⟩ := call_rtokens (N := N) (hk := hk) (d := d + 1) (c := c') R (hG.trans x2) (hb.ext x2) (by omega) hs
    have hl := (toks_run (N := N) (hk := hk) (d := d) (a := a) K (by omega) hs hc s.length 0 (Nat.zero_le _) (by omega)).2
    have h3 : CG N hk (d + 5) 9 #[.slice b s.length c'] H2 = some (.ret (.tuple #[w, .int .i64 e', .int .i64 q']), H3) := h3
    rcases h2 with ⟨n1, r1, rfl, rfl⟩ | ⟨x, n1, rfl, rfl, rfl⟩
    · rcases h4 with ⟨_, r2, rfl, rfl⟩ | ⟨x, n2, _⟩
      · have lo1 : TkRow H3 v (toksI s (s.length + 1) 0).1 0 := by
          rcases r1.ext x3 with o | ⟨o1, q, o2, o3, _⟩
          · exact .inl o
          · exact .inr ⟨o1, q, o2, o3, Nat.zero_le _⟩
        have lo2 : TkRow H3 w (toksI s (s.length + 1) 0).1 0 := by
          rcases r2 with o | ⟨o1, q, o2, o3, _⟩
          · exact .inl o
          · exact .inr ⟨o1, q, o2, o3, Nat.zero_le _⟩
        exact ⟨H2, H3, v, w, 0, 0, _, 0, x2, x3, h1, h3, lo1, lo2, by omega⟩
      · rw [n1] at n2; cases n2
    · rcases h4 with ⟨n2, _⟩ | ⟨y, n2, rfl, rfl, rfl⟩
      · rw [n1] at n2; cases n2
      · rw [n1] at n2
        injection n2 with n2
        subst n2
        exact ⟨H2, H3, _, _, _, _, [], 0, x2, x3, h1, h3, .inl ⟨rfl, rfl⟩, .inl ⟨rfl, rfl⟩, Nat.zero_le _⟩
  · have h1 : CG N hk (d + 5) 8 #[.slice a s.length c] H1 = some (.ret (.tuple #[.slice none 0 0, .int .i64 0, .int .i64 3]), H1) := call_tokens_long (d := d + 4) K.nil (by omega)
    have h2 : CG N hk (d + 5) 9 #[.slice b s.length c'] H1 = some (.ret (.tuple #[.slice none 0 0, .int .i64 0, .int .i64 3]), H1) := call_rtokens_long (d := d + 4) K.nil (by omega)
    exact ⟨H1, H1, _, _, _, _, [], 0, ⟨Nat.le_refl _, fun _ _ h => h, hG.fresh⟩, ⟨Nat.le_refl _, fun _ _ h => h, hG.fresh⟩, h1, h2, .inl ⟨rfl, rfl⟩, .inl ⟨rfl, rfl⟩, Nat.zero_le _⟩
theorem call_told {N : Nat} {hk : Hook} {d : Nat} {H : Heap} {a : Option Addr} {s : List UInt8} {c : Nat} (K : HkOk hk) (R : HkR hk) (hG : Ext GE H) (ha : Brow H a s) (hs : s.length ≤ 140737488355000) (hN : 2 * s.length + 200 < N) :
    ∃ H', Ext H H' ∧ CG N hk (d + 6) 5 #[.slice a s.length c] H = some (.ret (.bool true), H') := by
  obtain ⟨H1, x1, g1, hro⟩ := call_roomy (N := N) (hk := hk) (d := d + 4) (c := c) K.nil hG.fresh ha hs (by omega)
  have hro : CG N hk (d + 5) 22 #[.slice a s.length c, .int .u8 165] H = some (.ret (.slice (some ⟨H.next, 0, none⟩) (s.length + 80) (s.length + 80)), H1) := hro
  have hb := rowL_brow g1 (s := s) (List.prefix_append _ _) (by simp; omega)
  obtain ⟨H2, H3, v, w, e, q, l, lo, x2, x3, hT, hR, r1, r2, hl⟩ := both_say (N := N) (hk := hk) (d := d) (c := s.length + 80) (c' := c) K R (hG.trans x1) hb (ha.ext x1) hN (by omega)
  have hsl := slice_to g1 (n := s.length + 80) (c := s.length + 80) (k := s.length) (by omega)
  have hst : CG N hk (d + 5) 10 #[v, w] H3 = some (.ret (.bool true), H3) := call_samet (d := d + 4) K.nil r1 r2 (by omega) (by omega)
  have hin : CG N hk (d + 5) 23 #[.slice (some ⟨H.next, 0, none⟩) (s.length + 80) (s.length + 80), .slice a s.length c, .int .u8 165] H3 = some (.ret (.bool true), H3) :=
    call_intact (d := d + 3) K.nil (x3.keep _ _ (x2.keep _ _ g1)) (((ha.ext x1).ext x2).ext x3) hs (by omega)
  refine ⟨H3, (x1.trans x2).trans x3, ?_⟩
  refine (callG_fn (K.nil _ _ _ rfl) Tryz.func5 (c := codeOf Tryz.f5) rfl rfl rfl (pr := noPr) rfl).trans ?_
  rw [code5]
  generalize hF : finE PP Tryz.f5 = F
  have q0 : ∀ (u v w : Value), extractA (.tuple #[u, v, w]) 0 = some u := fun _ _ _ => rfl
  have q1 : ∀ (u v w : Value), extractA (.tuple #[u, v, w]) 1 = some v := fun _ _ _ => rfl
  have q2 : ∀ (u v w : Value), extractA (.tuple #[u, v, w]) 2 = some w := fun _ _ _ => rfl
  have zq : (q == q) = true := by simp
  have ze : (e == e) = true := by simp
  have l0 := tl (rgn Tryz.f5 0)
  conv at l0 => rhs; simp only [rgn, opsAt, codeOf, Tryz.f5, gS, gN, reduceIte, Nat.reduceEqDiff, tA]
  have l1 := tl (rgn Tryz.f5 1)
  conv at l1 => rhs; simp only [rgn, opsAt, codeOf, Tryz.f5, gS, gN, reduceIte, Nat.reduceEqDiff, tA]
  have l2 := tl (rgn Tryz.f5 2)
  conv at l2 => rhs; simp only [rgn, opsAt, codeOf, Tryz.f5, gS, gN, reduceIte, Nat.reduceEqDiff, tA]
  have l3 := tl (rgn Tryz.f5 3)
  conv at l3 => rhs; simp only [rgn, opsAt, codeOf, Tryz.f5, gS, gN, reduceIte, Nat.reduceEqDiff, tA]
  have l4 := tl (rgn Tryz.f5 4)
  conv at l4 => rhs; simp only [rgn, opsAt, codeOf, Tryz.f5, gS, gN, reduceIte, Nat.reduceEqDiff, tA]
  simp (decide := true) only [↓execG_seq, ↓g_region, ↓execG_ret, thenE_norm, ↓r_nil, ↓r_cons, ↓o_move, ↓o_assign, ↓o_pickt, ↓o_binOp, ↓o_slice, ↓o_extract, ↓o_builtin, ↓o_callf, nextE_app, putK_app, putO_app, putG_bool, normK_app, evalE_tmp, evalE_const, upd_some, bindO_ok, reduceIte, map_one, map_two, map_three, startE_0, ↓reg_lit l0, ↓reg_lit l1, ↓reg_lit l2, ↓reg_lit l3, ↓reg_lit l4, ↓r_yes _ 3 true 30 _ gd5_4_3, ↓r_yes _ 8 true 35 _ gd5_4_8, ↓r_yes _ 13 true 40 _ gd5_4_13, callK_fn Tryz.func22 rfl rfl hro, len_slice (ts := #[22]) rfl und34, ↓Option.map_some, ↓Option.map_none, hsl, callK_fn Tryz.func8 rfl rfl hT, callK_fn Tryz.func9 rfl rfl hR, q0, q1, q2, binA_eql, zq, ze, callK_fn Tryz.func10 rfl rfl hst, callK_fn Tryz.func23 rfl rfl hin]
  rw [← hF, finE_ret (l := [.bool true]) (by simp (decide := true) [Tryz.f5, resE, upd_some])]
  rfl
theorem slice_pre {H : Heap} {a : Option Addr} {s : List UInt8} {c x : Nat} (h : Brow H a s) (hx : x ≤ s.length) (hc : s.length ≤ c) :
    ∃ a' c', sliceOpA PP 22 (.slice a s.length c) none (some (.int .i64 (x : Int))) none H = some (.slice a' (s.take x).length c') ∧ Brow H a' (s.take x) := by
  have hl : (s.take x).length = x := by simp; omega
  simp only [sliceOpA, und34, size5, sliceA]
  cases a with
  | none =>
    have hs := h.nil rfl
    subst hs
    have h0 : x = 0 := by simpa using hx
    subst h0
    exact ⟨none, 0, by rw [if_pos ⟨by omega, by omega, by omega⟩]; rfl, ⟨fun b hb => by simp at hb, fun _ => rfl, by simp⟩⟩
  | some a =>
    obtain ⟨z, h1, h2, h3, _⟩ := h.row a rfl
    have e : a.add 0 = a := by
      obtain ⟨b, o, sp⟩ := a
      rfl
    refine ⟨some a, c, ?_, h.take hx⟩
    rw [if_pos ⟨by omega, by omega, by omega⟩]
    simp [h1, h2, e, hl]
/-- The law on all texts. -/
theorem call_law {N : Nat} {hk : Hook} {d : Nat} {H : Heap} {a : Option Addr} {s : List UInt8} {c : Nat} (at_ : Int) (K : HkOk hk) (R : HkR hk) (hkn : ∀ H, Ext GE H → hk 7 #[] H = some (some (.ret (.bool true), H))) (hG : Ext GE H) (ha : Brow H a s) (hs : s.length ≤ 140737488355000) (hc : s.length ≤ c) (hN : 2 * s.length + 200 < N) :
    ∃ H', Ext H H' ∧ CG N hk (d + 7) 3 #[.slice a s.length c, .int .i64 at_] H = some (.ret (.bool true), H') := by
  obtain ⟨H1, x1, h1⟩ := call_told (N := N) (hk := hk) (d := d) (c := c) K R hG ha hs hN
  obtain ⟨x, hx, hw⟩ := call_within (N := N) (hk := hk) (d := d + 5) (H := H1) at_ s.length (by omega) K.nil
  have hw : CG N hk (d + 6) 6 #[.int .i64 at_, .int .i64 0, .int .i64 (s.length : Int)] H1 = some (.ret (.int .i64 (x : Int)), H1) := hw
  obtain ⟨a', c', hsl, hb⟩ := slice_pre (ha.ext x1) hx hc
  have hl : (s.take x).length ≤ s.length := by simp; omega
  obtain ⟨H2, x2, h2⟩ := call_told (N := N) (hk := hk) (d := d) (c := c') K R (hG.trans x1) hb (by omega) (by omega)
  obtain ⟨H3, x3, h3⟩ := call_told (N := N) (hk := hk) (d := d) (c := c) K R ((hG.trans x1).trans x2) ((ha.ext x1).ext x2) hs hN
  have h4 : CG N hk (d + 6) 7 #[] H3 = some (.ret (.bool true), H3) := callG_hook (hkn H3 (((hG.trans x1).trans x2).trans x3))
  refine ⟨H3, (x1.trans x2).trans x3, ?_⟩
  refine (callG_fn (K.nil _ _ _ rfl) Tryz.func3 (c := codeOf Tryz.f3) rfl rfl rfl (pr := noPr) rfl).trans ?_
  rw [code3]
  generalize hF : finE PP Tryz.f3 = F
  have l0 := tl (rgn Tryz.f3 0)
  conv at l0 => rhs; simp only [rgn, opsAt, codeOf, Tryz.f3, gS, gN, reduceIte, Nat.reduceEqDiff, tA]
  have l1 := tl (rgn Tryz.f3 1)
  conv at l1 => rhs; simp only [rgn, opsAt, codeOf, Tryz.f3, gS, gN, reduceIte, Nat.reduceEqDiff, tA]
  simp (decide := true) only [↓execG_seq, ↓g_region, ↓execG_ret, thenE_norm, ↓r_nil, ↓r_cons, ↓o_move, ↓o_assign, ↓o_pickt, ↓o_slice, ↓o_builtin, ↓o_callf, nextE_app, putK_app, putO_app, normK_app, evalE_tmp, evalE_const, upd_some, bindO_ok, reduceIte, map_one, map_three, map_nil, startE_0, startE_1, ↓reg_lit l0, ↓reg_lit l1, ↓r_yes _ 2 true 7 _ gd3_1_2, ↓r_yes _ 11 true 16 _ gd3_1_11, ↓r_yes _ 15 true 20 _ gd3_1_15, callK_fn Tryz.func5 rfl rfl h1, len_slice (ts := #[22]) rfl und34, callK_fn Tryz.func6 rfl rfl hw, ↓Option.map_some, ↓Option.map_none, hsl, callK_fn Tryz.func5 rfl rfl h2, callK_fn Tryz.func5 rfl rfl h3, callK_fn Tryz.func7 rfl rfl h4]
  rw [← hF, finE_ret (l := [.bool true]) (by simp (decide := true) [Tryz.f3, resE, upd_some])]
  rfl
end Go.Am
