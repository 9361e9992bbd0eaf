/- The place of a byte, as the document tells it: all rounds. -/
import Derived.Test.YtmliebodadgpbaaGreatDoorLF
open Go.Proofs
namespace Go.Am

def rl (s : List UInt8) : Nat → Int
  | 0 => 1
  | i + 1 => if s.getD i 0 = 10 then inc (rl s i) else rl s i
def rc (s : List UInt8) : Nat → Int
  | 0 => 1
  | i + 1 => if s.getD i 0 = 10 then 1 else inc (rc s i)

theorem stop11 {K : Kf} {N : Nat} {H0 H : Heap} {a : Option Addr} {c : Nat} {s : List UInt8} {q p b4 : Nat} {E : Env} {l w : Int} (h : Rnd H0 H a c s q q p b4 E l w) (k : KOE) :
    ∃ E', Rnd H0 H a c s q q p b4 E' l w ∧ execE PP XX K N (loopOf Tryz.f11) none E [] H k = k (.exit 0) E' [] H := by
  obtain ⟨e0, e1, e4, e5, e6, pc, bc, ne, ext, low, high, fr, row, hq⟩ := id h
  have hlt : decide ((q : Int) < (q : Int)) = false := by simp
  have key : ∃ E' : Env, (E' 0 = .slice a s.length c ∧ E' 1 = .int .i64 (q : Int) ∧ E' 4 = .pointer (some ⟨b4, 0, none⟩) ∧ E' 5 = .pointer (some ⟨p, 0, none⟩) ∧ E' 6 = .int .i64 (q : Int)) ∧
      execE PP XX K N (loopOf Tryz.f11) none E [] H k = k (.exit 0) E' [] H := by
    simp only [loopOf, bodyOf, Tryz.f11, Option.getD_some, theLoop]
    simp (decide := true) only [e1, e6, ↓execE_seq, ↓execE_region, ↓execE_block, ↓execE_skip, ↓execE_cond, ↓execE_exit, thenE_norm, thenE_exit, leaveB_norm, execOpsE_cons, execOpsE_nil, guardE_none, opE_move, opE_assign, opE_binOp, opE_indexAddr, opE_load, evalE_tmp, evalE_const, upd_some, bindO_ok, groundK_bool, condE_bool, reduceIte, cond_false, binA_lss, hlt, upd_none]
    refine ⟨_, ⟨?_, ?_, ?_, ?_, ?_⟩, rfl⟩
    · simp (decide := true) only [upd_some, reduceIte, e0]
    · simp (decide := true) only [upd_some, reduceIte, e1]
    · simp (decide := true) only [upd_some, reduceIte, e4]
    · simp (decide := true) only [upd_some, reduceIte, e5]
    · simp (decide := true) only [upd_some, reduceIte, e6]
  obtain ⟨E', ⟨a0, a1, a4, a5, a6⟩, he⟩ := key
  exact ⟨E', ⟨a0, a1, a4, a5, a6, pc, bc, ne, ext, low, high, fr, row, hq⟩, he⟩

theorem loop11_then {K : Kf} {N : Nat} {H0 : Heap} {a : Option Addr} {c : Nat} {s : List UInt8} {q p b4 : Nat} {k : KOE} {Q : R → Prop} (hx : ∀ E' H', Rnd H0 H' a c s q q p b4 E' (rl s q) (rc s q) → Q (k (.exit 0) E' [] H')) :
    ∀ (n i m : Nat) (_ : i + n = q) (_ : n < m) {E : Env} {H : Heap} (_ : Rnd H0 H a c s q i p b4 E (rl s i) (rc s i)), Q (loopE (execE PP XX K N (loopOf Tryz.f11) none) m E [] H k)
  | 0, i, m + 1, e, hm, E, H, h => by
    have : i = q := by omega
    subst this
    obtain ⟨E', h1, h2⟩ := stop11 (K := K) (N := N) h (thenE (fun E ds H k => loopE (execE PP XX K N (loopOf Tryz.f11) none) m E ds H k) k)
    rw [loopE_succ, h2]
    exact hx E' H h1
  | n + 1, i, m + 1, e, hm, E, H, h => by
    obtain ⟨E', H', h1, h2⟩ := step11 (K := K) (N := N) h (by omega) (thenE (fun E ds H k => loopE (execE PP XX K N (loopOf Tryz.f11) none) m E ds H k) k)
    rw [loopE_succ, h2]
    exact loop11_then hx n (i + 1) m (by omega) (by omega) h1

theorem call11 {N : Nat} {hk : Hook} {d : Nat} {H : Heap} {a : Option Addr} {c : Nat} {s : List UInt8} (hb : Brow H a s) (hf : Fresh H) (k : Int) (hN : s.length < N) (hh : ∀ f args H, f ≠ 9 → hk f args H = none) :
    ∃ H', Ext H H' ∧ CE N hk (d + 1) 11 #[.slice a s.length c, .int .i64 k] H = some (.ret (.agg #[.int .i64 (atN k s.length), .int .i64 (rl s (atN k s.length)), .int .i64 (rc s (atN k s.length))]), H') := by
  have hle := atN_le k s.length
  have e1 : Ext H (H.alloc 1 [.int .i64 0, .int .i64 0, .int .i64 0]) := .alloc hf _ _
  have e2 : Ext H ((H.alloc 1 [.int .i64 0, .int .i64 0, .int .i64 0]).alloc 1 [.int .i64 0, .int .i64 0, .int .i64 0]) := e1.trans (.alloc e1.fresh _ _)
  have hnx : (H.alloc 1 [Value.int .i64 0, .int .i64 0, .int .i64 0]).next = H.next + 1 := rfl
  have g0 : ((H.alloc 1 [Value.int .i64 0, .int .i64 0, .int .i64 0]).alloc 1 [.int .i64 0, .int .i64 0, .int .i64 0]).get (H.next + 1) = some (pl 0 0 0) := by rw [Heap.get_alloc]; exact if_pos rfl
  have g4 : ((H.alloc 1 [Value.int .i64 0, .int .i64 0, .int .i64 0]).alloc 1 [.int .i64 0, .int .i64 0, .int .i64 0]).get H.next = some (pl 0 0 0) := by
    rw [Heap.get_alloc, if_neg (by show ¬ H.next = H.next + 1; omega), Heap.get_alloc, if_pos rfl]; rfl
  generalize hq : atN k s.length = q at hle ⊢
  have e3 : Ext H (((H.alloc 1 [Value.int .i64 0, .int .i64 0, .int .i64 0]).alloc 1 [.int .i64 0, .int .i64 0, .int .i64 0]).set (H.next + 1) (pl q 1 1)) := e2.set (by omega) hf (by show H.next + 1 < H.next + 1 + 1; omega) _
  have r0 : ∀ E : Env, E 0 = .slice a s.length c → E 1 = .int .i64 (q : Int) → E 4 = .pointer (some ⟨H.next, 0, none⟩) → E 5 = .pointer (some ⟨H.next + 1, 0, none⟩) → E 6 = .int .i64 0 →
      Rnd H (((H.alloc 1 [Value.int .i64 0, .int .i64 0, .int .i64 0]).alloc 1 [.int .i64 0, .int .i64 0, .int .i64 0]).set (H.next + 1) (pl q 1 1)) a c s q 0 (H.next + 1) H.next E (rl s 0) (rc s 0) := fun E a0 a1 a4 a5 a6 =>
    ⟨a0, a1, a4, a5, a6, get_self _ _ _, by rw [Heap.get_set, if_neg (by omega)]; exact g4, by omega, e3, by omega, by show H.next + 1 < H.next + 1 + 1; omega, hf, hb, hle⟩
  have fin : ∀ (E : Env) (H' : Heap) (x y w : Int), E 4 = .pointer (some ⟨H.next, 0, none⟩) → H'.get H.next = some (pl x y w) → resE PP E H' Tryz.f11.results.toList = some [.agg #[.int .i64 x, .int .i64 y, .int .i64 w]] := fun E H' x y w h g => by
    have hr : Tryz.f11.results.toList = [.cell 4 30] := rfl
    rw [hr]
    unfold resE
    rw [h, load30 g]
    unfold resE
    rfl
  have done : ∀ (E' : Env) (H' : Heap), Rnd H H' a c s q q (H.next + 1) H.next E' (rl s q) (rc s q) → Ext H (H'.set H.next (pl q (rl s q) (rc s q))) ∧ (H'.set H.next (pl q (rl s q) (rc s q))).get H.next = some (pl q (rl s q) (rc s q)) := fun E' H' h =>
    ⟨h.ext.set (Nat.le_refl _) hf (by have := h.high; omega) _, get_self _ _ _⟩
  have main : ∃ R0 : R, CE N hk (d + 1) 11 #[.slice a s.length c, .int .i64 k] H = R0 ∧ ∃ H', Ext H H' ∧ R0 = some (.ret (.agg #[.int .i64 q, .int .i64 (rl s q), .int .i64 (rc s q)]), H') := by
    refine ⟨_, callE_fn (hh _ _ _ (by decide)) Tryz.func11 (c := bodyOf Tryz.f11) rfl rfl rfl, ?_⟩
    generalize hF : finE PP Tryz.f11 = F
    by_cases h1 : k < 0
    · have hq0 : q = 0 := by rw [← hq]; simp [atN, h1]
      subst hq0
      have hlt : decide (k < 0) = true := decide_eq_true h1
      have hgt : decide ((0 : Int) > (s.length : Int)) = false := by simp
      simp only [bodyOf, Tryz.f11, Option.getD_some]
      simp (decide := true) only [↓execE_seq, ↓execE_region, ↓execE_block, ↓execE_skip, ↓execE_cond, thenE_norm, execOpsE_cons, execOpsE_nil, guardE_none, opE_move, opE_assign, opE_binOp, evalE_tmp, evalE_const, upd_some, bindO_ok, bindV_ok, groundK_bool, condE_bool, reduceIte, cond_true, cond_false, opE_alloc, opE_build, opE_store, opE_builtin, alloc30, len_slice (ts := #[34]) rfl und34, map_one, parts_three, startE_0, startE_1, binA_lss, binA_gtr, hlt, hgt, build30, hnx, store30 g0, upd_none, ↓execE_loop]
      refine loop11_then (Q := fun x => ∃ H', Ext H H' ∧ x = some (.ret (.agg #[.int .i64 ((0 : Nat) : Int), .int .i64 (rl s 0), .int .i64 (rc s 0)]), H')) (fun E' H' h => ?_) 0 0 N rfl (by omega) (r0 _ ?_ ?_ ?_ ?_ ?_)
      · obtain ⟨x1, x2⟩ := done E' H' h
        refine ⟨_, x1, ?_⟩
        simp (decide := true) only [↓execE_seq, ↓execE_region, ↓execE_ret, thenE_norm, thenE_exit, leaveB_exit, execOpsE_cons, execOpsE_nil, guardE_none, opE_load, evalE_tmp, upd_some, bindV_ok, reduceIte, cond_false, opE_store, h.e4, h.e5, load30 h.pc, store30 h.bc, upd_none]
        rw [← hF]
        refine finE_ret (fin _ _ _ _ _ ?_ x2)
        simp (decide := true) only [upd_some, reduceIte, h.e4]
      all_goals simp (decide := true) only [upd_some, reduceIte, startE_0]
      rfl
    · by_cases h2 : k > (s.length : Int)
      · have hq0 : q = s.length := by rw [← hq]; simp [atN, h1, h2]
        subst hq0
        have hlt : decide (k < 0) = false := decide_eq_false h1
        have hgt : decide (k > (s.length : Int)) = true := decide_eq_true h2
        simp only [bodyOf, Tryz.f11, Option.getD_some]
        simp (decide := true) only [↓execE_seq, ↓execE_region, ↓execE_block, ↓execE_skip, ↓execE_cond, thenE_norm, execOpsE_cons, execOpsE_nil, guardE_none, opE_move, opE_assign, opE_binOp, evalE_tmp, evalE_const, upd_some, bindO_ok, bindV_ok, groundK_bool, condE_bool, reduceIte, cond_true, cond_false, opE_alloc, opE_build, opE_store, opE_builtin, alloc30, len_slice (ts := #[34]) rfl und34, map_one, parts_three, startE_0, startE_1, binA_lss, binA_gtr, hlt, hgt, build30, hnx, store30 g0, upd_none, ↓execE_loop]
        refine loop11_then (Q := fun x => ∃ H', Ext H H' ∧ x = some (.ret (.agg #[.int .i64 (s.length : Int), .int .i64 (rl s s.length), .int .i64 (rc s s.length)]), H')) (fun E' H' h => ?_) s.length 0 N (by omega) (by omega) (r0 _ ?_ ?_ ?_ ?_ ?_)
        · obtain ⟨x1, x2⟩ := done E' H' h
          refine ⟨_, x1, ?_⟩
          simp (decide := true) only [↓execE_seq, ↓execE_region, ↓execE_ret, thenE_norm, thenE_exit, leaveB_exit, execOpsE_cons, execOpsE_nil, guardE_none, opE_load, evalE_tmp, upd_some, bindV_ok, reduceIte, cond_false, opE_store, h.e4, h.e5, load30 h.pc, store30 h.bc, upd_none]
          rw [← hF]
          refine finE_ret (fin _ _ _ _ _ ?_ x2)
          simp (decide := true) only [upd_some, reduceIte, h.e4]
        all_goals simp (decide := true) only [upd_some, reduceIte, startE_0]
      · have hq0 : (q : Int) = k := by rw [← hq]; simp [atN, h1, h2]; omega
        have hlt : decide (k < 0) = false := decide_eq_false h1
        have hgt : decide (k > (s.length : Int)) = false := decide_eq_false h2
        simp only [bodyOf, Tryz.f11, Option.getD_some]
        simp (decide := true) only [↓execE_seq, ↓execE_region, ↓execE_block, ↓execE_skip, ↓execE_cond, thenE_norm, execOpsE_cons, execOpsE_nil, guardE_none, opE_move, opE_assign, opE_binOp, evalE_tmp, evalE_const, upd_some, bindO_ok, bindV_ok, groundK_bool, condE_bool, reduceIte, cond_false, opE_alloc, opE_build, opE_store, opE_builtin, alloc30, len_slice (ts := #[34]) rfl und34, map_one, parts_three, startE_0, startE_1, binA_lss, binA_gtr, hlt, hgt, build30, hnx, store30 g0, upd_none, ↓execE_loop]
        rw [← hq0]
        refine loop11_then (Q := fun x => ∃ H', Ext H H' ∧ x = some (.ret (.agg #[.int .i64 (q : Int), .int .i64 (rl s q), .int .i64 (rc s q)]), H')) (fun E' H' h => ?_) q 0 N (by omega) (by omega) (r0 _ ?_ ?_ ?_ ?_ ?_)
        · obtain ⟨x1, x2⟩ := done E' H' h
          refine ⟨_, x1, ?_⟩
          simp (decide := true) only [↓execE_seq, ↓execE_region, ↓execE_ret, thenE_norm, thenE_exit, leaveB_exit, execOpsE_cons, execOpsE_nil, guardE_none, opE_load, evalE_tmp, upd_some, bindV_ok, reduceIte, cond_false, opE_store, h.e4, h.e5, load30 h.pc, store30 h.bc, upd_none]
          rw [← hF]
          refine finE_ret (fin _ _ _ _ _ ?_ x2)
          simp (decide := true) only [upd_some, reduceIte, h.e4]
        all_goals simp (decide := true) only [upd_some, reduceIte, startE_0, startE_1]
  obtain ⟨R0, m1, H', m2, m3⟩ := main
  exact ⟨H', m2, m1.trans m3⟩
end Go.Am
