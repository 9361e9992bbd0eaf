/- The search for a byte from behind. -/
import Derived.Test.YtmliebodadgpbaaGreatDoorLX
import Derived.Test.YtmliebodadgpbaaGreatDoorEs
open Go.Proofs
namespace Go.Am

/-- The first loop of a text of code. -/
def theLoop : Code → Option Code
  | .seq a b => match theLoop a with | some c => some c | none => theLoop b
  | .cond _ a b => match theLoop a with | some c => some c | none => theLoop b
  | .block _ b => theLoop b
  | .scope b => theLoop b
  | .loop b => some b
  | _ => none
def bodyOf (fn : Func) : Code := fn.body.getD .skip
def loopOf (fn : Func) : Code := (theLoop (bodyOf fn)).getD .skip

/-- A row of bytes in the heap. -/
structure Bts (H : Heap) (a : Option Addr) (s : List UInt8) : Prop where
  cell : ∀ j (h : j < s.length), ∃ b, a = some b ∧ ld1 H (b.add j) = some (.int .u8 (s[j]).toNat, H)
  str : strOf H a s.length = some ⟨s.toArray⟩
  small : s.length < 9223372036854775808

/-- The last place of a byte below a place; -1: there is none. -/
def lastB (s : List UInt8) (z : UInt8) : Nat → Int
  | 0 => -1
  | j + 1 => if s.getD j 0 = z then (j : Int) else lastB s z j

theorem und34 : PP.underlying 34 = some (.slice 5) := Tryz.underlying34
theorem size5 : sizeT PP 5 = some 1 := by decide +kernel
theorem agg5 : aggT PP 5 = some false := by decide +kernel
theorem index_row {a : Addr} {n c : Nat} {j : Nat} (h : j < n) : indexAddrA PP 34 (.slice (some a) n c) (.int .i64 (j : Int)) = some (.pointer (some (a.add j))) := by
  simp [indexAddrA, size5, at_, h]
theorem load_byte {H : Heap} {a : Addr} {v : Value} (h : ld1 H a = some (v, H)) : loadA PP 5 (.pointer (some a)) H = some (v, H) := by
  simp [loadA, agg5, h]
theorem wrap_i64 {x : Int} (h0 : -9223372036854775808 ≤ x) (h1 : x < 9223372036854775808) : IntKind.i64.wrap x = x := by
  simp only [IntKind.wrap, IntKind.bits, IntKind.signed]
  simp
  split <;> omega
theorem toNat_eq (x z : UInt8) : (((x.toNat : Int) == (z.toNat : Int)) : Bool) = decide (x = z) := by
  rw [Bool.eq_iff_iff]
  simp only [beq_iff_eq, decide_eq_true_eq]
  constructor
  · intro h; exact UInt8.toNat_inj.mp (by omega)
  · intro h; rw [h]

theorem step46 {K : Kf} {N : Nat} {H : Heap} {a : Option Addr} {c : Nat} {s : List UInt8} (hb : Bts H a s) (z : UInt8) (k : KOE) {j : Nat} (hj : j < s.length) {E : Env} (h0 : E 0 = .slice a s.length c) (h1 : E 1 = .int .u8 (z.toNat : Int)) (h5 : E 5 = .int .i64 (j : Int)) :
    ∃ E1 E2, E1 4 = .int .i64 (j : Int) ∧ E2 0 = .slice a s.length c ∧ E2 1 = .int .u8 (z.toNat : Int) ∧ E2 5 = .int .i64 ((j : Int) - 1) ∧
      execE PP XX K N (loopOf Tryz.f46) none E [] H k = cond (decide (s[j] = z)) (k .ret E1 [] H) (k .norm E2 [] H) := by
  obtain ⟨b, rfl, hl⟩ := hb.cell j hj
  have hge : decide ((j : Int) ≥ 0) = true := by simp
  have hw : IntKind.i64.wrap ((j : Int) - 1) = (j : Int) - 1 := wrap_i64 (by omega) (by have := hb.small; omega)
  simp only [loopOf, bodyOf, Tryz.f46, Option.getD_some, theLoop]
  simp (decide := true) only [h0, h1, h5, hw, binA_geq, binA_sub, binA_eql, hge, index_row (n := s.length) (c := c) (a := b) (j := j) hj, load_byte hl, toNat_eq, ↓execE_seq, ↓execE_region, ↓execE_block, ↓execE_ret, ↓execE_skip, ↓execE_cond, ↓execE_exit, thenE_norm, thenE_exit, thenE_ret, leaveB_norm, leaveB_ret, execOpsE_cons, execOpsE_nil, guardE_none, opE_move, opE_assign, opE_binOp, opE_indexAddr, opE_load, evalE_tmp, evalE_const, upd_some, bindO_ok, bindV_ok, groundK_bool, groundK_int, condE_bool, reduceIte, cond_true, cond_false]
  refine ⟨_, _, ?_, ?_, ?_, ?_, rfl⟩ <;> simp (decide := true) only [upd_some, h0, h1, h5, reduceIte]
theorem stop46 {K : Kf} {N : Nat} {H : Heap} (k : KOE) {E : Env} {x : Int} (hx : x < 0) (h5 : E 5 = .int .i64 x) : ∃ E', execE PP XX K N (loopOf Tryz.f46) none E [] H k = k (.exit 0) E' [] H := by
  have hge : decide (x ≥ 0) = false := by simp; omega
  simp only [loopOf, bodyOf, Tryz.f46, Option.getD_some, theLoop]
  simp (decide := true) only [h5, binA_geq, hge, ↓execE_seq, ↓execE_region, ↓execE_block, ↓execE_ret, ↓execE_skip, ↓execE_cond, ↓execE_exit, thenE_norm, thenE_exit, thenE_ret, leaveB_norm, leaveB_ret, execOpsE_cons, execOpsE_nil, guardE_none, opE_move, opE_assign, opE_binOp, opE_indexAddr, opE_load, evalE_tmp, evalE_const, upd_some, bindO_ok, groundK_bool, condE_bool, reduceIte, cond_false]
  exact ⟨_, rfl⟩

theorem loop46 {K : Kf} {N : Nat} {H : Heap} {a : Option Addr} {c : Nat} {s : List UInt8} (hb : Bts H a s) (z : UInt8) (k : KOE) : ∀ (j m : Nat) (_ : j ≤ s.length) (_ : j < m) (E : Env) (_ : E 0 = .slice a s.length c) (_ : E 1 = .int .u8 (z.toNat : Int)) (_ : E 5 = .int .i64 ((j : Int) - 1)),
    (lastB s z j = -1 ∧ ∃ E', loopE (execE PP XX K N (loopOf Tryz.f46) none) m E [] H k = k (.exit 0) E' [] H) ∨
    (∃ E', E' 4 = .int .i64 (lastB s z j) ∧ loopE (execE PP XX K N (loopOf Tryz.f46) none) m E [] H k = k .ret E' [] H)
  | 0, m + 1, hj, hm, E, h0, h1, h5 => by
    left
    obtain ⟨E', he⟩ := stop46 (K := K) (N := N) (H := H) (thenE (fun E ds H k => loopE (execE PP XX K N (loopOf Tryz.f46) none) m E ds H k) k) (by omega) h5
    exact ⟨rfl, E', by rw [loopE_succ, he]; rfl⟩
  | j + 1, m + 1, hj, hm, E, h0, h1, h5 => by
    have h5' : E 5 = .int .i64 (j : Int) := by rw [h5]; congr 1; omega
    obtain ⟨E1, E2, q1, q2, q3, q4, he⟩ := step46 (K := K) (N := N) hb z (thenE (fun E ds H k => loopE (execE PP XX K N (loopOf Tryz.f46) none) m E ds H k) k) (j := j) (by omega) h0 h1 h5'
    have hd : s.getD j 0 = s[j]'(by omega) := by simp [List.getD, show j < s.length by omega]
    rw [loopE_succ, he]
    simp only [lastB, hd]
    by_cases e : s[j]'(by omega) = z
    · right
      rw [if_pos e, decide_eq_true e]
      exact ⟨E1, q1, rfl⟩
    · rw [if_neg e, decide_eq_false e]
      exact loop46 hb z k j m (by omega) (by omega) E2 q2 q3 q4
/-- The same, for what goes on behind it. -/
theorem loop46_then {K : Kf} {N : Nat} {H : Heap} {a : Option Addr} {c : Nat} {s : List UInt8} (hb : Bts H a s) (z : UInt8) {k : KOE} {m : Nat} (hm : s.length < m) {E : Env} {r : R} (h0 : E 0 = .slice a s.length c) (h1 : E 1 = .int .u8 (z.toNat : Int)) (h5 : E 5 = .int .i64 ((s.length : Int) - 1))
    (hx : lastB s z s.length = -1 → ∀ E', k (.exit 0) E' [] H = r) (hr : ∀ E', E' 4 = .int .i64 (lastB s z s.length) → k .ret E' [] H = r) : loopE (execE PP XX K N (loopOf Tryz.f46) none) m E [] H k = r := by
  rcases loop46 (K := K) (N := N) hb z k s.length m (Nat.le_refl _) hm E h0 h1 h5 with ⟨e, E', h⟩ | ⟨E', e, h⟩
  · rw [h]; exact hx e E'
  · rw [h]; exact hr E' e
end Go.Am
