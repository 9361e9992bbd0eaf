/- The place of a byte, as the document tells it. -/
import Derived.Test.YtmliebodadgpbaaGreatDoorLE
open Go.Proofs
namespace Go.Am

theorem field1 (p : Nat) : fieldAddrA PP 30 (.pointer (some ⟨p, 0, none⟩)) 1 = some (.pointer (some ⟨p, 1, none⟩)) := by kernel_rfl
theorem field2 (p : Nat) : fieldAddrA PP 30 (.pointer (some ⟨p, 0, none⟩)) 2 = some (.pointer (some ⟨p, 2, none⟩)) := by kernel_rfl
theorem loadL {H : Heap} {p : Nat} {x y w : Int} (h : H.get p = some (pl x y w)) : loadA PP 3 (.pointer (some ⟨p, 1, none⟩)) H = some (.int .i64 y, H) := by
  simp only [loadA, agg3]
  simp [ld1, look, h, pl]
theorem loadC {H : Heap} {p : Nat} {x y w : Int} (h : H.get p = some (pl x y w)) : loadA PP 3 (.pointer (some ⟨p, 2, none⟩)) H = some (.int .i64 w, H) := by
  simp only [loadA, agg3]
  simp [ld1, look, h, pl]
theorem storeL {H : Heap} {p : Nat} {x y w y' : Int} (h : H.get p = some (pl x y w)) : storeA PP 3 (.pointer (some ⟨p, 1, none⟩)) (.int .i64 y') H = some (undef, H.set p (pl x y' w)) := by
  simp only [storeA, size3, stV]
  simp [Value.cells, st, look, h, pl, over, Value.oneCell']
theorem storeC {H : Heap} {p : Nat} {x y w w' : Int} (h : H.get p = some (pl x y w)) : storeA PP 3 (.pointer (some ⟨p, 2, none⟩)) (.int .i64 w') H = some (undef, H.set p (pl x y w')) := by
  simp only [storeA, size3, stV]
  simp [Value.cells, st, look, h, pl, over, Value.oneCell']
theorem get_self (H : Heap) (p : Nat) (x : Blk) : (H.set p x).get p = some x := by rw [Heap.get_set, if_pos rfl]

/-- One more. -/
def inc (x : Int) : Int := IntKind.i64.wrap (x + 1)

/-- The state of the round. -/
structure Rnd (H0 H : Heap) (a : Option Addr) (c : Nat) (s : List UInt8) (q i p b4 : Nat) (E : Env) (l w : Int) : Prop where
  e0 : E 0 = .slice a s.length c
  e1 : E 1 = .int .i64 (q : Int)
  e4 : E 4 = .pointer (some ⟨b4, 0, none⟩)
  e5 : E 5 = .pointer (some ⟨p, 0, none⟩)
  e6 : E 6 = .int .i64 (i : Int)
  pc : H.get p = some (pl q l w)
  bc : H.get b4 = some (pl 0 0 0)
  ne : b4 ≠ p
  ext : Ext H0 H
  low : H0.next ≤ p
  high : p < H.next
  fr : Fresh H0
  row : Brow H0 a s
  hq : q ≤ s.length
theorem Rnd.set {H0 H : Heap} {a : Option Addr} {c : Nat} {s : List UInt8} {q i p b4 : Nat} {E : Env} {l w : Int} (h : Rnd H0 H a c s q i p b4 E l w) (x : Blk) : Ext H0 (H.set p x) ∧ (H.set p x).get b4 = some (pl 0 0 0) :=
  ⟨h.ext.set h.low h.fr h.high x, by rw [Heap.get_set, if_neg h.ne]; exact h.bc⟩

theorem step11 {K : Kf} {N : Nat} {H0 H : Heap} {a : Option Addr} {c : Nat} {s : List UInt8} {q i p b4 : Nat} {E : Env} {l w : Int} (h : Rnd H0 H a c s q i p b4 E l w) (hi : i < q) (k : KOE) :
    ∃ E' H', Rnd H0 H' a c s q (i + 1) p b4 E' (if s.getD i 0 = 10 then inc l else l) (if s.getD i 0 = 10 then 1 else inc w) ∧
      execE PP XX K N (loopOf Tryz.f11) none E [] H k = k .norm E' [] H' := by
  obtain ⟨e0, e1, e4, e5, e6, pc, bc, ne, ext, low, high, fr, row, hq⟩ := id h
  have hlen : i < s.length := by omega
  have hsm := row.small
  have hlt : decide ((i : Int) < (q : Int)) = true := by simp; omega
  have w1 : IntKind.i64.wrap (w + 1) = inc w := id rfl
  have w2 : IntKind.i64.wrap (l + 1) = inc l := id rfl
  have w3 : IntKind.i64.wrap ((i : Int) + 1) = ((i + 1 : Nat) : Int) := by rw [wrap_i64 (by omega) (by omega)]; omega
  have x1 := h.set (pl q l (inc w))
  obtain ⟨b, rfl, hb⟩ := (row.ext x1.1).bts.cell i hlen
  have hix := index_row (n := s.length) (c := c) (a := b) hlen
  have hgd : s.getD i 0 = s[i] := by simp [List.getD, hlen]
  have h10 : ((s[i].toNat : Int) == 10) = decide (s[i] = 10) := toNat_eq s[i] 10
  rw [hgd]
  by_cases e : s[i] = 10
  · have g1 := get_self H p (pl q l (inc w))
    have g2 := get_self (H.set p (pl q l (inc w))) p (pl q (inc l) (inc w))
    simp only [if_pos e]
    have x2 : Ext H0 ((H.set p (pl q l (inc w))).set p (pl q (inc l) (inc w))) := x1.1.set low fr high _
    have x3 : Ext H0 (((H.set p (pl q l (inc w))).set p (pl q (inc l) (inc w))).set p (pl q (inc l) 1)) := x2.set low fr high _
    have key : ∃ E' : Env, (E' 0 = .slice (some b) s.length c ∧ E' 1 = .int .i64 (q : Int) ∧ E' 4 = .pointer (some ⟨b4, 0, none⟩) ∧ E' 5 = .pointer (some ⟨p, 0, none⟩) ∧ E' 6 = .int .i64 ((i + 1 : Nat) : Int)) ∧
        execE PP XX K N (loopOf Tryz.f11) none E [] H k = k .norm E' [] (((H.set p (pl q l (inc w))).set p (pl q (inc l) (inc w))).set p (pl q (inc l) 1)) := by
      simp only [loopOf, bodyOf, Tryz.f11, Option.getD_some, theLoop]
      simp (decide := true) only [e0, e1, e5, e6, ↓execE_seq, ↓execE_region, ↓execE_block, ↓execE_skip, ↓execE_cond, ↓execE_exit, thenE_norm, thenE_exit, leaveB_norm, execOpsE_cons, execOpsE_nil, guardE_none, opE_move, opE_assign, opE_binOp, opE_indexAddr, opE_load, evalE_tmp, evalE_const, upd_some, bindO_ok, bindV_ok, groundK_bool, groundK_int, condE_bool, reduceIte, cond_true, cond_false, opE_fieldAddr, opE_store, binA_lss, binA_add, binA_eql, hlt, field1, field2, loadC pc, w1, storeC pc, hix, load_byte hb, e, loadL g1, w2, storeL g1, storeC g2, w3, upd_none]
      refine ⟨_, ⟨?_, ?_, ?_, ?_, ?_⟩, rfl⟩
      · simp (decide := true) only [upd_some, reduceIte, e0]
      · simp (decide := true) only [upd_some, reduceIte, e1]
      · simp (decide := true) only [upd_some, reduceIte, e4]
      · simp (decide := true) only [upd_some, reduceIte, e5]
      · simp (decide := true) only [upd_some, reduceIte]
    obtain ⟨E', ⟨a0, a1, a4, a5, a6⟩, he⟩ := key
    refine ⟨E', _, ⟨a0, a1, a4, a5, a6, get_self _ _ _, ?_, ne, x3, low, high, fr, row, hq⟩, he⟩
    rw [Heap.get_set, if_neg ne, Heap.get_set, if_neg ne]; exact x1.2
  · have hd : decide (s[i] = 10) = false := decide_eq_false e
    simp only [if_neg e]
    have key : ∃ E' : Env, (E' 0 = .slice (some b) s.length c ∧ E' 1 = .int .i64 (q : Int) ∧ E' 4 = .pointer (some ⟨b4, 0, none⟩) ∧ E' 5 = .pointer (some ⟨p, 0, none⟩) ∧ E' 6 = .int .i64 ((i + 1 : Nat) : Int)) ∧
        execE PP XX K N (loopOf Tryz.f11) none E [] H k = k .norm E' [] (H.set p (pl q l (inc w))) := by
      simp only [loopOf, bodyOf, Tryz.f11, Option.getD_some, theLoop]
      simp (decide := true) only [e0, e1, e5, e6, ↓execE_seq, ↓execE_region, ↓execE_block, ↓execE_skip, ↓execE_cond, ↓execE_exit, thenE_norm, thenE_exit, leaveB_norm, execOpsE_cons, execOpsE_nil, guardE_none, opE_move, opE_assign, opE_binOp, opE_indexAddr, opE_load, evalE_tmp, evalE_const, upd_some, bindO_ok, bindV_ok, groundK_bool, groundK_int, condE_bool, reduceIte, cond_true, cond_false, opE_fieldAddr, opE_store, binA_lss, binA_add, binA_eql, hlt, field1, field2, loadC pc, w1, storeC pc, hix, load_byte hb, h10, hd, w3, upd_none]
      refine ⟨_, ⟨?_, ?_, ?_, ?_, ?_⟩, rfl⟩
      · simp (decide := true) only [upd_some, reduceIte, e0]
      · simp (decide := true) only [upd_some, reduceIte, e1]
      · simp (decide := true) only [upd_some, reduceIte, e4]
      · simp (decide := true) only [upd_some, reduceIte, e5]
      · simp (decide := true) only [upd_some, reduceIte]
    obtain ⟨E', ⟨a0, a1, a4, a5, a6⟩, he⟩ := key
    exact ⟨E', _, ⟨a0, a1, a4, a5, a6, get_self _ _ _, x1.2, ne, x1.1, low, high, fr, row, hq⟩, he⟩
end Go.Am
