/- Rows of bytes in heaps that grow. -/
import Derived.Test.YtmliebodadgpbaaGreatDoorLC
open Go.Proofs
namespace Go.Am

def Fresh (H : Heap) : Prop := ∀ b, H.next ≤ b → H.get b = none
/-- All that was there is there. -/
structure Ext (H H' : Heap) : Prop where
  next : H.next ≤ H'.next
  keep : ∀ b x, H.get b = some x → H'.get b = some x
  fresh : Fresh H'
theorem Ext.trans {A B C : Heap} (h : Ext A B) (k : Ext B C) : Ext A C := ⟨Nat.le_trans h.next k.next, fun b x e => k.keep b x (h.keep b x e), k.fresh⟩
theorem Ext.alloc {H : Heap} (h : Fresh H) (es : Nat) (cells : List Value) : Ext H (H.alloc es cells) := by
  refine ⟨Nat.le_succ _, fun b x e => ?_, fun b hb => ?_⟩
  · rw [Heap.get_alloc]
    by_cases c : b = H.next
    · rw [c, h _ (Nat.le_refl _)] at e; cases e
    · rw [if_neg c]; exact e
  · have hb' : H.next + 1 ≤ b := hb
    rw [Heap.get_alloc, if_neg (by omega)]
    exact h b (by omega)
/-- A row beyond all that was there may change. -/
theorem Ext.set {H H' : Heap} (h : Ext H H') {b : Nat} (hb : H.next ≤ b) (hf : Fresh H) (hl : b < H'.next) (x : Blk) : Ext H (H'.set b x) := by
  refine ⟨h.next, fun k y e => ?_, fun k hk => ?_⟩
  · rw [Heap.get_set]
    by_cases c : k = b
    · rw [c, hf _ hb] at e; cases e
    · rw [if_neg c]; exact h.keep k y e
  · have hk' : H'.next ≤ k := hk
    rw [Heap.get_set, if_neg (by omega)]
    exact h.fresh k hk'
theorem Ext.look {H H' : Heap} (h : Ext H H') {a : Addr} {x : Blk} (e : look H a = some x) : look H' a = some x := by
  unfold Am.look at e ⊢
  split at e
  · cases e
  · rename_i hs
    cases hg : H.get a.block with
    | none => simp [hg] at e
    | some y =>
      rw [h.keep _ _ hg]
      simpa [hg] using e

structure Brow (H : Heap) (a : Option Addr) (s : List UInt8) : Prop where
  row : ∀ b, a = some b → ∃ x, look H b = some x ∧ x.es = 1 ∧ b.off + s.length ≤ x.cells.length ∧ (x.cells.drop b.off).take s.length = s.map fun u => .int .u8 (u.toNat : Int)
  nil : a = none → s = []
  small : s.length < 9223372036854775808
theorem Brow.ext {H H' : Heap} {a : Option Addr} {s : List UInt8} (h : Brow H a s) (e : Ext H H') : Brow H' a s :=
  ⟨fun b hb => let ⟨x, h1, h2⟩ := h.row b hb; ⟨x, e.look h1, h2⟩, h.nil, h.small⟩
theorem look_spot {H : Heap} {a : Addr} {x : Blk} (e : look H a = some x) : a.spot = none := by
  unfold Am.look at e
  split at e
  · cases e
  · rename_i hs; exact hs
theorem look_add {H : Heap} {a : Addr} {x : Blk} (e : look H a = some x) (j : Nat) : look H (a.add j) = some x ∧ (a.add j).off = a.off + j := by
  have hs := look_spot e
  obtain ⟨b, off, spot⟩ := a
  simp only at hs
  subst hs
  unfold Addr.add
  by_cases hj : j = 0
  · subst hj; simp [e]
  · simp only [hj, if_false, and_true]
    exact e
theorem bytesOf_map : ∀ s : List UInt8, bytesOf (s.map fun u => Value.int .u8 (u.toNat : Int)) = some s
  | [] => rfl
  | u :: s => by simp [bytesOf, bytesOf_map s]
theorem Brow.bts {H : Heap} {a : Option Addr} {s : List UInt8} (h : Brow H a s) : Bts H a s := by
  refine ⟨fun j hj => ?_, ?_, h.small⟩
  · cases a with
    | none => rw [h.nil rfl] at hj; simp at hj
    | some b =>
      obtain ⟨x, h1, h2, h3, h4⟩ := h.row b rfl
      refine ⟨b, rfl, ?_⟩
      obtain ⟨k1, k2⟩ := look_add h1 j
      unfold ld1
      rw [k1]
      simp only [k2]
      have : ((x.cells.drop b.off).take s.length)[j]? = some (.int .u8 (s[j].toNat : Int)) := by rw [h4]; simp [hj]
      rw [List.getElem?_take_of_lt hj, List.getElem?_drop] at this
      rw [this]
  · cases a with
    | none => rw [h.nil rfl]; rfl
    | some b =>
      obtain ⟨x, h1, h2, h3, h4⟩ := h.row b rfl
      unfold strOf
      by_cases h0 : s.length = 0
      · have : s = [] := List.length_eq_zero_iff.mp h0
        subst this; rfl
      · simp only [if_neg h0, h1, if_pos h3, h4, bytesOf_map]
theorem Brow.take {H : Heap} {a : Option Addr} {s : List UInt8} (h : Brow H a s) {k : Nat} (hk : k ≤ s.length) : Brow H a (s.take k) := by
  refine ⟨fun b hb => ?_, fun e => by rw [h.nil e]; simp, by simp; have := h.small; omega⟩
  obtain ⟨x, h1, h2, h3, h4⟩ := h.row b hb
  refine ⟨x, h1, h2, by simp; omega, ?_⟩
  have hl : (s.take k).length = k := by simp; omega
  rw [hl, List.map_take, ← h4, List.take_take, Nat.min_eq_left hk]

/-- The front of a row. -/
theorem slice_row {H : Heap} {a : Option Addr} {s : List UInt8} (h : Brow H a s) {k c : Nat} (hk : k ≤ s.length) (hc : s.length ≤ c) (hn : a = none → c = 0) :
    sliceOpA PP 34 (.slice a s.length c) none (some (.int .i64 (k : Int))) none H = some (.slice a k c) := by
  simp only [sliceOpA, und34, size5, sliceA]
  have hi : (0 : Int) ≤ 0 ∧ (0 : Int) ≤ (k : Int) ∧ (k : Int) ≤ (c : Int) := by omega
  rw [if_pos hi]
  cases a with
  | none =>
    have := hn rfl
    have e : s = [] := h.nil rfl
    subst e
    simp at hk
    subst hk this
    rfl
  | some b =>
    obtain ⟨x, h1, h2, _⟩ := h.row b rfl
    simp only [h1, h2, if_true]
    simp [Addr.add]
end Go.Am
