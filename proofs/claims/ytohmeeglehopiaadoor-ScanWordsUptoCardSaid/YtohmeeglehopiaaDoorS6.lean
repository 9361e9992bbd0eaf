/- An integer: hex digits, and all of it. -/
import Derived.Test.YtohmeeglehopiaaDoorS5
open Go.Proofs
namespace Go.Am
/-- What an integer is. -/
def intI (s : List UInt8) (i : Nat) : IR := if s.getD i 0 = 48 ∧ i + 1 < s.length ∧ s.getD (i + 1) 0 = 120 then hexI s (i + 2) (s.length - (i + 2)) (i + 2) 0 else decI s (s.length - i) i 0
end Go.Am
/- A text: its bytes. -/
open Go.Proofs
namespace Go.Am
def f8 (u : UInt8) : Value := .int .u8 (u.toNat : Int)
def BRow (H : Heap) (v : Value) (o : List UInt8) (lo : Nat) : Prop :=
  (o = [] ∧ v = .slice none 0 0) ∨ (o ≠ [] ∧ ∃ q, v = .slice (some ⟨q, 0, none⟩) o.length o.length ∧ H.get q = some ⟨o.map f8, true, 1, none⟩ ∧ lo ≤ q)
theorem f8_plain : ∀ o : List UInt8, (o.map f8).all Value.oneCell' = true
  | [] => rfl
  | u :: o => by simp only [List.map_cons, List.all_cons, f8_plain o, Bool.and_true]; rfl
theorem infoB : ∃ i, PP.info? 5 = some i ∧ i.size = 1 ∧ i.bytes = 1 := by
  have h : (PP.info? 5).map (fun i => (i.size, i.bytes)) = some (1, 1) := by kernel_rfl
  cases hi : PP.info? 5 with
  | none => rw [hi] at h; cases h
  | some i => rw [hi] at h; simp at h; exact ⟨i, rfl, h.1, h.2⟩
theorem zeroB : zeroT PP 5 = some [.int .u8 0] := by kernel_rfl
theorem brow_append {H : Heap} {v : Value} {o : List UInt8} {lo q1 : Nat} (ho : BRow H v o lo) (hf : Fresh H) (hlo : lo ≤ H.next) (u : UInt8) (hq : H.get q1 = some ⟨[f8 u], true, 1, none⟩) (hn : o.length ≤ 1048576) :
    ∃ v' H', appendA PP #[26, 26] v (.slice (some ⟨q1, 0, none⟩) 1 1) H = some (v', H') ∧ BRow H' v' (o ++ [u]) lo ∧ (∀ z w, z < lo → H.get z = some w → H'.get z = some w) ∧ H.next ≤ H'.next ∧ Fresh H' := by
  obtain ⟨i, h1, h2, h3⟩ := infoB
  have src : srcCells H 1 (.slice (some ⟨q1, 0, none⟩) 1 1) = some (1, [f8 u]) := by simp [srcCells, look, hq]
  have hA : appendA PP #[26, 26] v (.slice (some ⟨q1, 0, none⟩) 1 1) H = app H 1 1 v 1 [f8 u] := by
    simp only [appendA]
    simp [h1, h2, h3, zeroB, src]
  rw [hA]
  have al : ∀ (G : Heap) (cells : List Value), Fresh G → Fresh (G.alloc 1 cells) := fun G cells hG z hz => by
    have hz' : G.next + 1 ≤ z := hz
    rw [Heap.get_alloc, if_neg (by omega)]; exact hG z (by omega)
  rcases ho with ⟨rfl, rfl⟩ | ⟨hne, q, rfl, hg, hlq⟩
  · refine ⟨_, _, by simp only [app]; rw [if_neg (by decide), if_pos (by decide)]; rfl, .inr ⟨by simp, H.next, rfl, ?_, hlo⟩, fun z w hz hg => ?_, Nat.le_succ _, al _ _ hf⟩
    · rw [Heap.get_alloc, if_pos rfl]; simp
    · rw [Heap.get_alloc, if_neg (by omega)]; exact hg
  · have hlen : o.length ≠ 0 := by simpa using hne
    have hl1 : (o.map f8).length = o.length := by simp
    have hlk : look H ⟨q, 0, none⟩ = some ⟨o.map f8, true, 1, none⟩ := by simp [look, hg]
    have hp : [f8 u].all Value.oneCell' = true := rfl
    have fd : Fresh (H.drop q) := fun z hz => by
      have hz' : H.next ≤ z := hz
      rw [Heap.get_drop]; split
      · rfl
      · exact hf z hz'
    refine ⟨_, (H.drop q).alloc 1 ((o ++ [u]).map f8), ?_, .inr ⟨by simp, H.next, rfl, ?_, hlo⟩, fun z w hz hg => ?_, Nat.le_succ _, al (H.drop q) _ fd⟩
    · simp only [app, hlk]
      rw [if_pos ⟨trivial, trivial, by simp, hp, by unfold most; omega, by unfold most; omega⟩, if_neg (by omega)]
      have e1 : (List.drop 0 (o.map f8)).take (o.length * 1) = o.map f8 := by rw [List.drop_zero, Nat.mul_one, ← hl1, List.take_length]
      simp only [e1, mkRow, List.map_append, List.length_append, List.length_cons, List.length_nil, List.map_cons, List.map_nil]
      rfl
    · rw [Heap.get_alloc]; exact if_pos rfl
    · rw [Heap.get_alloc, if_neg (by show ¬ z = H.next; omega), Heap.get_drop, if_neg (by omega)]; exact hg
theorem bslice1 (H : Heap) (n : Int) : buildSliceA PP 26 1 #[(0, .int .u8 n)] H = some (.slice (some ⟨H.next, 0, none⟩) 1 1, H.alloc 1 [.int .u8 n]) := by
  have hf : Instr.fill (fun i => some (i * 1, 1)) (zeroRow [.int .u8 0] (1 * 1)).toArray [(0, .int .u8 n)] = some #[.int .u8 n] := by rfl
  simp only [buildSliceA, und34, size5, zeroB, mkRow, hf]
  simp
theorem conv_row {H : Heap} {v : Value} {o : List UInt8} {lo : Nat} (h : BRow H v o lo) : convertA PP 26 9 v H = some (.string ⟨⟨o⟩⟩, H) := by
  rcases h with ⟨rfl, rfl⟩ | ⟨hne, q, rfl, hg, _⟩
  · simp only [convertA, und34, undStr, undU8, strOf]; rfl
  · have hl : (o.map f8).length = o.length := by simp
    have e : strOf H (some ⟨q, 0, none⟩) o.length = some ⟨⟨o⟩⟩ := by
      have hlen : o.length ≠ 0 := by simpa using hne
      have hb : bytesOf (o.map f8) = some o := bytesOf_map o
      have ht : (o.map f8).take o.length = o.map f8 := by rw [← hl, List.take_length]
      simp [strOf, hlen, look, hg, hb, ht]
    simp only [convertA, und34, undStr, undU8, e]

/-- The state of a text's reading. -/
structure Txt (H0 H : Heap) (b : Nat) (a : Option Addr) (n c i : Nat) (v : Value) (o : List UInt8) : Prop where
  next : H0.next ≤ H.next
  here : H.get b = some (cur a n c i)
  there : ∀ z w, z ≠ b → H0.get z = some w → H.get z = some w
  fresh : Fresh H
  out : BRow H v o H0.next
theorem Txt.set {H0 H : Heap} {b : Nat} {a : Option Addr} {n c i : Nat} {v : Value} {o : List UInt8} (h : Txt H0 H b a n c i v o) (hb : b < H0.next) (j : Nat) : Txt H0 (H.set b (cur a n c j)) b a n c j v o := by
  refine ⟨h.next, get_self _ _ _, fun z w h1 h2 => by rw [Heap.get_set, if_neg h1]; exact h.there z w h1 h2, fun z hz => ?_, ?_⟩
  · have hz' : H.next ≤ z := hz
    have := h.next
    rw [Heap.get_set, if_neg (by omega)]; exact h.fresh z hz'
  · rcases h.out with o1 | ⟨o1, q, o2, o3, o4⟩
    · exact .inl o1
    · exact .inr ⟨o1, q, o2, by rw [Heap.get_set, if_neg (by omega)]; exact o3, o4⟩
theorem Txt.gg {H0 H : Heap} {b : Nat} {a : Option Addr} {n c i : Nat} {v : Value} {o : List UInt8} {s : List UInt8} (h : Txt H0 H b a n c i v o) (x : Ctx H0 a c s b) : Ext GE H :=
  ⟨Nat.le_trans x.gg.next h.next, fun z w hz => h.there z w (fun e => by rw [e, fresh_GE b x.low] at hz; cases hz) (x.gg.keep z w hz), h.fresh⟩
theorem Txt.row {H0 H : Heap} {b : Nat} {a : Option Addr} {n c i : Nat} {v : Value} {o : List UInt8} {s : List UInt8} (h : Txt H0 H b a n c i v o) (x : Ctx H0 a c s b) : Brow H a s := by
  refine ⟨fun q hq => ?_, x.row.nil, x.row.small⟩
  obtain ⟨z, h1, h2⟩ := x.row.row q hq
  refine ⟨z, ?_, h2⟩
  unfold look at h1 ⊢
  split at h1
  · cases h1
  · cases hg : H0.get q.block with
    | none => rw [hg] at h1; cases h1
    | some w => rw [hg] at h1; rw [h.there _ _ (x.ne q hq) hg]; exact h1
/-- A byte more. -/
theorem Txt.add {H0 H : Heap} {b : Nat} {a : Option Addr} {n c i : Nat} {v : Value} {o : List UInt8} (h : Txt H0 H b a n c i v o) (hf : Fresh H0) (hb : b < H0.next) (u : UInt8) (hn : o.length ≤ 1048576) :
    ∃ v' H', appendA PP #[26, 26] v (.slice (some ⟨H.next, 0, none⟩) 1 1) (H.alloc 1 [.int .u8 (u.toNat : Int)]) = some (v', H') ∧ Txt H0 H' b a n c i v' (o ++ [u]) := by
  have hn0 := h.next
  have q1 : (H.alloc 1 [.int .u8 (u.toNat : Int)]).get H.next = some ⟨[f8 u], true, 1, none⟩ := by rw [Heap.get_alloc, if_pos rfl]; rfl
  have f1 : Fresh (H.alloc 1 [.int .u8 (u.toNat : Int)]) := (Ext.alloc h.fresh 1 _).fresh
  have b1 : BRow (H.alloc 1 [.int .u8 (u.toNat : Int)]) v o H0.next := by
    rcases h.out with o1 | ⟨o1, q, o2, o3, o4⟩
    · exact .inl o1
    · exact .inr ⟨o1, q, o2, (Ext.alloc h.fresh 1 _).keep _ _ o3, o4⟩
  obtain ⟨v', H', a1, a2, a3, a4, a5⟩ := brow_append (lo := H0.next) b1 f1 (by show H0.next ≤ H.next + 1; omega) u q1 hn
  refine ⟨v', H', a1, ⟨?_, ?_, fun z w h1 h2 => ?_, a5, a2⟩⟩
  · have n6 : H.next + 1 ≤ H'.next := a4
    omega
  · exact a3 b _ hb ((Ext.alloc h.fresh 1 _).keep _ _ h.here)
  · have hz : z < H0.next := by
      by_cases cz : H0.next ≤ z
      · rw [hf z cz] at h2; cases h2
      · omega
    exact a3 z w hz ((Ext.alloc h.fresh 1 _).keep _ _ (h.there z w h1 h2))
section
end
end Go.Am
