/- A lexeme: all of them. -/
import Derived.Test.YtohmeeglehopiaaDoorS7
import Derived.Test.YtohmeeglehopiaaDoorS3
open Go.Proofs
namespace Go.Am
/-- What stands at a place. -/
inductive LR where
  | bad (e : Nat)
  | good (k : Tk)
def wordI (s : List UInt8) (i : Nat) : LR :=
  if runTo s (s.length - i) i ≤ i + 32 then .good ⟨(wordKT ((s.drop i).take (runTo s (s.length - i) i - i))).1, 0, ⟨⟨(wordKT ((s.drop i).take (runTo s (s.length - i) i - i))).2⟩⟩, i, runTo s (s.length - i) i⟩ else .bad (i + 32)
def signI (s : List UInt8) (i : Nat) : LR :=
  if (signR ((s.getD i 0).toNat : Int) (nextB s i)).1 = 0 then .bad (i + (signR ((s.getD i 0).toNat : Int) (nextB s i)).2) else .good ⟨(signR ((s.getD i 0).toNat : Int) (nextB s i)).1, 0, .empty, i, i + (signR ((s.getD i 0).toNat : Int) (nextB s i)).2⟩
def lexI (s : List UInt8) (i : Nat) : LR :=
  if clsI (s.getD i 0) = 3 then (match intI s i with | .bad e => .bad e | .good n e => .good ⟨2, (n : Int), .empty, i, e⟩)
  else if clsI (s.getD i 0) = 4 then wordI s i
  else if clsI (s.getD i 0) = 5 then (match textI s (s.length - i) i [] with | .bad e => .bad e | .good w e => .good ⟨3, 0, ⟨⟨w⟩⟩, i, e⟩)
  else if clsI (s.getD i 0) = 6 then signI s i
  else .bad i
/-- What is asked of the functions that are looked up. -/
structure HkOk (hk : Hook) : Prop where
  nil : ∀ f args H, okC f = true → hk f args H = none
  single : ∀ (u : UInt8) H, Ext GE H → hk 57 #[.int .u8 (u.toNat : Int)] H = some (some (.ret (.int .i64 (singleT u.toNat)), H))
  hex : ∀ (u : UInt8) H, Ext GE H → hk 55 #[.int .u8 (u.toNat : Int)] H = some (some (.ret (.int .u64 (hexT u.toNat)), H))
  mul : ∀ x y H, x < m64 → y < m64 → hk 73 #[.int .u64 ((x : Nat) : Int), .int .u64 ((y : Nat) : Int)] H = some (some (.ret (mulV x y), H))
  fields : ∀ H, Ext GE H → hk 36 #[strV wordsB] H = some (some (.ret (.slice (some ⟨H.next, 0, none⟩) 50 50), H.alloc 1 wordsV))
theorem clsI_of (s : List UInt8) {i : Nat} (hi : i < s.length) : s.getD i 0 = s[i] := by simp [List.getD, hi]
end Go.Am
/- Tokens, for all texts. -/
open Go.Proofs
namespace Go.Am
theorem isI_lt {s : List UInt8} {i : Nat} {q : Int} (h : isI s i q = true) : i < s.length := by
  unfold isI at h
  simp only [Bool.and_eq_true, decide_eq_true_eq] at h
  exact h.1
/-- The lexemes of a text from a place on, or its first wrong byte. -/
def toksI (s : List UInt8) : Nat → Nat → List Tk × Option Nat
  | 0, _ => ([], none)
  | k + 1, i =>
    if skipTo s (s.length - i) i < s.length then
      match lexI s (skipTo s (s.length - i) i) with
      | .bad e => ([], some e)
      | .good tk => (tk :: (toksI s k tk.to_).1, (toksI s k tk.to_).2)
    else ([], none)
end Go.Am
/- Rows of bytes that grow: an append of a row or of a text; the part of a row ahead of a place. -/
open Go.Proofs
namespace Go.Am
theorem over_nil (l : List Value) (n : Nat) : over l n [] = l := by simp [over]
theorem BRow.brow {H : Heap} {v : Value} {o : List UInt8} {lo : Nat} (h : BRow H v o lo) (hs : o.length < 9223372036854775808) : ∃ a, v = .slice a o.length o.length ∧ Brow H a o := by
  rcases h with ⟨rfl, rfl⟩ | ⟨hne, q, rfl, hg, _⟩
  · exact ⟨none, rfl, ⟨fun b hb => (by cases hb), fun _ => rfl, by decide⟩⟩
  · refine ⟨some ⟨q, 0, none⟩, rfl, ⟨fun b hb => ?_, fun e => (by cases e), hs⟩⟩
    obtain rfl := Option.some.inj hb
    refine ⟨_, by simp [look, hg]; rfl, rfl, by simp, ?_⟩
    simp only [List.drop_zero]
    rw [List.take_of_length_le (by simp)]
    rfl
theorem src_row {H : Heap} {a : Option Addr} {w : List UInt8} {c : Nat} (h : Brow H a w) : srcCells H 1 (.slice a w.length c) = some (w.length, w.map f8) := by
  cases a with
  | none =>
    have := h.nil rfl
    subst this; rfl
  | some a =>
    obtain ⟨x, h1, h2, h3, h4⟩ := h.row a rfl
    simp only [srcCells, h1, Nat.mul_one]
    rw [if_pos h3, h4]; rfl
theorem brow_app {H : Heap} {v x : Value} {o w : List UInt8} {lo : Nat} {u : TypeId} (ho : BRow H v o lo) (hf : Fresh H) (hlo : lo ≤ H.next) (hu : (∃ e, PP.underlying u = some (.slice e)) ∨ PP.underlying u = some .string)
    (hx : srcCells H 1 x = some (w.length, w.map f8)) (hn : o.length + w.length ≤ 140737488355328) :
    ∃ v' H', appendA PP #[26, u] v x H = some (v', H') ∧ BRow H' v' (o ++ w) lo ∧ (∀ z y, z < lo → H.get z = some y → H'.get z = some y) ∧ H.next ≤ H'.next ∧ Fresh H' := by
  obtain ⟨i, h1, h2, h3⟩ := infoB
  have hA : appendA PP #[26, u] v x H = app H 1 1 v w.length (w.map f8) := by
    simp only [appendA]
    rcases hu with ⟨e, hu⟩ | hu <;> simp [hu, h1, h2, h3, zeroB, hx]
  rw [hA]
  have al : ∀ (G : Heap) (cells : List Value), Fresh G → Fresh (G.alloc 1 cells) := fun G cells hG z hz => by
    have hz' : G.next + 1 ≤ z := hz
    rw [Heap.get_alloc, if_neg (by omega)]; exact hG z (by omega)
  rcases ho with ⟨rfl, rfl⟩ | ⟨hne, q, rfl, hg, hlq⟩
  · by_cases hw : w.length = 0
    · have e : w = [] := List.length_eq_zero_iff.mp hw
      subst e
      exact ⟨_, H, by simp only [app]; rw [if_pos hw], .inl ⟨rfl, rfl⟩, fun z y _ h => h, Nat.le_refl _, hf⟩
    · refine ⟨_, _, by simp only [app]; rw [if_neg hw, if_pos (by unfold most; simp at hn; omega)]; rfl, .inr ⟨?_, H.next, by rw [List.nil_append], ?_, hlo⟩, fun z y hz hg => ?_, Nat.le_succ _, al _ _ hf⟩
      · intro e; rw [List.nil_append] at e; rw [e] at hw; exact hw rfl
      · rw [Heap.get_alloc, if_pos rfl]; rfl
      · rw [Heap.get_alloc, if_neg (by omega)]; exact hg
  · have hlen : o.length ≠ 0 := by simpa using hne
    have hl1 : (o.map f8).length = o.length := by simp
    have hlk : look H ⟨q, 0, none⟩ = some ⟨o.map f8, true, 1, none⟩ := by simp [look, hg]
    have hp : (w.map f8).all Value.oneCell' = true := f8_plain w
    have fd : Fresh (H.drop q) := fun z hz => by
      have hz' : H.next ≤ z := hz
      rw [Heap.get_drop]; split
      · rfl
      · exact hf z hz'
    by_cases hw : w.length = 0
    · have e : w = [] := List.length_eq_zero_iff.mp hw
      subst e
      refine ⟨.slice (some ⟨q, 0, none⟩) o.length o.length, H.set q ⟨o.map f8, true, 1, none⟩, ?_, ?_, fun z y hz hy => ?_, Nat.le_refl _, fun z hz => ?_⟩
      · simp only [app, hlk]
        rw [if_pos ⟨trivial, trivial, by simp, hp, by unfold most; simp at hn ⊢; omega, by unfold most; simp at hn ⊢; omega⟩, if_pos (by simp), if_pos (by simp), List.map_nil, over_nil]
        simp
      · rw [List.append_nil]
        exact .inr ⟨hne, q, rfl, by rw [Heap.get_set, if_pos rfl], hlq⟩
      · rw [Heap.get_set, if_neg (by omega)]; exact hy
      · rw [Heap.get_set]
        have hz' : H.next ≤ z := hz
        have hq : q < H.next := by
          rcases Nat.lt_or_ge q H.next with c | c
          · exact c
          · rw [hf q c] at hg; cases hg
        rw [if_neg (by omega)]; exact hf z hz'
    · refine ⟨_, (H.drop q).alloc 1 ((o ++ w).map f8), ?_, .inr ⟨by simp [hne], H.next, rfl, ?_, hlo⟩, fun z y hz hy => ?_, Nat.le_succ _, al (H.drop q) _ fd⟩
      · simp only [app, hlk]
        rw [if_pos ⟨trivial, trivial, by simp, hp, by unfold most; omega, by unfold most; omega⟩, if_neg (by omega)]
        have e1 : (List.drop 0 (o.map f8)).take (o.length * 1) = o.map f8 := by rw [List.drop_zero, Nat.mul_one, ← hl1, List.take_length]
        simp only [e1, mkRow, List.map_append, List.length_append]
        rfl
      · rw [Heap.get_alloc]; exact if_pos rfl
      · rw [Heap.get_alloc, if_neg (by show ¬ z = H.next; omega), Heap.get_drop, if_neg (by omega)]; exact hy
theorem app_builtin2 (u : TypeId) (s x : Value) (H : Heap) (k : Value → Heap → R) : builtinK PP .append #[26, u] #[s, x] H k = bindV (appendA PP #[26, u] s x H) k := by simp [builtinK]
end Go.Am
/- What Tokens answers; the fields of a row of lexemes. -/
open Go.Proofs
namespace Go.Am
def firstI (s : List UInt8) : Option Nat := (toksI s (s.length + 1) 0).2
def posI (s : List UInt8) : Int := match firstI s with | none => 0 | some x => (x : Int)
def errI (s : List UInt8) : Int := match firstI s with | none => 0 | some _ => 60
theorem TkRow.ext {H H' : Heap} {v : Value} {ts : List Tk} {lo : Nat} (h : TkRow H v ts lo) (x : Ext H H') : TkRow H' v ts lo := by
  rcases h with o | ⟨o1, q, o2, o3, o4⟩
  · exact .inl o
  · exact .inr ⟨o1, q, o2, x.keep _ _ o3, o4⟩
theorem TkRow.len {H : Heap} {v : Value} {ts : List Tk} {lo : Nat} (h : TkRow H v ts lo) : ∃ a, v = .slice a ts.length ts.length := by
  rcases h with ⟨rfl, rfl⟩ | ⟨_, q, rfl, _⟩
  · exact ⟨none, rfl⟩
  · exact ⟨_, rfl⟩
theorem TkRow.at_ {H : Heap} {v : Value} {ts : List Tk} {lo i : Nat} (h : TkRow H v ts lo) (hi : i < ts.length) : ∃ q, v = .slice (some ⟨q, 0, none⟩) ts.length ts.length ∧ H.get q = some ⟨ts.flatMap Tk.cells, true, 5, none⟩ := by
  rcases h with ⟨rfl, rfl⟩ | ⟨_, q, rfl, h, _⟩
  · simp at hi
  · exact ⟨q, rfl, h⟩
theorem BRow.ext {H H' : Heap} {v : Value} {o : List UInt8} {lo : Nat} (h : BRow H v o lo) (x : Ext H H') : BRow H' v o lo := by
  rcases h with p | ⟨o1, q, o2, o3, o4⟩
  · exact .inl p
  · exact .inr ⟨o1, q, o2, x.keep _ _ o3, o4⟩
theorem lt_next {H : Heap} (hf : Fresh H) {z : Nat} {y : Blk} (h : H.get z = some y) : z < H.next := by
  rcases Nat.lt_or_ge z H.next with q | q
  · exact q
  · rw [hf z q] at h; cases h
end Go.Am
