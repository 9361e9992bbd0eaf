/- Rows of bytes that grow: an append of a row or of a text; the part of a row ahead of a place. -/
import Derived.Test.YtohmeeglehopiaaDoorS8
open Go.Proofs
namespace Go.Am
theorem over_nil (l : List Value) (n : Nat) : over l n [] = l := by simp [over]
theorem BRow.brow {H : Heap} {v : Value} {o : List UInt8} {lo : Nat} (h : BRow H v o lo) (hs : o.length < 9223372036854775808) : ∃ a, v = .slice a o.length o.length ∧ Brow H a o := by
  rcases h with ⟨rfl, rfl⟩ | ⟨hne, q, rfl, hg, _⟩
  · exact ⟨none, rfl, ⟨fun b hb => (by cases hb), fun _ => rfl, by decide⟩⟩
  · refine ⟨some ⟨q, 0, none⟩, rfl, ⟨fun b hb => ?_, fun e => (by cases e), hs⟩⟩
    obtain rfl := Option.some.inj hb
    refine ⟨_, by simp [look, hg]; rfl, rfl, by simp, ?_⟩
    simp only [List.drop_zero]
    rw [List.take_of_length_le (by simp)]
    rfl
theorem src_row {H : Heap} {a : Option Addr} {w : List UInt8} {c : Nat} (h : Brow H a w) : srcCells H 1 (.slice a w.length c) = some (w.length, w.map f8) := by
  cases a with
  | none =>
    have := h.nil rfl
    subst this; rfl
  | some a =>
    obtain ⟨x, h1, h2, h3, h4⟩ := h.row a rfl
    simp only [srcCells, h1, Nat.mul_one]
    rw [if_pos h3, h4]; rfl
theorem src_str (H : Heap) (w : List UInt8) : srcCells H 1 (.string ⟨⟨w⟩⟩) = some (w.length, w.map f8) := by
  simp only [srcCells]
  rfl
theorem brow_app {H : Heap} {v x : Value} {o w : List UInt8} {lo : Nat} {u : TypeId} (ho : BRow H v o lo) (hf : Fresh H) (hlo : lo ≤ H.next) (hu : (∃ e, PP.underlying u = some (.slice e)) ∨ PP.underlying u = some .string)
    (hx : srcCells H 1 x = some (w.length, w.map f8)) (hn : o.length + w.length ≤ 140737488355328) :
    ∃ v' H', appendA PP #[26, u] v x H = some (v', H') ∧ BRow H' v' (o ++ w) lo ∧ (∀ z y, z < lo → H.get z = some y → H'.get z = some y) ∧ H.next ≤ H'.next ∧ Fresh H' := by
  obtain ⟨i, h1, h2, h3⟩ := infoB
  have hA : appendA PP #[26, u] v x H = app H 1 1 v w.length (w.map f8) := by
    simp only [appendA]
    rcases hu with ⟨e, hu⟩ | hu <;> simp [hu, h1, h2, h3, zeroB, hx]
  rw [hA]
  have al : ∀ (G : Heap) (cells : List Value), Fresh G → Fresh (G.alloc 1 cells) := fun G cells hG z hz => by
    have hz' : G.next + 1 ≤ z := hz
    rw [Heap.get_alloc, if_neg (by omega)]; exact hG z (by omega)
  rcases ho with ⟨rfl, rfl⟩ | ⟨hne, q, rfl, hg, hlq⟩
  · by_cases hw : w.length = 0
    · have e : w = [] := List.length_eq_zero_iff.mp hw
      subst e
      exact ⟨_, H, by simp only [app]; rw [if_pos hw], .inl ⟨rfl, rfl⟩, fun z y _ h => h, Nat.le_refl _, hf⟩
    · refine ⟨_, _, by simp only [app]; rw [if_neg hw, if_pos (by unfold most; simp at hn; omega)]; rfl, .inr ⟨?_, H.next, by rw [List.nil_append], ?_, hlo⟩, fun z y hz hg => ?_, Nat.le_succ _, al _ _ hf⟩
      · intro e; rw [List.nil_append] at e; rw [e] at hw; exact hw rfl
      · rw [Heap.get_alloc, if_pos rfl]; rfl
      · rw [Heap.get_alloc, if_neg (by omega)]; exact hg
  · have hlen : o.length ≠ 0 := by simpa using hne
    have hl1 : (o.map f8).length = o.length := by simp
    have hlk : look H ⟨q, 0, none⟩ = some ⟨o.map f8, true, 1, none⟩ := by simp [look, hg]
    have hp : (w.map f8).all Value.oneCell' = true := f8_plain w
    have fd : Fresh (H.drop q) := fun z hz => by
      have hz' : H.next ≤ z := hz
      rw [Heap.get_drop]; split
      · rfl
      · exact hf z hz'
    by_cases hw : w.length = 0
    · have e : w = [] := List.length_eq_zero_iff.mp hw
      subst e
      refine ⟨.slice (some ⟨q, 0, none⟩) o.length o.length, H.set q ⟨o.map f8, true, 1, none⟩, ?_, ?_, fun z y hz hy => ?_, Nat.le_refl _, fun z hz => ?_⟩
      · simp only [app, hlk]
        rw [if_pos ⟨trivial, trivial, by simp, hp, by unfold most; simp at hn ⊢; omega, by unfold most; simp at hn ⊢; omega⟩, if_pos (by simp), if_pos (by simp), List.map_nil, over_nil]
        simp
      · rw [List.append_nil]
        exact .inr ⟨hne, q, rfl, by rw [Heap.get_set, if_pos rfl], hlq⟩
      · rw [Heap.get_set, if_neg (by omega)]; exact hy
      · rw [Heap.get_set]
        have hz' : H.next ≤ z := hz
        have hq : q < H.next := by
          rcases Nat.lt_or_ge q H.next with c | c
          · exact c
          · rw [hf q c] at hg; cases hg
        rw [if_neg (by omega)]; exact hf z hz'
    · refine ⟨_, (H.drop q).alloc 1 ((o ++ w).map f8), ?_, .inr ⟨by simp [hne], H.next, rfl, ?_, hlo⟩, fun z y hz hy => ?_, Nat.le_succ _, al (H.drop q) _ fd⟩
      · simp only [app, hlk]
        rw [if_pos ⟨trivial, trivial, by simp, hp, by unfold most; omega, by unfold most; omega⟩, if_neg (by omega)]
        have e1 : (List.drop 0 (o.map f8)).take (o.length * 1) = o.map f8 := by rw [List.drop_zero, Nat.mul_one, ← hl1, List.take_length]
        simp only [e1, mkRow, List.map_append, List.length_append]
        rfl
      · rw [Heap.get_alloc]; exact if_pos rfl
      · rw [Heap.get_alloc, if_neg (by show ¬ z = H.next; omega), Heap.get_drop, if_neg (by omega)]; exact hy
theorem app_builtin2 (u : TypeId) (s x : Value) (H : Heap) (k : Value → Heap → R) : builtinK PP .append #[26, u] #[s, x] H k = bindV (appendA PP #[26, u] s x H) k := by simp [builtinK]
theorem slice_pre {H : Heap} {a : Option Addr} {s : List UInt8} {c x : Nat} (h : Brow H a s) (hx : x ≤ s.length) (hc : s.length ≤ c) :
    ∃ a' c', sliceOpA PP 26 (.slice a s.length c) none (some (.int .i64 (x : Int))) none H = some (.slice a' (s.take x).length c') ∧ Brow H a' (s.take x) := by
  have hl : (s.take x).length = x := by simp; omega
  simp only [sliceOpA, und34, size5, sliceA]
  cases a with
  | none =>
    have hs := h.nil rfl
    subst hs
    have h0 : x = 0 := by simpa using hx
    subst h0
    exact ⟨none, 0, by rw [if_pos ⟨by omega, by omega, by omega⟩]; rfl, ⟨fun b hb => by simp at hb, fun _ => rfl, by simp⟩⟩
  | some a =>
    obtain ⟨z, h1, h2, h3, h4⟩ := h.row a rfl
    have e : a.add 0 = a := by
      obtain ⟨b, o, sp⟩ := a
      rfl
    refine ⟨some a, c, ?_, ⟨fun b hb => ?_, fun e => (by cases e), by rw [hl]; have := h.small; omega⟩⟩
    · rw [if_pos ⟨by omega, by omega, by omega⟩]
      simp [h1, h2, e, hl]
    · obtain rfl := Option.some.inj hb
      refine ⟨z, h1, h2, by rw [hl]; omega, ?_⟩
      have : (z.cells.drop a.off).take x = ((z.cells.drop a.off).take s.length).take x := by rw [List.take_take, Nat.min_eq_left hx]
      rw [hl, this, h4, List.map_take]
/-- A row made anew of what stands ahead of a place, and something behind. -/
theorem cut_app {H : Heap} {a : Option Addr} {s w : List UInt8} {x : Value} {u : TypeId} (hf : Fresh H) (h : Brow H a s) (hu : (∃ e, PP.underlying u = some (.slice e)) ∨ PP.underlying u = some .string) (hx : ∀ H', Ext H H' → srcCells H' 1 x = some (w.length, w.map f8)) (hn : s.length + w.length ≤ 140737488355328) (c : Nat) :
    ∃ v1 H1 b H2, appendA PP #[26, 26] (.slice none 0 0) (.slice a s.length c) H = some (v1, H1) ∧ Ext H H1 ∧ appendA PP #[26, u] v1 x H1 = some (.slice b (s ++ w).length (s ++ w).length, H2) ∧ Ext H H2 ∧ Brow H2 b (s ++ w) := by
  have hb : ∃ e, PP.underlying 26 = some (.slice e) := ⟨_, und34⟩
  obtain ⟨v1, H1, p1, p2, p3, p4, p5⟩ := brow_app (H := H) (v := .slice none 0 0) (o := []) (lo := H.next) (.inl ⟨rfl, rfl⟩) hf (Nat.le_refl _) (.inl hb) (src_row (c := c) h) (by simp; omega)
  have lt_of : ∀ z y, H.get z = some y → z < H.next := fun z y hy => by
    rcases Nat.lt_or_ge z H.next with q | q
    · exact q
    · rw [hf z q] at hy; cases hy
  have e1 : Ext H H1 := ⟨p4, fun z y hy => p3 z y (lt_of z y hy) hy, p5⟩
  rw [List.nil_append] at p2
  obtain ⟨v2, H2, q1, q2, q3, q4, q5⟩ := brow_app (x := x) (w := w) p2 p5 p4 hu (hx H1 e1) hn
  obtain ⟨b, rfl, hb2⟩ := q2.brow (by rw [List.length_append]; omega)
  exact ⟨v1, H1, b, H2, p1, e1, q1, ⟨Nat.le_trans p4 q4, fun z y hy => q3 z y (lt_of z y hy) (p3 z y (lt_of z y hy) hy), q5⟩, hb2⟩
end Go.Am
/- What Tokens answers; the fields of a row of lexemes. -/
open Go.Proofs
namespace Go.Am
def firstI (s : List UInt8) : Option Nat := (toksI s (s.length + 1) 0).2
def posI (s : List UInt8) : Int := match firstI s with | none => 0 | some x => (x : Int)
def errI (s : List UInt8) : Int := match firstI s with | none => 0 | some _ => 60
theorem toks_q {N : Nat} {hk : Hook} {d : Nat} {H : Heap} {a : Option Addr} {c : Nat} {s : List UInt8} (K : HkOk hk) (hG : Ext GE H) (hr : Brow H a s) (hN : 2 * s.length + 100 < N) (hs : s.length ≤ 1048576) (hc : s.length ≤ c) :
    ∃ H', Ext H H' ∧ ∃ v, CG N hk (d + 5) 9 #[.slice a s.length c] H = some (.ret (.tuple #[v, .int .i64 (posI s), .int .i64 (errI s)]), H') ∧ (firstI s ≠ none → v = .slice none 0 0) := by
  obtain ⟨H', h1, v, e, q, h2, h3⟩ := tokens_any (N := N) (hk := hk) (d := d) K hG hr hN hs hc
  refine ⟨H', h1, v, ?_⟩
  unfold posI errI
  rcases h3 with ⟨p1, _, rfl, rfl⟩ | ⟨x, p1, rfl, rfl, rfl⟩
  · have p1 : firstI s = none := p1
    rw [p1]; exact ⟨h2, fun q => absurd rfl q⟩
  · have p1 : firstI s = some x := p1
    rw [p1]; exact ⟨h2, fun _ => rfl⟩
theorem ext0 (v e q : Value) : extractA (.tuple #[v, e, q]) 0 = some v := rfl
theorem ext1 (v e q : Value) : extractA (.tuple #[v, e, q]) 1 = some e := rfl
theorem ext2 (v e q : Value) : extractA (.tuple #[v, e, q]) 2 = some q := rfl
theorem veq_str (s : ByteArray) : veq (.string s) (.string s) = true := by simp [veq, veq0]
theorem aggI : aggT PP 3 = some false := by decide +kernel
theorem aggU : aggT PP 27 = some false := by decide +kernel
theorem tcells_at : ∀ (ts : List Tk) (i j : Nat) (tk : Tk), ts[i]? = some tk → j < 5 → (ts.flatMap Tk.cells)[i * 5 + j]? = tk.cells[j]?
  | [], i, j, tk, h, _ => by simp at h
  | t :: ts, 0, j, tk, h, hj => by
    have e : t = tk := by simpa using h
    subst e
    rw [List.flatMap_cons, Nat.zero_mul, Nat.zero_add, List.getElem?_append_left (by simp [Tk.cells]; omega)]
  | t :: ts, i + 1, j, tk, h, hj => by
    have h' : ts[i]? = some tk := by simpa using h
    have l5 : t.cells.length = 5 := rfl
    rw [List.flatMap_cons, List.getElem?_append_right (by rw [l5]; omega), l5, show (i + 1) * 5 + j - 5 = i * 5 + j by omega]
    exact tcells_at ts i j tk h' hj
theorem ld_tok {H : Heap} {q : Nat} {ts : List Tk} {i j : Nat} {tk : Tk} {v : Value} (h : H.get q = some ⟨ts.flatMap Tk.cells, true, 5, none⟩) (hi : ts[i]? = some tk) (hj : j < 5) (hv : tk.cells[j]? = some v) : ld1 H ⟨q, i * 5 + j, none⟩ = some (v, H) := by
  simp only [ld1, look, h, tcells_at ts i j tk hi hj, hv]
theorem load_from {H : Heap} {q : Nat} {ts : List Tk} {i : Nat} {tk : Tk} (h : H.get q = some ⟨ts.flatMap Tk.cells, true, 5, none⟩) (hi : ts[i]? = some tk) : loadA PP 3 (.pointer (some ⟨q, i * 5 + 3, none⟩)) H = some (.int .i64 (tk.from_ : Int), H) := by
  simp only [loadA, aggI]; exact ld_tok h hi (by decide) rfl
theorem load_to {H : Heap} {q : Nat} {ts : List Tk} {i : Nat} {tk : Tk} (h : H.get q = some ⟨ts.flatMap Tk.cells, true, 5, none⟩) (hi : ts[i]? = some tk) : loadA PP 3 (.pointer (some ⟨q, i * 5 + 4, none⟩)) H = some (.int .i64 (tk.to_ : Int), H) := by
  simp only [loadA, aggI]; exact ld_tok h hi (by decide) rfl
theorem ldk_tok {H : Heap} {q : Nat} {ts : List Tk} {i : Nat} {tk : Tk} (h : H.get q = some ⟨ts.flatMap Tk.cells, true, 5, none⟩) (hi : ts[i]? = some tk) : loadA PP 3 (.pointer (some ⟨q, i * 5, none⟩)) H = some (.int .i64 tk.kind, H) := by
  simp only [loadA, aggI]; exact ld_tok (j := 0) h hi (by decide) rfl
theorem load_num {H : Heap} {q : Nat} {ts : List Tk} {i : Nat} {tk : Tk} (h : H.get q = some ⟨ts.flatMap Tk.cells, true, 5, none⟩) (hi : ts[i]? = some tk) : loadA PP 27 (.pointer (some ⟨q, i * 5 + 1, none⟩)) H = some (.int .u64 tk.n, H) := by
  simp only [loadA, aggU]; exact ld_tok h hi (by decide) rfl
theorem load_text {H : Heap} {q : Nat} {ts : List Tk} {i : Nat} {tk : Tk} (h : H.get q = some ⟨ts.flatMap Tk.cells, true, 5, none⟩) (hi : ts[i]? = some tk) : loadA PP 9 (.pointer (some ⟨q, i * 5 + 2, none⟩)) H = some (.string tk.w, H) := by
  simp only [loadA, aggS]; exact ld_tok h hi (by decide) rfl
theorem sizeTok : sizeT PP 29 = some 5 := by decide +kernel
theorem undToks : PP.underlying 22 = some (.slice 29) := Tryd.underlying22
theorem index_toks {q i n : Nat} (h : i < n) : indexAddrA PP 22 (.slice (some ⟨q, 0, none⟩) n n) (.int .i64 (i : Int)) = some (.pointer (some ⟨q, i * 5, none⟩)) := by
  have e : (⟨q, 0, none⟩ : Addr).add (i * 5) = ⟨q, i * 5, none⟩ := by rw [Addr.add_lit, Nat.zero_add]
  simp [indexAddrA, sizeTok, at_, e, h]
theorem tk0 (q o : Nat) : fieldAddrA PP 29 (.pointer (some ⟨q, o, none⟩)) 0 = some (.pointer (some ⟨q, o, none⟩)) := by kernel_rfl
theorem tk1 (q o : Nat) : fieldAddrA PP 29 (.pointer (some ⟨q, o, none⟩)) 1 = some (.pointer (some ⟨q, o + 1, none⟩)) := by kernel_rfl
theorem tk2 (q o : Nat) : fieldAddrA PP 29 (.pointer (some ⟨q, o, none⟩)) 2 = some (.pointer (some ⟨q, o + 2, none⟩)) := by kernel_rfl
theorem tk3 (q o : Nat) : fieldAddrA PP 29 (.pointer (some ⟨q, o, none⟩)) 3 = some (.pointer (some ⟨q, o + 3, none⟩)) := by kernel_rfl
theorem tk4 (q o : Nat) : fieldAddrA PP 29 (.pointer (some ⟨q, o, none⟩)) 4 = some (.pointer (some ⟨q, o + 4, none⟩)) := by kernel_rfl
theorem binA_neqs (o1 o2 : Operand) (a : ByteArray) : binA PP .neq 9 o1 o2 (.string a) (.string a) = some (.bool false) := by
  unfold binA
  rw [if_pos (by simp [ground, atomic])]
  simp only [eqGuard, binOp, pureRun_bind, Op.stringOp]
  simp [pureRun_pure]
theorem TkRow.ext {H H' : Heap} {v : Value} {ts : List Tk} {lo : Nat} (h : TkRow H v ts lo) (x : Ext H H') : TkRow H' v ts lo := by
  rcases h with o | ⟨o1, q, o2, o3, o4⟩
  · exact .inl o
  · exact .inr ⟨o1, q, o2, x.keep _ _ o3, o4⟩
theorem TkRow.len {H : Heap} {v : Value} {ts : List Tk} {lo : Nat} (h : TkRow H v ts lo) : ∃ a, v = .slice a ts.length ts.length := by
  rcases h with ⟨rfl, rfl⟩ | ⟨_, q, rfl, _⟩
  · exact ⟨none, rfl⟩
  · exact ⟨_, rfl⟩
theorem TkRow.at_ {H : Heap} {v : Value} {ts : List Tk} {lo i : Nat} (h : TkRow H v ts lo) (hi : i < ts.length) : ∃ q, v = .slice (some ⟨q, 0, none⟩) ts.length ts.length ∧ H.get q = some ⟨ts.flatMap Tk.cells, true, 5, none⟩ := by
  rcases h with ⟨rfl, rfl⟩ | ⟨_, q, rfl, h, _⟩
  · simp at hi
  · exact ⟨q, rfl, h⟩
theorem BRow.ext {H H' : Heap} {v : Value} {o : List UInt8} {lo : Nat} (h : BRow H v o lo) (x : Ext H H') : BRow H' v o lo := by
  rcases h with p | ⟨o1, q, o2, o3, o4⟩
  · exact .inl p
  · exact .inr ⟨o1, q, o2, x.keep _ _ o3, o4⟩
theorem lt_next {H : Heap} (hf : Fresh H) {z : Nat} {y : Blk} (h : H.get z = some y) : z < H.next := by
  rcases Nat.lt_or_ge z H.next with q | q
  · exact q
  · rw [hf z q] at h; cases h
end Go.Am
