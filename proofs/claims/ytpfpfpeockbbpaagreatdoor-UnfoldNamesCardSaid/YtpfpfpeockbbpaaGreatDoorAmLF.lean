/- Regions that draw their order, with new variables that stand in no order to what is ahead of them in the text. -/
import Derived.Test.YtpfpfpeockbbpaaGreatDoorAmM
namespace Go.Am

theorem freeA_spec {o : Oper} (h : freeA o = true) : ∃ t, o.guard = none ∧ o.dst = some t ∧ ((∃ e, o.op = .alloc e) ∨ ∃ e, o.op = .makeMap e none) := by
  unfold freeA at h
  split at h
  · rename_i e he
    simp only [Bool.and_eq_true, Option.isNone_iff_eq_none, Option.isSome_iff_exists] at h
    obtain ⟨h1, t, h2⟩ := h
    exact ⟨t, h1, h2, .inl ⟨e, he⟩⟩
  · rename_i e he
    simp only [Bool.and_eq_true, Option.isNone_iff_eq_none, Option.isSome_iff_exists] at h
    obtain ⟨h1, t, h2⟩ := h
    exact ⟨t, h1, h2, .inr ⟨e, he⟩⟩
  · cases h
theorem freeA_looks {o : Oper} (h : freeA o = true) (ops : List Oper) : looks ops o = [] := by
  obtain ⟨t, h2, _, ⟨e, h1⟩ | ⟨e, h1⟩⟩ := freeA_spec h <;> (unfold looks; rw [h1, h2]; simp [Op.operands])
theorem freeA_cls {o : Oper} (h : freeA o = true) (P : Program) : cls P o = 2 := by
  obtain ⟨t, h2, _, ⟨e, h1⟩ | ⟨e, h1⟩⟩ := freeA_spec h <;> (unfold cls; rw [h1])
/-- What a free operation makes: the value at a place, the world's object, the heap's block, how many cells it has. -/
inductive Frees (P : Program) : Op → (Nat → Value) → Obj → Blk → Nat → Prop where
  | alloc (e : TypeId) (i : TypeInfo) (zv : Value) (h1 : P.info? e = some i) (h2 : i.zero = some zv) (h3 : zeroT P e = some zv.cells.toList) (h4 : zv.cells.toList.all atomic = true) :
      Frees P (.alloc e) (fun c => .pointer (some ⟨c, 0, none⟩)) (.cells zv.cells e (0, 0)) ⟨zv.cells.toList, true, esT P e, none, some (e, zv.cells.toList.length)⟩ zv.cells.size
  | map (e : TypeId) : Frees P (.makeMap e none) (fun c => .map (some c)) (.map #[] 0) ⟨[], true, 0, some (.map #[] 0), none⟩ 0
theorem Frees.uniq {P : Program} {op : Op} {v v' : Nat → Value} {ob ob' : Obj} {x x' : Blk} {n n' : Nat} (h : Frees P op v ob x n) (k : Frees P op v' ob' x' n') : v' = v ∧ ob' = ob ∧ x' = x ∧ n' = n := by
  cases h with
  | alloc e i zv h1 h2 h3 h4 =>
    cases k with
    | alloc _ i' zv' k1 k2 k3 k4 =>
      rw [h1] at k1; simp only [Option.some.injEq] at k1; subst k1
      rw [h2] at k2; simp only [Option.some.injEq] at k2; subst k2
      exact ⟨rfl, rfl, rfl, rfl⟩
  | map e => cases k; exact ⟨rfl, rfl, rfl, rfl⟩
theorem Frees.vr {P : Program} {op : Op} {v : Nat → Value} {ob : Obj} {x : Blk} {n : Nat} (h : Frees P op v ob x n) {m : Mp} {b : Nat} {L : Loc} (hm : m b = some L) (h0 : L.base = 0) : VR m (v b) (v L.c) := by
  cases h with
  | alloc e i zv h1 h2 h3 h4 =>
    have := VR.ptr (m := m) b 0 L hm
    rw [h0] at this; exact this
  | map e => exact .map b L hm
theorem Frees.lies {P : Program} {op : Op} {v : Nat → Value} {ob : Obj} {x : Blk} {n : Nat} (h : Frees P op v ob x n) (m : Mp) {w : World} {c : Nat} (hc : w.heap[c]? = some ob) : Lies m w x ⟨c, 0, x.es, n⟩ := by
  cases h with
  | alloc e i zv h1 h2 h3 h4 =>
    refine ⟨rfl, by simp, fun _ => ⟨zv.cells, e, (0, 0), hc, rfl, fun i a b => ?_, fun _ => .inl rfl⟩, fun o ho => by simp at ho, fun t n e1 => ?_⟩
    · simp only [Nat.zero_add, Array.getElem_toList]
      exact .atom _ (List.all_eq_true.1 h4 _ (by simp))
    · simp only [Option.some.injEq, Prod.mk.injEq] at e1
      obtain ⟨rfl, rfl⟩ := e1
      exact ⟨rfl, zv.cells, (0, 0), hc, .inr (by simp)⟩
  | map e =>
    refine ⟨rfl, by simp, fun ho => by simp at ho, fun o ho => ?_, fun t n e1 => by cases e1⟩
    simp only [Option.some.injEq] at ho; subst ho
    exact ⟨rfl, _, hc, .inl (.map #[] #[] 0 rfl (fun i a => absurd a (by simp)))⟩
theorem staF_bit_lt {P : Program} {ops : List Oper} (hs : StaF P ops) {i j : Nat} {o : Oper} (ho : ops[i]? = some o) (h : ((masks ops []).getD i 0).testBit j = true) : j < i := by
  have h1 := hs.lt i o ho
  rcases Nat.lt_or_ge j i with h2 | h2
  · exact h2
  · have : (masks ops []).getD i 0 < 2 ^ j := Nat.lt_of_lt_of_le h1 (Nat.pow_le_pow_right (by omega) h2)
    rw [Nat.testBit_lt_two_pow this] at h
    simp at h
theorem downF_bit {P : Program} {ops : List Oper} (hs : StaF P ops) {L : Nat → Bool} (hd : Down ops L) : ∀ (i : Nat) (o : Oper) (j : Nat), ops[i]? = some o →
    (∀ e ∈ o.after, Region.binds .any e = true → L e.on = true) → ((masks ops []).getD i 0).testBit j = true → L j = true := by
  intro i
  induction i using Nat.strongRecOn with
  | _ i ih =>
    intro o j ho hp hb
    obtain ⟨e, he, hbi, h⟩ := mask_spec ho (hs.edge i o ho) hb
    have hlt := hs.edge i o ho e he hbi
    rcases h with h | h
    · rw [← h]; exact hp e he hbi
    · have hlt2 : e.on < ops.length := Nat.lt_trans hlt (List.getElem?_eq_some_iff.1 ho).1
      have ho2 : ops[e.on]? = some ops[e.on] := List.getElem?_eq_getElem hlt2
      exact ih e.on hlt ops[e.on] j ho2 (hd e.on _ ho2 (hp e he hbi)) h
/-- A variable that is made already in the world, not yet in the text's order. -/
def Pend (P : Program) (m : Mp) (w0 w' : World) (op : Op) (c : Nat) (v : Option Value) : Prop :=
  ∃ (f : Nat → Value) (ob : Obj) (x : Blk) (n : Nat), Frees P op f ob x n ∧ (∀ u, v = some u → u = f c) ∧ w'.heap[c]? = some ob ∧ w0.heap.size ≤ c ∧ ∀ b Lc, m b = some Lc → Lc.c ≠ c
section
variable {P : Program} {X : Xf} {K : Kf} {ops : Array Oper} {A : Nat → Act} {Hs : Nat → Heap}
/-- The state while some of a region's operations have been done; p: as far as the effects are taken up. -/
structure Pv (P : Program) (ops : Array Oper) (A : Nat → Act) (Hs : Nat → Heap) (m0 : Mp) (w0 : World) (Rs : Nat → Prop) (L : Nat → Bool) (C : Nat → Nat) (p : Nat) (m : Mp) (a' : Act) (w' : World) : Prop where
  rel : Rel m (Hs p) w'
  gl : Gl P m
  step : Step m0 (Hs 0) w0 m (Hs p) w'
  defers : DRs m (A 0).defers a'.defers
  size : (A 0).tmps.size = a'.tmps.size
  done : ∀ (j : Nat) (o : Oper) (t : Nat) (v v' : Value), ops.toList[j]? = some o → o.dst = some t → L j = true → (freeA o = true → j < p) → (A ops.toList.length).tmps[t]? = some v → a'.tmps[t]? = some v' → VR m v v'
  kept : ∀ (t : Nat) (v v' : Value), (∀ (j : Nat) (o : Oper), ops.toList[j]? = some o → L j = true → o.dst ≠ some t) → (A 0).tmps[t]? = some v → a'.tmps[t]? = some v' → VR m v v'
  ple : p ≤ ops.toList.length
  low : ∀ (j : Nat) (o : Oper), j < p → ops.toList[j]? = some o → cls P o = 2 → L j = true
  nfl : ∀ (j : Nat) (o : Oper), p ≤ j → ops.toList[j]? = some o → cls P o = 2 → freeA o = false → L j = false
  pend : ∀ (j : Nat) (o : Oper) (t : Nat), p ≤ j → ops.toList[j]? = some o → freeA o = true → L j = true → o.dst = some t → Pend P m w0 w' o.op (C j) a'.tmps[t]?
  pdist : ∀ (j j' : Nat) (o o' : Oper), p ≤ j → p ≤ j' → j ≠ j' → ops.toList[j]? = some o → ops.toList[j']? = some o' → freeA o = true → freeA o' = true → L j = true → L j' = true → C j ≠ C j'
  res : ∀ c, Rs c → c < w'.heap.size ∧ w0.heap.size ≤ c ∧ (∀ b Lc, m b = some Lc → Lc.c ≠ c) ∧ ∀ (j : Nat) (o : Oper), p ≤ j → ops.toList[j]? = some o → freeA o = true → L j = true → C j ≠ c
/-- The next effect is one that has not been done. -/
def QEff (P : Program) (ops : Array Oper) (L : Nat → Bool) (q : Nat) : Prop := ∀ o, ops.toList[q]? = some o → cls P o = 2 ∧ L q = false
/-- What stands already in the world is taken up into the heap. -/
theorem Step.adopt {m0 m : Mp} {H0 H : Heap} {w0 w : World} (st : Step m0 H0 w0 m H w) (y : Blk) (Ly : Loc) (hl : Lies m w y Ly) (hcl : Ly.c < w.heap.size) (h0 : w0.heap.size ≤ Ly.c) (hu : ∀ b Lc, m b = some Lc → Lc.c ≠ Ly.c) :
    Step m0 H0 w0 (m.add H.next Ly) (H.allocB y) w := by
  have h := st.rel
  have hfr := h.fresh H.next (Nat.le_refl _)
  have hle : m.le (m.add H.next Ly) := Mp.le_add hfr.1
  refine ⟨⟨?_, ?_, ?_, ?_⟩, ⟨Mp.le_trans st.later.1 hle, ?_, ?_⟩, st.keep⟩
  · intro b x hb
    rw [Heap.get_allocB] at hb
    by_cases e : b = H.next
    · subst e
      simp only [if_true, Option.some.injEq] at hb
      subst hb
      exact ⟨Ly, by simp [Mp.add], hl.mono hle rfl⟩
    · simp only [e, if_false] at hb
      obtain ⟨L, h1, h2⟩ := h.blk b x hb
      exact ⟨L, by simp [Mp.add, e, h1], h2.mono hle rfl⟩
  · intro b x hb hrw b' x' L L' hb' hm hm' hcc
    rw [Heap.get_allocB] at hb hb'
    by_cases e : b = H.next <;> by_cases e' : b' = H.next
    · rw [e, e']
    · subst e
      simp only [Mp.add, if_true, Option.some.injEq, e', if_false] at hm hm'
      subst hm
      exact absurd hcc (hu _ _ hm')
    · subst e'
      simp only [Mp.add, if_true, Option.some.injEq, e, if_false] at hm hm'
      subst hm'
      exact absurd hcc.symm (hu _ _ hm)
    · simp only [Mp.add, e, e', if_false] at hb hb' hm hm'
      exact h.apart b x hb hrw b' x' L L' hb' hm hm' hcc
  · intro b L hm
    by_cases e : b = H.next
    · subst e; simp only [Mp.add, if_true, Option.some.injEq] at hm; subst hm; exact hcl
    · simp only [Mp.add, e, if_false] at hm
      exact h.bound _ _ hm
  · intro b hb
    have hb' : H.next + 1 ≤ b := hb
    have hne : b ≠ H.next := by omega
    have := h.fresh b (by omega)
    refine ⟨by simp [Mp.add, hne, this.1], ?_⟩
    rw [Heap.get_allocB, if_neg hne]; exact this.2
  · intro c' hc' ⟨b, x, L, hb, hrw, hm, hcc⟩
    rw [Heap.get_allocB] at hb
    by_cases e : b = H.next
    · subst e
      simp only [Mp.add, if_true, Option.some.injEq] at hm
      subst hm
      omega
    · simp only [Mp.add, e, if_false] at hb hm
      exact st.later.2.1 c' hc' ⟨b, x, L, hb, hrw, hm, hcc⟩
  · intro b L hm
    by_cases e : b = H.next
    · subst e
      simp only [Mp.add, if_true, Option.some.injEq] at hm
      subst hm
      exact .inr h0
    · simp only [Mp.add, e, if_false] at hm
      exact st.later.2.2 b L hm
/-- A new object of the world that nothing is mapped to. -/
theorem Step.pushed {m : Mp} {H : Heap} {w : World} (h : Rel m H w) (ob : Obj) : Step m H w m H { w with heap := w.heap.push ob } := by
  have hold : ∀ c, c < w.heap.size → ({ w with heap := w.heap.push ob } : World).heap[c]? = w.heap[c]? := by
    intro c hc
    show (w.heap.push ob)[c]? = _
    rw [Array.getElem?_push]; simp [Nat.ne_of_lt hc]
  refine ⟨⟨fun b x hb => ?_, h.apart, fun b L hm => ?_, h.fresh⟩, .refl .., ⟨rfl, rfl, rfl, ?_, fun c hc _ => hold c hc⟩⟩
  · obtain ⟨L, h1, h2⟩ := h.blk b x hb
    exact ⟨L, h1, h2.mono (Mp.le_refl m) (hold _ (h.bound _ _ h1))⟩
  · have := h.bound b L hm
    show L.c < (w.heap.push ob).size
    simp; omega
  · show w.heap.size ≤ (w.heap.push ob).size
    simp
end
end Go.Am
