/- Regions that draw their order, with free new variables: they are sound. -/
import Derived.Test.YtpfpfpeockbbpaaGreatDoorAmLG
namespace Go.Am
section
variable {P : Program} {X : Xf} {K : Kf} {ops : Array Oper} {A : Nat → Act} {Hs : Nat → Heap} {m0 : Mp} {w0 : World} {Rs : Nat → Prop}
/-- A new variable in the text's order. -/
theorem free_step (ht : Tra P X K ops A Hs) {j : Nat} {o : Oper} {t : Tmp} (ho : ops.toList[j]? = some o) (hf : freeA o = true) (hd : o.dst = some t) :
    ∃ f ob x n, Frees P o.op f ob x n ∧ Hs (j + 1) = (Hs j).allocB x ∧ A (j + 1) = (A j).put (some t) (f (Hs j).next) := by
  obtain ⟨t', hg, hd', hk⟩ := freeA_spec hf
  rcases ht.step j o ho with ⟨_, _, v, hy, hA⟩ | ⟨hg2, _, _⟩
  · have := hy (fun v H' => some (.ret v, H')) (fun _ _ => none)
    unfold opK at this
    rcases hk with ⟨e, he⟩ | ⟨e, he⟩
    · rw [he] at this
      simp only at this
      obtain ⟨v1, H1, hv, hk⟩ := bindV_some this
      simp only [Option.some.injEq, Prod.mk.injEq, End.ret.injEq] at hk
      obtain ⟨rfl, rfl⟩ := hk
      unfold allocA at hv
      cases hz : zeroT P e with
      | none => simp [hz] at hv
      | some z =>
        simp only [hz, mkT, Option.some.injEq, Prod.mk.injEq] at hv
        obtain ⟨hv1, hv2⟩ := hv
        obtain ⟨i, zv, y1, y2, rfl, y4⟩ := zeroT_spec hz
        refine ⟨_, _, _, _, by rw [he]; exact .alloc e i zv y1 y2 hz y4, hv2.symm, ?_⟩
        rw [hA, hd, hv1]
    · rw [he] at this
      simp only [mapK] at this
      obtain ⟨v1, H1, hv, hk⟩ := bindV_some this
      simp only [Option.some.injEq, Prod.mk.injEq, End.ret.injEq] at hk
      obtain ⟨rfl, rfl⟩ := hk
      simp only [Option.map_none, makeMapA, Option.some.injEq, Prod.mk.injEq] at hv
      obtain ⟨hv1, hv2⟩ := hv
      refine ⟨_, _, _, _, by rw [he]; exact .map e, hv2.symm, ?_⟩
      rw [hA, hd, hv1]
  · unfold guardB at hg2
    rw [hg] at hg2
    simp at hg2
/-- What can be taken up is taken up. -/
theorem Pv.settle (hs : StaF P ops.toList) (ht : Tra P X K ops A Hs) {L : Nat → Bool} {C : Nat → Nat} {a' : Act} {w' : World} : ∀ (n p : Nat) (m : Mp), p + n = ops.toList.length → Pv P ops A Hs m0 w0 Rs L C p m a' w' → ∃ q m2, Pv P ops A Hs m0 w0 Rs L C q m2 a' w' ∧ QEff P ops L q ∧ m.le m2
  | 0, p, m, hn, h => ⟨p, m, h, fun o ho => by have := lt_len ho; omega, Mp.le_refl m⟩
  | n + 1, p, m, hn, h => by
    have hlt : p < ops.toList.length := by omega
    have ho : ops.toList[p]? = some ops.toList[p] := List.getElem?_eq_getElem hlt
    by_cases hc : cls P ops.toList[p] = 2
    · cases hL : L p with
      | false => exact ⟨p, m, h, fun o ho' => by rw [ho] at ho'; simp only [Option.some.injEq] at ho'; subst ho'; exact ⟨hc, hL⟩, Mp.le_refl m⟩
      | true =>
        have hf : freeA ops.toList[p] = true := by
          cases e : freeA ops.toList[p] with
          | true => rfl
          | false => have := h.nfl p _ (Nat.le_refl _) ho hc e; rw [this] at hL; cases hL
        obtain ⟨t, hg, hd, _⟩ := freeA_spec hf
        obtain ⟨f, ob, x, k, c3, c1, c2, c5, c6⟩ := h.pend p _ t (Nat.le_refl _) ho hf hL hd
        generalize hC : C p = c at c1 c2 c5 c6
        obtain ⟨f', ob', x', k', z1, z2, z3⟩ := free_step ht ho hf hd
        obtain ⟨rfl, rfl, rfl, rfl⟩ := c3.uniq z1
        have st := h.step.adopt x' ⟨c, 0, x'.es, k'⟩ (c3.lies m c2) (Array.getElem?_eq_some_iff.1 c2).1 c5 c6
        rw [← z2] at st
        have hle : m.le (m.add (Hs p).next ⟨c, 0, x'.es, k'⟩) := Mp.le_add (h.rel.fresh _ (Nat.le_refl _)).1
        have res : ∀ d, Rs d → d < w'.heap.size ∧ w0.heap.size ≤ d ∧ (∀ b Lc, (m.add (Hs p).next ⟨c, 0, x'.es, k'⟩) b = some Lc → Lc.c ≠ d) ∧ ∀ (j : Nat) (o : Oper), p + 1 ≤ j → ops.toList[j]? = some o → freeA o = true → L j = true → C j ≠ d := fun d hd2 => by
          obtain ⟨r1, r2, r3, r4⟩ := h.res d hd2
          refine ⟨r1, r2, fun b Lc hb => ?_, fun j o h1 => r4 j o (by omega)⟩
          by_cases eb : b = (Hs p).next
          · subst eb
            simp only [Mp.add, if_true, Option.some.injEq] at hb
            subst hb
            show c ≠ d
            rw [← hC]
            exact r4 p _ (Nat.le_refl _) ho hf hL
          · simp only [Mp.add, eb, if_false] at hb
            exact r3 b Lc hb
        suffices hpv : Pv P ops A Hs m0 w0 Rs L C (p + 1) (m.add (Hs p).next ⟨c, 0, x'.es, k'⟩) a' w' by
          obtain ⟨q, m2, f1, f2, f3⟩ := Pv.settle hs ht n (p + 1) (m.add (Hs p).next ⟨c, 0, x'.es, k'⟩) (by omega) hpv
          exact ⟨q, m2, f1, f2, Mp.le_trans hle f3⟩
        refine ⟨st.rel, h.gl.mono hle, st, h.defers.mono hle, h.size, ?_, ?_, by omega, ?_, ?_, ?_, ?_, res⟩
        · intro j o tt v v' hj hjd hLj hfj hv hv'
          by_cases ej : j = p
          · subst ej
            rw [ho] at hj; simp only [Option.some.injEq] at hj; subst hj
            rw [hd] at hjd; simp only [Option.some.injEq] at hjd; subst hjd
            have hsl := ht.slot t (j + 1) (ops.toList.length - (j + 1)) (by omega) (fun k ok a b c d => by have := hs.dst k j ok _ t c ho d hd; omega)
            rw [show j + 1 + (ops.toList.length - (j + 1)) = ops.toList.length by omega, z3] at hsl
            have hszs := ht.size ops.toList.length (Nat.le_refl _)
            have hlt1 : t < (A ops.toList.length).tmps.size := (Array.getElem?_eq_some_iff.1 hv).1
            have hlt2 : t < (A j).tmps.size := by rw [ht.size j (by omega), ← hszs]; exact hlt1
            rw [hsl] at hv
            simp only [Act.put, Array.getElem?_setIfInBounds, if_true, hlt2, Option.some.injEq] at hv
            have hv' := c1 _ hv'
            subst hv; subst hv'
            exact c3.vr (m := m.add (Hs j).next ⟨c, 0, x'.es, k'⟩) (b := (Hs j).next) (L := ⟨c, 0, x'.es, k'⟩) (by simp [Mp.add]) rfl
          · refine (h.done j o tt v v' hj hjd hLj (fun hf2 => ?_) hv hv').mono hle
            have := hfj hf2
            omega
        · intro tt v v' hn2 hv hv'
          exact (h.kept tt v v' hn2 hv hv').mono hle
        · intro j o hj1 hj2 hj3
          by_cases ej : j = p
          · subst ej; exact hL
          · exact h.low j o (by omega) hj2 hj3
        · intro j o hj1 hj2 hj3 hj4
          exact h.nfl j o (by omega) hj2 hj3 hj4
        · intro j o t2 hj1 hj2 hj3 hj4 hj6
          obtain ⟨d0, d1, d2, d3, d4, d7, d8, d5, d6⟩ := h.pend j o t2 (by omega) hj2 hj3 hj4 hj6
          refine ⟨d0, d1, d2, d3, d4, d7, d8, d5, fun b Lc hb hcc => ?_⟩
          by_cases eb : b = (Hs p).next
          · subst eb
            simp only [Mp.add, if_true, Option.some.injEq] at hb
            subst hb
            simp only at hcc
            exact h.pdist p j _ o (Nat.le_refl _) (by omega) (by omega) ho hj2 hf hj3 hL hj4 (hC.trans hcc)
          · simp only [Mp.add, eb, if_false] at hb
            exact d6 b Lc hb hcc
        · intro j j' o o' h1 h2
          exact h.pdist j j' o o' (by omega) (by omega)
    · have hH : Hs (p + 1) = Hs p := ht.heap p 1 (by omega) (fun j o a b c => by
        have : j = p := by omega
        subst this
        rw [ho] at c; simp only [Option.some.injEq] at c; subst c; exact hc)
      have nf : freeA ops.toList[p] = false := by
        cases e : freeA ops.toList[p] with
        | false => rfl
        | true => exact absurd (freeA_cls e P) hc
      refine Pv.settle hs ht n (p + 1) m (by omega) ⟨by rw [hH]; exact h.rel, h.gl, by rw [hH]; exact h.step, h.defers, h.size, ?_, h.kept, by omega, ?_, ?_, ?_, ?_, fun c hc => let ⟨r1, r2, r3, r4⟩ := h.res c hc; ⟨r1, r2, r3, fun j o h1 => r4 j o (by omega)⟩⟩
      · intro j o tt v v' hj hjd hLj hfj hv hv'
        refine h.done j o tt v v' hj hjd hLj (fun hf2 => ?_) hv hv'
        have := hfj hf2
        rcases Nat.lt_or_ge j p with g | g
        · exact g
        · have : j = p := by omega
          subst this
          rw [ho] at hj; simp only [Option.some.injEq] at hj; subst hj
          rw [nf] at hf2; cases hf2
      · intro j o hj1 hj2 hj3
        by_cases ej : j = p
        · subst ej
          rw [ho] at hj2; simp only [Option.some.injEq] at hj2; subst hj2
          exact absurd hj3 hc
        · exact h.low j o (by omega) hj2 hj3
      · intro j o hj1 hj2 hj3 hj4
        exact h.nfl j o (by omega) hj2 hj3 hj4
      · intro j o t2 hj1
        exact h.pend j o t2 (by omega)
      · intro j j' o o' h1 h2
        exact h.pdist j j' o o' (by omega) (by omega)
/-- A new variable is made; the text's order has not come to it. -/
theorem Pv.early (hs : StaF P ops.toList) {L : Nat → Bool} {C : Nat → Nat} {p : Nat} {m : Mp} {a' : Act} {w' : World} (h : Pv P ops A Hs m0 w0 Rs L C p m a' w') {i : Nat} {o : Oper} {t : Tmp} (ho : ops.toList[i]? = some o) (hf : freeA o = true) (hd : o.dst = some t) (hL : L i = false) (hi : p ≤ i)
    {f : Nat → Value} {ob : Obj} {x : Blk} {n : Nat} (fr : Frees P o.op f ob x n) :
    Pv P ops A Hs m0 w0 Rs (fun j => if j = i then true else L j) (fun j => if j = i then w'.heap.size else C j) p m (a'.put o.dst (f w'.heap.size)) { w' with heap := w'.heap.push ob } := by
  have st := Step.pushed h.rel ob
  have h0 : w0.heap.size ≤ w'.heap.size := h.step.keep.size
  have slot : ∀ (j : Nat) (oj : Oper) (t2 : Nat), j ≠ i → ops.toList[j]? = some oj → oj.dst = some t2 → (a'.put o.dst (f w'.heap.size)).tmps[t2]? = a'.tmps[t2]? := fun j oj t2 hne hj hjd =>
    put_get _ _ _ _ fun hd2 => hne (hs.dst j i oj o t2 hj ho hjd hd2)
  have this_ : ∀ u, (a'.put o.dst (f w'.heap.size)).tmps[t]? = some u → u = f w'.heap.size := fun u hu => by
    rw [hd] at hu
    simp only [Act.put, Array.getElem?_setIfInBounds, if_true] at hu
    split at hu
    · simpa using hu.symm
    · cases hu
  have old : ∀ {j : Nat} {oj : Oper}, p ≤ j → ops.toList[j]? = some oj → freeA oj = true → L j = true → C j < w'.heap.size := fun h1 h2 h3 h4 => by
    obtain ⟨t2, _, h6, _⟩ := freeA_spec h3
    obtain ⟨_, _, _, _, _, _, d2, _⟩ := h.pend _ _ _ h1 h2 h3 h4 h6
    exact (Array.getElem?_eq_some_iff.1 d2).1
  refine ⟨st.rel, h.gl, h.step.trans st, ?_, ?_, ?_, ?_, h.ple, ?_, ?_, ?_, ?_, ?_⟩
  · rw [put_defers]; exact h.defers
  · rw [put_size]; exact h.size
  · intro j oj tt v v' hj hjd hLj hfj hv hv'
    by_cases ej : j = i
    · subst ej
      rw [ho] at hj; simp only [Option.some.injEq] at hj; subst hj
      have := hfj hf
      omega
    · simp only [ej, if_false] at hLj
      rw [slot j oj tt ej hj hjd] at hv'
      exact h.done j oj tt v v' hj hjd hLj hfj hv hv'
  · intro tt v v' hn2 hv hv'
    have hne : o.dst ≠ some tt := hn2 i o ho (by simp)
    rw [put_get _ _ _ _ hne] at hv'
    refine h.kept tt v v' (fun j oj hj hLj => hn2 j oj hj ?_) hv hv'
    by_cases ej : j = i <;> simp [ej, hLj]
  · intro j oj hj1 hj2 hj3
    have := h.low j oj hj1 hj2 hj3
    by_cases ej : j = i <;> simp [ej, this]
  · intro j oj hj1 hj2 hj3 hj4
    have hne : j ≠ i := fun ej => by
      subst ej
      rw [ho] at hj2; simp only [Option.some.injEq] at hj2; subst hj2
      rw [hf] at hj4; cases hj4
    simp only [hne, if_false]
    exact h.nfl j oj hj1 hj2 hj3 hj4
  · intro j oj t2 hj1 hj2 hj3 hj4 hj6
    by_cases ej : j = i
    · subst ej
      rw [ho] at hj2; simp only [Option.some.injEq] at hj2; subst hj2
      rw [hd] at hj6; simp only [Option.some.injEq] at hj6; subst hj6
      simp only [if_true]
      refine ⟨f, ob, x, n, fr, this_, ?_, h0, fun b Lc hb hcc => ?_⟩
      · show (w'.heap.push ob)[w'.heap.size]? = _
        simp
      · have := h.rel.bound b Lc hb
        omega
    · simp only [ej, if_false] at hj4 ⊢
      rw [slot j oj t2 ej hj2 hj6]
      exact (h.pend j oj t2 hj1 hj2 hj3 hj4 hj6).stay st
  · intro j j' oj oj' h1 h2 h3 h4 h5 h6 h7 h8 h9
    by_cases ej : j = i <;> by_cases ej' : j' = i
    · omega
    · simp only [ej, ej', if_false, if_true] at h8 h9 ⊢
      have := old h2 h5 h7 h9
      omega
    · simp only [ej, ej', if_false, if_true] at h8 h9 ⊢
      have := old h1 h4 h6 h8
      omega
    · simp only [ej, ej', if_false] at h8 h9 ⊢
      exact h.pdist j j' oj oj' h1 h2 h3 h4 h5 h6 h7 h8 h9
  · intro c hc
    obtain ⟨r1, r2, r3, r4⟩ := h.res c hc
    refine ⟨?_, r2, r3, fun j oj h1 h2 h3 h4 => ?_⟩
    · show c < (w'.heap.push ob).size
      simp; omega
    · by_cases ej : j = i
      · simp only [ej, if_true]; omega
      · simp only [ej, if_false] at h4 ⊢
        exact r4 j oj h1 h2 h3 h4
end
end Go.Am
