/- Regions that draw their order, with free new variables: the steps. -/
import Derived.Test.YtpfpfpeockbbpaaGreatDoorAmLF
namespace Go.Am
section
variable {P : Program} {X : Xf} {K : Kf} {ops : Array Oper} {A : Nat → Act} {Hs : Nat → Heap} {m0 : Mp} {w0 : World} {Rs : Nat → Prop}
theorem lt_len {l : List Oper} {i : Nat} {o : Oper} (h : l[i]? = some o) : i < l.length := (List.getElem?_eq_some_iff.1 h).1
/-- An effect that may come now, and waits for those ahead of it, is the next one. -/
theorem Pv.next (hs : StaF P ops.toList) {L : Nat → Bool} {C : Nat → Nat} {q : Nat} {m : Mp} {a' : Act} {w' : World} (h : Pv P ops A Hs m0 w0 Rs L C q m a' w') (hq : QEff P ops L q) (hd : Down ops.toList L)
    {i : Nat} {o : Oper} (ho : ops.toList[i]? = some o) (hp : ∀ e ∈ o.after, Region.binds .any e = true → L e.on = true) (hL : L i = false) (hc : cls P o = 2) (hf : freeA o = false) : i = q := by
  rcases Nat.lt_trichotomy i q with e | e | e
  · have := h.low i o e ho hc; rw [this] at hL; simp at hL
  · exact e
  · have hi := lt_len ho
    have hq2 : q < ops.toList.length := by omega
    have hq3 := List.getElem?_eq_getElem hq2
    obtain ⟨c2, Lq⟩ := hq _ hq3
    have hb := hs.eff q i _ o hq3 ho e c2 hc hf
    have := downF_bit hs hd i o q ho hp hb
    rw [this] at Lq; simp at Lq
theorem Pv.sees (hs : StaF P ops.toList) (ht : Tra P X K ops A Hs) {L : Nat → Bool} {C : Nat → Nat} {q : Nat} {m : Mp} {a' : Act} {w' : World} (h : Pv P ops A Hs m0 w0 Rs L C q m a' w') (hq : QEff P ops L q) (hd : Down ops.toList L)
    {i : Nat} {o : Oper} (ho : ops.toList[i]? = some o) (hp : ∀ e ∈ o.after, Region.binds .any e = true → L e.on = true) (hL : L i = false) {t : Nat} (hl : t ∈ looks ops.toList o) {v v' : Value}
    (hv : (A i).tmps[t]? = some v) (hv' : a'.tmps[t]? = some v') : VR m v v' := by
  have hi := lt_len ho
  by_cases hw : ∃ (j : Nat) (oj : Oper), ops.toList[j]? = some oj ∧ oj.dst = some t
  · obtain ⟨j, oj, hj, hjd⟩ := hw
    have hj2 := lt_len hj
    have uniq : ∀ k ok, ops.toList[k]? = some ok → ok.dst = some t → k = j := fun k ok h1 h2 => hs.dst k j ok oj t h1 hj h2 hjd
    obtain ⟨hne, hb⟩ := hs.look i j o oj t ho hj hjd hl
    rcases hb with hb | hb
    · have hLj := downF_bit hs hd i o j ho hp hb
      have hji := staF_bit_lt hs ho hb
      refine h.done j oj t v v' hj hjd hLj (fun hf => ?_) ?_ hv'
      · rcases hs.use i j o oj t ho hj hf hjd hl with hc | hc
        · have hfo : freeA o = false := by
            cases e : freeA o with
            | false => rfl
            | true => rw [freeA_looks e] at hl; cases hl
          have := h.next hs hq hd ho hp hL hc hfo
          omega
        · rcases Nat.lt_or_ge j q with g | g
          · exact g
          · exfalso
            have hq2 : q < ops.toList.length := by omega
            have hq3 := List.getElem?_eq_getElem hq2
            obtain ⟨c2, Lq⟩ := hq _ hq3
            have := downF_bit hs hd i o q ho hp (hc q _ g hq3 c2)
            rw [this] at Lq; cases Lq
      · have := ht.slot t i (ops.toList.length - i) (by omega) (fun k ok a b c d => by have := uniq k ok c d; omega)
        rw [show i + (ops.toList.length - i) = ops.toList.length by omega] at this
        rw [this, hv]
    · have hij := staF_bit_lt hs hj hb
      have hLj : L j = false := by
        cases e : L j with
        | false => rfl
        | true =>
          have := downF_bit hs hd j oj i hj (fun x hx hbx => hd j oj hj e x hx hbx) hb
          rw [this] at hL; simp at hL
      refine h.kept t v v' (fun k ok a b c => ?_) ?_ hv'
      · have := uniq k ok a c; subst this; rw [hLj] at b; simp at b
      · have := ht.slot t 0 i (by omega) (fun k ok a b c d => by have := uniq k ok c d; omega)
        rw [Nat.zero_add] at this
        rw [← this, hv]
  · refine h.kept t v v' (fun k ok a _ c => hw ⟨k, ok, a, c⟩) ?_ hv'
    have := ht.slot t 0 i (by omega) (fun k ok a b c d => hw ⟨k, ok, c, d⟩)
    rw [Nat.zero_add] at this
    rw [← this, hv]
theorem Pv.quiet (hs : StaF P ops.toList) (ht : Tra P X K ops A Hs) {L : Nat → Bool} {C : Nat → Nat} {q : Nat} {m : Mp} {a' : Act} {w' : World} (h : Pv P ops A Hs m0 w0 Rs L C q m a' w') (hq : QEff P ops L q) (hd : Down ops.toList L)
    {i : Nat} {o : Oper} (ho : ops.toList[i]? = some o) (hp : ∀ e ∈ o.after, Region.binds .any e = true → L e.on = true) (hL : L i = false) (hg : guardB ops o (A i) = some true) (hc : cls P o < 2)
    {v : Value} {H' : Heap} (hy : Yl P X K (A i).eval o (Hs i) v H') (hA : A (i + 1) = (A i).put o.dst v) : Yl P X K (A i).eval o (Hs q) v (Hs q) := by
  have hi := lt_len ho
  rcases Nat.eq_zero_or_pos (cls P o) with h0 | hpos
  · exact yl_any h0 hy (Hs q)
  · have h1 : cls P o = 1 := by omega
    have hH' := yl_same hc hy
    subst hH'
    have unord : ∀ p op, ops.toList[p]? = some op → L p = true → ((masks ops.toList []).getD p 0).testBit i = false := by
      intro p op hop hLp
      cases e : ((masks ops.toList []).getD p 0).testBit i with
      | false => rfl
      | true =>
        have := downF_bit hs hd p op i hop (fun x hx hbx => hd p op hop hLp x hx hbx) e
        rw [this] at hL; simp at hL
    rcases Nat.lt_or_ge i q with hiq | hiq
    · rcases last_eff P ops.toList i (q - i) (by have := h.ple; omega) with hn | ⟨e, oe, e1, e2, e3, e4, e5⟩
      · have := ht.heap i (q - i) (by have := h.ple; omega) hn
        rw [show i + (q - i) = q by omega] at this
        rw [this]; exact hy
      · have hei : e ≠ i := by
          intro e'; subst e'; rw [ho] at e3; simp only [Option.some.injEq] at e3; subst e3; omega
        have hLe := h.low e oe (by omega) e3 e4
        have u1 := unord e oe e3 hLe
        have u2 : ((masks ops.toList []).getD i 0).testBit e = false := by
          cases b : ((masks ops.toList []).getD i 0).testBit e with
          | false => rfl
          | true => have := staF_bit_lt hs ho b; omega
        obtain ⟨u, k0, k1, k2⟩ := ht.chk i e o oe ho e3 h1 hg e4 u2 u1
        have hvu := k0 _ _ _ hy hA
        subst hvu
        have hh := ht.heap (e + 1) (q - (e + 1)) (by have := h.ple; omega) (fun j oj a b c => e5 j oj (by omega) (by omega) c)
        rw [show e + 1 + (q - (e + 1)) = q by omega] at hh
        rw [hh]
        exact qval_yl hc k2 X K
    · rcases Nat.eq_or_lt_of_le hiq with e | e
      · subst e; exact hy
      · have hq2 : q < ops.toList.length := by omega
        have hq3 := List.getElem?_eq_getElem hq2
        obtain ⟨c2, Lq⟩ := hq _ hq3
        have u2 : ((masks ops.toList []).getD i 0).testBit q = false := by
          cases b : ((masks ops.toList []).getD i 0).testBit q with
          | false => rfl
          | true => have := downF_bit hs hd i o q ho hp b; rw [this] at Lq; simp at Lq
        have u1 : ((masks ops.toList []).getD q 0).testBit i = false := by
          cases b : ((masks ops.toList []).getD q 0).testBit i with
          | false => rfl
          | true => have := staF_bit_lt hs hq3 b; omega
        obtain ⟨u, k0, k1, k2⟩ := ht.chk i q o _ ho hq3 h1 hg c2 u2 u1
        have hvu := k0 _ _ _ hy hA
        subst hvu
        exact qval_yl hc k1 X K
/-- What is made already stays as it is. -/
theorem Pend.stay {m m2 : Mp} {H H2 : Heap} {w w2 : World} {e : Op} {c : Nat} {v : Option Value} (h : Pend P m w0 w e c v) (st : Step m H w m2 H2 w2) : Pend P m2 w0 w2 e c v := by
  obtain ⟨f, ob, x, n, e3, e1, e2, e5, e6⟩ := h
  have hcl := (Array.getElem?_eq_some_iff.1 e2).1
  refine ⟨f, ob, x, n, e3, e1, ?_, e5, fun b Lc hb hcc => ?_⟩
  · rw [st.keep.block c hcl (fun ⟨b, x, L, _, _, hm, hcc⟩ => e6 b L hm hcc)]; exact e2
  · rcases st.later.2.2 b Lc hb with ⟨b0, L0, h0, c0⟩ | g
    · exact e6 b0 L0 h0 (c0.trans hcc)
    · omega
/-- One more operation done; it is no free variable. -/
theorem Pv.put (hs : StaF P ops.toList) (ht : Tra P X K ops A Hs) {L : Nat → Bool} {C : Nat → Nat} {q : Nat} {m m2 : Mp} {a' : Act} {w' w2 : World} (h : Pv P ops A Hs m0 w0 Rs L C q m a' w')
    {i : Nat} {o : Oper} (ho : ops.toList[i]? = some o) (hfo : freeA o = false) {v v' : Value} (hA : A (i + 1) = (A i).put o.dst v) {q2 : Nat} (hst : Step m (Hs q) w' m2 (Hs q2) w2) (hv : VR m2 v v')
    (hqq : q ≤ q2) (q2le : q2 ≤ ops.toList.length) (q2low : ∀ (j : Nat) (oj : Oper), j < q2 → ops.toList[j]? = some oj → cls P oj = 2 → L j = true ∨ j = i) (q2i : cls P o = 2 → i < q2) (q2n : ∀ j oj, q ≤ j → j < q2 → ops.toList[j]? = some oj → freeA oj = false) :
    Pv P ops A Hs m0 w0 Rs (fun j => if j = i then true else L j) C q2 m2 (a'.put o.dst v') w2 := by
  have hi := lt_len ho
  have hm := hst.later.1
  have slot : ∀ (j : Nat) (oj : Oper) (t : Nat), ops.toList[j]? = some oj → freeA oj = true → oj.dst = some t → (a'.put o.dst v').tmps[t]? = a'.tmps[t]? := fun j oj t hj hf hjd => by
    refine put_get _ _ _ _ fun hd => ?_
    have := hs.dst j i oj o t hj ho hjd hd
    subst this
    rw [ho] at hj; simp only [Option.some.injEq] at hj; subst hj
    rw [hfo] at hf; cases hf
  have nei : ∀ (j : Nat) (oj : Oper), ops.toList[j]? = some oj → freeA oj = true → j ≠ i := fun j oj hj hf e => by
    subst e
    rw [ho] at hj; simp only [Option.some.injEq] at hj; subst hj
    rw [hfo] at hf; cases hf
  refine ⟨hst.rel, h.gl.mono hm, h.step.trans hst, ?_, ?_, ?_, ?_, q2le, ?_, ?_, ?_, ?_, ?_⟩
  · rw [put_defers]; exact h.defers.mono hm
  · rw [put_size]; exact h.size
  · intro j oj t u u' hj hjd hLj hfj hu hu'
    by_cases e : j = i
    · subst e
      rw [ho] at hj; simp only [Option.some.injEq] at hj; subst hj
      have hsl := ht.slot t (j + 1) (ops.toList.length - (j + 1)) (by omega) (fun k ok a b c d => by have := hs.dst k j ok o t c ho d hjd; omega)
      rw [show j + 1 + (ops.toList.length - (j + 1)) = ops.toList.length by omega, hA] at hsl
      have hszs := ht.size ops.toList.length (Nat.le_refl _)
      have hlt : t < (A ops.toList.length).tmps.size := (Array.getElem?_eq_some_iff.1 hu).1
      have hlt2 : t < (A j).tmps.size := by rw [ht.size j (by omega), ← hszs]; exact hlt
      have hlt3 : t < a'.tmps.size := by rw [← h.size, ← hszs]; exact hlt
      rw [hsl] at hu
      simp only [Act.put, hjd, Array.getElem?_setIfInBounds, if_true, hlt2, hlt3, Option.some.injEq] at hu hu'
      subst hu; subst hu'
      exact hv
    · simp only [e, if_false] at hLj
      have hne : o.dst ≠ some t := by
        intro hd; exact e (hs.dst j i oj o t hj ho hjd hd)
      rw [put_get _ _ _ _ hne] at hu'
      refine (h.done j oj t u u' hj hjd hLj (fun hf => ?_) hu hu').mono hm
      have h2 := hfj hf
      rcases Nat.lt_or_ge j q with g | g
      · exact g
      · have := q2n j oj g h2 hj
        rw [this] at hf; cases hf
  · intro t u u' hn hu hu'
    have hne : o.dst ≠ some t := hn i o ho (by simp)
    rw [put_get _ _ _ _ hne] at hu'
    refine (h.kept t u u' (fun j oj hj hLj => ?_) hu hu').mono hm
    refine hn j oj hj ?_
    by_cases e : j = i <;> simp [e, hLj]
  · intro j oj hj1 hj2 hj3
    rcases q2low j oj hj1 hj2 hj3 with e | e
    · by_cases e' : j = i <;> simp [e', e]
    · simp [e]
  · intro j oj hj1 hj2 hj3 hj4
    have hne : j ≠ i := fun e => by
      subst e
      rw [ho] at hj2; simp only [Option.some.injEq] at hj2; subst hj2
      have := q2i hj3
      omega
    simp only [hne, if_false]
    exact h.nfl j oj (Nat.le_trans hqq hj1) hj2 hj3 hj4
  · intro j oj t hj1 hj2 hj3 hj4 hj6
    have hne := nei j oj hj2 hj3
    simp only [hne, if_false] at hj4
    rw [slot j oj t hj2 hj3 hj6]
    exact (h.pend j oj t (Nat.le_trans hqq hj1) hj2 hj3 hj4 hj6).stay hst
  · intro j j' oj oj' h1 h2 h3 h4 h5 h6 h7 h8 h9
    have n1 := nei j oj h4 h6
    have n2 := nei j' oj' h5 h7
    simp only [n1, n2, if_false] at h8 h9
    exact h.pdist j j' oj oj' (Nat.le_trans hqq h1) (Nat.le_trans hqq h2) h3 h4 h5 h6 h7 h8 h9
  · intro c hc
    obtain ⟨r1, r2, r3, r4⟩ := h.res c hc
    refine ⟨Nat.lt_of_lt_of_le r1 hst.keep.size, r2, fun b Lc hb hcc => ?_, fun j oj h1 h2 h3 h4 => ?_⟩
    · rcases hst.later.2.2 b Lc hb with ⟨b0, L0, h0, c0⟩ | g
      · exact r3 b0 L0 h0 (c0.trans hcc)
      · omega
    · have hne := nei j oj h2 h3
      simp only [hne, if_false] at h4
      exact r4 j oj (Nat.le_trans hqq h1) h2 h3 h4
end
end Go.Am
