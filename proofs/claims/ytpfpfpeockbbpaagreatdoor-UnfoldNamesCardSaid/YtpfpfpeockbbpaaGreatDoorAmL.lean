/- Regions that draw their order: the induction over what has been done. -/
import Derived.Test.YtpfpfpeockbbpaaGreatDoorAmK
namespace Go.Am

section
variable {P : Program} {X : Xf} {K : Kf} {ops : Array Oper} {A : Nat → Act} {Hs : Nat → Heap}

/-- The state while some of a region's operations have been done. -/
structure Inv (P : Program) (ops : Array Oper) (A : Nat → Act) (Hs : Nat → Heap) (m0 : Mp) (w0 : World) (L : Nat → Bool) (q : Nat) (m : Mp) (a' : Act) (w' : World) : Prop where
  rel : Rel m (Hs q) w'
  gl : Gl P m
  step : Step m0 (Hs 0) w0 m (Hs q) w'
  defers : DRs m (A 0).defers a'.defers
  size : (A 0).tmps.size = a'.tmps.size
  done : ∀ (j : Nat) (o : Oper) (t : Nat) (v v' : Value), ops.toList[j]? = some o → o.dst = some t → L j = true → (A ops.toList.length).tmps[t]? = some v → a'.tmps[t]? = some v' → VR m v v'
  kept : ∀ (t : Nat) (v v' : Value), (∀ (j : Nat) (o : Oper), ops.toList[j]? = some o → L j = true → o.dst ≠ some t) → (A 0).tmps[t]? = some v → a'.tmps[t]? = some v' → VR m v v'
  qle : q ≤ ops.toList.length
  qeff : ∀ o, ops.toList[q]? = some o → cls P o = 2 ∧ L q = false
  qlow : ∀ (j : Nat) (o : Oper), j < q → ops.toList[j]? = some o → cls P o = 2 → L j = true

/-- What an operation that may come now sees of a slot is what it sees in the text's order. -/
theorem Inv.sees (hs : Sta P ops.toList) (ht : Tra P X K ops A Hs) {m0 : Mp} {w0 : World} {L : Nat → Bool} {q : Nat} {m : Mp} {a' : Act} {w' : World} (h : Inv P ops A Hs m0 w0 L q m a' w') (hd : Down ops.toList L)
    {i : Nat} {o : Oper} (ho : ops.toList[i]? = some o) (hp : ∀ e ∈ o.after, Region.binds .any e = true → L e.on = true) (hL : L i = false) {t : Nat} (hl : t ∈ looks ops.toList o) {v v' : Value}
    (hv : (A i).tmps[t]? = some v) (hv' : a'.tmps[t]? = some v') : VR m v v' := by
  have hi := (List.getElem?_eq_some_iff.1 ho).1
  by_cases hw : ∃ (j : Nat) (oj : Oper), ops.toList[j]? = some oj ∧ oj.dst = some t
  · obtain ⟨j, oj, hj, hjd⟩ := hw
    have hj2 := (List.getElem?_eq_some_iff.1 hj).1
    have uniq : ∀ k ok, ops.toList[k]? = some ok → ok.dst = some t → k = j := fun k ok h1 h2 => hs.dst k j ok oj t h1 hj h2 hjd
    obtain ⟨hne, hb⟩ := hs.look i j o oj t ho hj hjd hl
    rcases hb with hb | hb
    · have hLj := down_bit hs hd i o j ho hp hb
      have hji := sta_bit_lt hs ho hb
      refine h.done j oj t v v' hj hjd hLj ?_ hv'
      have := ht.slot t i (ops.toList.length - i) (by omega) (fun k ok a b c d => by have := uniq k ok c d; omega)
      rw [show i + (ops.toList.length - i) = ops.toList.length by omega] at this
      rw [this, hv]
    · have hij := sta_bit_lt hs hj hb
      have hLj : L j = false := by
        cases e : L j with
        | false => rfl
        | true =>
          have := down_bit hs hd j oj i hj (fun x hx hbx => hd j oj hj e x hx hbx) hb
          rw [this] at hL; simp at hL
      refine h.kept t v v' (fun k ok a b c => ?_) ?_ hv'
      · have := uniq k ok a c; subst this; rw [hLj] at b; simp at b
      · have := ht.slot t 0 i (by omega) (fun k ok a b c d => by have := uniq k ok c d; omega)
        rw [Nat.zero_add] at this
        rw [← this, hv]
  · refine h.kept t v v' (fun k ok a _ c => hw ⟨k, ok, a, c⟩) ?_ hv'
    have := ht.slot t 0 i (by omega) (fun k ok a b c d => hw ⟨k, ok, c, d⟩)
    rw [Nat.zero_add] at this
    rw [← this, hv]

theorem eval_sees {m : Mp} {a a' : Act} (hg : Gl P m) (hsz : a.tmps.size = a'.tmps.size) {x : Operand} (hx : operandOk P x = true) (h : ∀ t, x = .tmp t → ∀ v v', a.tmps[t]? = some v → a'.tmps[t]? = some v' → VR m v v') :
    VR m (a.eval x) (a'.eval x) := by
  cases x with
  | tmp t =>
    simp only [Act.eval]
    by_cases hlt : t < a.tmps.size
    · have hlt' : t < a'.tmps.size := hsz ▸ hlt
      have := h t rfl a.tmps[t] a'.tmps[t] (Array.getElem?_eq_getElem hlt) (Array.getElem?_eq_getElem hlt')
      simpa [Array.getD, hlt, hlt'] using this
    · have hlt' : ¬ t < a'.tmps.size := hsz ▸ hlt
      simpa [Array.getD, hlt, hlt'] using VR.undef m
  | const v => exact .of_ground hx
  | global g =>
    have hlt : g < P.globals.size := by simpa [operandOk] using hx
    obtain ⟨L, h1, h2, h3, _⟩ := hg g hlt
    have := VR.ptr (m := m) g 0 L h1
    rw [h2, h3] at this
    exact this
  | func f => exact .func (.func f) #[] #[] #[] #[] rfl rfl (fun i h => absurd h (by simp)) (fun i h => absurd h (by simp))

theorem guardB_sees {m : Mp} {o : Oper} {a a' : Act} (hsz : a.tmps.size = a'.tmps.size) {b : Bool} (hb : guardB ops o a = some b)
    (h : ∀ j want d, o.guard = some (j, want) → (ops[j]?).bind (·.dst) = some d → ∀ v v', a.tmps[d]? = some v → a'.tmps[d]? = some v' → VR m v v') : Region.wanted o (yielded ops a'.tmps) = b := by
  unfold guardB at hb
  split at hb
  · rename_i hg; simp only [Option.some.injEq] at hb; subst hb; simp [Region.wanted, hg]
  · rename_i j want hg
    split at hb
    · rename_i hd; simp only [Option.some.injEq] at hb; subst hb; simp [Region.wanted, hg, yielded, hd]
    · rename_i d hd
      split at hb
      · rename_i x hx
        simp only [Option.some.injEq] at hb; subst hb
        have hlt := (Array.getElem?_eq_some_iff.1 hx).1
        have hlt' : d < a'.tmps.size := hsz ▸ hlt
        have := (h j want d hg hd _ _ hx (Array.getElem?_eq_getElem hlt')).bool_inv
        simp only [Region.wanted, hg, yielded, hd, Option.bind_some, Array.getElem?_eq_getElem hlt', this]
        cases x <;> cases want <;> rfl
      · rename_i vs hx
        simp only [Option.some.injEq] at hb; subst hb
        have hlt := (Array.getElem?_eq_some_iff.1 hx).1
        have hlt' : d < a'.tmps.size := hsz ▸ hlt
        obtain ⟨vs', e, _⟩ := (h j want d hg hd _ _ hx (Array.getElem?_eq_getElem hlt')).tuple_inv
        simp [Region.wanted, hg, yielded, hd, hlt', e]
      · simp at hb

/-- The heap at which an operation that looks at memory is met: it yields there what it yields in the text's order. -/
theorem Inv.quiet (hs : Sta P ops.toList) (ht : Tra P X K ops A Hs) {m0 : Mp} {w0 : World} {L : Nat → Bool} {q : Nat} {m : Mp} {a' : Act} {w' : World} (h : Inv P ops A Hs m0 w0 L q m a' w') (hd : Down ops.toList L)
    {i : Nat} {o : Oper} (ho : ops.toList[i]? = some o) (hp : ∀ e ∈ o.after, Region.binds .any e = true → L e.on = true) (hL : L i = false) (hg : guardB ops o (A i) = some true) (hc : cls P o < 2)
    {v : Value} {H' : Heap} (hy : Yl P X K (A i).eval o (Hs i) v H') (hA : A (i + 1) = (A i).put o.dst v) : Yl P X K (A i).eval o (Hs q) v (Hs q) := by
  have hi := (List.getElem?_eq_some_iff.1 ho).1
  rcases Nat.eq_zero_or_pos (cls P o) with h0 | hpos
  · exact yl_any h0 hy (Hs q)
  · have h1 : cls P o = 1 := by omega
    have hH' := yl_same hc hy
    subst hH'
    have unord : ∀ p op, ops.toList[p]? = some op → L p = true → ((masks ops.toList []).getD p 0).testBit i = false := by
      intro p op hop hLp
      cases e : ((masks ops.toList []).getD p 0).testBit i with
      | false => rfl
      | true =>
        have := down_bit hs hd p op i hop (fun x hx hbx => hd p op hop hLp x hx hbx) e
        rw [this] at hL; simp at hL
    rcases Nat.lt_or_ge i q with hiq | hiq
    · rcases last_eff P ops.toList i (q - i) (by have := h.qle; omega) with hn | ⟨e, oe, e1, e2, e3, e4, e5⟩
      · have := ht.heap i (q - i) (by have := h.qle; omega) hn
        rw [show i + (q - i) = q by omega] at this
        rw [this]; exact hy
      · have hei : e ≠ i := by
          intro e'; subst e'; rw [ho] at e3; simp only [Option.some.injEq] at e3; subst e3; omega
        have hLe := h.qlow e oe (by omega) e3 e4
        have u1 := unord e oe e3 hLe
        have u2 : ((masks ops.toList []).getD i 0).testBit e = false := by
          cases b : ((masks ops.toList []).getD i 0).testBit e with
          | false => rfl
          | true => have := sta_bit_lt hs ho b; omega
        obtain ⟨u, k0, k1, k2⟩ := ht.chk i e o oe ho e3 h1 hg e4 u2 u1
        have hvu := k0 _ _ _ hy hA
        subst hvu
        have hh := ht.heap (e + 1) (q - (e + 1)) (by have := h.qle; omega) (fun j oj a b c => e5 j oj (by omega) (by omega) c)
        rw [show e + 1 + (q - (e + 1)) = q by omega] at hh
        rw [hh]
        exact qval_yl hc k2 X K
    · rcases Nat.eq_or_lt_of_le hiq with e | e
      · subst e; exact hy
      · have hq2 : q < ops.toList.length := by omega
        have hq3 := List.getElem?_eq_getElem hq2
        obtain ⟨c2, Lq⟩ := h.qeff _ hq3
        have u2 : ((masks ops.toList []).getD i 0).testBit q = false := by
          cases b : ((masks ops.toList []).getD i 0).testBit q with
          | false => rfl
          | true => have := down_bit hs hd i o q ho hp b; rw [this] at Lq; simp at Lq
        have u1 : ((masks ops.toList []).getD q 0).testBit i = false := by
          cases b : ((masks ops.toList []).getD q 0).testBit i with
          | false => rfl
          | true => have := sta_bit_lt hs hq3 b; omega
        obtain ⟨u, k0, k1, k2⟩ := ht.chk i q o _ ho hq3 h1 hg c2 u2 u1
        have hvu := k0 _ _ _ hy hA
        subst hvu
        exact qval_yl hc k1 X K

/-- An effect that may come now is the next one. -/
theorem Inv.next (hs : Sta P ops.toList) {m0 : Mp} {w0 : World} {L : Nat → Bool} {q : Nat} {m : Mp} {a' : Act} {w' : World} (h : Inv P ops A Hs m0 w0 L q m a' w') (hd : Down ops.toList L)
    {i : Nat} {o : Oper} (ho : ops.toList[i]? = some o) (hp : ∀ e ∈ o.after, Region.binds .any e = true → L e.on = true) (hL : L i = false) (hc : cls P o = 2) : i = q := by
  rcases Nat.lt_trichotomy i q with e | e | e
  · have := h.qlow i o e ho hc; rw [this] at hL; simp at hL
  · exact e
  · have hi := (List.getElem?_eq_some_iff.1 ho).1
    have hq2 : q < ops.toList.length := by omega
    have hq3 := List.getElem?_eq_getElem hq2
    obtain ⟨c2, Lq⟩ := h.qeff _ hq3
    have hb := hs.eff q i _ o hq3 ho e c2 hc
    have := down_bit hs hd i o q ho hp hb
    rw [this] at Lq; simp at Lq

/-- One more operation done. -/
theorem Inv.put (hs : Sta P ops.toList) (ht : Tra P X K ops A Hs) {m0 : Mp} {w0 : World} {L : Nat → Bool} {q : Nat} {m m2 : Mp} {a' : Act} {w' w2 : World} (h : Inv P ops A Hs m0 w0 L q m a' w')
    {i : Nat} {o : Oper} (ho : ops.toList[i]? = some o) (hL : L i = false) {v v' : Value} (hA : A (i + 1) = (A i).put o.dst v) {q2 : Nat} (hst : Step m (Hs q) w' m2 (Hs q2) w2) (hv : VR m2 v v')
    (q2le : q2 ≤ ops.toList.length) (q2eff : ∀ oq, ops.toList[q2]? = some oq → cls P oq = 2 ∧ L q2 = false ∧ q2 ≠ i) (q2low : ∀ (j : Nat) (oj : Oper), j < q2 → ops.toList[j]? = some oj → cls P oj = 2 → L j = true ∨ j = i) :
    Inv P ops A Hs m0 w0 (fun j => if j = i then true else L j) q2 m2 (a'.put o.dst v') w2 := by
  have hi := (List.getElem?_eq_some_iff.1 ho).1
  have hm := hst.later.1
  refine ⟨hst.rel, h.gl.mono hm, h.step.trans hst, ?_, ?_, ?_, ?_, q2le, ?_, ?_⟩
  · rw [put_defers]; exact h.defers.mono hm
  · rw [put_size]; exact h.size
  · intro j oj t u u' hj hjd hLj hu hu'
    by_cases e : j = i
    · subst e
      rw [ho] at hj; simp only [Option.some.injEq] at hj; subst hj
      have hsl := ht.slot t (j + 1) (ops.toList.length - (j + 1)) (by omega) (fun k ok a b c d => by have := hs.dst k j ok o t c ho d hjd; omega)
      rw [show j + 1 + (ops.toList.length - (j + 1)) = ops.toList.length by omega, hA] at hsl
      have hszs := ht.size ops.toList.length (Nat.le_refl _)
      have hlt : t < (A ops.toList.length).tmps.size := (Array.getElem?_eq_some_iff.1 hu).1
      have hlt2 : t < (A j).tmps.size := by rw [ht.size j (by omega), ← hszs]; exact hlt
      have hlt3 : t < a'.tmps.size := by rw [← h.size, ← hszs]; exact hlt
      rw [hsl] at hu
      simp only [Act.put, hjd, Array.getElem?_setIfInBounds, if_true, hlt2, hlt3, Option.some.injEq] at hu hu'
      subst hu; subst hu'
      exact hv
    · simp only [e, if_false] at hLj
      have hne : o.dst ≠ some t := by
        intro hd; exact e (hs.dst j i oj o t hj ho hjd hd)
      rw [put_get _ _ _ _ hne] at hu'
      exact (h.done j oj t u u' hj hjd hLj hu hu').mono hm
  · intro t u u' hn hu hu'
    have hne : o.dst ≠ some t := hn i o ho (by simp)
    rw [put_get _ _ _ _ hne] at hu'
    refine (h.kept t u u' (fun j oj hj hLj => ?_) hu hu').mono hm
    refine hn j oj hj ?_
    by_cases e : j = i <;> simp [e, hLj]
  · intro oq hq
    obtain ⟨a1, a2, a3⟩ := q2eff oq hq
    exact ⟨a1, by simp [a3, a2]⟩
  · intro j oj hj1 hj2 hj3
    rcases q2low j oj hj1 hj2 hj3 with e | e
    · by_cases e' : j = i <;> simp [e', e]
    · simp [e]

end
end Go.Am
