/- Regions that draw their order: the induction over what has been done. -/
import Derived.Test.YtmliebodadgpbaaGreatDoorM03
import Derived.Recover
namespace Go.Am
section
variable {P : Program} {X : Xf} {K : Kf} {ops : Array Oper} {A : Nat → Act} {Hs : Nat → Heap}
structure Inv (P : Program) (ops : Array Oper) (A : Nat → Act) (Hs : Nat → Heap) (m0 : Mp) (w0 : World) (L : Nat → Bool) (q : Nat) (m : Mp) (a' : Act) (w' : World) : Prop where
 rel : Rel m (Hs q) w'
 gl : Gl P m
 step : Step m0 (Hs 0) w0 m (Hs q) w'
 defers : DRs m (A 0).defers a'.defers
 size : (A 0).tmps.size = a'.tmps.size
 done : ∀ (j : Nat) (o : Oper) (t : Nat) (v v' : Value), ops.toList[j]? = some o → o.dst = some t → L j = true → (A ops.toList.length).tmps[t]? = some v → a'.tmps[t]? = some v' → VR m v v'
 kept : ∀ (t : Nat) (v v' : Value), (∀ (j : Nat) (o : Oper), ops.toList[j]? = some o → L j = true → o.dst ≠ some t) → (A 0).tmps[t]? = some v → a'.tmps[t]? = some v' → VR m v v'
 qle : q ≤ ops.toList.length
 qeff : ∀ o, ops.toList[q]? = some o → cls P o = 2 ∧ L q = false
 qlow : ∀ (j : Nat) (o : Oper), j < q → ops.toList[j]? = some o → cls P o = 2 → L j = true
theorem Inv.sees (hs : Sta P ops.toList) (ht : Tra P X K ops A Hs) {m0 : Mp} {w0 : World} {L : Nat → Bool} {q : Nat} {m : Mp} {a' : Act} {w' : World} (h : Inv P ops A Hs m0 w0 L q m a' w') (hd : Down ops.toList L)
   {i : Nat} {o : Oper} (ho : ops.toList[i]? = some o) (hp : ∀ e ∈ o.after, Region.binds .any e = true → L e.on = true) (hL : L i = false) {t : Nat} (hl : t ∈ looks ops.toList o) {v v' : Value}
   (hv : (A i).tmps[t]? = some v) (hv' : a'.tmps[t]? = some v') : VR m v v' := by
 have hi := (List.getElem?_eq_some_iff.1 ho).1
 by_cases hw : ∃ (j : Nat) (oj : Oper), ops.toList[j]? = some oj ∧ oj.dst = some t
 · obtain ⟨j, oj, hj, hjd⟩ := hw
   have hj2 := (List.getElem?_eq_some_iff.1 hj).1
   have uniq : ∀ k ok, ops.toList[k]? = some ok → ok.dst = some t → k = j := fun k ok h1 h2 => hs.dst k j ok oj t h1 hj h2 hjd
   obtain ⟨hne, hb⟩ := hs.look i j o oj t ho hj hjd hl
   rcases hb with hb | hb
   · have hLj := ji4 hs hd i o j ho hp hb
     have hji := jm7 hs ho hb
     refine h.done j oj t v v' hj hjd hLj ?_ hv'
     have := ht.slot t i (ops.toList.length - i) (by omega) (fun k ok a b c d => by have := uniq k ok c d; omega)
     rw [show i + (ops.toList.length - i) = ops.toList.length by omega] at this
     rw [this, hv]
   · have hij := jm7 hs hj hb
     have hLj : L j = false := by
       cases e : L j with
       | false => rfl
       | true =>
         have := ji4 hs hd j oj i hj (fun x hx hbx => hd j oj hj e x hx hbx) hb
         rw [this] at hL; simp at hL
     refine h.kept t v v' (fun k ok a b c => ?_) ?_ hv'
     · have := uniq k ok a c; subst this; rw [hLj] at b; simp at b
     · have := ht.slot t 0 i (by omega) (fun k ok a b c d => by have := uniq k ok c d; omega)
       rw [Nat.zero_add] at this
       rw [← this, hv]
 · refine h.kept t v v' (fun k ok a _ c => hw ⟨k, ok, a, c⟩) ?_ hv'
   have := ht.slot t 0 i (by omega) (fun k ok a b c d => hw ⟨k, ok, c, d⟩)
   rw [Nat.zero_add] at this
   rw [← this, hv]
theorem j1f {m : Mp} {a a' : Act} (hg : Gl P m) (hsz : a.tmps.size = a'.tmps.size) {x : Operand} (hx : operandOk P x = true) (h : ∀ t, x = .tmp t → ∀ v v', a.tmps[t]? = some v → a'.tmps[t]? = some v' → VR m v v') :
   VR m (a.eval x) (a'.eval x) := by
 cases x with
 | tmp t =>
   simp only [Act.eval]
   by_cases hlt : t < a.tmps.size
   · have hlt' : t < a'.tmps.size := hsz ▸ hlt
     have := h t rfl a.tmps[t] a'.tmps[t] (Array.getElem?_eq_getElem hlt) (Array.getElem?_eq_getElem hlt')
     simpa [Array.getD, hlt, hlt'] using this
   · have hlt' : ¬ t < a'.tmps.size := hsz ▸ hlt
     simpa [Array.getD, hlt, hlt'] using VR.undef m
 | const v => exact .of_ground hx
 | global g =>
   have hlt : g < P.globals.size := by simpa [operandOk] using hx
   obtain ⟨L, h1, h2, h3, _⟩ := hg g hlt
   have := VR.ptr (m := m) g 0 L h1
   rw [h2, h3] at this
   exact this
 | func f => exact .func (.func f) #[] #[] #[] #[] rfl rfl (fun i h => absurd h (by simp)) (fun i h => absurd h (by simp))
theorem js9 {m : Mp} {o : Oper} {a a' : Act} (hsz : a.tmps.size = a'.tmps.size) {b : Bool} (hb : guardB ops o a = some b)
   (h : ∀ j want d, o.guard = some (j, want) → (ops[j]?).bind (·.dst) = some d → ∀ v v', a.tmps[d]? = some v → a'.tmps[d]? = some v' → VR m v v') : Region.wanted o (yielded ops a'.tmps) = b := by
 unfold guardB at hb
 split at hb
 · rename_i hg; simp only [Option.some.injEq] at hb; subst hb; simp [Region.wanted, hg]
 · rename_i j want hg
   split at hb
   · rename_i hd; simp only [Option.some.injEq] at hb; subst hb; simp [Region.wanted, hg, yielded, hd]
   · rename_i d hd
     split at hb
     · rename_i x hx
       simp only [Option.some.injEq] at hb; subst hb
       have hlt := (Array.getElem?_eq_some_iff.1 hx).1
       have hlt' : d < a'.tmps.size := hsz ▸ hlt
       have := (h j want d hg hd _ _ hx (Array.getElem?_eq_getElem hlt')).bool_inv
       simp only [Region.wanted, hg, yielded, hd, Option.bind_some, Array.getElem?_eq_getElem hlt', this]
       cases x <;> cases want <;> rfl
     · rename_i vs hx
       simp only [Option.some.injEq] at hb; subst hb
       have hlt := (Array.getElem?_eq_some_iff.1 hx).1
       have hlt' : d < a'.tmps.size := hsz ▸ hlt
       obtain ⟨vs', e, _⟩ := (h j want d hg hd _ _ hx (Array.getElem?_eq_getElem hlt')).tuple_inv
       simp [Region.wanted, hg, yielded, hd, hlt', e]
     · simp at hb
theorem Inv.quiet (hs : Sta P ops.toList) (ht : Tra P X K ops A Hs) {m0 : Mp} {w0 : World} {L : Nat → Bool} {q : Nat} {m : Mp} {a' : Act} {w' : World} (h : Inv P ops A Hs m0 w0 L q m a' w') (hd : Down ops.toList L)
   {i : Nat} {o : Oper} (ho : ops.toList[i]? = some o) (hp : ∀ e ∈ o.after, Region.binds .any e = true → L e.on = true) (hL : L i = false) (hg : guardB ops o (A i) = some true) (hc : cls P o < 2)
   {v : Value} {H' : Heap} (hy : Yl P X K (A i).eval o (Hs i) v H') (hA : A (i + 1) = (A i).put o.dst v) : Yl P X K (A i).eval o (Hs q) v (Hs q) := by
 have hi := (List.getElem?_eq_some_iff.1 ho).1
 rcases Nat.eq_zero_or_pos (cls P o) with h0 | hpos
 · exact y53 h0 hy (Hs q)
 · have h1 : cls P o = 1 := by omega
   have hH' := yj0 hc hy
   subst hH'
   have unord : ∀ p op, ops.toList[p]? = some op → L p = true → ((masks ops.toList []).getD p 0).testBit i = false := by
     intro p op hop hLp
     cases e : ((masks ops.toList []).getD p 0).testBit i with
     | false => rfl
     | true =>
       have := ji4 hs hd p op i hop (fun x hx hbx => hd p op hop hLp x hx hbx) e
       rw [this] at hL; simp at hL
   rcases Nat.lt_or_ge i q with hiq | hiq
   · rcases j9a P ops.toList i (q - i) (by have := h.qle; omega) with hn | ⟨e, oe, e1, e2, e3, e4, e5⟩
     · have := ht.heap i (q - i) (by have := h.qle; omega) hn
       rw [show i + (q - i) = q by omega] at this
       rw [this]; exact hy
     · have hei : e ≠ i := by
         intro e'; subst e'; rw [ho] at e3; simp only [Option.some.injEq] at e3; subst e3; omega
       have hLe := h.qlow e oe (by omega) e3 e4
       have u1 := unord e oe e3 hLe
       have u2 : ((masks ops.toList []).getD i 0).testBit e = false := by
         cases b : ((masks ops.toList []).getD i 0).testBit e with
         | false => rfl
         | true => have := jm7 hs ho b; omega
       obtain ⟨u, k0, k1, k2⟩ := ht.chk i e o oe ho e3 h1 hg e4 u2 u1
       have hvu := k0 _ _ _ hy hA
       subst hvu
       have hh := ht.heap (e + 1) (q - (e + 1)) (by have := h.qle; omega) (fun j oj a b c => e5 j oj (by omega) (by omega) c)
       rw [show e + 1 + (q - (e + 1)) = q by omega] at hh
       rw [hh]
       exact yi9 hc k2 X K
   · rcases Nat.eq_or_lt_of_le hiq with e | e
     · subst e; exact hy
     · have hq2 : q < ops.toList.length := by omega
       have hq3 := List.getElem?_eq_getElem hq2
       obtain ⟨c2, Lq⟩ := h.qeff _ hq3
       have u2 : ((masks ops.toList []).getD i 0).testBit q = false := by
         cases b : ((masks ops.toList []).getD i 0).testBit q with
         | false => rfl
         | true => have := ji4 hs hd i o q ho hp b; rw [this] at Lq; simp at Lq
       have u1 : ((masks ops.toList []).getD q 0).testBit i = false := by
         cases b : ((masks ops.toList []).getD q 0).testBit i with
         | false => rfl
         | true => have := jm7 hs hq3 b; omega
       obtain ⟨u, k0, k1, k2⟩ := ht.chk i q o _ ho hq3 h1 hg c2 u2 u1
       have hvu := k0 _ _ _ hy hA
       subst hvu
       exact yi9 hc k1 X K
theorem Inv.next (hs : Sta P ops.toList) {m0 : Mp} {w0 : World} {L : Nat → Bool} {q : Nat} {m : Mp} {a' : Act} {w' : World} (h : Inv P ops A Hs m0 w0 L q m a' w') (hd : Down ops.toList L)
   {i : Nat} {o : Oper} (ho : ops.toList[i]? = some o) (hp : ∀ e ∈ o.after, Region.binds .any e = true → L e.on = true) (hL : L i = false) (hc : cls P o = 2) : i = q := by
 rcases Nat.lt_trichotomy i q with e | e | e
 · have := h.qlow i o e ho hc; rw [this] at hL; simp at hL
 · exact e
 · have hi := (List.getElem?_eq_some_iff.1 ho).1
   have hq2 : q < ops.toList.length := by omega
   have hq3 := List.getElem?_eq_getElem hq2
   obtain ⟨c2, Lq⟩ := h.qeff _ hq3
   have hb := hs.eff q i _ o hq3 ho e c2 hc
   have := ji4 hs hd i o q ho hp hb
   rw [this] at Lq; simp at Lq
theorem Inv.put (hs : Sta P ops.toList) (ht : Tra P X K ops A Hs) {m0 : Mp} {w0 : World} {L : Nat → Bool} {q : Nat} {m m2 : Mp} {a' : Act} {w' w2 : World} (h : Inv P ops A Hs m0 w0 L q m a' w')
   {i : Nat} {o : Oper} (ho : ops.toList[i]? = some o) (hL : L i = false) {v v' : Value} (hA : A (i + 1) = (A i).put o.dst v) {q2 : Nat} (hst : Step m (Hs q) w' m2 (Hs q2) w2) (hv : VR m2 v v')
   (q2le : q2 ≤ ops.toList.length) (q2eff : ∀ oq, ops.toList[q2]? = some oq → cls P oq = 2 ∧ L q2 = false ∧ q2 ≠ i) (q2low : ∀ (j : Nat) (oj : Oper), j < q2 → ops.toList[j]? = some oj → cls P oj = 2 → L j = true ∨ j = i) :
   Inv P ops A Hs m0 w0 (fun j => if j = i then true else L j) q2 m2 (a'.put o.dst v') w2 := by
 have hi := (List.getElem?_eq_some_iff.1 ho).1
 have hm := hst.later.1
 refine ⟨hst.rel, h.gl.mono hm, h.step.trans hst, ?_, ?_, ?_, ?_, q2le, ?_, ?_⟩
 · rw [j26]; exact h.defers.mono hm
 · rw [j89]; exact h.size
 · intro j oj t u u' hj hjd hLj hu hu'
   by_cases e : j = i
   · subst e
     rw [ho] at hj; simp only [Option.some.injEq] at hj; subst hj
     have hsl := ht.slot t (j + 1) (ops.toList.length - (j + 1)) (by omega) (fun k ok a b c d => by have := hs.dst k j ok o t c ho d hjd; omega)
     rw [show j + 1 + (ops.toList.length - (j + 1)) = ops.toList.length by omega, hA] at hsl
     have hszs := ht.size ops.toList.length (Nat.le_refl _)
     have hlt : t < (A ops.toList.length).tmps.size := (Array.getElem?_eq_some_iff.1 hu).1
     have hlt2 : t < (A j).tmps.size := by rw [ht.size j (by omega), ← hszs]; exact hlt
     have hlt3 : t < a'.tmps.size := by rw [← h.size, ← hszs]; exact hlt
     rw [hsl] at hu
     simp only [Act.put, hjd, Array.getElem?_setIfInBounds, if_true, hlt2, hlt3, Option.some.injEq] at hu hu'
     subst hu; subst hu'
     exact hv
   · simp only [e, if_false] at hLj
     have hne : o.dst ≠ some t := by
       intro hd; exact e (hs.dst j i oj o t hj ho hjd hd)
     rw [j7e _ _ _ _ hne] at hu'
     exact (h.done j oj t u u' hj hjd hLj hu hu').mono hm
 · intro t u u' hn hu hu'
   have hne : o.dst ≠ some t := hn i o ho (by simp)
   rw [j7e _ _ _ _ hne] at hu'
   refine (h.kept t u u' (fun j oj hj hLj => ?_) hu hu').mono hm
   refine hn j oj hj ?_
   by_cases e : j = i <;> simp [e, hLj]
 · intro oq hq
   obtain ⟨a1, a2, a3⟩ := q2eff oq hq
   exact ⟨a1, by simp [a3, a2]⟩
 · intro j oj hj1 hj2 hj3
   rcases q2low j oj hj1 hj2 hj3 with e | e
   · by_cases e' : j = i <;> simp [e', e]
   · simp [e]
end
theorem jn8 {ops : List Oper} {o : Oper} {t : Tmp} (h : Operand.tmp t ∈ o.op.operands.toList) : t ∈ looks ops o := by
 unfold looks
 rw [List.mem_append]
 left
 exact List.mem_filterMap.2 ⟨_, h, rfl⟩
theorem jt0 {ops : Array Oper} {o : Oper} {j : Nat} {want : Bool} {d : Tmp} (hg : o.guard = some (j, want)) (hd : (ops[j]?).bind (·.dst) = some d) : d ∈ looks ops.toList o := by
 unfold looks
 rw [List.mem_append]
 right
 rw [hg]
 cases hj : ops[j]? with
 | none => rw [hj] at hd; simp at hd
 | some oj =>
   rw [hj] at hd
   simp only [Option.bind_some] at hd
   have : ops.toList[j]? = some oj := by simpa using hj
   simp [this, hd]
theorem yy9 {P : Program} {X : Xf} {K : Kf} (hX : XSnd P X) (hK : KSnd P K) {ops : Array Oper} {A : Nat → Act} {Hs : Nat → Heap} (hs : Sta P ops.toList) (ht : Tra P X K ops A Hs)
   {m0 : Mp} {w0 : World} {Q : Exit → Act → World → Prop} (hQ : ∀ m a' w', Rel m (Hs ops.toList.length) w' → Gl P m → ActR m (A ops.toList.length) a' → Step m0 (Hs 0) w0 m (Hs ops.toList.length) w' → Q .normal a' w') :
   ∀ (fuel : Nat) (L : Array Bool) (q : Nat) (m : Mp) (a' : Act) (w' : World), L.size = ops.size → Down ops.toList (fun i => L.getD i false) → (List.range ops.size).countP (fun i => !L.getD i false) ≤ fuel →
     Inv P ops A Hs m0 w0 (fun i => L.getD i false) q m a' w' → wpAny P .any ops Q fuel L a' w' := by
 have final : ∀ (L : Array Bool) (q : Nat) (m : Mp) (a' : Act) (w' : World), L.size = ops.size → Inv P ops A Hs m0 w0 (fun i => L.getD i false) q m a' w' → Region.ready .any ops L = [] → Q .normal a' w' := by
   intro L q m a' w' hsz hi hr
   have all : ∀ i, i < ops.size → L.getD i false = true := by
     intro i
     induction i using Nat.strongRecOn with
     | _ i ih =>
       intro hlt
       cases e : L.getD i false with
       | true => rfl
       | false =>
         have hmem : i ∈ Region.ready .any ops L := by
           rw [mem_ready]
           refine ⟨?_, ops[i], Array.getElem?_eq_getElem hlt, ?_⟩
           · have hlt2 : i < L.size := by omega
             simp only [Array.getD, hlt2, dif_pos] at e ⊢
             exact e
           · intro x hx hb
             have hlt3 := hs.edge i ops[i] (by simp) x hx hb
             exact ih x.on hlt3 (by omega)
         rw [hr] at hmem; simp at hmem
   have hlen : ops.toList.length = ops.size := by simp
   have hq : q = ops.toList.length := by
     rcases Nat.eq_or_lt_of_le hi.qle with e | e
     · exact e
     · have := (hi.qeff _ (List.getElem?_eq_getElem e)).2
       rw [all q (by omega)] at this; simp at this
   subst hq
   refine hQ m a' w' hi.rel hi.gl ⟨?_, ?_⟩ hi.step
   · have hsz2 := ht.size ops.toList.length (Nat.le_refl _)
     refine ⟨by rw [hsz2]; exact hi.size, fun t h1 h2 => ?_⟩
     by_cases hw : ∃ (j : Nat) (oj : Oper), ops.toList[j]? = some oj ∧ oj.dst = some t
     · obtain ⟨j, oj, hj, hjd⟩ := hw
       have hj2 := (List.getElem?_eq_some_iff.1 hj).1
       exact hi.done j oj t _ _ hj hjd (all j (by omega)) (Array.getElem?_eq_getElem h1) (Array.getElem?_eq_getElem h2)
     · have hsl := ht.slot t 0 ops.toList.length (by omega) (fun k ok _ _ c d => hw ⟨k, ok, c, d⟩)
       rw [Nat.zero_add] at hsl
       refine hi.kept t _ _ (fun j oj a _ c => hw ⟨j, oj, a, c⟩) ?_ (Array.getElem?_eq_getElem h2)
       rw [← hsl]; exact Array.getElem?_eq_getElem h1
   · rw [ht.defers _ (Nat.le_refl _)]; exact hi.defers
 intro fuel
 induction fuel with
 | zero =>
   intro L q m a' w' hsz hd hc hi
   have hr : Region.ready .any ops L = [] := by
     rw [List.eq_nil_iff_forall_not_mem]
     intro i hmem
     rw [mem_ready] at hmem
     obtain ⟨h0, o, ho, _⟩ := hmem
     have hlt := (Array.getElem?_eq_some_iff.1 ho).1
     have : 0 < (List.range ops.size).countP (fun i => !L.getD i false) := by
       rw [List.countP_pos_iff]
       refine ⟨i, List.mem_range.2 hlt, ?_⟩
       have hlt2 : i < L.size := by omega
       have hL' : L.getD i false = false := by
         simp only [Array.getD, hlt2, dif_pos] at h0 ⊢
         exact h0
       simp only [hL']; rfl
     omega
   exact ⟨hr, final L q m a' w' hsz hi hr⟩
 | succ fuel ih =>
   intro L q m a' w' hsz hd hc hi
   refine ⟨final L q m a' w' hsz hi, fun i hmem => ?_⟩
   rw [mem_ready] at hmem
   obtain ⟨h0, o, ho, hp⟩ := hmem
   have hlt := (Array.getElem?_eq_some_iff.1 ho).1
   have hlt2 : i < L.size := by omega
   have hL : L.getD i false = false := by
     simp only [Array.getD, hlt2, dif_pos] at h0 ⊢; exact h0
   have ho' : ops.toList[i]? = some o := by simpa using ho
   have hset : ∀ j, (L.setIfInBounds i true).getD j false = if j = i then true else L.getD j false := by
     intro j
     by_cases e : j = i
     · subst e; simp [hlt2]
     · have : i ≠ j := Ne.symm e
       rw [getD_set_ne false this]; simp [e]
   have hfun : (fun j => (L.setIfInBounds i true).getD j false) = fun j => if j = i then true else L.getD j false := funext hset
   have hd2 : Down ops.toList (fun j => (L.setIfInBounds i true).getD j false) := by
     intro j oj hj hLj e he hb
     simp only [hset] at hLj ⊢
     by_cases ej : j = i
     · subst ej
       rw [ho'] at hj; simp only [Option.some.injEq] at hj; subst hj
       have := hp e he hb
       by_cases ee : e.on = j <;> simp [ee, this]
     · simp only [ej, if_false] at hLj
       have := hd j oj hj hLj e he hb
       by_cases ee : e.on = i <;> simp [ee, this]
   have hc2 : (List.range ops.size).countP (fun j => !(L.setIfInBounds i true).getD j false) ≤ fuel := by
     have := j37 (p := fun j => !L.getD j false) (q := fun j => !(L.setIfInBounds i true).getD j false) (List.range ops.size)
       (fun x _ hx => by
         simp only [hset] at hx
         by_cases e : x = i
         · simp [e] at hx
         · simpa [e] using hx) ⟨i, List.mem_range.2 hlt, by simp [hL], by simp [hset]⟩
     omega
   have sees := fun (t : Nat) (hl : t ∈ looks ops.toList o) (v v' : Value) => hi.sees hs ht hd ho' hp hL hl (v := v) (v' := v')
   have hszA : (A i).tmps.size = a'.tmps.size := by rw [ht.size i (by simp; omega)]; exact hi.size
   have hguard : ∀ b, guardB ops o (A i) = some b → Region.wanted o (yielded ops a'.tmps) = b := fun b hb =>
     js9 hszA hb (fun j want d hg hdd v v' => sees d (jt0 hg hdd) v v')
   unfold wpOp
   simp only [ho]
   have goOn : ∀ (m2 : Mp) (q2 : Nat) (v v' : Value) (w2 : World), A (i + 1) = (A i).put o.dst v → Step m (Hs q) w' m2 (Hs q2) w2 → VR m2 v v' → q2 ≤ ops.toList.length →
       (∀ oq, ops.toList[q2]? = some oq → cls P oq = 2 ∧ L.getD q2 false = false ∧ q2 ≠ i) → (∀ (j : Nat) (oj : Oper), j < q2 → ops.toList[j]? = some oj → cls P oj = 2 → L.getD j false = true ∨ j = i) →
       wpAny P .any ops Q fuel (L.setIfInBounds i true) (a'.put o.dst v') w2 := by
     intro m2 q2 v v' w2 hA hst hv k1 k2 k3
     refine ih (L.setIfInBounds i true) q2 m2 _ w2 (by simpa using hsz) hd2 hc2 ?_
     rw [hfun]
     exact hi.put hs ht ho' hL hA hst hv k1 k2 k3
   have same : cls P o < 2 ∨ Hs (i + 1) = Hs i → ∀ (v v' : Value) (m2 : Mp) (w2 : World), A (i + 1) = (A i).put o.dst v → Step m (Hs q) w' m2 (Hs q) w2 → VR m2 v v' → (cls P o = 2 → False) → wpAny P .any ops Q fuel (L.setIfInBounds i true) (a'.put o.dst v') w2 := by
     intro _ v v' m2 w2 hA hst hv hne
     refine goOn m2 q v v' w2 hA hst hv hi.qle (fun oq hq => ?_) (fun j oj h1 h2 h3 => .inl (hi.qlow j oj h1 h2 h3))
     obtain ⟨a1, a2⟩ := hi.qeff oq hq
     refine ⟨a1, a2, fun e => ?_⟩
     subst e
     rw [ho'] at hq; simp only [Option.some.injEq] at hq; subst hq
     exact hne a1
   -- behind an effect: the next one
   have nextq : cls P o = 2 → i = q ∧ ∃ q2, q2 ≤ ops.toList.length ∧ Hs q2 = Hs (i + 1) ∧ (∀ oq, ops.toList[q2]? = some oq → cls P oq = 2 ∧ L.getD q2 false = false ∧ q2 ≠ i) ∧
       (∀ (j : Nat) (oj : Oper), j < q2 → ops.toList[j]? = some oj → cls P oj = 2 → L.getD j false = true ∨ j = i) := by
     intro hc
     have hiq := hi.next hs hd ho' hp hL hc
     refine ⟨hiq, ?_⟩
     have hlen : ops.toList.length = ops.size := by simp
     obtain ⟨q2, n1, n2, n3, n4⟩ := jv3 P ops.toList (ops.toList.length - (i + 1)) (i + 1) (by omega)
     refine ⟨q2, n2, ?_, ?_, ?_⟩
     · have := ht.heap (i + 1) (q2 - (i + 1)) (by omega) (fun j oj a b c => n3 j oj a (by omega) c)
       rw [show i + 1 + (q2 - (i + 1)) = q2 by omega] at this
       exact this
     · intro oq hq
       refine ⟨n4 oq hq, ?_, by omega⟩
       cases e : L.getD q2 false with
       | false => rfl
       | true =>
         have hb := hs.eff i q2 o oq ho' hq (by omega) hc (n4 oq hq)
         have this : L.getD i false = true := ji4 hs hd q2 oq i hq (fun x hx hbx => hd q2 oq hq e x hx hbx) hb
         rw [this] at hL; simp at hL
     · intro j oj h1 h2 h3
       rcases Nat.lt_trichotomy j i with e | e | e
       · exact .inl (hi.qlow j oj (by omega) h2 h3)
       · exact .inr e
       · exact absurd h3 (n3 j oj (by omega) h1 h2)
   rcases ht.step i o ho' with ⟨hg, hok, v, hy, hA⟩ | ⟨hg, hA, hH⟩
   · rw [if_pos (hguard true hg)]
     left
     have hρ : ∀ x ∈ o.op.operands.toList, VR m ((A i).eval x) (a'.eval x) := by
       intro x hx
       refine j1f hi.gl hszA (List.all_eq_true.1 hok x hx) (fun t e v v' => sees t ?_ v v')
       subst e
       exact jn8 hx
     unfold Oper.wp
     by_cases hc : cls P o = 2
     · obtain ⟨hiq, q2, k1, k2, k3, k4⟩ := nextq hc
       subst hiq
       refine jm6 hX hK hi.rel hi.gl hρ (k := fun v H' => some (.ret v, H')) (kp := fun _ _ => none) (r := (.ret v, Hs (i + 1))) ⟨?_, ?_⟩ (hy _ _)
       · intro m2 u u' H2 w2 hv hst hk
         simp only [Option.some.injEq, Prod.mk.injEq, End.ret.injEq] at hk
         obtain ⟨rfl, rfl⟩ := hk
         exact goOn m2 q2 u u' w2 hA (by rw [k2]; exact hst) hv k1 k3 k4
       · intro m2 c c' H2 w2 hv hst hk
         simp at hk
     · have hc2' : cls P o < 2 := by have := yj2 P o; omega
       have hyq := hi.quiet hs ht hd ho' hp hL hg hc2' hy hA
       refine jm6 hX hK hi.rel hi.gl hρ (k := fun v H' => some (.ret v, H')) (kp := fun _ _ => none) (r := (.ret v, Hs q)) ⟨?_, ?_⟩ (hyq _ _)
       · intro m2 u u' H2 w2 hv hst hk
         simp only [Option.some.injEq, Prod.mk.injEq, End.ret.injEq] at hk
         obtain ⟨rfl, rfl⟩ := hk
         exact same (.inl hc2') u u' m2 w2 hA hst hv hc
       · intro m2 c c' H2 w2 hv hst hk
         simp at hk
   · rw [if_neg (by rw [hguard false hg]; simp)]
     by_cases hc : cls P o = 2
     · obtain ⟨hiq, q2, k1, k2, k3, k4⟩ := nextq hc
       subst hiq
       exact goOn m q2 undef undef w' hA (by rw [k2, hH]; exact .refl hi.rel) (.undef m) k1 k3 k4
     · exact same (.inr hH) undef undef m w' hA (.refl hi.rel) (.undef m) hc
/-! Regions that end in a panic. -/
theorem j27 : ∀ (l : List Oper) (p : Nat) (acc : List Nat), masks (l.take p) acc = (masks l acc).take (acc.length + p)
 | [], p, acc => by
   rw [List.take_nil, masks, List.take_of_length_le (by omega)]
 | o :: r, 0, acc => by
   obtain ⟨t, ht⟩ := j1e (o :: r) acc
   rw [ht, List.take_zero, masks]
   simp
 | o :: r, p + 1, acc => by
   simp only [List.take_succ_cons, masks]
   rw [j27 r p]
   congr 1
   simp; omega
theorem jr2 (l : List Oper) {p i : Nat} (h : i < p) : (masks (l.take p) []).getD i 0 = (masks l []).getD i 0 := by
 rw [j27]
 simp [List.getD, List.getElem?_take, h]
theorem jd8 {l : List Oper} {p i : Nat} {o : Oper} (h : (l.take p)[i]? = some o) : i < p ∧ l[i]? = some o := by
 rw [List.getElem?_take] at h
 by_cases c : i < p
 · rw [if_pos c] at h; exact ⟨c, h⟩
 · rw [if_neg c] at h; cases h
theorem yd6 {l : List Oper} {p : Nat} {o : Oper} {t : Tmp} (h : t ∈ looks (l.take p) o) : t ∈ looks l o := by
 unfold looks at h ⊢
 rw [List.mem_append] at h ⊢
 rcases h with h | h
 · exact .inl h
 · right
   cases hgd : o.guard with
   | none => rw [hgd] at h; simp at h
   | some x =>
     obtain ⟨j, w⟩ := x
     rw [hgd] at h
     simp only at h ⊢
     cases hj : (l.take p)[j]? with
     | none => rw [hj] at h; simp at h
     | some oj =>
       rw [hj] at h
       rw [(jd8 hj).2]
       exact h
theorem Sta.take {P : Program} {l : List Oper} (h : Sta P l) (p : Nat) : Sta P (l.take p) := by
 refine ⟨fun o ho => h.nd o (List.mem_of_mem_take ho), fun i o ho e he hb => h.edge i o (jd8 ho).2 e he hb, fun i o ho => ?_, fun i j oi oj d h1 h2 d1 d2 => h.dst i j oi oj d (jd8 h1).2 (jd8 h2).2 d1 d2, fun i j oi oj d h1 h2 d2 hl => ?_, fun i j oi oj h1 h2 hlt c1 c2 => ?_⟩
 · rw [jr2 l (jd8 ho).1]; exact h.lt i o (jd8 ho).2
 · rw [jr2 l (jd8 h1).1, jr2 l (jd8 h2).1]; exact h.look i j oi oj d (jd8 h1).2 (jd8 h2).2 d2 (yd6 hl)
 · rw [jr2 l (jd8 h2).1]; exact h.eff i j oi oj (jd8 h1).2 (jd8 h2).2 hlt c1 c2
theorem j1g {ops : Array Oper} {p : Nat} {o : Oper} {a : Act} (h : ∀ j w, o.guard = some (j, w) → j < p) : guardB (ops.toList.take p).toArray o a = guardB ops o a := by
 unfold guardB
 cases hg : o.guard with
 | none => rfl
 | some x =>
   obtain ⟨j, w⟩ := x
   simp only
   have e : (ops.toList.take p).toArray[j]? = ops[j]? := by simp [List.getElem?_take, h j w hg]
   rw [e]
section pan
variable {P : Program} {X : Xf} {K : Kf} {ops : Array Oper} {A : Nat → Act} {Hs : Nat → Heap} {p : Nat} {op : Oper}
theorem yz0 (hX : XSnd P X) (hK : KSnd P K) (hop : ops.toList[p]? = some op) (hs : Sta P ops.toList) (ht : Tra P X K (ops.toList.take p).toArray A Hs) (hcl : cls P op = 2) (hlater : ∀ j, p < j → j < ops.size → ((masks ops.toList []).getD j 0).testBit p = true)
   (hgd : ∀ (i : Nat) (o : Oper), ops.toList[i]? = some o → ∀ (j : Nat) (w : Bool), o.guard = some (j, w) → j < i) {c : List PanicEntry} {H' : Heap} (hpn : Pn P X K (A p).eval op (Hs p) c H') (hg : guardB ops op (A p) = some true) (hok : opOk P op = true)
   {m0 : Mp} {w0 : World} {Q : Exit → Act → World → Prop} (hQ : ∀ m c' a' w' q m1 w1 (L : Nat → Bool), Inv P (ops.toList.take p).toArray A Hs m0 w0 L q m1 a' w1 → PanR m c c' → Step m1 (Hs p) w1 m H' w' → Step m0 (Hs 0) w0 m H' w' → (∀ j, p ≤ j → L j = false) → Q (.panic c') a' w') :
   ∀ (fuel : Nat) (L : Array Bool) (q : Nat) (m : Mp) (a' : Act) (w' : World), L.size = ops.size → (∀ j, p ≤ j → L.getD j false = false) → Down ops.toList (fun i => L.getD i false) → (List.range ops.size).countP (fun i => !L.getD i false) ≤ fuel →
     Inv P (ops.toList.take p).toArray A Hs m0 w0 (fun i => L.getD i false) q m a' w' → wpAny P .any ops Q fuel L a' w' := by
 have hpl := (List.getElem?_eq_some_iff.1 hop).1
 have hpl' : p < ops.size := by simpa using hpl
 have hlenP : (ops.toList.take p).length = p := by simp; omega
 have hsP := hs.take p
 have hsP' : Sta P (ops.toList.take p).toArray.toList := hsP
 have notall : ∀ (L : Array Bool), L.size = ops.size → (∀ j, p ≤ j → L.getD j false = false) → Region.ready .any ops L ≠ [] := by
   intro L hsz hlow hr
   have all : ∀ i, i < ops.size → L.getD i false = true := by
     intro i
     induction i using Nat.strongRecOn with
     | _ i ih =>
       intro hlt
       cases e : L.getD i false with
       | true => rfl
       | false =>
         have hmem : i ∈ Region.ready .any ops L := by
           rw [mem_ready]
           refine ⟨?_, ops[i], Array.getElem?_eq_getElem hlt, ?_⟩
           · have hlt2 : i < L.size := by omega
             simp only [Array.getD, hlt2, dif_pos] at e ⊢
             exact e
           · intro x hx hb
             have hlt3 := hs.edge i ops[i] (by simp) x hx hb
             exact ih x.on hlt3 (by omega)
         rw [hr] at hmem; simp at hmem
   have := all p hpl'
   rw [hlow p (Nat.le_refl _)] at this
   cases this
 intro fuel
 induction fuel with
 | zero =>
   intro L q m a' w' hsz hlow hd hc hi
   exfalso
   have : 0 < (List.range ops.size).countP (fun i => !L.getD i false) := by
     rw [List.countP_pos_iff]
     exact ⟨p, List.mem_range.2 hpl', by rw [hlow p (Nat.le_refl _)]; rfl⟩
   omega
 | succ fuel ih =>
   intro L q m a' w' hsz hlow hd hc hi
   refine ⟨fun hr => absurd hr (notall L hsz hlow), fun i hmem => ?_⟩
   rw [mem_ready] at hmem
   obtain ⟨h0, o, ho, hp⟩ := hmem
   have hlt := (Array.getElem?_eq_some_iff.1 ho).1
   have hlt2 : i < L.size := by omega
   have hL : L.getD i false = false := by
     simp only [Array.getD, hlt2, dif_pos] at h0 ⊢; exact h0
   have ho' : ops.toList[i]? = some o := by simpa using ho
   have hip : i ≤ p := by
     rcases Nat.lt_or_ge p i with h | h
     · have := ji4 hs hd i o p ho' hp (hlater i h hlt)
       simp only [hlow p (Nat.le_refl _)] at this
       cases this
     · exact h
   have hdP : Down (ops.toList.take p).toArray.toList (fun i => L.getD i false) := fun k ok hk hLk e he hb => hd k ok (jd8 hk).2 hLk e he hb
   unfold wpOp
   simp only [ho]
   rcases Nat.lt_or_ge i p with hi_p | hi_p
   · -- an operation ahead of the one that panics
     have hoP : (ops.toList.take p).toArray.toList[i]? = some o := by
       show (ops.toList.take p)[i]? = some o
       rw [List.getElem?_take, if_pos hi_p]; exact ho'
     have hset : ∀ j, (L.setIfInBounds i true).getD j false = if j = i then true else L.getD j false := by
       intro j
       by_cases e : j = i
       · subst e; simp [hlt2]
       · have : i ≠ j := Ne.symm e
         rw [getD_set_ne false this]; simp [e]
     have hfun : (fun j => (L.setIfInBounds i true).getD j false) = fun j => if j = i then true else L.getD j false := funext hset
     have hlow2 : ∀ j, p ≤ j → (L.setIfInBounds i true).getD j false = false := fun j hj => by
       rw [hset j, if_neg (by omega)]; exact hlow j hj
     have hd2 : Down ops.toList (fun j => (L.setIfInBounds i true).getD j false) := by
       intro j oj hj hLj e he hb
       simp only [hset] at hLj ⊢
       by_cases ej : j = i
       · subst ej
         rw [ho'] at hj; simp only [Option.some.injEq] at hj; subst hj
         have := hp e he hb
         by_cases ee : e.on = j <;> simp [ee, this]
       · simp only [ej, if_false] at hLj
         have := hd j oj hj hLj e he hb
         by_cases ee : e.on = i <;> simp [ee, this]
     have hc2 : (List.range ops.size).countP (fun j => !(L.setIfInBounds i true).getD j false) ≤ fuel := by
       have := j37 (p := fun j => !L.getD j false) (q := fun j => !(L.setIfInBounds i true).getD j false) (List.range ops.size)
         (fun x _ hx => by
           simp only [hset] at hx
           by_cases e : x = i
           · simp [e] at hx
           · simpa [e] using hx) ⟨i, List.mem_range.2 hlt, by simp [hL], by simp [hset]⟩
       omega
     have sees := fun (t : Nat) (hl : t ∈ looks (ops.toList.take p).toArray.toList o) (v v' : Value) => hi.sees hsP' ht hdP hoP hp hL hl (v := v) (v' := v')
     have hszA : (A i).tmps.size = a'.tmps.size := by rw [ht.size i (by show i ≤ (ops.toList.take p).length; omega)]; exact hi.size
     have hgo : ∀ j w, o.guard = some (j, w) → j < p := fun j w h => Nat.lt_trans (hgd i o ho' j w h) hi_p
     have hguard : ∀ b, guardB (ops.toList.take p).toArray o (A i) = some b → Region.wanted o (yielded ops a'.tmps) = b := fun b hb => by
       rw [j1g hgo] at hb
       refine js9 hszA hb (fun j want d hg hdd v v' => sees d (jt0 (ops := (ops.toList.take p).toArray) hg ?_) v v')
       have e : (ops.toList.take p).toArray[j]? = ops[j]? := by simp [List.getElem?_take, hgo j want hg]
       rw [e]; exact hdd
     have goOn : ∀ (m2 : Mp) (q2 : Nat) (v v' : Value) (w2 : World), A (i + 1) = (A i).put o.dst v → Step m (Hs q) w' m2 (Hs q2) w2 → VR m2 v v' → q2 ≤ (ops.toList.take p).toArray.toList.length →
         (∀ oq, (ops.toList.take p).toArray.toList[q2]? = some oq → cls P oq = 2 ∧ L.getD q2 false = false ∧ q2 ≠ i) → (∀ (j : Nat) (oj : Oper), j < q2 → (ops.toList.take p).toArray.toList[j]? = some oj → cls P oj = 2 → L.getD j false = true ∨ j = i) →
         wpAny P .any ops Q fuel (L.setIfInBounds i true) (a'.put o.dst v') w2 := by
       intro m2 q2 v v' w2 hA hst hv k1 k2 k3
       refine ih (L.setIfInBounds i true) q2 m2 _ w2 (by simpa using hsz) hlow2 hd2 hc2 ?_
       rw [hfun]
       exact hi.put hsP' ht hoP hL hA hst hv k1 k2 k3
     have same : cls P o < 2 ∨ Hs (i + 1) = Hs i → ∀ (v v' : Value) (m2 : Mp) (w2 : World), A (i + 1) = (A i).put o.dst v → Step m (Hs q) w' m2 (Hs q) w2 → VR m2 v v' → (cls P o = 2 → False) → wpAny P .any ops Q fuel (L.setIfInBounds i true) (a'.put o.dst v') w2 := by
       intro _ v v' m2 w2 hA hst hv hne
       refine goOn m2 q v v' w2 hA hst hv hi.qle (fun oq hq => ?_) (fun j oj h1 h2 h3 => .inl (hi.qlow j oj h1 h2 h3))
       obtain ⟨a1, a2⟩ := hi.qeff oq hq
       refine ⟨a1, a2, fun e => ?_⟩
       subst e
       rw [hoP] at hq; simp only [Option.some.injEq] at hq; subst hq
       exact hne a1
     have nextq : cls P o = 2 → i = q ∧ ∃ q2, q2 ≤ (ops.toList.take p).toArray.toList.length ∧ Hs q2 = Hs (i + 1) ∧ (∀ oq, (ops.toList.take p).toArray.toList[q2]? = some oq → cls P oq = 2 ∧ L.getD q2 false = false ∧ q2 ≠ i) ∧
         (∀ (j : Nat) (oj : Oper), j < q2 → (ops.toList.take p).toArray.toList[j]? = some oj → cls P oj = 2 → L.getD j false = true ∨ j = i) := by
       intro hc
       have hiq := hi.next hsP' hdP hoP hp hL hc
       refine ⟨hiq, ?_⟩
       have hlen : (ops.toList.take p).toArray.toList.length = p := hlenP
       obtain ⟨q2, n1, n2, n3, n4⟩ := jv3 P (ops.toList.take p).toArray.toList (p - (i + 1)) (i + 1) (by omega)
       refine ⟨q2, n2, ?_, ?_, ?_⟩
       · have := ht.heap (i + 1) (q2 - (i + 1)) (by omega) (fun j oj a b c => n3 j oj a (by omega) c)
         rw [show i + 1 + (q2 - (i + 1)) = q2 by omega] at this
         exact this
       · intro oq hq
         refine ⟨n4 oq hq, ?_, by omega⟩
         cases e : L.getD q2 false with
         | false => rfl
         | true =>
           have hb := hsP'.eff i q2 o oq hoP hq (by omega) hc (n4 oq hq)
           have this : L.getD i false = true := ji4 hsP' hdP q2 oq i hq (fun x hx hbx => hdP q2 oq hq e x hx hbx) hb
           rw [this] at hL; simp at hL
       · intro j oj h1 h2 h3
         rcases Nat.lt_trichotomy j i with e | e | e
         · exact .inl (hi.qlow j oj (by omega) h2 h3)
         · exact .inr e
         · exact absurd h3 (n3 j oj (by omega) h1 h2)
     rcases ht.step i o hoP with ⟨hg, hok, v, hy, hA⟩ | ⟨hg, hA, hH⟩
     · rw [if_pos (hguard true hg)]
       left
       have hρ : ∀ x ∈ o.op.operands.toList, VR m ((A i).eval x) (a'.eval x) := by
         intro x hx
         refine j1f hi.gl hszA (List.all_eq_true.1 hok x hx) (fun t e v v' => sees t ?_ v v')
         subst e
         exact jn8 hx
       unfold Oper.wp
       by_cases hc : cls P o = 2
       · obtain ⟨hiq, q2, k1, k2, k3, k4⟩ := nextq hc
         subst hiq
         refine jm6 hX hK hi.rel hi.gl hρ (k := fun v H' => some (.ret v, H')) (kp := fun _ _ => none) (r := (.ret v, Hs (i + 1))) ⟨?_, ?_⟩ (hy _ _)
         · intro m2 u u' H2 w2 hv hst hk
           simp only [Option.some.injEq, Prod.mk.injEq, End.ret.injEq] at hk
           obtain ⟨rfl, rfl⟩ := hk
           exact goOn m2 q2 u u' w2 hA (by rw [k2]; exact hst) hv k1 k3 k4
         · intro m2 c c' H2 w2 hv hst hk
           simp at hk
       · have hc2' : cls P o < 2 := by have := yj2 P o; omega
         have hyq := hi.quiet hsP' ht hdP hoP hp hL hg hc2' hy hA
         refine jm6 hX hK hi.rel hi.gl hρ (k := fun v H' => some (.ret v, H')) (kp := fun _ _ => none) (r := (.ret v, Hs q)) ⟨?_, ?_⟩ (hyq _ _)
         · intro m2 u u' H2 w2 hv hst hk
           simp only [Option.some.injEq, Prod.mk.injEq, End.ret.injEq] at hk
           obtain ⟨rfl, rfl⟩ := hk
           exact same (.inl hc2') u u' m2 w2 hA hst hv hc
         · intro m2 c c' H2 w2 hv hst hk
           simp at hk
     · rw [if_neg (by rw [hguard false hg]; simp)]
       by_cases hc : cls P o = 2
       · obtain ⟨hiq, q2, k1, k2, k3, k4⟩ := nextq hc
         subst hiq
         exact goOn m q2 undef undef w' hA (by rw [k2, hH]; exact .refl hi.rel) (.undef m) k1 k3 k4
       · exact same (.inr hH) undef undef m w' hA (.refl hi.rel) (.undef m) hc
   · -- the one that panics
     have e : i = p := by omega
     subst e
     rw [hop] at ho'
     obtain rfl := Option.some.inj ho'
     have hszA : (A i).tmps.size = a'.tmps.size := by rw [ht.size i (by show i ≤ (ops.toList.take i).length; omega)]; exact hi.size
     have hlenA : (ops.toList.take i).toArray.toList.length = i := hlenP
     have sees : ∀ (t : Nat), t ∈ looks ops.toList op → ∀ v v', (A i).tmps[t]? = some v → a'.tmps[t]? = some v' → VR m v v' := fun t hl v v' hv hv' => by
       by_cases hw : ∃ (j : Nat) (oj : Oper), (ops.toList.take i).toArray.toList[j]? = some oj ∧ oj.dst = some t
       · obtain ⟨j, oj, hj, hjd⟩ := hw
         obtain ⟨hji, hj'⟩ := jd8 (l := ops.toList) hj
         obtain ⟨_, hb⟩ := hs.look i j op oj t hop hj' hjd hl
         rcases hb with hb | hb
         · have hLj := ji4 hs hd i op j hop hp hb
           exact hi.done j oj t v v' hj hjd hLj (by rw [hlenA]; exact hv) hv'
         · have := jm7 hs hj' hb; omega
       · refine hi.kept t v v' (fun k ok a _ c => hw ⟨k, ok, a, c⟩) ?_ hv'
         have := ht.slot t 0 i (by rw [hlenA]; omega) (fun k ok a b c d => hw ⟨k, ok, c, d⟩)
         rw [Nat.zero_add] at this
         rw [← this, hv]
     have hwant : Region.wanted op (yielded ops a'.tmps) = true := js9 hszA hg (fun j want d hg hdd v v' => sees d (jt0 hg hdd) v v')
     rw [if_pos hwant]
     left
     have hq : q = i := by
       rcases Nat.lt_or_ge q i with h | h
       · have hq2 : q < (ops.toList.take i).toArray.toList.length := by rw [hlenA]; exact h
         have hq3 := List.getElem?_eq_getElem hq2
         obtain ⟨c2, Lq⟩ := hi.qeff _ hq3
         have hb := hs.eff q i _ op (jd8 (l := ops.toList) hq3).2 hop h c2 hcl
         have := ji4 hs hd i op q hop hp hb
         simp only [Lq] at this
         cases this
       · have := hi.qle; rw [hlenA] at this; omega
     subst hq
     have hρ : ∀ x ∈ op.op.operands.toList, VR m ((A q).eval x) (a'.eval x) := by
       intro x hx
       refine j1f hi.gl hszA (List.all_eq_true.1 hok x hx) (fun t e v v' => sees t ?_ v v')
       subst e
       exact jn8 hx
     unfold Oper.wp
     refine jm6 hX hK hi.rel hi.gl hρ (k := fun _ _ => none) (kp := fun c H' => some (.pan c, H')) (r := (.pan c, H')) ⟨?_, ?_⟩ (hpn _ _)
     · intro m2 u u' H2 w2 hv hst hk
       simp at hk
     · intro m2 c1 c' H2 w2 hv hst hk
       simp only [Option.some.injEq, Prod.mk.injEq, End.pan.injEq] at hk
       obtain ⟨rfl, rfl⟩ := hk
       exact hQ m2 c' a' w2 q m w' _ hi hv hst (hi.step.trans hst) hlow
end pan
theorem yz1 {P : Program} {ops : Array Oper} {ts : List (Act × Heap)} {a0 : Act × Heap} (hlen : ts.length = ops.toList.length + 1) (h : drawChk P ops ts = true) :
   ∀ (i p : Nat) (oi op : Oper), ops.toList[i]? = some oi → ops.toList[p]? = some op → cls P oi = 1 → guardB ops oi ((ts[i]?.getD a0).1) = some true → cls P op = 2 →
   ((masks ops.toList []).getD i 0).testBit p = false → ((masks ops.toList []).getD p 0).testBit i = false →
   ∃ v, (∀ v', ((ts[i + 1]?.getD a0).1) = ((ts[i]?.getD a0).1).put oi.dst v' → v' = v) ∧ qval P ((ts[i]?.getD a0).1).eval oi ((ts[p]?.getD a0).2) = some v ∧ qval P ((ts[i]?.getD a0).1).eval oi ((ts[p + 1]?.getD a0).2) = some v := by
 intro i p oi op ho hp h1 hg h2 u1 u2
 have hi := (List.getElem?_eq_some_iff.1 ho).1
 have hpl := (List.getElem?_eq_some_iff.1 hp).1
 have t1 : ts[i]? = some ts[i] := List.getElem?_eq_getElem (by omega)
 have t2 : ts[i + 1]? = some ts[i + 1] := List.getElem?_eq_getElem (by omega)
 have t3 : ts[p]? = some ts[p] := List.getElem?_eq_getElem (by omega)
 have t4 : ts[p + 1]? = some ts[p + 1] := List.getElem?_eq_getElem (by omega)
 unfold drawChk at h
 simp only [List.all_eq_true, List.mem_range] at h
 have hh := h i hi
 rw [t1] at hg
 simp only [Option.getD_some] at hg
 simp only [ho, t1, t2, h1, hg, and_self, if_true, List.all_eq_true, List.mem_range] at hh
 have hh2 := hh p hpl
 simp only [hp, h2, u1, u2, and_self, if_true, t3, t4] at hh2
 cases hd : oi.dst with
 | none => rw [hd] at hh2; simp at hh2
 | some d =>
   rw [hd] at hh2
   simp only [Bool.and_eq_true] at hh2
   obtain ⟨c1, c2⟩ := hh2
   rw [t1, t2, t3, t4]
   simp only [Option.getD_some]
   cases q1 : qval P ts[i].1.eval oi ts[p].2 with
   | none => rw [q1] at c1; simp at c1
   | some v =>
     rw [q1] at c1
     cases q2 : qval P ts[i].1.eval oi ts[p + 1].2 with
     | none => rw [q2] at c2; simp at c2
     | some v2 =>
       rw [q2] at c2
       have e1 := j88 c1
       have e2 := j88 c2
       refine ⟨v, fun v' hv' => ?_, rfl, by rw [e2, ← e1]⟩
       rw [e1, hv']
       simp only [Act.put]
       by_cases hlt : d < ts[i].1.tmps.size
       · simp [hlt]
       · exfalso
         have hu : (ts[i + 1].1.tmps.getD d undef) = undef := by
           rw [hv']
           simp [Act.put, hlt]
         rw [hu] at e1
         rw [e1, hu] at c1
         simp [undef, veq, veq0] at c1
theorem yj3 (ops : Array Oper) (a : Act) (t : Nat) : (eraseA ops a).tmps[t]? = a.tmps[t]?.map fun v => cond (writes ops t) undef v := by
 simp [eraseA]
theorem j5s {ops : Array Oper} {t : Nat} (h : writes ops t = false) {j : Nat} {o : Oper} (ho : ops.toList[j]? = some o) : o.dst ≠ some t := by
 intro e
 have : writes ops t = true := by
   unfold writes
   rw [List.any_eq_true]
   exact ⟨o, List.mem_of_getElem? ho, by simp [dstIs, e]⟩
 rw [this] at h; cases h
structure PanOk (P : Program) (ops : List Oper) (p : Nat) : Prop where
 guards : ∀ (i : Nat) (o : Oper), ops[i]? = some o → ∀ (j : Nat) (w : Bool), o.guard = some (j, w) → j < i
 later : ∀ j, p < j → j < ops.length → ((masks ops []).getD j 0).testBit p = true
 chk : ∀ (i e : Nat) (oi oe : Oper), i < p → e < p → ops[i]? = some oi → ops[e]? = some oe → cls P oi = 1 → cls P oe = 2 → ((masks ops []).getD i 0).testBit e = true ∨ ((masks ops []).getD e 0).testBit i = true
theorem j7f {P : Program} {ops : List Oper} (h : panAll P ops = true) {p : Nat} {op : Oper} (hop : ops[p]? = some op) (hm : mayPan op = true) : PanOk P ops p := by
 unfold panAll at h
 simp only [Bool.and_eq_true, List.all_eq_true, List.mem_range] at h
 have hlt : ∀ (i : Nat) (o : Oper), ops[i]? = some o → i < ops.length := fun i o ho => (List.getElem?_eq_some_iff.1 ho).1
 have h2 := h.2 p (hlt p op hop)
 simp only [hop, hm, Bool.not_true, Bool.false_or, Bool.and_eq_true, List.all_eq_true, List.mem_range] at h2
 refine ⟨fun i o ho j w hg => ?_, fun j h1 h3 => ?_, fun i e oi oe h1 h3 h4 h5 c1 c2 => ?_⟩
 · have := h.1 i (hlt i o ho)
   simpa [ho, hg] using this
 · have := h2.1 j h3
   simpa [h1] using this
 · have := h2.2 i h1
   simp only [h4, c1, BEq.rfl, Bool.not_true, Bool.false_or, List.all_eq_true, List.mem_range] at this
   have := this e h3
   simpa [h5, c2] using this
theorem y3g {P : Program} {X : Xf} {K : Kf} {ρ : Operand → Value} {o : Oper} {H : Heap} {c : List PanicEntry} {H' : Heap} (h : Pn P X K ρ o H c H') : mayPan o = true ∧ cls P o = 2 := by
 have hc : cls P o = 2 := by
   rcases Nat.lt_or_ge (cls P o) 2 with h2 | h2
   · exfalso
     rcases j1d h2 ρ H with ⟨v, hv⟩ | hv
     · have h1 := h (fun v H => some (.ret v, H)) (fun c H => some (.pan c, H))
       rw [hv] at h1
       simp at h1
     · have h1 := h (fun v H => some (.ret v, H)) (fun c H => some (.pan c, H))
       rw [hv] at h1
       simp at h1
   · have := yj2 P o; omega
 refine ⟨?_, hc⟩
 have h1 := h (fun v H => some (.ret v, H)) (fun c H => some (.pan c, H))
 have h2 := h (fun _ _ => none) (fun c H => some (.pan c, H))
 obtain ⟨dst, op, type, pos, after, guard⟩ := o
 cases op with
 | panic x => rfl
 | call c =>
   obtain ⟨callee, args, ts⟩ := c
   cases callee with
   | value f => rfl
   | builtin b =>
     exfalso
     simp only [opK] at h2
     have := Lin.builtin P b ts (args.map ρ) H
     rcases this with ⟨v, H1, hv⟩ | ⟨c1, H1, hv⟩ | hv
     · have e := hv (fun _ _ => none) (fun c H => some (.pan c, H))
       simp only at e
       rw [e] at h2; cases h2
     · have e1 := hv (fun _ _ => none) (fun c H => some (.pan c, H))
       have e2 := hv (fun _ _ => none) (fun _ _ => none)
       simp only at e1 e2
       rw [e1] at e2
       cases e2
     · have e := hv (fun _ _ => none) (fun c H => some (.pan c, H))
       simp only at e
       rw [e] at h2; cases h2
   | invoke x y => simp only [opK] at h2; cases h2
 | _ =>
   exfalso
   simp only [opK, mapK] at h2
   first
     | (cases h2; done)
     | (unfold bindV at h2; split at h2 <;> cases h2; done)
     | (unfold bindO at h2; split at h2 <;> cases h2; done)
     | (simp only [bindO, groundK, ite_self] at h2; split at h2 <;> cases h2; done)
     | (split at h2 <;> cases h2; done)
theorem yj4 {P : Program} {X : Xf} {K : Kf} (hX : XSnd P X) (hK : KSnd P K) (hm : P.follows .mixedOrders = true) {ops : Array Oper} {r : End × Heap} {kp : List PanicEntry → Act → Heap → R} {Q : Exit → Act → World → Prop} (hs : Sta P ops.toList)
   {a a' : Act} {m : Mp} {H : Heap} {w : World} (h : StR P m a H a' w) (he : TrQ P X K ops (fun c af Hf => cond (panAll P ops.toList) (kp c (eraseA ops af) Hf) none) r ops.toList a H)
   (hP : ∀ c' b' w', AfterP P m H w c' (fun c b H' => kp c b H' = some r) b' w' → Q (.panic c') b' w') (id : Nat) : (Code.region id ops true).wp P Q a' w := by
 obtain ⟨p, op, ts, k0, k1, k2, k3, ap, Hp, k4, hg, hok, c, H', hpn, hk⟩ := he
 cases hpa : panAll P ops.toList with
 | false => rw [hpa] at hk; cases hk
 | true =>
   rw [hpa] at hk
   simp only [cond_true] at hk
   obtain ⟨hmp, hcl⟩ := y3g hpn
   have ok := j7f hpa k0 hmp
   have hpl := (List.getElem?_eq_some_iff.1 k0).1
   have hlenP : (ops.toList.take p).length = p := by simp; simp at hpl; omega
   let A : Nat → Act := fun i => (ts[i]?.getD (a, H)).1
   let Hs : Nat → Heap := fun i => (ts[i]?.getD (a, H)).2
   have A0 : A 0 = a := by simp only [A, k2, Option.getD_some]
   have H0 : Hs 0 = H := by simp only [Hs, k2, Option.getD_some]
   have Ap : A p = ap := by simp only [A, k4, Option.getD_some]
   have Hpe : Hs p = Hp := by simp only [Hs, k4, Option.getD_some]
   have ht : Tra P X K (ops.toList.take p).toArray A Hs := by
     refine ⟨fun i o ho => ?_, fun i e oi oe ho hoe c1 hg c2 u1 u2 => ?_⟩
     · obtain ⟨hip, ho'⟩ := jd8 (l := ops.toList) ho
       have t1 : ts[i]? = some ts[i] := List.getElem?_eq_getElem (by omega)
       have t2 : ts[i + 1]? = some ts[i + 1] := List.getElem?_eq_getElem (by omega)
       have := k3 i o _ _ ho' t1 t2
       have hgt : guardB (ops.toList.take p).toArray o (A i) = guardB ops o (A i) := j1g fun j w hgj => Nat.lt_trans (ok.guards i o ho' j w hgj) hip
       unfold StepC at this ⊢
       rw [hgt]
       simpa only [A, Hs, t1, t2, Option.getD_some] using this
     · obtain ⟨hip, ho'⟩ := jd8 (l := ops.toList) ho
       obtain ⟨hep, hoe'⟩ := jd8 (l := ops.toList) hoe
       have e1 : (masks (ops.toList.take p).toArray.toList []).getD i 0 = (masks ops.toList []).getD i 0 := jr2 ops.toList hip
       have e2 : (masks (ops.toList.take p).toArray.toList []).getD e 0 = (masks ops.toList []).getD e 0 := jr2 ops.toList hep
       rw [e1] at u1
       rw [e2] at u2
       rcases ok.chk i e oi oe hip hep ho' hoe' c1 c2 with h | h
       · rw [h] at u1; cases u1
       · rw [h] at u2; cases u2
   refine wp_region_any hm ?_
   have hst0 := jh3 h.rel
   have hlen : ops.toList.length = ops.size := by simp
   obtain ⟨q, n1, n2, n3, n4⟩ := jv3 P (ops.toList.take p).toArray.toList p 0 (by rw [Nat.zero_add]; exact hlenP.symm)
   have hHq : Hs q = Hs 0 := by
     have := ht.heap 0 q (by omega) (fun j o a b c => n3 j o a (by omega) c)
     rwa [Nat.zero_add] at this
   have nl : ∀ j, (Array.replicate ops.size false).getD j false = false := by
     intro j; simp [Array.getD]
   refine yz0 hX hK k0 hs ht hcl (fun j h1 h2 => ok.later j h1 (by simpa using h2)) ok.guards (c := c) (H' := H') (by rw [Ap, Hpe]; exact hpn) (by rw [Ap]; exact hg) hok (m0 := m) (w0 := w) (Q := Q) ?_ ops.size (Array.replicate ops.size false) q m a' _ (by simp) (fun j _ => nl j) ?_ ?_ ?_
   · intro m2 c' b' w2 q1 m1 w1 L hi hc hst hall hlow
     rw [H0] at hall
     refine hP c' b' w2 ⟨m2, c, eraseA ops ap, H', hc, ⟨⟨?_, fun t h1 h2 => ?_, ?_⟩, hst.rel, hi.gl.mono hst.later.1⟩, hall, hk⟩
     · have : (eraseA ops ap).tmps.size = ap.tmps.size := by simp [eraseA]
       rw [this, ← Ap, ht.size p (by show p ≤ (ops.toList.take p).length; omega)]
       exact hi.size
     · have e1 := yj3 ops ap t
       rw [Array.getElem?_eq_getElem h1] at e1
       have hs1 : t < ap.tmps.size := by simpa [eraseA] using h1
       rw [Array.getElem?_eq_getElem hs1] at e1
       simp only [Option.map_some, Option.some.injEq] at e1
       cases hw : writes ops t with
       | true => rw [hw] at e1; exact .inl (by rw [e1]; rfl)
       | false =>
         rw [hw] at e1
         simp only [cond_false] at e1
         right
         rw [e1]
         have hsl := ht.slot t 0 p (by show 0 + p ≤ (ops.toList.take p).length; omega) (fun k ok _ _ c => j5s hw (jd8 (l := ops.toList) c).2)
         rw [Nat.zero_add, Ap, Array.getElem?_eq_getElem hs1] at hsl
         exact (hi.kept t _ _ (fun j oj hj _ => j5s hw (jd8 (l := ops.toList) hj).2) hsl.symm (Array.getElem?_eq_getElem h2)).mono hst.later.1
     · have : (eraseA ops ap).defers = ap.defers := rfl
       rw [this, ← Ap, ht.defers p (by show p ≤ (ops.toList.take p).length; omega)]
       exact hi.defers.mono hst.later.1
   · intro i o ho hL
     simp [Array.getD] at hL
   · exact Nat.le_trans List.countP_le_length (by simp)
   · refine ⟨?_, h.gl, ?_, ?_, ?_, ?_, ?_, n2, ?_, ?_⟩
     · rw [hHq, H0]; exact hst0.rel
     · rw [hHq, H0]; exact hst0
     · rw [A0]; exact h.act.defers
     · rw [A0]; exact h.act.tmps.1
     · intro j o t v v' _ _ hL
       simp only [nl] at hL; simp at hL
     · intro t v v' _ hv hv'
       rw [A0] at hv
       obtain ⟨x1, e1⟩ := Array.getElem?_eq_some_iff.1 hv
       obtain ⟨x2, e2⟩ := Array.getElem?_eq_some_iff.1 hv'
       rw [← e1, ← e2]
       exact h.act.tmps.2 t x1 x2
     · intro o ho
       exact ⟨n4 o ho, nl q⟩
     · intro j o hj ho hc
       exact absurd hc (n3 j o (by omega) hj ho)
theorem yd7 {P : Program} {X : Xf} {K : Kf} (hX : XSnd P X) (hK : KSnd P K) (hm : P.follows .mixedOrders = true) {ops : Array Oper} {r : End × Heap} {k : Act → Heap → R} {kp : List PanicEntry → Act → Heap → R} {Q : Exit → Act → World → Prop} (hD : drawOk P ops.toList = true)
   {a a' : Act} {m : Mp} {H : Heap} {w : World} (h : StR P m a H a' w) (he : execTr P X K ops ops.toList a H [] (fun tr af Hf => cond (drawChk P ops tr) (k af Hf) none) (fun c af Hf => cond (panAll P ops.toList) (kp c (eraseA ops af) Hf) none) = some r)
   (hQ : ∀ b' w', After P m H w (fun b H' => k b H' = some r) b' w' → Q .normal b' w') (hP : ∀ c' b' w', AfterP P m H w c' (fun c b H' => kp c b H' = some r) b' w' → Q (.panic c') b' w') (id : Nat) : (Code.region id ops true).wp P Q a' w := by
 have hs := j7d hD
 rcases js8 ops.toList hs.nd he with ⟨ts, k1, k2, k3, af, Hf, k4, k5⟩ | hpan
 case inr => exact yj4 hX hK hm hs h hpan hP id
 simp only [List.nil_append] at k5
 cases hc : drawChk P ops ts with
 | false => rw [hc] at k5; simp at k5
 | true =>
   rw [hc] at k5
   simp only [cond_true] at k5
   have hchk := yz1 (a0 := (a, H)) k1 hc
   let A : Nat → Act := fun i => (ts[i]?.getD (a, H)).1
   let Hs : Nat → Heap := fun i => (ts[i]?.getD (a, H)).2
   have A0 : A 0 = a := by simp only [A, k2, Option.getD_some]
   have H0 : Hs 0 = H := by simp only [Hs, k2, Option.getD_some]
   have An : A ops.toList.length = af := by simp only [A, k4, Option.getD_some]
   have Hn : Hs ops.toList.length = Hf := by simp only [Hs, k4, Option.getD_some]
   have ht : Tra P X K ops A Hs := by
     refine ⟨fun i o ho => ?_, fun i p oi op ho hp c1 hg c2 u1 u2 => ?_⟩
     · have hi := (List.getElem?_eq_some_iff.1 ho).1
       have t1 : ts[i]? = some ts[i] := List.getElem?_eq_getElem (by omega)
       have t2 : ts[i + 1]? = some ts[i + 1] := List.getElem?_eq_getElem (by omega)
       have := k3 i o _ _ ho t1 t2
       simpa only [A, Hs, t1, t2, Option.getD_some] using this
     · obtain ⟨v, q0, q1, q2⟩ := hchk i p oi op ho hp c1 hg c2 u1 u2
       exact ⟨v, fun _ v' _ _ hA => q0 v' hA, q1, q2⟩
   refine wp_region_any hm ?_
   have hst0 := jh3 h.rel
   have hlen : ops.toList.length = ops.size := by simp
   obtain ⟨q, n1, n2, n3, n4⟩ := jv3 P ops.toList ops.toList.length 0 (by omega)
   have hHq : Hs q = Hs 0 := by
     have := ht.heap 0 q (by omega) (fun j o a b c => n3 j o a (by omega) c)
     rwa [Nat.zero_add] at this
   refine yy9 hX hK hs ht (m0 := m) (w0 := w) (Q := Q) ?_ ops.size (Array.replicate ops.size false) q m a' _ (by simp) ?_ ?_ ?_
   · intro m2 b' w2 r1 r2 r3 r4
     rw [An, Hn] at *
     rw [H0] at r4
     exact hQ b' w2 ⟨m2, af, Hf, ⟨r3, r1, r2⟩, r4, k5⟩
   · intro i o ho hL
     have hi := (List.getElem?_eq_some_iff.1 ho).1
     simp [Array.getD] at hL
   · exact Nat.le_trans List.countP_le_length (by simp)
   · have nl : ∀ j, (Array.replicate ops.size false).getD j false = false := by
       intro j; simp [Array.getD]
     refine ⟨?_, h.gl, ?_, ?_, ?_, ?_, ?_, n2, ?_, ?_⟩
     · rw [hHq, H0]; exact hst0.rel
     · rw [hHq, H0]; exact hst0
     · rw [A0]; exact h.act.defers
     · rw [A0]; exact h.act.tmps.1
     · intro j o t v v' _ _ hL
       simp only [nl] at hL; simp at hL
     · intro t v v' _ hv hv'
       rw [A0] at hv
       obtain ⟨x1, e1⟩ := Array.getElem?_eq_some_iff.1 hv
       obtain ⟨x2, e2⟩ := Array.getElem?_eq_some_iff.1 hv'
       rw [← e1, ← e2]
       exact h.act.tmps.2 t x1 x2
     · intro o ho
       exact ⟨n4 o ho, nl q⟩
     · intro j o hj ho hc
       exact absurd hc (n3 j o (by omega) hj ho)
def resL (P : Program) (tmps : Array Value) (H : Heap) : List ResultVar → Option (List Value)
 | [] => some []
 | .tmp t :: r => match resL P tmps H r with | some l => some (tmps.getD t undef :: l) | none => none
 | .cell a t :: r => match loadA P t (tmps.getD a undef) H with
   | some (v, _) => match resL P tmps H r with | some l => some (v :: l) | none => none
   | none => none
def oneOf : List Value → Value
 | [v] => v
 | l => .tuple l.toArray
def finish (P : Program) (fn : Func) (o : Out) (a : Act) (H : Heap) : R :=
 match o with
 | .norm | .ret => match a.defers with
   | [] => match resL P a.tmps H fn.results.toList with | some l => some (.ret (oneOf l), H) | none => none
   | _ => none
 | .pan c => match a.defers with | [] => some (.pan c, H) | _ => none
 | _ => none
abbrev Hook := FuncId → Array Value → Heap → Option R
def call (P : Program) (X : Xf) (N : Nat) (hk : Hook) : Nat → Kf
 | 0 => fun _ _ _ => none
 | d + 1 => fun f args H =>
   match hk f args H with
   | some r => r
   | none =>
     match P.funcs[f]? with
     | some fn => match fn.body with
       | some c => exec P X (call P X N hk d) N c none { tmps := args ++ Array.replicate (fn.ntmps - args.size) undef, defers := [] } H (finish P fn)
       | none => none
     | none => none
theorem jy7 {P : Program} {m : Mp} {H : Heap} {w : World} (h : Rel m H w) {ts ts' : Array Value} (hts : VRa m ts ts') : ∀ (l : List ResultVar) (vs : List Value), resL P ts H l = some vs →
   ∃ vs', (List.mapM (fun | .tmp t => Pure.pure (ts'.getD t undef) | .cell a t => (do loadVar t (← asAddr (ts'.getD a undef)) : Sem Value)) l : Sem (List Value)).run P w = .ok vs' w ∧ VRs m vs vs'
 | [], vs, he => by simp only [resL, Option.some.injEq] at he; subst he; exact ⟨[], by simp, VRs.nil m⟩
 | .tmp t :: r, vs, he => by
   simp only [resL] at he
   split at he
   · rename_i l hl
     simp only [Option.some.injEq] at he; subst he
     obtain ⟨vs', k1, k2⟩ := jy7 h hts r l hl
     exact ⟨ts'.getD t undef :: vs', by simp only [List.mapM_cons, Sem.run_bind, Sem.run_pure, Result.andThen_ok, k1], VRs.cons (hts.getD t (.undef m)) k2⟩
   · simp at he
 | .cell a t :: r, vs, he => by
   simp only [resL] at he
   split at he
   · rename_i v H' hv
     split at he
     · rename_i l hl
       simp only [Option.some.injEq] at he; subst he
       obtain ⟨vs', k1, k2⟩ := jy7 h hts r l hl
       have hx := hts.getD a (VR.undef m)
       obtain ⟨v', q1, q2, q3⟩ := jy3 h hx hv
       have hp : ∃ b, ts.getD a undef = .pointer (some b) := by
         unfold loadA at hv
         split at hv
         · rename_i b hb; exact ⟨b, hb⟩
         · simp at hv
       obtain ⟨b, hb⟩ := hp
       rw [hb] at hx
       obtain ⟨L, _, _, e⟩ := hx.ptr_inv
       rw [e] at q1
       have q1' : (loadVar t ⟨L.c, L.base + b.off, none⟩).run P w = .ok v' w := by
         simpa [Instr.loadAt, Instr.sureAddr] using q1
       refine ⟨v' :: vs', ?_, VRs.cons q2 k2⟩
       have hA : (asAddr (ts'.getD a undef)).run P w = .ok ⟨L.c, L.base + b.off, none⟩ w := by rw [e]; rfl
       simp only [List.mapM_cons, Sem.run_bind, hA, Result.andThen_ok, q1', k1, Sem.run_pure]
     · simp at he
   · simp at he
theorem j1h {m : Mp} {l l' : List Value} (h : VRs m l l') : VR m (oneOf l) (if hs : l'.toArray.size = 1 then l'.toArray[0] else .tuple l'.toArray) := by
 match l, l', h with
 | [], [], h => exact .tuple _ _ rfl (fun i a => absurd a (by simp))
 | [x], [y], h => exact h.head
 | x :: y :: r, x' :: y' :: r', h =>
   have : ¬ (x' :: y' :: r').toArray.size = 1 := by simp
   rw [dif_neg this]
   exact .tuple _ _ (h.toArray).1 (h.toArray).2
 | [], _ :: _, h => have := h.1; simp at this
 | _ :: _, [], h => have := h.1; simp at this
 | [_], _ :: _ :: _, h => have := h.1; simp at this
 | _ :: _ :: _, [_], h => have := h.1; simp at this
theorem jv4 {P : Program} {m : Mp} {H : Heap} {w : World} (h : Rel m H w) {fn : Func} {ts ts' : Array Value} (hts : VRa m ts ts') {vs : List Value} (he : resL P ts H fn.results.toList = some vs) :
   ∃ v', (results fn ts').run P w = .ok v' w ∧ VR m (oneOf vs) v' := by
 obtain ⟨vs', k1, k2⟩ := jy7 h hts fn.results.toList vs he
 refine ⟨_, ?_, j1h k2⟩
 unfold results
 have : (fn.results.mapM (fun | .tmp t => Pure.pure (ts'.getD t undef) | .cell a t => (do loadVar t (← asAddr (ts'.getD a undef)) : Sem Value)) : Sem (Array Value)).run P w = .ok vs'.toArray w := by
   rw [Array.mapM_eq_mapM_toList, Sem.run_map, k1]; rfl
 rw [Sem.run_bind]
 refine (congrArg (fun z => Result.andThen z _) this).trans ?_
 rfl
def HookSnd (P : Program) (hk : Hook) : Prop := ∀ f args H r H', hk f args H = some (some (r, H')) → ∀ m w args', Rel m H w → Gl P m → VRa m args args' →
 Calls P f args' w fun e w' => ∃ m', EndR m' r e ∧ Step m H w m' H' w'
def recM : FrameMode → Value × FrameMode
 | .panicking (p :: older) => if p.recovered = false ∧ p.goexit = false then (p.v, .panicking ({ v := p.v, recovered := true } :: older)) else (.nilIface, .panicking (p :: older))
 | u => (.nilIface, u)
def isRec (o : Oper) : Bool :=
 match o.op with
 | .call c => match c.callee with | .builtin .recover => o.guard.isNone && c.args.isEmpty | _ => false
 | _ => false
def finD (P : Program) (fn : Func) (u : FrameMode) (kd : End → FrameMode → Heap → R) (o : Out) (a : Act) (H : Heap) : R :=
 match o with
 | .norm | .ret => match a.defers with
   | [] => match resL P a.tmps H fn.results.toList with | some l => kd (.ret (oneOf l)) u H | none => none
   | _ => none
 | .pan c => match a.defers with | [] => kd (.pan c) u H | _ => none
 | _ => none
def act0 (fn : Func) (args : Array Value) : Act := { tmps := args ++ Array.replicate (fn.ntmps - args.size) undef, defers := [] }
def bodyD (P : Program) (X : Xf) (K : Kf) (N : Nat) (fn : Func) (c : Code) (args : Array Value) (u : FrameMode) (H : Heap) (kd : End → FrameMode → Heap → R) : R :=
 match c with
 | .seq (.region _ ops false) rest => match ops.toList with
   | o :: os => cond (isRec o)
     (execOps P X K ops os ((act0 fn args).put o.dst (recM u).1) H (fun a H => exec P X K N rest none a H (finD P fn (recM u).2 kd)) (fun c a H => finD P fn (recM u).2 kd (.pan c) a H))
     (exec P X K N c none (act0 fn args) H (finD P fn u kd))
   | [] => exec P X K N c none (act0 fn args) H (finD P fn u kd)
 | c => exec P X K N c none (act0 fn args) H (finD P fn u kd)
def settleA : FrameMode → Option FrameMode
 | .panicking (p :: older) => if p.recovered = true then (match older with | [] => some .returning | _ => none) else some (.panicking (p :: older))
 | u => some u
def leave (P : Program) (X : Xf) (K : Kf) (N : Nat) (fn : Func) (wk : Bool) (tmps : Array Value) : List Deferred → FrameMode → Heap → R
 | [], .returning, H => match resL P tmps H fn.results.toList with | some l => cond (wk && l.any isUndef) none (some (.ret (oneOf l), H)) | none => none
 | [], .panicking c, H => some (.pan c, H)
 | [], .run, _ => none
 | _ :: _, .run, _ => none
 | d :: ds, u, H => match d.target with
   | .fn (.func g) cap => match P.funcs[g]? with
     | some gn => if gn.name == "runtime.NumGoroutine" then none else match gn.body with
       | some c => bodyD P X K N gn c (d.args ++ cap) u H fun e u' H' => match e with
         | .ret _ => match settleA u' with | some u2 => leave P X K N fn wk tmps ds u2 H' | none => none
         | .pan ch => leave P X K N fn wk tmps ds (raised u' ch) H'
       | none => none
     | none => none
   | _ => none
def finishR (P : Program) (X : Xf) (K : Kf) (N : Nat) (fn : Func) (o : Out) (a : Act) (H : Heap) : R :=
 match o with
 | .norm | .ret => leave P X K N fn false a.tmps a.defers .returning H
 | .pan c => leave P X K N fn true a.tmps a.defers (.panicking c) H
 | _ => none
def callR (P : Program) (X : Xf) (N : Nat) (hk : Hook) : Nat → Kf
 | 0 => fun _ _ _ => none
 | d + 1 => fun f args H =>
   match hk f args H with
   | some r => r
   | none =>
     match P.funcs[f]? with
     | some fn => match fn.body with
       | some c => exec P X (callR P X N hk d) N c none (act0 fn args) H (finishR P X (callR P X N hk d) N fn)
       | none => none
     | none => none
inductive ModeR (m : Mp) : FrameMode → FrameMode → Prop where
 | returning : ModeR m .returning .returning
 | panicking (c c' : List PanicEntry) (h : PanR m c c') : ModeR m (.panicking c) (.panicking c')
theorem ModeR.mono {m m' : Mp} (hm : m.le m') {u u' : FrameMode} (h : ModeR m u u') : ModeR m' u u' := by
 cases h with
 | returning => exact .returning
 | panicking c c' h => exact .panicking _ _ (h.mono hm)
theorem PanR.append {m : Mp} {a a' b b' : List PanicEntry} (h : PanR m a a') (k : PanR m b b') : PanR m (a ++ b) (a' ++ b') := by
 refine ⟨by simp [h.1, k.1], fun i hi hi' => ?_⟩
 by_cases e : i < a.length
 · have e' : i < a'.length := h.1 ▸ e
   simp only [List.getElem_append, e, e', dif_pos]
   exact h.2 i e e'
 · have e' : ¬ i < a'.length := h.1 ▸ e
   simp only [List.getElem_append, e, e', dif_neg, not_false_eq_true]
   have hs := h.1
   simp only [List.length_append] at hi hi'
   simp only [← hs]
   exact k.2 _ (by omega) (by have := k.1; omega)
theorem PanR.cons_inv {m : Mp} {p : PanicEntry} {r : List PanicEntry} {c' : List PanicEntry} (h : PanR m (p :: r) c') :
   ∃ p' r', c' = p' :: r' ∧ VR m p.v p'.v ∧ p.recovered = p'.recovered ∧ p.goexit = p'.goexit ∧ PanR m r r' := by
 cases c' with
 | nil => have := h.1; simp at this
 | cons p' r' =>
   have h0 := h.2 0 (by simp) (by simp)
   refine ⟨p', r', rfl, h0.1, h0.2.1, h0.2.2, by simpa using h.1, fun i a b => ?_⟩
   have := h.2 (i + 1) (by simpa using a) (by simpa using b)
   simpa using this
theorem PanR.cons {m : Mp} {p p' : PanicEntry} {r r' : List PanicEntry} (hv : VR m p.v p'.v) (h1 : p.recovered = p'.recovered) (h2 : p.goexit = p'.goexit) (h : PanR m r r') : PanR m (p :: r) (p' :: r') := by
 refine ⟨by simp [h.1], fun i a b => ?_⟩
 cases i with
 | zero => exact ⟨hv, h1, h2⟩
 | succ i => simpa using h.2 i (by simpa using a) (by simpa using b)
theorem ModeR.raised {m : Mp} {u u' : FrameMode} {c c' : List PanicEntry} (h : ModeR m u u') (hc : PanR m c c') : ModeR m (raised u c) (raised u' c') := by
 cases h with
 | returning => exact .panicking _ _ hc
 | panicking o o' ho => exact .panicking _ _ (hc.append ho)
theorem ModeR.settle {m : Mp} {u u' u2 : FrameMode} (h : ModeR m u u') (he : settleA u = some u2) : ModeR m u2 (settle u') := by
 cases h with
 | returning => simp only [settleA, Option.some.injEq] at he; subst he; exact .returning
 | panicking o o' ho =>
   cases o with
   | nil =>
     simp only [settleA, Option.some.injEq] at he
     subst he
     have : o' = [] := by have := ho.1; simpa using this.symm
     subst this
     exact .panicking _ _ ho
   | cons p r =>
     obtain ⟨p', r', rfl, hv, h1, h2, hr⟩ := ho.cons_inv
     simp only [settleA] at he
     by_cases e : p.recovered = true
     · rw [if_pos e] at he
       cases r with
       | cons => simp at he
       | nil =>
         simp only [Option.some.injEq] at he
         subst he
         have : r' = [] := by have := hr.1; simpa using this.symm
         subst this
         have e' : p'.recovered = true := h1 ▸ e
         obtain ⟨v', rec', ge'⟩ := p'
         simp only at e'
         subst e'
         simp only [Go.settle, List.dropWhile_nil]
         exact .returning
     · rw [if_neg e] at he
       simp only [Option.some.injEq] at he
       subst he
       have e' : p'.recovered = false := by rw [← h1]; simpa using e
       obtain ⟨v', rec', ge'⟩ := p'
       simp only at e'
       subst e'
       exact .panicking _ _ ho
theorem yd8 {m : Mp} {u : FrameMode} {c₀ : Frame} (cs : List Frame) (h : ModeR m u c₀.mode) :
   ∃ v' u2, VR m (recM u).1 v' ∧ ModeR m (recM u).2 u2 ∧ (match recoverD (c₀ :: cs) with | some (v, cs') => v = v' ∧ cs' = { c₀ with mode := u2 } :: cs | none => v' = .nilIface ∧ u2 = c₀.mode) := by
 obtain ⟨fnx, tmpsx, todox, defx, modex, kindx, rx⟩ := c₀
 simp only at h
 cases h with
 | returning => exact ⟨.nilIface, .returning, .atom _ rfl, .returning, by simp [recoverD]⟩
 | panicking o o' ho =>
   cases o with
   | nil =>
     have : o' = [] := by have := ho.1; simpa using this.symm
     subst this
     exact ⟨.nilIface, _, .atom _ rfl, .panicking _ _ ho, by simp [recoverD]⟩
   | cons p r =>
     obtain ⟨p', r', rfl, hv, h1, h2, hr⟩ := ho.cons_inv
     obtain ⟨v, rc, ge⟩ := p
     obtain ⟨v', rc', ge'⟩ := p'
     simp only at hv h1 h2
     subst h1 h2
     by_cases e : rc = false ∧ ge = false
     · obtain ⟨rfl, rfl⟩ := e
       refine ⟨v', .panicking ({ v := v', recovered := true } :: r'), by simpa [recM] using hv, ?_, by simp [recoverD]⟩
       simp only [recM, and_self, if_true]
       exact .panicking _ _ (PanR.cons hv rfl rfl hr)
     · refine ⟨.nilIface, _, by simp only [recM, if_neg e]; exact .atom _ rfl, by simp only [recM, if_neg e]; exact .panicking _ _ ho, ?_⟩
       cases rc <;> cases ge <;> first | (exact absurd ⟨rfl, rfl⟩ e) | simp [recoverD]
theorem j7g {P : Program} {ops : Array Oper} {Q : Exit → Act → List Frame → World → Prop} {cs : List Frame} {n : Nat} {rest : List Nat} {o : Oper} {a : Act} {w : World} (ho : ops[n]? = some o)
   (hw : Region.wanted o (yielded ops a.tmps) = true) (h : o.wp P a w (fun a' w' => wpOpsS P ops Q rest a' cs w') (fun e a' w' => Q e a' cs w')) : wpOpsS P ops Q (n :: rest) a cs w := by
 simp only [wpOpsS, ho, hw, if_true]
 unfold Oper.wp at h
 split
 · rename_i w' hr
   rw [hr] at h
   exact h.elim
 · exact h
theorem j2w {P : Program} {X : Xf} {K : Kf} (hX : XSnd P X) (hK : KSnd P K) {ops : Array Oper} {r : End × Heap} {k : Act → Heap → R} {kp : List PanicEntry → Act → Heap → R} {Q : Exit → Act → List Frame → World → Prop} {cs : List Frame} :
   ∀ (l : List Oper) (n : Nat) (_ : l = ops.toList.drop n) {a a' : Act} {m : Mp} {H : Heap} {w : World}, StR P m a H a' w → execOps P X K ops l a H k kp = some r →
   (∀ b' w', After P m H w (fun b H' => k b H' = some r) b' w' → Q .normal b' cs w') →
   (∀ c' b' w', AfterP P m H w c' (fun c b H' => kp c b H' = some r) b' w' → Q (.panic c') b' cs w') →
   wpOpsS P ops Q ((List.range ops.size).drop n) a' cs w := by
 intro l
 induction l with
 | nil =>
   intro n hl a a' m H w h he hn hp
   have hlen : ops.size ≤ n := by
     have := congrArg List.length hl
     simp at this; omega
   rw [List.drop_of_length_le (by simpa using hlen)]
   exact hn _ _ ⟨m, a, H, h, .refl h.rel, he⟩
 | cons o rest ih =>
   intro n hl a a' m H w h he hn hp
   have hlt : n < ops.size := by
     have := congrArg List.length hl
     simp at this; omega
   have hd : (List.range ops.size).drop n = n :: (List.range ops.size).drop (n + 1) := by
     rw [List.drop_eq_getElem_cons (by simpa using hlt)]
     simp
   have hl2 : ops.toList.drop n = ops[n] :: ops.toList.drop (n + 1) := by
     rw [List.drop_eq_getElem_cons (by simpa using hlt)]
     simp
   rw [hl2] at hl
   simp only [List.cons.injEq] at hl
   obtain ⟨rfl, hrest⟩ := hl
   rw [hd]
   simp only [execOps] at he
   obtain ⟨b, hb, hc⟩ := j0i h he
   rcases hc with ⟨hw, hr⟩ | ⟨hw, hr⟩
   · refine j7g (Array.getElem?_eq_getElem hlt) hw ?_
     refine jv2 hX hK hb hr (fun b2 w2 ha => ?_) (fun c2 b2 w2 ha => hp c2 b2 w2 ha)
     obtain ⟨m2, b3, H3, s1, s2, s3⟩ := ha
     exact ih (n + 1) hrest s1 s3 (fun b4 w4 ha4 => hn b4 w4 (ha4.mono s2 (fun _ _ x => x))) (fun c4 b4 w4 ha4 => hp c4 b4 w4 (ha4.mono s2 (fun _ _ _ x => x)))
   · simp only [wpOpsS, Array.getElem?_eq_getElem hlt]
     rw [if_neg (by simp [hw])]
     exact ih (n + 1) hrest (hb.put _ (.undef m)) hr hn hp
def DEnd (m : Mp) (H : Heap) (w : World) (kd : End → FrameMode → Heap → R) (r : End × Heap) (e : Ending) (u' : FrameMode) (w' : World) : Prop :=
 ∃ m1 en uu H1, EndR m1 en e ∧ ModeR m1 uu u' ∧ Step m H w m1 H1 w' ∧ kd en uu H1 = some r
theorem j28 {m : Mp} {l l' : List Deferred} (h : DRs m l l') (e : l = []) : l' = [] := by
 cases h with
 | nil => rfl
 | cons => cases e
theorem jy8 {P : Program} {fn : Func} {u : FrameMode} {kd : End → FrameMode → Heap → R} {r : End × Heap} {m : Mp} {H : Heap} {w : World} {m0 : Mp} {u' : FrameMode} (hu : ModeR m0 u u') (hle : m0.le m)
   {e : Exit} {a : Act} {w1 : World} (hq : OutQ P m H w (finD P fn u kd) r e a w1) :
   (match e with
     | .normal | .ret => a.defers = [] ∧ ∃ v, (results fn a.tmps).run P w1 = .ok v w1 ∧ DEnd m H w kd r (.returned v) u' w1
     | .panic c => a.defers = [] ∧ DEnd m H w kd r (.panicked c) u' w1
     | _ => False) := by
 have fin : ∀ (m1 : Mp) (a1 : Act) (H1 : Heap), StR P m1 a1 H1 a w1 → Step m H w m1 H1 w1 → finD P fn u kd .norm a1 H1 = some r → a.defers = [] ∧ ∃ v, (results fn a.tmps).run P w1 = .ok v w1 ∧ DEnd m H w kd r (.returned v) u' w1 := by
   intro m1 a1 H1 s1 s2 s3
   simp only [finD] at s3
   split at s3
   · rename_i hd
     split at s3
     · rename_i l hl
       obtain ⟨v', q1, q2⟩ := jv4 s1.rel s1.act.tmps hl
       exact ⟨j28 s1.act.defers hd, v', q1, m1, .ret (oneOf l), u, H1, q2, hu.mono (Mp.le_trans hle s2.later.1), s2, s3⟩
     · simp at s3
   · simp at s3
 cases e with
 | normal => obtain ⟨m1, a1, H1, s1, s2, s3⟩ := hq; exact fin m1 a1 H1 s1 s2 s3
 | ret => obtain ⟨m1, a1, H1, s1, s2, s3⟩ := hq; exact fin m1 a1 H1 s1 s2 s3
 | exit id => obtain ⟨m1, a1, H1, s1, s2, s3⟩ := hq; simp [finD] at s3
 | goto l => obtain ⟨m1, a1, H1, s1, s2, s3⟩ := hq; simp [finD] at s3
 | panic c' =>
   obtain ⟨m1, c1, a1, H1, s0, s1, s2, s3⟩ := hq
   simp only [finD] at s3
   split at s3
   · rename_i hd
     exact ⟨j28 s1.act.defers hd, m1, .pan c1, u, H1, s0, hu.mono (Mp.le_trans hle s2.later.1), s2, s3⟩
   · simp at s3
 | outgrown => exact hq.elim
theorem j9b {P : Program} {m : Mp} {H : Heap} {w : World} (hrel : Rel m H w) (hgl : Gl P m) (fn : Func) {args args' : Array Value} (ha : VRa m args args') : StR P m (act0 fn args) H (act0 fn args') w := by
 refine ⟨⟨?_, .nil⟩, hrel, hgl⟩
 simp only [act0, ← ha.1]
 exact ha.append (VRa.replicate _ (.undef m))
theorem yd9 {o : Oper} (h : isRec o = true) : o.guard = none ∧ ∀ (P : Program) (ρ : Operand → Value) (w : World), (execOp ρ o).run P w = .ok .recover w := by
 unfold isRec at h
 split at h
 · rename_i c hc
   split at h
   · rename_i hcl
     simp only [Bool.and_eq_true, Option.isNone_iff_eq_none] at h
     refine ⟨h.1, fun P ρ w => ?_⟩
     simp [execOp, hc, hcl, resolve, invoke, builtin]
   · simp at h
 · simp at h
theorem j7h {P : Program} {X : Xf} {K : Kf} {N : Nat} (hX : XSnd P X) (hK : KSnd P K) (hD : DSnd P X K) {g : FuncId} {fn : Func} {c : Code} (hf : P.funcs[g]? = some fn) (hb : fn.body = some c)
   {args args' : Array Value} {u u' : FrameMode} {m : Mp} {H : Heap} {w : World} (hrel : Rel m H w) (hgl : Gl P m) (ha : VRa m args args') (hu : ModeR m u u') {kd : End → FrameMode → Heap → R} {r : End × Heap}
   (he : bodyD P X K N fn c args u H kd = some r) : CallsD P g args' u' w (DEnd m H w kd r) := by
 have hst := j9b hrel hgl fn ha
 have plain : exec P X K N c none (act0 fn args) H (finD P fn u kd) = some r → CallsD P g args' u' w (DEnd m H w kd r) := by
   intro hp
   refine (callsD_of_wp hf hb (R := fun e w1 => DEnd m H w kd r e u' w1) (OutQ.wp_mono (jy5 hX hK hD r c none c rfl hst hp) ?_)).mono fun e u2 w1 ⟨h1, h2⟩ => h1 ▸ h2
   intro e a w1 hq
   have := jy8 hu (Mp.le_refl m) hq
   cases e <;> first | exact this | exact this.elim
 unfold bodyD at he
 split at he
 · rename_i id ops rest
   split at he
   · rename_i o os hos
     cases hr : isRec o with
     | false => rw [hr] at he; exact plain he
     | true =>
     rw [hr] at he
     simp only [cond_true] at he
     obtain ⟨hgu, hex⟩ := yd9 hr
     refine callsD_of_wpS hf hb fun c₀ cs hc₀ => ?_
     subst hc₀
     obtain ⟨v', u2, hv', hu2, hrec⟩ := yd8 cs hu
     have ho : ops[0]? = some o := by rw [← Array.getElem?_toList, hos]; rfl
     have hsz : 0 < ops.size := by rw [← Array.length_toList, hos]; simp
     have hdr : List.range ops.size = 0 :: (List.range ops.size).drop 1 := by
       have := List.drop_eq_getElem_cons (l := List.range ops.size) (i := 0) (by simpa using hsz)
       simpa using this
     have hw : Region.wanted o (yielded ops (act0 fn args').tmps) = true := by simp [Region.wanted, hgu]
     have hput := hst.put o.dst hv'
     have main : wpOpsS P ops (Exit.thenS (rest.wpS P (bodyPostS P fn c₀ cs (DEnd m H w kd r))) (bodyPostS P fn c₀ cs (DEnd m H w kd r))) ((List.range ops.size).drop 1) ((act0 fn args').put o.dst v') ({ c₀ with mode := u2 } :: cs) w := by
       refine j2w hX hK os 1 (by rw [hos]; rfl) hput he ?_ ?_
       · intro b1 w1 hA
         obtain ⟨m1, a1, H1, s1, s2, s3⟩ := hA
         show rest.wpS P _ b1 _ w1
         refine wpS_of_wp (OutQ.wp_mono (jy5 hX hK hD r rest none rest rfl s1 s3) ?_)
         intro e a w2 hq
         have := jy8 hu2 (Mp.le_refl m) (OutQ.of s2 hq)
         cases e with
         | normal => obtain ⟨hd, v, q1, q2⟩ := this; exact ⟨hd, u2, rfl, v, q1, q2⟩
         | ret => obtain ⟨hd, v, q1, q2⟩ := this; exact ⟨hd, u2, rfl, v, q1, q2⟩
         | panic c2 => obtain ⟨hd, q2⟩ := this; exact ⟨hd, u2, rfl, q2⟩
         | exit id => exact this.elim
         | goto l => exact this.elim
         | outgrown => exact this.elim
       · intro c' b1 w1 hA
         have hq : OutQ P m H w (finD P fn (recM u).2 kd) r (.panic c') b1 w1 := hA
         obtain ⟨hd, q2⟩ := jy8 hu2 (Mp.le_refl m) hq
         exact ⟨hd, u2, rfl, q2⟩
     refine wpS_seq (wpS_region ?_)
     rw [hdr]
     show wpOpsS P ops _ (0 :: (List.range ops.size).drop 1) (act0 fn args') (c₀ :: cs) w
     simp only [wpOpsS, ho, hw, if_true]
     rw [hex]
     simp only
     cases hrd : recoverD (c₀ :: cs) with
     | some x =>
       obtain ⟨v, cs'⟩ := x
       rw [hrd] at hrec
       simp only at hrec
       obtain ⟨rfl, rfl⟩ := hrec
       exact main
     | none =>
       rw [hrd] at hrec
       simp only at hrec
       obtain ⟨rfl, rfl⟩ := hrec
       exact main
   · exact plain he
 · exact plain he
def TmpsR (wk : Bool) (m : Mp) (ts ts' : Array Value) : Prop := ts.size = ts'.size ∧ ∀ (t : Nat) (h : t < ts.size) (h' : t < ts'.size), (wk = true ∧ isUndef ts[t] = true) ∨ VR m ts[t] ts'[t]
theorem TmpsR.mono {wk : Bool} {m m' : Mp} (hm : m.le m') {ts ts' : Array Value} (h : TmpsR wk m ts ts') : TmpsR wk m' ts ts' := ⟨h.1, fun t a b => (h.2 t a b).imp id fun x => x.mono hm⟩
theorem TmpsR.strong {m : Mp} {ts ts' : Array Value} (h : TmpsR false m ts ts') : VRa m ts ts' := ⟨h.1, fun t a b => (h.2 t a b).resolve_left fun x => by cases x.1⟩
theorem TmpsR.getD {wk : Bool} {m : Mp} {ts ts' : Array Value} (h : TmpsR wk m ts ts') (t : Nat) : isUndef (ts.getD t undef) = true ∨ VR m (ts.getD t undef) (ts'.getD t undef) := by
 by_cases c : t < ts.size
 · have c' : t < ts'.size := h.1 ▸ c
   simp only [Array.getD, c, c', dif_pos]
   exact (h.2 t c c').imp (fun x => x.2) id
 · simp only [Array.getD, c, dif_neg, not_false_eq_true]
   exact .inl rfl
theorem j1i {P : Program} {m : Mp} {H : Heap} {w : World} (h : Rel m H w) {ts ts' : Array Value} (hts : TmpsR true m ts ts') : ∀ (l : List ResultVar) (vs : List Value), resL P ts H l = some vs → vs.any isUndef = false →
   ∃ vs', (List.mapM (fun | .tmp t => Pure.pure (ts'.getD t undef) | .cell a t => (do loadVar t (← asAddr (ts'.getD a undef)) : Sem Value)) l : Sem (List Value)).run P w = .ok vs' w ∧ VRs m vs vs'
 | [], vs, he, _ => by simp only [resL, Option.some.injEq] at he; subst he; exact ⟨[], by simp, VRs.nil m⟩
 | .tmp t :: r, vs, he, hu => by
   simp only [resL] at he
   split at he
   · rename_i l hl
     simp only [Option.some.injEq] at he; subst he
     simp only [List.any_cons, Bool.or_eq_false_iff] at hu
     obtain ⟨vs', k1, k2⟩ := j1i h hts r l hl hu.2
     have hv := (hts.getD t).resolve_left (by rw [hu.1]; exact Bool.false_ne_true)
     exact ⟨ts'.getD t undef :: vs', by simp only [List.mapM_cons, Sem.run_bind, Sem.run_pure, Result.andThen_ok, k1], VRs.cons hv k2⟩
   · simp at he
 | .cell a t :: r, vs, he, hu => by
   simp only [resL] at he
   split at he
   · rename_i v H' hv
     split at he
     · rename_i l hl
       simp only [Option.some.injEq] at he; subst he
       simp only [List.any_cons, Bool.or_eq_false_iff] at hu
       obtain ⟨vs', k1, k2⟩ := j1i h hts r l hl hu.2
       have hp : ∃ b, ts.getD a undef = .pointer (some b) := by
         unfold loadA at hv
         split at hv
         · rename_i b hb; exact ⟨b, hb⟩
         · simp at hv
       obtain ⟨b, hb⟩ := hp
       have hx := (hts.getD a).resolve_left (by rw [hb]; exact Bool.false_ne_true)
       obtain ⟨v', q1, q2, q3⟩ := jy3 h hx hv
       rw [hb] at hx
       obtain ⟨L, _, _, e⟩ := hx.ptr_inv
       rw [e] at q1
       have q1' : (loadVar t ⟨L.c, L.base + b.off, none⟩).run P w = .ok v' w := by
         simpa [Instr.loadAt, Instr.sureAddr] using q1
       refine ⟨v' :: vs', ?_, VRs.cons q2 k2⟩
       have hA : (asAddr (ts'.getD a undef)).run P w = .ok ⟨L.c, L.base + b.off, none⟩ w := by rw [e]; rfl
       simp only [List.mapM_cons, Sem.run_bind, hA, Result.andThen_ok, q1', k1, Sem.run_pure]
     · simp at he
   · simp at he
theorem j5t {P : Program} {m : Mp} {H : Heap} {w : World} (h : Rel m H w) {fn : Func} {wk : Bool} {ts ts' : Array Value} (hts : TmpsR wk m ts ts') {vs : List Value} (he : resL P ts H fn.results.toList = some vs) (hu : (wk && vs.any isUndef) = false) :
   ∃ v', (results fn ts').run P w = .ok v' w ∧ VR m (oneOf vs) v' := by
 cases wk with
 | false => exact jv4 h hts.strong he
 | true =>
   rw [Bool.true_and] at hu
   obtain ⟨vs', k1, k2⟩ := j1i h hts fn.results.toList vs he hu
   refine ⟨_, ?_, j1h k2⟩
   unfold results
   have : (fn.results.mapM (fun | .tmp t => Pure.pure (ts'.getD t undef) | .cell a t => (do loadVar t (← asAddr (ts'.getD a undef)) : Sem Value)) : Sem (Array Value)).run P w = .ok vs'.toArray w := by
     rw [Array.mapM_eq_mapM_toList, Sem.run_map, k1]; rfl
   rw [Sem.run_bind]
   refine (congrArg (fun z => Result.andThen z _) this).trans ?_
   rfl
theorem j1j {P : Program} {X : Xf} {K : Kf} {N : Nat} (hX : XSnd P X) (hK : KSnd P K) (hD : DSnd P X K) {fn : Func} {wk : Bool} {m0 : Mp} {H0 : Heap} {w0 : World} {r : End × Heap} :
   ∀ (ds ds' : List Deferred) (u u' : FrameMode) {tmps tmps' : Array Value} {m : Mp} {H : Heap} {w : World}, Rel m H w → Gl P m → DRs m ds ds' → ModeR m u u' → TmpsR wk m tmps tmps' → Step m0 H0 w0 m H w → leave P X K N fn wk tmps ds u H = some r →
     Leaves P fn tmps' (fun e w' => ∃ m', EndR m' r.1 e ∧ Step m0 H0 w0 m' r.2 w') ds' u' w := by
 intro ds
 induction ds with
 | nil =>
   intro ds' u u' tmps tmps' m H w hrel hgl hds hu ht hs he
   cases hds
   cases hu with
   | returning =>
     simp only [leave] at he
     split at he
     · rename_i l hl
       cases hu : (wk && l.any isUndef) with
       | true => rw [hu] at he; cases he
       | false =>
         rw [hu] at he
         simp only [cond_false, Option.some.injEq] at he
         subst he
         obtain ⟨v', q1, q2⟩ := j5t hrel ht hl hu
         exact ⟨v', q1, m, q2, hs⟩
     · simp at he
   | panicking c c' h =>
     simp only [leave, Option.some.injEq] at he
     subst he
     exact ⟨m, h, hs⟩
 | cons d ds ih =>
   intro ds' u u' tmps tmps' m H w hrel hgl hds hu ht hs he
   cases hds with
   | cons hd htl =>
   rename_i d' l'
   obtain ⟨fv, cap, cap', e1, e2, hcap, hda⟩ := hd
   have hur : u' ≠ .run := by cases hu <;> simp
   have he' : ∃ g gn c, fv = .func g ∧ P.funcs[g]? = some gn ∧ (gn.name == "runtime.NumGoroutine") = false ∧ gn.body = some c ∧ bodyD P X K N gn c (d.args ++ cap) u H (fun e u' H' => match e with
         | .ret _ => match settleA u' with | some u2 => leave P X K N fn wk tmps ds u2 H' | none => none
         | .pan ch => leave P X K N fn wk tmps ds (raised u' ch) H') = some r := by
     have key : (match d.target with
         | .fn (.func g) cap => match P.funcs[g]? with
           | some gn => if gn.name == "runtime.NumGoroutine" then none else match gn.body with
             | some c => bodyD P X K N gn c (d.args ++ cap) u H (fun e u' H' => match e with
               | .ret _ => match settleA u' with | some u2 => leave P X K N fn wk tmps ds u2 H' | none => none
               | .pan ch => leave P X K N fn wk tmps ds (raised u' ch) H')
             | none => none
           | none => none
         | _ => none) = some r := by
       cases hu <;> (simp only [leave] at he; exact he)
     rw [e1] at key
     cases fv with
     | func g =>
       simp only at key
       split at key
       · rename_i gn hg
         split at key
         · simp at key
         · rename_i hn
           split at key
           · rename_i c hc
             exact ⟨g, gn, c, rfl, hg, by simpa using hn, hc, key⟩
           · simp at key
       · simp at key
     | _ => simp at key
   obtain ⟨g, gn, c, rfl, hg, hn, hc, hbd⟩ := he'
   have hbs := j7h hX hK hD hg hc hrel hgl (hda.append hcap) hu hbd
   obtain ⟨dt, da⟩ := d'
   simp only at e2 hda hbs
   subst e2
   refine ⟨hur, .func g, cap', g, da ++ cap', rfl, ?_, hbs.mono ?_⟩
   · have hn' : ¬ gn.name = "runtime.NumGoroutine" := by simpa using hn
     simp [invoke, callFunc, hg, hn', hc]
   · intro e u2 w1 hde
     obtain ⟨m1, en, uu, H1, q1, q2, q3, q4⟩ := hde
     have hle := q3.later.1
     cases en with
     | ret v =>
       simp only at q4
       cases e with
       | returned v' =>
         split at q4
         · rename_i u3 hu3
           exact ih l' u3 _ q3.rel (hgl.mono hle) (htl.mono hle) (q2.settle hu3) (ht.mono hle) (hs.trans q3) q4
         · simp at q4
       | panicked c => exact q1.elim
       | outgrown => exact q1.elim
     | pan ch =>
       simp only at q4
       cases e with
       | panicked c => exact ih l' _ _ q3.rel (hgl.mono hle) (htl.mono hle) (q2.raised q1) (ht.mono hle) (hs.trans q3) q4
       | returned v' => exact q1.elim
       | outgrown => exact q1.elim
theorem jt1 {P : Program} {X : Xf} {N : Nat} {hk : Hook} (hX : XSnd P X) (hH : HookSnd P hk) (hm : P.follows .mixedOrders = true) : ∀ d, KSnd P (callR P X N hk d)
 | 0 => fun f args H r H' he => by simp [callR] at he
 | d + 1 => by
   have hK := jt1 (X := X) (N := N) hX hH hm d
   intro f args H r H' he m w args' hrel hgl hargs
   simp only [callR] at he
   split at he
   · rename_i r' hr
     rw [he] at hr
     exact hH f args H r H' hr m w args' hrel hgl hargs
   · split at he
     · rename_i fn hf
       split at he
       · rename_i c hb
         have hD : DSnd P X (callR P X N hk d) := fun ops r k kp Q hd _ _ _ _ _ h he hQ hP id => yd7 hX hK hm hd h he hQ hP id
         refine calls_of_wp_defers hf hb (OutQ.wp_mono (jy5 hX hK hD (r, H') c none c rfl (j9b hrel hgl fn hargs) he) ?_)
         have fin : ∀ (a : Act) (m1 : Mp) (a1 : Act) (H1 : Heap) (w1 : World), StR P m1 a1 H1 a w1 → Step m H w m1 H1 w1 → leave P X (callR P X N hk d) N fn false a1.tmps a1.defers .returning H1 = some (r, H') →
             Leaves P fn a.tmps (fun e w' => ∃ m', EndR m' r e ∧ Step m H w m' H' w') a.defers .returning w1 :=
           fun a m1 a1 H1 w1 s1 s2 s3 => j1j hX hK hD _ _ _ _ s1.rel s1.gl s1.act.defers .returning ⟨s1.act.tmps.1, fun t a b => .inr (s1.act.tmps.2 t a b)⟩ s2 s3
         intro e a w1 hq
         cases e with
         | normal => obtain ⟨m1, a1, H1, s1, s2, s3⟩ := hq; exact fin a m1 a1 H1 w1 s1 s2 s3
         | ret => obtain ⟨m1, a1, H1, s1, s2, s3⟩ := hq; exact fin a m1 a1 H1 w1 s1 s2 s3
         | exit id => obtain ⟨m1, a1, H1, s1, s2, s3⟩ := hq; simp [finishR] at s3
         | goto l => obtain ⟨m1, a1, H1, s1, s2, s3⟩ := hq; simp [finishR] at s3
         | panic c' =>
           obtain ⟨m1, c1, a1, H1, s0, s1, s2, s3⟩ := hq
           exact j1j hX hK hD _ _ _ _ s1.rel s1.gl s1.act.defers (.panicking _ _ s0) ⟨s1.act.size, fun t a b => (s1.act.tmps t a b).imp (fun x => ⟨rfl, x⟩) id⟩ s2 s3
         | outgrown => exact hq.elim
       · simp at he
     · simp at he
def groundT : Value → Bool
 | .tuple vs => vs.toList.all atomic
 | v => ground v
theorem VR.of_groundT {m : Mp} {v : Value} (hg : groundT v = true) : VR m v v := by
 cases v with
 | tuple cs => exact .tuple _ _ rfl (fun i a _ => .atom _ (List.all_eq_true.1 hg _ (by simp)))
 | _ => exact .of_ground hg
def extX (P : Program) : Xf := fun f args H =>
 match P.funcs[f]? with
 | some fn =>
   if fn.name == "runtime.NumGoroutine" then none
   else if fn.body.isNone && args.toList.all atomic then
     match Extern.findNext fn with
     | some _ => none
     | none => match Extern.find fn with
       | some e => match pureRun P (e args) with | some v => if groundT v then some (v, H) else none | none => none
       | none => none
   else none
 | none => none
theorem VRs.eq_of_atomic {m : Mp} : ∀ {l l' : List Value}, VRs m l l' → l.all atomic = true → l' = l
 | [], [], _, _ => rfl
 | [], _ :: _, h, _ => by have := h.1; simp at this
 | _ :: _, [], h, _ => by have := h.1; simp at this
 | x :: r, y :: s, h, ha => by
   simp only [List.all_cons, Bool.and_eq_true] at ha
   rw [h.head.eq_of_atomic ha.1, VRs.eq_of_atomic h.tail ha.2]
theorem VRa.eq_of_atomic {m : Mp} {a a' : Array Value} (h : VRa m a a') (ha : a.toList.all atomic = true) : a' = a := by
 have := VRs.eq_of_atomic h.toList ha
 exact Array.toList_inj.mp this
theorem VRs.of_atomic (m : Mp) : ∀ {l : List Value}, l.all atomic = true → VRs m l l
 | [], _ => VRs.nil m
 | x :: r, ha => by
   simp only [List.all_cons, Bool.and_eq_true] at ha
   exact VRs.cons (.atom x ha.1) (VRs.of_atomic m ha.2)
theorem ye0 (P : Program) : XSnd P (extX P) := by
 intro f args H v H' he m w args' h hg ha
 unfold extX at he
 split at he
 · rename_i fn hf
   split at he
   · simp at he
   · rename_i hn
     split at he
     · rename_i hb
       simp only [Bool.and_eq_true] at hb
       split at he
       · simp at he
       · rename_i hfn
         split at he
         · rename_i e hfe
           split at he
           · rename_i v0 hv
             split at he
             · rename_i hgr
               simp only [Option.some.injEq, Prod.mk.injEq] at he
               obtain ⟨rfl, rfl⟩ := he
               have hargs := VRa.eq_of_atomic ha hb.2
               subst hargs
               refine ⟨m, v0, w, ?_, .of_groundT hgr, .refl h⟩
               have hr := js6 hv w
               have hn' : ¬ fn.name = "runtime.NumGoroutine" := by simpa using hn
               have hb' : fn.body = none := by simpa using hb.1
               simp [callFunc, hf, hn', hb', hfn, hfe, hr]
             · simp at he
           · simp at he
         · simp at he
     · simp at he
 · simp at he
def within (n : Nat) : Value → Bool
 | .pointer (some a) => decide (a.block < n)
 | .iface _ v => within n v
 | .agg xs => match xs.toList with | [.pointer (some a)] => decide (a.block < n) | _ => false
 | v => atomic v
theorem VR.within {m m' : Mp} {n : Nat} (hm : ∀ b L, b < n → m b = some L → m' b = some L) {v v' : Value} (h : VR m v v') (hw : within n v = true) : VR m' v v' := by
 induction h with
 | atom v h => exact .atom v h
 | ptr b off L h => exact .ptr b off L (hm b L (by simpa [Am.within] using hw) h)
 | slice b off L a' len cap cap' h => simp [Am.within, atomic] at hw
 | map b L h => simp [Am.within, atomic] at hw
 | func => simp [Am.within, atomic] at hw
 | iface t v v' _ ih => exact .iface t v v' (ih (by simpa [Am.within] using hw))
 | agg xs xs' hx kx ih =>
   unfold Am.within at hw
   split at hw
   · rename_i a he
     have hs : xs.size = 1 := by rw [← Array.length_toList, he]; rfl
     refine .agg xs xs' hx fun i a1 a2 => ih i a1 a2 ?_
     have : xs[i] = .pointer (some a) := by
       have h0 : i = 0 := by omega
       subst h0
       have e2 := congrArg (fun l => l[0]?) he
       have e3 : xs[0]? = some (.pointer (some a)) := by simpa using e2
       exact (Array.getElem?_eq_some_iff.mp e3).2
     rw [this]
     simpa [Am.within] using hw
   · simp at hw
 | tuple => simp [Am.within, atomic] at hw
structure Tabs (P : Program) (G : Heap) : Prop where
 ro : ∀ b x, G.get b = some x → x.rw = false ∧ x.o = none ∧ x.cells.all (within G.next) = true
 next : P.globals.size ≤ G.next
 fresh : ∀ b, G.next ≤ b → G.get b = none
structure Over (G H : Heap) : Prop where
 next : G.next ≤ H.next
 blk : ∀ b x, G.get b = some x → ∃ y, H.get b = some y ∧ y.cells = x.cells ∧ y.es = x.es ∧ y.o = none
def cut (G : Heap) (m : Mp) : Mp := fun b => if b < G.next then m b else none
theorem Tabs.rel {P : Program} {G H : Heap} (ht : Tabs P G) (ho : Over G H) {m : Mp} {w : World} (h : Rel m H w) : Rel (cut G m) G w := by
 have hlt : ∀ b x, G.get b = some x → b < G.next := fun b x hb => by
   rcases Nat.lt_or_ge b G.next with h1 | h1
   · exact h1
   · rw [ht.fresh b h1] at hb; simp at hb
 refine ⟨fun b x hb => ?_, fun b x hb hrw => ?_, fun b L hm => ?_, fun b hb => ⟨?_, ht.fresh b hb⟩⟩
 · obtain ⟨y, h1, h2, h3, h4⟩ := ho.blk b x hb
   obtain ⟨hro, hxo, hat⟩ := ht.ro b x hb
   obtain ⟨L, k1, k2⟩ := h.blk b y h1
   refine ⟨L, by simp [cut, hlt b x hb, k1], k2.es.trans h3, by have := k2.fits; rwa [h2] at this, fun _ => ?_, fun o ho => by simp [hxo] at ho⟩
   obtain ⟨cs, elem, fz, q1, q2, q3, q4⟩ := k2.ex h4
   refine ⟨cs, elem, fz, q1, q2, fun i a c => ?_, fun hr => by simp [hro] at hr⟩
   have a' : i < y.cells.length := by rw [h2]; exact a
   have q := q3 i a' c
   have e : y.cells[i] = x.cells[i] := by simp only [h2]
   rw [e] at q
   have hati : within G.next x.cells[i] = true := List.all_eq_true.mp hat _ (List.getElem_mem a)
   exact q.within (fun b L hb hm => by simp [cut, hb, hm]) hati
 · simp [(ht.ro b x hb).1] at hrw
 · unfold cut at hm
   split at hm
   · exact h.bound b L hm
   · simp at hm
 · simp [cut, Nat.not_lt.mpr hb]
theorem Tabs.owns {P : Program} {G : Heap} (ht : Tabs P G) (m : Mp) (c : Nat) : ¬ Owns m G c := fun ⟨b, x, _, hb, hrw, _⟩ => by simp [(ht.ro b x hb).1] at hrw
theorem Step.still {m : Mp} {H : Heap} {w w' : World} (h : Rel m H w) (ho : w'.os = w.os) (ht : w'.tape = w.tape) (hp : w'.output = w.output) (hs : w.heap.size ≤ w'.heap.size)
   (hb : ∀ c, c < w.heap.size → w'.heap[c]? = w.heap[c]?) : Step m H w m H w' := by
 refine ⟨⟨fun b x hx => ?_, h.apart, fun b L hm => Nat.lt_of_lt_of_le (h.bound b L hm) hs, h.fresh⟩, .refl .., ⟨ho, ht, hp, hs, fun c hc _ => hb c hc⟩⟩
 obtain ⟨L, h1, h2⟩ := h.blk b x hx
 exact ⟨L, h1, h2.mono (Mp.le_refl m) (hb _ (h.bound b L h1))⟩
theorem ye1 {P : Program} {K : Kf} (hK : KSnd P K) {G : Heap} (ht : Tabs P G) {f : FuncId} {args : Array Value} {v : Value} {Hs : Heap} (he : K f args G = some (.ret v, Hs))
   (ha : args.toList.all atomic = true) (hv : atomic v = true) {H : Heap} (ho : Over G H) {m : Mp} {w : World} {args' : Array Value} (h : Rel m H w) (hg : Gl P m) (hargs : VRa m args args') :
   Calls P f args' w fun e w' => ∃ m', EndR m' (.ret v) e ∧ Step m H w m' H w' := by
 have hrel := ht.rel ho h
 have hgl : Gl P (cut G m) := fun g hgs => by
   obtain ⟨L, a, b⟩ := hg g hgs
   exact ⟨L, by simp [cut, Nat.lt_of_lt_of_le hgs ht.next, a], b⟩
 have e := hargs.eq_of_atomic ha
 subst e
 refine (hK f args' G (.ret v) Hs he (cut G m) w args' hrel hgl (VRs.of_atomic _ ha).toArray).mono fun e w' ⟨m', h1, h2⟩ => ?_
 refine ⟨m, ?_, Step.still h h2.keep.os h2.keep.tape h2.keep.output h2.keep.size fun c hc => h2.keep.block c hc (ht.owns _ c)⟩
 cases e with
 | returned v' =>
   have := VR.eq_of_atomic (show VR m' v v' from h1) hv
   subst this
   exact VR.atom v' hv
 | panicked c => exact h1.elim
 | _ => exact h1.elim
def veqC : Value → Value → Bool
 | .iface t v, .iface u w => t == u && veq v w
 | a, b => veq a b
theorem y3h {a b : Value} (h : veqC a b = true) : a = b := by
 unfold veqC at h
 split at h
 · simp only [Bool.and_eq_true] at h; rw [eq_of_beq h.1, j88 h.2]
 · exact j88 h
def veqL : List Value → List Value → Bool
 | [], [] => true
 | a :: r, b :: s => veqC a b && veqL r s
 | _, _ => false
theorem yj5 : ∀ {a b : List Value}, veqL a b = true → a = b
 | [], [], _ => rfl
 | [], _ :: _, h => by simp [veqL] at h
 | _ :: _, [], h => by simp [veqL] at h
 | x :: r, y :: s, h => by
   simp only [veqL, Bool.and_eq_true] at h
   rw [y3h h.1, yj5 h.2]
def sameB (x y : Blk) : Bool := veqL y.cells x.cells && decide (y.es = x.es) && y.o.isNone
def overB (G : Heap) (gs : List Nat) (H : Heap) : Bool :=
 decide (G.next ≤ H.next) && gs.all fun g => match G.get g, H.get g with | some x, some y => sameB x y | _, _ => false
theorem ye2 {G H : Heap} {gs : List Nat} (hd : ∀ b x, G.get b = some x → b ∈ gs) (h : overB G gs H = true) : Over G H := by
 simp only [overB, Bool.and_eq_true, decide_eq_true_eq] at h
 refine ⟨h.1, fun b x hb => ?_⟩
 have := List.all_eq_true.mp h.2 b (hd b x hb)
 rw [hb] at this
 revert this
 cases hy : H.get b with
 | none => simp
 | some y =>
   simp only [sameB, Bool.and_eq_true, decide_eq_true_eq, Option.isNone_iff_eq_none]
   intro ⟨⟨a, b⟩, c⟩
   exact ⟨y, rfl, yj5 a, b, c⟩
end Go.Am
