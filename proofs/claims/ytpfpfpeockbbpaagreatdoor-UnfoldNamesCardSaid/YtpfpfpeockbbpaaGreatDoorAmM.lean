/- Regions that draw their order are sound. -/
import Derived.Test.YtpfpfpeockbbpaaGreatDoorAmL
namespace Go.Am

theorem looks_operand {ops : List Oper} {o : Oper} {t : Tmp} (h : Operand.tmp t ∈ o.op.operands.toList) : t ∈ looks ops o := by
  unfold looks
  rw [List.mem_append]
  left
  exact List.mem_filterMap.2 ⟨_, h, rfl⟩

theorem looks_guard {ops : Array Oper} {o : Oper} {j : Nat} {want : Bool} {d : Tmp} (hg : o.guard = some (j, want)) (hd : (ops[j]?).bind (·.dst) = some d) : d ∈ looks ops.toList o := by
  unfold looks
  rw [List.mem_append]
  right
  rw [hg]
  cases hj : ops[j]? with
  | none => rw [hj] at hd; simp at hd
  | some oj =>
    rw [hj] at hd
    simp only [Option.bind_some] at hd
    have : ops.toList[j]? = some oj := by simpa using hj
    simp [this, hd]

theorem draw_all {P : Program} {X : Xf} {K : Kf} (hX : XSnd P X) (hK : KSnd P K) {ops : Array Oper} {A : Nat → Act} {Hs : Nat → Heap} (hs : Sta P ops.toList) (ht : Tra P X K ops A Hs)
    {m0 : Mp} {w0 : World} {Q : Exit → Act → World → Prop} (hQ : ∀ m a' w', Rel m (Hs ops.toList.length) w' → Gl P m → ActR m (A ops.toList.length) a' → Step m0 (Hs 0) w0 m (Hs ops.toList.length) w' → Q .normal a' w') :
    ∀ (fuel : Nat) (L : Array Bool) (q : Nat) (m : Mp) (a' : Act) (w' : World), L.size = ops.size → Down ops.toList (fun i => L.getD i false) → (List.range ops.size).countP (fun i => !L.getD i false) ≤ fuel →
      Inv P ops A Hs m0 w0 (fun i => L.getD i false) q m a' w' → wpAny P .any ops Q fuel L a' w' := by
  have final : ∀ (L : Array Bool) (q : Nat) (m : Mp) (a' : Act) (w' : World), L.size = ops.size → Inv P ops A Hs m0 w0 (fun i => L.getD i false) q m a' w' → Region.ready .any ops L = [] → Q .normal a' w' := by
    intro L q m a' w' hsz hi hr
    have all : ∀ i, i < ops.size → L.getD i false = true := by
      intro i
      induction i using Nat.strongRecOn with
      | _ i ih =>
        intro hlt
        cases e : L.getD i false with
        | true => rfl
        | false =>
          have hmem : i ∈ Region.ready .any ops L := by
            rw [mem_ready]
            refine ⟨?_, ops[i], Array.getElem?_eq_getElem hlt, ?_⟩
            · have hlt2 : i < L.size := by omega
              simp only [Array.getD, hlt2, dif_pos] at e ⊢
              exact e
            · intro x hx hb
              have hlt3 := hs.edge i ops[i] (by simp) x hx hb
              exact ih x.on hlt3 (by omega)
          rw [hr] at hmem; simp at hmem
    have hlen : ops.toList.length = ops.size := by simp
    have hq : q = ops.toList.length := by
      rcases Nat.eq_or_lt_of_le hi.qle with e | e
      · exact e
      · have := (hi.qeff _ (List.getElem?_eq_getElem e)).2
        rw [all q (by omega)] at this; simp at this
    subst hq
    refine hQ m a' w' hi.rel hi.gl ⟨?_, ?_⟩ hi.step
    · have hsz2 := ht.size ops.toList.length (Nat.le_refl _)
      refine ⟨by rw [hsz2]; exact hi.size, fun t h1 h2 => ?_⟩
      by_cases hw : ∃ (j : Nat) (oj : Oper), ops.toList[j]? = some oj ∧ oj.dst = some t
      · obtain ⟨j, oj, hj, hjd⟩ := hw
        have hj2 := (List.getElem?_eq_some_iff.1 hj).1
        exact hi.done j oj t _ _ hj hjd (all j (by omega)) (Array.getElem?_eq_getElem h1) (Array.getElem?_eq_getElem h2)
      · have hsl := ht.slot t 0 ops.toList.length (by omega) (fun k ok _ _ c d => hw ⟨k, ok, c, d⟩)
        rw [Nat.zero_add] at hsl
        refine hi.kept t _ _ (fun j oj a _ c => hw ⟨j, oj, a, c⟩) ?_ (Array.getElem?_eq_getElem h2)
        rw [← hsl]; exact Array.getElem?_eq_getElem h1
    · rw [ht.defers _ (Nat.le_refl _)]; exact hi.defers
  intro fuel
  induction fuel with
  | zero =>
    intro L q m a' w' hsz hd hc hi
    have hr : Region.ready .any ops L = [] := by
      rw [List.eq_nil_iff_forall_not_mem]
      intro i hmem
      rw [mem_ready] at hmem
      obtain ⟨h0, o, ho, _⟩ := hmem
      have hlt := (Array.getElem?_eq_some_iff.1 ho).1
      have : 0 < (List.range ops.size).countP (fun i => !L.getD i false) := by
        rw [List.countP_pos_iff]
        refine ⟨i, List.mem_range.2 hlt, ?_⟩
        have hlt2 : i < L.size := by omega
        have hL' : L.getD i false = false := by
          simp only [Array.getD, hlt2, dif_pos] at h0 ⊢
          exact h0
        simp only [hL']; rfl
      omega
    exact ⟨hr, final L q m a' w' hsz hi hr⟩
  | succ fuel ih =>
    intro L q m a' w' hsz hd hc hi
    refine ⟨final L q m a' w' hsz hi, fun i hmem => ?_⟩
    rw [mem_ready] at hmem
    obtain ⟨h0, o, ho, hp⟩ := hmem
    have hlt := (Array.getElem?_eq_some_iff.1 ho).1
    have hlt2 : i < L.size := by omega
    have hL : L.getD i false = false := by
      simp only [Array.getD, hlt2, dif_pos] at h0 ⊢; exact h0
    have ho' : ops.toList[i]? = some o := by simpa using ho
    have hset : ∀ j, (L.setIfInBounds i true).getD j false = if j = i then true else L.getD j false := by
      intro j
      by_cases e : j = i
      · subst e; simp [hlt2]
      · have : i ≠ j := Ne.symm e
        rw [getD_set_ne false this]; simp [e]
    have hfun : (fun j => (L.setIfInBounds i true).getD j false) = fun j => if j = i then true else L.getD j false := funext hset
    have hd2 : Down ops.toList (fun j => (L.setIfInBounds i true).getD j false) := by
      intro j oj hj hLj e he hb
      simp only [hset] at hLj ⊢
      by_cases ej : j = i
      · subst ej
        rw [ho'] at hj; simp only [Option.some.injEq] at hj; subst hj
        have := hp e he hb
        by_cases ee : e.on = j <;> simp [ee, this]
      · simp only [ej, if_false] at hLj
        have := hd j oj hj hLj e he hb
        by_cases ee : e.on = i <;> simp [ee, this]
    have hc2 : (List.range ops.size).countP (fun j => !(L.setIfInBounds i true).getD j false) ≤ fuel := by
      have := count_lt (p := fun j => !L.getD j false) (q := fun j => !(L.setIfInBounds i true).getD j false) (List.range ops.size)
        (fun x _ hx => by
          simp only [hset] at hx
          by_cases e : x = i
          · simp [e] at hx
          · simpa [e] using hx) ⟨i, List.mem_range.2 hlt, by simp [hL], by simp [hset]⟩
      omega
    have sees := fun (t : Nat) (hl : t ∈ looks ops.toList o) (v v' : Value) => hi.sees hs ht hd ho' hp hL hl (v := v) (v' := v')
    have hszA : (A i).tmps.size = a'.tmps.size := by rw [ht.size i (by simp; omega)]; exact hi.size
    have hguard : ∀ b, guardB ops o (A i) = some b → Region.wanted o (yielded ops a'.tmps) = b := fun b hb =>
      guardB_sees hszA hb (fun j want d hg hdd v v' => sees d (looks_guard hg hdd) v v')
    unfold wpOp
    simp only [ho]
    have goOn : ∀ (m2 : Mp) (q2 : Nat) (v v' : Value) (w2 : World), A (i + 1) = (A i).put o.dst v → Step m (Hs q) w' m2 (Hs q2) w2 → VR m2 v v' → q2 ≤ ops.toList.length →
        (∀ oq, ops.toList[q2]? = some oq → cls P oq = 2 ∧ L.getD q2 false = false ∧ q2 ≠ i) → (∀ (j : Nat) (oj : Oper), j < q2 → ops.toList[j]? = some oj → cls P oj = 2 → L.getD j false = true ∨ j = i) →
        wpAny P .any ops Q fuel (L.setIfInBounds i true) (a'.put o.dst v') w2 := by
      intro m2 q2 v v' w2 hA hst hv k1 k2 k3
      refine ih (L.setIfInBounds i true) q2 m2 _ w2 (by simpa using hsz) hd2 hc2 ?_
      rw [hfun]
      exact hi.put hs ht ho' hL hA hst hv k1 k2 k3
    have same : cls P o < 2 ∨ Hs (i + 1) = Hs i → ∀ (v v' : Value) (m2 : Mp) (w2 : World), A (i + 1) = (A i).put o.dst v → Step m (Hs q) w' m2 (Hs q) w2 → VR m2 v v' → (cls P o = 2 → False) → wpAny P .any ops Q fuel (L.setIfInBounds i true) (a'.put o.dst v') w2 := by
      intro _ v v' m2 w2 hA hst hv hne
      refine goOn m2 q v v' w2 hA hst hv hi.qle (fun oq hq => ?_) (fun j oj h1 h2 h3 => .inl (hi.qlow j oj h1 h2 h3))
      obtain ⟨a1, a2⟩ := hi.qeff oq hq
      refine ⟨a1, a2, fun e => ?_⟩
      subst e
      rw [ho'] at hq; simp only [Option.some.injEq] at hq; subst hq
      exact hne a1
    -- behind an effect: the next one
    have nextq : cls P o = 2 → i = q ∧ ∃ q2, q2 ≤ ops.toList.length ∧ Hs q2 = Hs (i + 1) ∧ (∀ oq, ops.toList[q2]? = some oq → cls P oq = 2 ∧ L.getD q2 false = false ∧ q2 ≠ i) ∧
        (∀ (j : Nat) (oj : Oper), j < q2 → ops.toList[j]? = some oj → cls P oj = 2 → L.getD j false = true ∨ j = i) := by
      intro hc
      have hiq := hi.next hs hd ho' hp hL hc
      refine ⟨hiq, ?_⟩
      have hlen : ops.toList.length = ops.size := by simp
      obtain ⟨q2, n1, n2, n3, n4⟩ := next_eff P ops.toList (ops.toList.length - (i + 1)) (i + 1) (by omega)
      refine ⟨q2, n2, ?_, ?_, ?_⟩
      · have := ht.heap (i + 1) (q2 - (i + 1)) (by omega) (fun j oj a b c => n3 j oj a (by omega) c)
        rw [show i + 1 + (q2 - (i + 1)) = q2 by omega] at this
        exact this
      · intro oq hq
        refine ⟨n4 oq hq, ?_, by omega⟩
        cases e : L.getD q2 false with
        | false => rfl
        | true =>
          have hb := hs.eff i q2 o oq ho' hq (by omega) hc (n4 oq hq)
          have this : L.getD i false = true := down_bit hs hd q2 oq i hq (fun x hx hbx => hd q2 oq hq e x hx hbx) hb
          rw [this] at hL; simp at hL
      · intro j oj h1 h2 h3
        rcases Nat.lt_trichotomy j i with e | e | e
        · exact .inl (hi.qlow j oj (by omega) h2 h3)
        · exact .inr e
        · exact absurd h3 (n3 j oj (by omega) h1 h2)
    rcases ht.step i o ho' with ⟨hg, hok, v, hy, hA⟩ | ⟨hg, hA, hH⟩
    · rw [if_pos (hguard true hg)]
      left
      have hρ : ∀ x ∈ o.op.operands.toList, VR m ((A i).eval x) (a'.eval x) := by
        intro x hx
        refine eval_sees hi.gl hszA (List.all_eq_true.1 hok x hx) (fun t e v v' => sees t ?_ v v')
        subst e
        exact looks_operand hx
      unfold Oper.wp
      by_cases hc : cls P o = 2
      · obtain ⟨hiq, q2, k1, k2, k3, k4⟩ := nextq hc
        subst hiq
        refine opK_sound hX hK hi.rel hi.gl hρ (k := fun v H' => some (.ret v, H')) (kp := fun _ _ => none) (r := (.ret v, Hs (i + 1))) ⟨?_, ?_⟩ (hy _ _)
        · intro m2 u u' H2 w2 hv hst hk
          simp only [Option.some.injEq, Prod.mk.injEq, End.ret.injEq] at hk
          obtain ⟨rfl, rfl⟩ := hk
          exact goOn m2 q2 u u' w2 hA (by rw [k2]; exact hst) hv k1 k3 k4
        · intro m2 c c' H2 w2 hv hst hk
          simp at hk
      · have hc2' : cls P o < 2 := by have := cls_le P o; omega
        have hyq := hi.quiet hs ht hd ho' hp hL hg hc2' hy hA
        refine opK_sound hX hK hi.rel hi.gl hρ (k := fun v H' => some (.ret v, H')) (kp := fun _ _ => none) (r := (.ret v, Hs q)) ⟨?_, ?_⟩ (hyq _ _)
        · intro m2 u u' H2 w2 hv hst hk
          simp only [Option.some.injEq, Prod.mk.injEq, End.ret.injEq] at hk
          obtain ⟨rfl, rfl⟩ := hk
          exact same (.inl hc2') u u' m2 w2 hA hst hv hc
        · intro m2 c c' H2 w2 hv hst hk
          simp at hk
    · rw [if_neg (by rw [hguard false hg]; simp)]
      by_cases hc : cls P o = 2
      · obtain ⟨hiq, q2, k1, k2, k3, k4⟩ := nextq hc
        subst hiq
        exact goOn m q2 undef undef w' hA (by rw [k2, hH]; exact .refl hi.rel) (.undef m) k1 k3 k4
      · exact same (.inr hH) undef undef m w' hA (.refl hi.rel) (.undef m) hc


/-! Regions that end in a panic. -/
theorem masks_take : ∀ (l : List Oper) (p : Nat) (acc : List Nat), masks (l.take p) acc = (masks l acc).take (acc.length + p)
  | [], p, acc => by
    rw [List.take_nil, masks, List.take_of_length_le (by omega)]
  | o :: r, 0, acc => by
    obtain ⟨t, ht⟩ := masks_acc (o :: r) acc
    rw [ht, List.take_zero, masks]
    simp
  | o :: r, p + 1, acc => by
    simp only [List.take_succ_cons, masks]
    rw [masks_take r p]
    congr 1
    simp; omega
theorem mask_pre (l : List Oper) {p i : Nat} (h : i < p) : (masks (l.take p) []).getD i 0 = (masks l []).getD i 0 := by
  rw [masks_take]
  simp [List.getD, h]
theorem take_get {l : List Oper} {p i : Nat} {o : Oper} (h : (l.take p)[i]? = some o) : i < p ∧ l[i]? = some o := by
  rw [List.getElem?_take] at h
  by_cases c : i < p
  · rw [if_pos c] at h; exact ⟨c, h⟩
  · rw [if_neg c] at h; cases h
theorem looks_take {l : List Oper} {p : Nat} {o : Oper} {t : Tmp} (h : t ∈ looks (l.take p) o) : t ∈ looks l o := by
  unfold looks at h ⊢
  rw [List.mem_append] at h ⊢
  rcases h with h | h
  · exact .inl h
  · right
    cases hgd : o.guard with
    | none => rw [hgd] at h; simp at h
    | some x =>
      obtain ⟨j, w⟩ := x
      rw [hgd] at h
      simp only at h ⊢
      cases hj : (l.take p)[j]? with
      | none => rw [hj] at h; simp at h
      | some oj =>
        rw [hj] at h
        rw [(take_get hj).2]
        exact h
theorem Sta.take {P : Program} {l : List Oper} (h : Sta P l) (p : Nat) : Sta P (l.take p) := by
  refine ⟨fun o ho => h.nd o (List.mem_of_mem_take ho), fun i o ho e he hb => h.edge i o (take_get ho).2 e he hb, fun i o ho => ?_, fun i j oi oj d h1 h2 d1 d2 => h.dst i j oi oj d (take_get h1).2 (take_get h2).2 d1 d2, fun i j oi oj d h1 h2 d2 hl => ?_, fun i j oi oj h1 h2 hlt c1 c2 => ?_⟩
  · rw [mask_pre l (take_get ho).1]; exact h.lt i o (take_get ho).2
  · rw [mask_pre l (take_get h1).1, mask_pre l (take_get h2).1]; exact h.look i j oi oj d (take_get h1).2 (take_get h2).2 d2 (looks_take hl)
  · rw [mask_pre l (take_get h2).1]; exact h.eff i j oi oj (take_get h1).2 (take_get h2).2 hlt c1 c2

/-- The same guard, looked at in the first part of a region. -/
theorem guardB_take {ops : Array Oper} {p : Nat} {o : Oper} {a : Act} (h : ∀ j w, o.guard = some (j, w) → j < p) : guardB (ops.toList.take p).toArray o a = guardB ops o a := by
  unfold guardB
  cases hg : o.guard with
  | none => rfl
  | some x =>
    obtain ⟨j, w⟩ := x
    simp only
    have e : (ops.toList.take p).toArray[j]? = ops[j]? := by simp [h j w hg]
    rw [e]

section pan
variable {P : Program} {X : Xf} {K : Kf} {ops : Array Oper} {A : Nat → Act} {Hs : Nat → Heap} {p : Nat} {op : Oper}

theorem draw_pan (hX : XSnd P X) (hK : KSnd P K) (hop : ops.toList[p]? = some op) (hs : Sta P ops.toList) (ht : Tra P X K (ops.toList.take p).toArray A Hs) (hcl : cls P op = 2) (hlater : ∀ j, p < j → j < ops.size → ((masks ops.toList []).getD j 0).testBit p = true)
    (hgd : ∀ (i : Nat) (o : Oper), ops.toList[i]? = some o → ∀ (j : Nat) (w : Bool), o.guard = some (j, w) → j < i) {c : List PanicEntry} {H' : Heap} (hpn : Pn P X K (A p).eval op (Hs p) c H') (hg : guardB ops op (A p) = some true) (hok : opOk P op = true)
    {m0 : Mp} {w0 : World} {Q : Exit → Act → World → Prop} (hQ : ∀ m c' a' w' q m1 w1 (L : Nat → Bool), Inv P (ops.toList.take p).toArray A Hs m0 w0 L q m1 a' w1 → PanR m c c' → Step m1 (Hs p) w1 m H' w' → Step m0 (Hs 0) w0 m H' w' → (∀ j, p ≤ j → L j = false) → Q (.panic c') a' w') :
    ∀ (fuel : Nat) (L : Array Bool) (q : Nat) (m : Mp) (a' : Act) (w' : World), L.size = ops.size → (∀ j, p ≤ j → L.getD j false = false) → Down ops.toList (fun i => L.getD i false) → (List.range ops.size).countP (fun i => !L.getD i false) ≤ fuel →
      Inv P (ops.toList.take p).toArray A Hs m0 w0 (fun i => L.getD i false) q m a' w' → wpAny P .any ops Q fuel L a' w' := by
  have hpl := (List.getElem?_eq_some_iff.1 hop).1
  have hpl' : p < ops.size := by simpa using hpl
  have hlenP : (ops.toList.take p).length = p := by simp; omega
  have hsP := hs.take p
  have hsP' : Sta P (ops.toList.take p).toArray.toList := hsP
  have notall : ∀ (L : Array Bool), L.size = ops.size → (∀ j, p ≤ j → L.getD j false = false) → Region.ready .any ops L ≠ [] := by
    intro L hsz hlow hr
    have all : ∀ i, i < ops.size → L.getD i false = true := by
      intro i
      induction i using Nat.strongRecOn with
      | _ i ih =>
        intro hlt
        cases e : L.getD i false with
        | true => rfl
        | false =>
          have hmem : i ∈ Region.ready .any ops L := by
            rw [mem_ready]
            refine ⟨?_, ops[i], Array.getElem?_eq_getElem hlt, ?_⟩
            · have hlt2 : i < L.size := by omega
              simp only [Array.getD, hlt2, dif_pos] at e ⊢
              exact e
            · intro x hx hb
              have hlt3 := hs.edge i ops[i] (by simp) x hx hb
              exact ih x.on hlt3 (by omega)
          rw [hr] at hmem; simp at hmem
    have := all p hpl'
    rw [hlow p (Nat.le_refl _)] at this
    cases this
  intro fuel
  induction fuel with
  | zero =>
    intro L q m a' w' hsz hlow hd hc hi
    exfalso
    have : 0 < (List.range ops.size).countP (fun i => !L.getD i false) := by
      rw [List.countP_pos_iff]
      exact ⟨p, List.mem_range.2 hpl', by rw [hlow p (Nat.le_refl _)]; rfl⟩
    omega
  | succ fuel ih =>
    intro L q m a' w' hsz hlow hd hc hi
    refine ⟨fun hr => absurd hr (notall L hsz hlow), fun i hmem => ?_⟩
    rw [mem_ready] at hmem
    obtain ⟨h0, o, ho, hp⟩ := hmem
    have hlt := (Array.getElem?_eq_some_iff.1 ho).1
    have hlt2 : i < L.size := by omega
    have hL : L.getD i false = false := by
      simp only [Array.getD, hlt2, dif_pos] at h0 ⊢; exact h0
    have ho' : ops.toList[i]? = some o := by simpa using ho
    have hip : i ≤ p := by
      rcases Nat.lt_or_ge p i with h | h
      · have := down_bit hs hd i o p ho' hp (hlater i h hlt)
        simp only [hlow p (Nat.le_refl _)] at this
        cases this
      · exact h
    have hdP : Down (ops.toList.take p).toArray.toList (fun i => L.getD i false) := fun k ok hk hLk e he hb => hd k ok (take_get hk).2 hLk e he hb
    unfold wpOp
    simp only [ho]
    rcases Nat.lt_or_ge i p with hi_p | hi_p
    · -- an operation ahead of the one that panics
      have hoP : (ops.toList.take p).toArray.toList[i]? = some o := by
        show (ops.toList.take p)[i]? = some o
        rw [List.getElem?_take, if_pos hi_p]; exact ho'
      have hset : ∀ j, (L.setIfInBounds i true).getD j false = if j = i then true else L.getD j false := by
        intro j
        by_cases e : j = i
        · subst e; simp [hlt2]
        · have : i ≠ j := Ne.symm e
          rw [getD_set_ne false this]; simp [e]
      have hfun : (fun j => (L.setIfInBounds i true).getD j false) = fun j => if j = i then true else L.getD j false := funext hset
      have hlow2 : ∀ j, p ≤ j → (L.setIfInBounds i true).getD j false = false := fun j hj => by
        rw [hset j, if_neg (by omega)]; exact hlow j hj
      have hd2 : Down ops.toList (fun j => (L.setIfInBounds i true).getD j false) := by
        intro j oj hj hLj e he hb
        simp only [hset] at hLj ⊢
        by_cases ej : j = i
        · subst ej
          rw [ho'] at hj; simp only [Option.some.injEq] at hj; subst hj
          have := hp e he hb
          by_cases ee : e.on = j <;> simp [ee, this]
        · simp only [ej, if_false] at hLj
          have := hd j oj hj hLj e he hb
          by_cases ee : e.on = i <;> simp [ee, this]
      have hc2 : (List.range ops.size).countP (fun j => !(L.setIfInBounds i true).getD j false) ≤ fuel := by
        have := count_lt (p := fun j => !L.getD j false) (q := fun j => !(L.setIfInBounds i true).getD j false) (List.range ops.size)
          (fun x _ hx => by
            simp only [hset] at hx
            by_cases e : x = i
            · simp [e] at hx
            · simpa [e] using hx) ⟨i, List.mem_range.2 hlt, by simp [hL], by simp [hset]⟩
        omega
      have sees := fun (t : Nat) (hl : t ∈ looks (ops.toList.take p).toArray.toList o) (v v' : Value) => hi.sees hsP' ht hdP hoP hp hL hl (v := v) (v' := v')
      have hszA : (A i).tmps.size = a'.tmps.size := by rw [ht.size i (by show i ≤ (ops.toList.take p).length; omega)]; exact hi.size
      have hgo : ∀ j w, o.guard = some (j, w) → j < p := fun j w h => Nat.lt_trans (hgd i o ho' j w h) hi_p
      have hguard : ∀ b, guardB (ops.toList.take p).toArray o (A i) = some b → Region.wanted o (yielded ops a'.tmps) = b := fun b hb => by
        rw [guardB_take hgo] at hb
        refine guardB_sees hszA hb (fun j want d hg hdd v v' => sees d (looks_guard (ops := (ops.toList.take p).toArray) hg ?_) v v')
        have e : (ops.toList.take p).toArray[j]? = ops[j]? := by simp [hgo j want hg]
        rw [e]; exact hdd
      have goOn : ∀ (m2 : Mp) (q2 : Nat) (v v' : Value) (w2 : World), A (i + 1) = (A i).put o.dst v → Step m (Hs q) w' m2 (Hs q2) w2 → VR m2 v v' → q2 ≤ (ops.toList.take p).toArray.toList.length →
          (∀ oq, (ops.toList.take p).toArray.toList[q2]? = some oq → cls P oq = 2 ∧ L.getD q2 false = false ∧ q2 ≠ i) → (∀ (j : Nat) (oj : Oper), j < q2 → (ops.toList.take p).toArray.toList[j]? = some oj → cls P oj = 2 → L.getD j false = true ∨ j = i) →
          wpAny P .any ops Q fuel (L.setIfInBounds i true) (a'.put o.dst v') w2 := by
        intro m2 q2 v v' w2 hA hst hv k1 k2 k3
        refine ih (L.setIfInBounds i true) q2 m2 _ w2 (by simpa using hsz) hlow2 hd2 hc2 ?_
        rw [hfun]
        exact hi.put hsP' ht hoP hL hA hst hv k1 k2 k3
      have same : cls P o < 2 ∨ Hs (i + 1) = Hs i → ∀ (v v' : Value) (m2 : Mp) (w2 : World), A (i + 1) = (A i).put o.dst v → Step m (Hs q) w' m2 (Hs q) w2 → VR m2 v v' → (cls P o = 2 → False) → wpAny P .any ops Q fuel (L.setIfInBounds i true) (a'.put o.dst v') w2 := by
        intro _ v v' m2 w2 hA hst hv hne
        refine goOn m2 q v v' w2 hA hst hv hi.qle (fun oq hq => ?_) (fun j oj h1 h2 h3 => .inl (hi.qlow j oj h1 h2 h3))
        obtain ⟨a1, a2⟩ := hi.qeff oq hq
        refine ⟨a1, a2, fun e => ?_⟩
        subst e
        rw [hoP] at hq; simp only [Option.some.injEq] at hq; subst hq
        exact hne a1
      have nextq : cls P o = 2 → i = q ∧ ∃ q2, q2 ≤ (ops.toList.take p).toArray.toList.length ∧ Hs q2 = Hs (i + 1) ∧ (∀ oq, (ops.toList.take p).toArray.toList[q2]? = some oq → cls P oq = 2 ∧ L.getD q2 false = false ∧ q2 ≠ i) ∧
          (∀ (j : Nat) (oj : Oper), j < q2 → (ops.toList.take p).toArray.toList[j]? = some oj → cls P oj = 2 → L.getD j false = true ∨ j = i) := by
        intro hc
        have hiq := hi.next hsP' hdP hoP hp hL hc
        refine ⟨hiq, ?_⟩
        have hlen : (ops.toList.take p).toArray.toList.length = p := hlenP
        obtain ⟨q2, n1, n2, n3, n4⟩ := next_eff P (ops.toList.take p).toArray.toList (p - (i + 1)) (i + 1) (by omega)
        refine ⟨q2, n2, ?_, ?_, ?_⟩
        · have := ht.heap (i + 1) (q2 - (i + 1)) (by omega) (fun j oj a b c => n3 j oj a (by omega) c)
          rw [show i + 1 + (q2 - (i + 1)) = q2 by omega] at this
          exact this
        · intro oq hq
          refine ⟨n4 oq hq, ?_, by omega⟩
          cases e : L.getD q2 false with
          | false => rfl
          | true =>
            have hb := hsP'.eff i q2 o oq hoP hq (by omega) hc (n4 oq hq)
            have this : L.getD i false = true := down_bit hsP' hdP q2 oq i hq (fun x hx hbx => hdP q2 oq hq e x hx hbx) hb
            rw [this] at hL; simp at hL
        · intro j oj h1 h2 h3
          rcases Nat.lt_trichotomy j i with e | e | e
          · exact .inl (hi.qlow j oj (by omega) h2 h3)
          · exact .inr e
          · exact absurd h3 (n3 j oj (by omega) h1 h2)
      rcases ht.step i o hoP with ⟨hg, hok, v, hy, hA⟩ | ⟨hg, hA, hH⟩
      · rw [if_pos (hguard true hg)]
        left
        have hρ : ∀ x ∈ o.op.operands.toList, VR m ((A i).eval x) (a'.eval x) := by
          intro x hx
          refine eval_sees hi.gl hszA (List.all_eq_true.1 hok x hx) (fun t e v v' => sees t ?_ v v')
          subst e
          exact looks_operand hx
        unfold Oper.wp
        by_cases hc : cls P o = 2
        · obtain ⟨hiq, q2, k1, k2, k3, k4⟩ := nextq hc
          subst hiq
          refine opK_sound hX hK hi.rel hi.gl hρ (k := fun v H' => some (.ret v, H')) (kp := fun _ _ => none) (r := (.ret v, Hs (i + 1))) ⟨?_, ?_⟩ (hy _ _)
          · intro m2 u u' H2 w2 hv hst hk
            simp only [Option.some.injEq, Prod.mk.injEq, End.ret.injEq] at hk
            obtain ⟨rfl, rfl⟩ := hk
            exact goOn m2 q2 u u' w2 hA (by rw [k2]; exact hst) hv k1 k3 k4
          · intro m2 c c' H2 w2 hv hst hk
            simp at hk
        · have hc2' : cls P o < 2 := by have := cls_le P o; omega
          have hyq := hi.quiet hsP' ht hdP hoP hp hL hg hc2' hy hA
          refine opK_sound hX hK hi.rel hi.gl hρ (k := fun v H' => some (.ret v, H')) (kp := fun _ _ => none) (r := (.ret v, Hs q)) ⟨?_, ?_⟩ (hyq _ _)
          · intro m2 u u' H2 w2 hv hst hk
            simp only [Option.some.injEq, Prod.mk.injEq, End.ret.injEq] at hk
            obtain ⟨rfl, rfl⟩ := hk
            exact same (.inl hc2') u u' m2 w2 hA hst hv hc
          · intro m2 c c' H2 w2 hv hst hk
            simp at hk
      · rw [if_neg (by rw [hguard false hg]; simp)]
        by_cases hc : cls P o = 2
        · obtain ⟨hiq, q2, k1, k2, k3, k4⟩ := nextq hc
          subst hiq
          exact goOn m q2 undef undef w' hA (by rw [k2, hH]; exact .refl hi.rel) (.undef m) k1 k3 k4
        · exact same (.inr hH) undef undef m w' hA (.refl hi.rel) (.undef m) hc
    · -- the one that panics
      have e : i = p := by omega
      subst e
      rw [hop] at ho'
      obtain rfl := Option.some.inj ho'
      have hszA : (A i).tmps.size = a'.tmps.size := by rw [ht.size i (by show i ≤ (ops.toList.take i).length; omega)]; exact hi.size
      have hlenA : (ops.toList.take i).toArray.toList.length = i := hlenP
      have sees : ∀ (t : Nat), t ∈ looks ops.toList op → ∀ v v', (A i).tmps[t]? = some v → a'.tmps[t]? = some v' → VR m v v' := fun t hl v v' hv hv' => by
        by_cases hw : ∃ (j : Nat) (oj : Oper), (ops.toList.take i).toArray.toList[j]? = some oj ∧ oj.dst = some t
        · obtain ⟨j, oj, hj, hjd⟩ := hw
          obtain ⟨hji, hj'⟩ := take_get (l := ops.toList) hj
          obtain ⟨_, hb⟩ := hs.look i j op oj t hop hj' hjd hl
          rcases hb with hb | hb
          · have hLj := down_bit hs hd i op j hop hp hb
            exact hi.done j oj t v v' hj hjd hLj (by rw [hlenA]; exact hv) hv'
          · have := sta_bit_lt hs hj' hb; omega
        · refine hi.kept t v v' (fun k ok a _ c => hw ⟨k, ok, a, c⟩) ?_ hv'
          have := ht.slot t 0 i (by rw [hlenA]; omega) (fun k ok a b c d => hw ⟨k, ok, c, d⟩)
          rw [Nat.zero_add] at this
          rw [← this, hv]
      have hwant : Region.wanted op (yielded ops a'.tmps) = true := guardB_sees hszA hg (fun j want d hg hdd v v' => sees d (looks_guard hg hdd) v v')
      rw [if_pos hwant]
      left
      have hq : q = i := by
        rcases Nat.lt_or_ge q i with h | h
        · have hq2 : q < (ops.toList.take i).toArray.toList.length := by rw [hlenA]; exact h
          have hq3 := List.getElem?_eq_getElem hq2
          obtain ⟨c2, Lq⟩ := hi.qeff _ hq3
          have hb := hs.eff q i _ op (take_get (l := ops.toList) hq3).2 hop h c2 hcl
          have := down_bit hs hd i op q hop hp hb
          simp only [Lq] at this
          cases this
        · have := hi.qle; rw [hlenA] at this; omega
      subst hq
      have hρ : ∀ x ∈ op.op.operands.toList, VR m ((A q).eval x) (a'.eval x) := by
        intro x hx
        refine eval_sees hi.gl hszA (List.all_eq_true.1 hok x hx) (fun t e v v' => sees t ?_ v v')
        subst e
        exact looks_operand hx
      unfold Oper.wp
      refine opK_sound hX hK hi.rel hi.gl hρ (k := fun _ _ => none) (kp := fun c H' => some (.pan c, H')) (r := (.pan c, H')) ⟨?_, ?_⟩ (hpn _ _)
      · intro m2 u u' H2 w2 hv hst hk
        simp at hk
      · intro m2 c1 c' H2 w2 hv hst hk
        simp only [Option.some.injEq, Prod.mk.injEq, End.pan.injEq] at hk
        obtain ⟨rfl, rfl⟩ := hk
        exact hQ m2 c' a' w2 q m w' _ hi hv hst (hi.step.trans hst) hlow
end pan

theorem chk_spec {P : Program} {ops : Array Oper} {ts : List (Act × Heap)} {a0 : Act × Heap} (hlen : ts.length = ops.toList.length + 1) (h : drawChk P ops ts = true) :
    ∀ (i p : Nat) (oi op : Oper), ops.toList[i]? = some oi → ops.toList[p]? = some op → cls P oi = 1 → guardB ops oi ((ts[i]?.getD a0).1) = some true → cls P op = 2 →
    ((masks ops.toList []).getD i 0).testBit p = false → ((masks ops.toList []).getD p 0).testBit i = false →
    ∃ v, (∀ v', ((ts[i + 1]?.getD a0).1) = ((ts[i]?.getD a0).1).put oi.dst v' → v' = v) ∧ qval P ((ts[i]?.getD a0).1).eval oi ((ts[p]?.getD a0).2) = some v ∧ qval P ((ts[i]?.getD a0).1).eval oi ((ts[p + 1]?.getD a0).2) = some v := by
  intro i p oi op ho hp h1 hg h2 u1 u2
  have hi := (List.getElem?_eq_some_iff.1 ho).1
  have hpl := (List.getElem?_eq_some_iff.1 hp).1
  have t1 : ts[i]? = some ts[i] := List.getElem?_eq_getElem (by omega)
  have t2 : ts[i + 1]? = some ts[i + 1] := List.getElem?_eq_getElem (by omega)
  have t3 : ts[p]? = some ts[p] := List.getElem?_eq_getElem (by omega)
  have t4 : ts[p + 1]? = some ts[p + 1] := List.getElem?_eq_getElem (by omega)
  unfold drawChk at h
  simp only [List.all_eq_true, List.mem_range] at h
  have hh := h i hi
  rw [t1] at hg
  simp only [Option.getD_some] at hg
  simp only [ho, t1, t2, h1, hg, and_self, if_true, List.all_eq_true, List.mem_range] at hh
  have hh2 := hh p hpl
  simp only [hp, h2, u1, u2, and_self, if_true, t3, t4] at hh2
  cases hd : oi.dst with
  | none => rw [hd] at hh2; simp at hh2
  | some d =>
    rw [hd] at hh2
    simp only [Bool.and_eq_true] at hh2
    obtain ⟨c1, c2⟩ := hh2
    rw [t1, t2, t3, t4]
    simp only [Option.getD_some]
    cases q1 : qval P ts[i].1.eval oi ts[p].2 with
    | none => rw [q1] at c1; simp at c1
    | some v =>
      rw [q1] at c1
      cases q2 : qval P ts[i].1.eval oi ts[p + 1].2 with
      | none => rw [q2] at c2; simp at c2
      | some v2 =>
        rw [q2] at c2
        have e1 := veq_eq c1
        have e2 := veq_eq c2
        refine ⟨v, fun v' hv' => ?_, rfl, by rw [e2, ← e1]⟩
        rw [e1, hv']
        simp only [Act.put]
        by_cases hlt : d < ts[i].1.tmps.size
        · simp [hlt]
        · exfalso
          have hu : (ts[i + 1].1.tmps.getD d undef) = undef := by
            rw [hv']
            simp [Act.put, hlt]
          rw [hu] at e1
          rw [e1, hu] at c1
          simp [undef, veq, veq0] at c1

/-- What stands in a frame without what a region writes. -/
theorem erase_get (ops : Array Oper) (a : Act) (t : Nat) : (eraseA ops a).tmps[t]? = a.tmps[t]?.map fun v => cond (writes ops t) undef v := by
  simp [eraseA]
theorem writes_of {ops : Array Oper} {t : Nat} (h : writes ops t = false) {j : Nat} {o : Oper} (ho : ops.toList[j]? = some o) : o.dst ≠ some t := by
  intro e
  have : writes ops t = true := by
    unfold writes
    rw [List.any_eq_true]
    exact ⟨o, List.mem_of_getElem? ho, by simp [dstIs, e]⟩
  rw [this] at h; cases h
structure PanOk (P : Program) (ops : List Oper) (p : Nat) : Prop where
  guards : ∀ (i : Nat) (o : Oper), ops[i]? = some o → ∀ (j : Nat) (w : Bool), o.guard = some (j, w) → j < i
  later : ∀ j, p < j → j < ops.length → ((masks ops []).getD j 0).testBit p = true
theorem panAll_spec {P : Program} {ops : List Oper} (h : panAll P ops = true) {p : Nat} {op : Oper} (hop : ops[p]? = some op) (hm : mayPan op = true) : PanOk P ops p ∧
    ∀ (i e : Nat) (oi oe : Oper), i < p → e < p → ops[i]? = some oi → ops[e]? = some oe → cls P oi = 1 → cls P oe = 2 → ((masks ops []).getD i 0).testBit e = true ∨ ((masks ops []).getD e 0).testBit i = true := by
  have h : panAll0 P ops = true := by unfold panAll at h; simp only [Bool.and_eq_true] at h; exact h.1
  unfold panAll0 at h
  simp only [Bool.and_eq_true, List.all_eq_true, List.mem_range] at h
  have hlt : ∀ (i : Nat) (o : Oper), ops[i]? = some o → i < ops.length := fun i o ho => (List.getElem?_eq_some_iff.1 ho).1
  have h2 := h.2 p (hlt p op hop)
  simp only [hop, hm, Bool.not_true, Bool.false_or, Bool.and_eq_true, List.all_eq_true, List.mem_range] at h2
  refine ⟨⟨fun i o ho j w hg => ?_, fun j h1 h3 => ?_⟩, fun i e oi oe h1 h3 h4 h5 c1 c2 => ?_⟩
  · have := h.1 i (hlt i o ho)
    simpa [ho, hg] using this
  · have := h2.1 j h3
    simpa [h1] using this
  · have := h2.2 i h1
    simp only [h4, c1, BEq.rfl, Bool.not_true, Bool.false_or, List.all_eq_true, List.mem_range] at this
    have := this e h3
    simpa [h5, c2] using this
theorem panChk_spec {P : Program} {ops : Array Oper} {p : Nat} {tr : List (Act × Heap)} (h : panChk P ops tr = true) (hl : tr.length = p + 1) : PanOk P ops.toList p ∧ strictB P ops.toList = true ∧ drawChk P (ops.toList.take p).toArray tr = true := by
  unfold panChk at h
  rw [hl] at h
  simp only [Bool.and_eq_true, List.all_eq_true, List.mem_range, Nat.add_sub_cancel] at h
  obtain ⟨⟨h1, h2⟩, h3, h4⟩ := h
  refine ⟨⟨fun i o ho j w hg => ?_, fun j g1 g2 => ?_⟩, h3, h4⟩
  · have := h1 i (List.getElem?_eq_some_iff.1 ho).1
    simpa [ho, hg] using this
  · have := h2 j g2
    simpa [show p + 1 ≤ j by omega] using this
/-- What panics turns memory. -/
theorem pan_may {P : Program} {X : Xf} {K : Kf} {ρ : Operand → Value} {o : Oper} {H : Heap} {c : List PanicEntry} {H' : Heap} (h : Pn P X K ρ o H c H') : mayPan o = true ∧ cls P o = 2 := by
  have hc : cls P o = 2 := by
    rcases Nat.lt_or_ge (cls P o) 2 with h2 | h2
    · exfalso
      rcases cls_quiet h2 ρ H with ⟨v, hv⟩ | hv
      · have h1 := h (fun v H => some (.ret v, H)) (fun c H => some (.pan c, H))
        rw [hv] at h1
        simp at h1
      · have h1 := h (fun v H => some (.ret v, H)) (fun c H => some (.pan c, H))
        rw [hv] at h1
        simp at h1
    · have := cls_le P o; omega
  refine ⟨?_, hc⟩
  have h1 := h (fun v H => some (.ret v, H)) (fun c H => some (.pan c, H))
  have h2 := h (fun _ _ => none) (fun c H => some (.pan c, H))
  obtain ⟨dst, op, type, pos, after, guard⟩ := o
  cases op with
  | panic x => rfl
  | call c =>
    obtain ⟨callee, args, ts⟩ := c
    cases callee with
    | value f => rfl
    | builtin b =>
      exfalso
      simp only [opK] at h2
      have := Lin.builtin P b ts (args.map ρ) H
      rcases this with ⟨v, H1, hv⟩ | ⟨c1, H1, hv⟩ | hv
      · have e := hv (fun _ _ => none) (fun c H => some (.pan c, H))
        simp only at e
        rw [e] at h2; cases h2
      · have e1 := hv (fun _ _ => none) (fun c H => some (.pan c, H))
        have e2 := hv (fun _ _ => none) (fun _ _ => none)
        simp only at e1 e2
        rw [e1] at e2
        cases e2
      · have e := hv (fun _ _ => none) (fun c H => some (.pan c, H))
        simp only at e
        rw [e] at h2; cases h2
    | invoke x y => simp only [opK] at h2; cases h2
  | _ =>
    exfalso
    simp only [opK, mapK] at h2
    first
      | (cases h2; done)
      | (unfold bindV at h2; split at h2 <;> cases h2; done)
      | (unfold bindO at h2; split at h2 <;> cases h2; done)
      | (simp only [bindO, groundK, ite_self] at h2; split at h2 <;> cases h2; done)
      | (split at h2 <;> cases h2; done)
theorem draw_pans {P : Program} {X : Xf} {K : Kf} (hX : XSnd P X) (hK : KSnd P K) (hm : P.follows .mixedOrders = true) {ops : Array Oper} {r : End × Heap} {kp : List PanicEntry → Act → Heap → R} {Q : Exit → Act → World → Prop} (hsS : strictB P ops.toList = true → Sta P ops.toList)
    {a a' : Act} {m : Mp} {H : Heap} {w : World} (h : StR P m a H a' w) (he : TrQ P X K ops (fun tr c af Hf => cond (panOkTr P ops tr) (kp c (eraseA ops af) Hf) none) r ops.toList a H [])
    (hP : ∀ c' b' w', AfterP P m H w c' (fun c b H' => kp c b H' = some r) b' w' → Q (.panic c') b' w') (id : Nat) : (Code.region id ops true).wp P Q a' w := by
  obtain ⟨p, op, ts, k0, k1, k2, k3, ap, Hp, k4, hg, hok, c, H', hpn, hk⟩ := he
  simp only [List.nil_append] at hk
  cases hpa : panOkTr P ops ts with
  | false => rw [hpa] at hk; cases hk
  | true =>
    rw [hpa] at hk
    simp only [cond_true] at hk
    obtain ⟨hmp, hcl⟩ := pan_may hpn
    have hpa2 : strictB P ops.toList = true ∧ PanOk P ops.toList p ∧ ((∀ (i e : Nat) (oi oe : Oper), i < p → e < p → ops.toList[i]? = some oi → ops.toList[e]? = some oe → cls P oi = 1 → cls P oe = 2 → ((masks ops.toList []).getD i 0).testBit e = true ∨ ((masks ops.toList []).getD e 0).testBit i = true) ∨ drawChk P (ops.toList.take p).toArray ts = true) := by
      unfold panOkTr at hpa
      rw [Bool.or_eq_true] at hpa
      rcases hpa with hpa | hpa
      · have h1 := panAll_spec hpa k0 hmp
        exact ⟨by unfold panAll at hpa; simp only [Bool.and_eq_true] at hpa; exact hpa.2, h1.1, .inl h1.2⟩
      · have h1 := panChk_spec hpa k1
        exact ⟨h1.2.1, h1.1, .inr h1.2.2⟩
    have hs : Sta P ops.toList := hsS hpa2.1
    have ok := hpa2.2.1
    have okc := hpa2.2.2
    have hpl := (List.getElem?_eq_some_iff.1 k0).1
    have hlenP : (ops.toList.take p).length = p := by simp; simp at hpl; omega
    let A : Nat → Act := fun i => (ts[i]?.getD (a, H)).1
    let Hs : Nat → Heap := fun i => (ts[i]?.getD (a, H)).2
    have A0 : A 0 = a := by simp only [A, k2, Option.getD_some]
    have H0 : Hs 0 = H := by simp only [Hs, k2, Option.getD_some]
    have Ap : A p = ap := by simp only [A, k4, Option.getD_some]
    have Hpe : Hs p = Hp := by simp only [Hs, k4, Option.getD_some]
    have ht : Tra P X K (ops.toList.take p).toArray A Hs := by
      refine ⟨fun i o ho => ?_, fun i e oi oe ho hoe c1 hg c2 u1 u2 => ?_⟩
      · obtain ⟨hip, ho'⟩ := take_get (l := ops.toList) ho
        have t1 : ts[i]? = some ts[i] := List.getElem?_eq_getElem (by omega)
        have t2 : ts[i + 1]? = some ts[i + 1] := List.getElem?_eq_getElem (by omega)
        have := k3 i o _ _ ho' t1 t2
        have hgt : guardB (ops.toList.take p).toArray o (A i) = guardB ops o (A i) := guardB_take fun j w hgj => Nat.lt_trans (ok.guards i o ho' j w hgj) hip
        unfold StepC at this ⊢
        rw [hgt]
        simpa only [A, Hs, t1, t2, Option.getD_some] using this
      · obtain ⟨hip, ho'⟩ := take_get (l := ops.toList) ho
        obtain ⟨hep, hoe'⟩ := take_get (l := ops.toList) hoe
        have e1 : (masks (ops.toList.take p).toArray.toList []).getD i 0 = (masks ops.toList []).getD i 0 := mask_pre ops.toList hip
        have e2 : (masks (ops.toList.take p).toArray.toList []).getD e 0 = (masks ops.toList []).getD e 0 := mask_pre ops.toList hep
        rcases okc with okc | okc
        · rw [e1] at u1
          rw [e2] at u2
          rcases okc i e oi oe hip hep ho' hoe' c1 c2 with h | h
          · rw [h] at u1; cases u1
          · rw [h] at u2; cases u2
        · obtain ⟨v, q0, q1, q2⟩ := chk_spec (a0 := (a, H)) (by show ts.length = (ops.toList.take p).length + 1; rw [hlenP]; exact k1) okc i e oi oe ho hoe c1 hg c2 u1 u2
          exact ⟨v, fun _ v' _ _ hA => q0 v' hA, q1, q2⟩
    refine wp_region_any hm ?_
    have hst0 := step_drawn_heap h.rel
    have hlen : ops.toList.length = ops.size := by simp
    obtain ⟨q, n1, n2, n3, n4⟩ := next_eff P (ops.toList.take p).toArray.toList p 0 (by rw [Nat.zero_add]; exact hlenP.symm)
    have hHq : Hs q = Hs 0 := by
      have := ht.heap 0 q (by omega) (fun j o a b c => n3 j o a (by omega) c)
      rwa [Nat.zero_add] at this
    have nl : ∀ j, (Array.replicate ops.size false).getD j false = false := by
      intro j; simp [Array.getD]
    refine draw_pan hX hK k0 hs ht hcl (fun j h1 h2 => ok.later j h1 (by simpa using h2)) ok.guards (c := c) (H' := H') (by rw [Ap, Hpe]; exact hpn) (by rw [Ap]; exact hg) hok (m0 := m) (w0 := w) (Q := Q) ?_ ops.size (Array.replicate ops.size false) q m a' _ (by simp) (fun j _ => nl j) ?_ ?_ ?_
    · intro m2 c' b' w2 q1 m1 w1 L hi hc hst hall hlow
      rw [H0] at hall
      refine hP c' b' w2 ⟨m2, c, eraseA ops ap, H', hc, ⟨⟨?_, fun t h1 h2 => ?_, ?_⟩, hst.rel, hi.gl.mono hst.later.1⟩, hall, hk⟩
      · have : (eraseA ops ap).tmps.size = ap.tmps.size := by simp [eraseA]
        rw [this, ← Ap, ht.size p (by show p ≤ (ops.toList.take p).length; omega)]
        exact hi.size
      · have e1 := erase_get ops ap t
        rw [Array.getElem?_eq_getElem h1] at e1
        have hs1 : t < ap.tmps.size := by simpa [eraseA] using h1
        rw [Array.getElem?_eq_getElem hs1] at e1
        simp only [Option.map_some, Option.some.injEq] at e1
        cases hw : writes ops t with
        | true => rw [hw] at e1; exact .inl (by rw [e1]; rfl)
        | false =>
          rw [hw] at e1
          simp only [cond_false] at e1
          right
          rw [e1]
          have hsl := ht.slot t 0 p (by show 0 + p ≤ (ops.toList.take p).length; omega) (fun k ok _ _ c => writes_of hw (take_get (l := ops.toList) c).2)
          rw [Nat.zero_add, Ap, Array.getElem?_eq_getElem hs1] at hsl
          exact (hi.kept t _ _ (fun j oj hj _ => writes_of hw (take_get (l := ops.toList) hj).2) hsl.symm (Array.getElem?_eq_getElem h2)).mono hst.later.1
      · have : (eraseA ops ap).defers = ap.defers := rfl
        rw [this, ← Ap, ht.defers p (by show p ≤ (ops.toList.take p).length; omega)]
        exact hi.defers.mono hst.later.1
    · intro i o ho hL
      simp [Array.getD] at hL
    · exact Nat.le_trans List.countP_le_length (by simp)
    · refine ⟨?_, h.gl, ?_, ?_, ?_, ?_, ?_, n2, ?_, ?_⟩
      · rw [hHq, H0]; exact hst0.rel
      · rw [hHq, H0]; exact hst0
      · rw [A0]; exact h.act.defers
      · rw [A0]; exact h.act.tmps.1
      · intro j o t v v' _ _ hL
        simp only [nl] at hL; simp at hL
      · intro t v v' _ hv hv'
        rw [A0] at hv
        obtain ⟨x1, e1⟩ := Array.getElem?_eq_some_iff.1 hv
        obtain ⟨x2, e2⟩ := Array.getElem?_eq_some_iff.1 hv'
        rw [← e1, ← e2]
        exact h.act.tmps.2 t x1 x2
      · intro o ho
        exact ⟨n4 o ho, nl q⟩
      · intro j o hj ho hc
        exact absurd hc (n3 j o (by omega) hj ho)

end Go.Am
