/- Regions that draw their order are sound. -/
import Derived.Test.YtohmeeglehopiaaDoorAmL
namespace Go.Am

theorem looks_operand {ops : List Oper} {o : Oper} {t : Tmp} (h : Operand.tmp t ∈ o.op.operands.toList) : t ∈ looks ops o := by
  unfold looks
  rw [List.mem_append]
  left
  exact List.mem_filterMap.2 ⟨_, h, rfl⟩

theorem looks_guard {ops : Array Oper} {o : Oper} {j : Nat} {want : Bool} {d : Tmp} (hg : o.guard = some (j, want)) (hd : (ops[j]?).bind (·.dst) = some d) : d ∈ looks ops.toList o := by
  unfold looks
  rw [List.mem_append]
  right
  rw [hg]
  cases hj : ops[j]? with
  | none => rw [hj] at hd; simp at hd
  | some oj =>
    rw [hj] at hd
    simp only [Option.bind_some] at hd
    have : ops.toList[j]? = some oj := by simpa using hj
    simp [this, hd]

theorem draw_all {P : Program} {X : Xf} {K : Kf} (hX : XSnd P X) (hK : KSnd P K) {ops : Array Oper} {A : Nat → Act} {Hs : Nat → Heap} (hs : Sta P ops.toList) (ht : Tra P X K ops A Hs)
    {m0 : Mp} {w0 : World} {Q : Exit → Act → World → Prop} (hQ : ∀ m a' w', Rel m (Hs ops.toList.length) w' → Gl P m → ActR m (A ops.toList.length) a' → Step m0 (Hs 0) w0 m (Hs ops.toList.length) w' → Q .normal a' w') :
    ∀ (fuel : Nat) (L : Array Bool) (q : Nat) (m : Mp) (a' : Act) (w' : World), L.size = ops.size → Down ops.toList (fun i => L.getD i false) → (List.range ops.size).countP (fun i => !L.getD i false) ≤ fuel →
      Inv P ops A Hs m0 w0 (fun i => L.getD i false) q m a' w' → wpAny P .any ops Q fuel L a' w' := by
  have final : ∀ (L : Array Bool) (q : Nat) (m : Mp) (a' : Act) (w' : World), L.size = ops.size → Inv P ops A Hs m0 w0 (fun i => L.getD i false) q m a' w' → Region.ready .any ops L = [] → Q .normal a' w' := by
    intro L q m a' w' hsz hi hr
    have all : ∀ i, i < ops.size → L.getD i false = true := by
      intro i
      induction i using Nat.strongRecOn with
      | _ i ih =>
        intro hlt
        cases e : L.getD i false with
        | true => rfl
        | false =>
          have hmem : i ∈ Region.ready .any ops L := by
            rw [mem_ready]
            refine ⟨?_, ops[i], Array.getElem?_eq_getElem hlt, ?_⟩
            · have hlt2 : i < L.size := by omega
              simp only [Array.getD, hlt2, dif_pos] at e ⊢
              exact e
            · intro x hx hb
              have hlt3 := hs.edge i ops[i] (by simp) x hx hb
              exact ih x.on hlt3 (by omega)
          rw [hr] at hmem; simp at hmem
    have hlen : ops.toList.length = ops.size := by simp
    have hq : q = ops.toList.length := by
      rcases Nat.eq_or_lt_of_le hi.qle with e | e
      · exact e
      · have := (hi.qeff _ (List.getElem?_eq_getElem e)).2
        rw [all q (by omega)] at this; simp at this
    subst hq
    refine hQ m a' w' hi.rel hi.gl ⟨?_, ?_⟩ hi.step
    · have hsz2 := ht.size ops.toList.length (Nat.le_refl _)
      refine ⟨by rw [hsz2]; exact hi.size, fun t h1 h2 => ?_⟩
      by_cases hw : ∃ (j : Nat) (oj : Oper), ops.toList[j]? = some oj ∧ oj.dst = some t
      · obtain ⟨j, oj, hj, hjd⟩ := hw
        have hj2 := (List.getElem?_eq_some_iff.1 hj).1
        exact hi.done j oj t _ _ hj hjd (all j (by omega)) (Array.getElem?_eq_getElem h1) (Array.getElem?_eq_getElem h2)
      · have hsl := ht.slot t 0 ops.toList.length (by omega) (fun k ok _ _ c d => hw ⟨k, ok, c, d⟩)
        rw [Nat.zero_add] at hsl
        refine hi.kept t _ _ (fun j oj a _ c => hw ⟨j, oj, a, c⟩) ?_ (Array.getElem?_eq_getElem h2)
        rw [← hsl]; exact Array.getElem?_eq_getElem h1
    · rw [ht.defers _ (Nat.le_refl _)]; exact hi.defers
  intro fuel
  induction fuel with
  | zero =>
    intro L q m a' w' hsz hd hc hi
    have hr : Region.ready .any ops L = [] := by
      rw [List.eq_nil_iff_forall_not_mem]
      intro i hmem
      rw [mem_ready] at hmem
      obtain ⟨h0, o, ho, _⟩ := hmem
      have hlt := (Array.getElem?_eq_some_iff.1 ho).1
      have : 0 < (List.range ops.size).countP (fun i => !L.getD i false) := by
        rw [List.countP_pos_iff]
        refine ⟨i, List.mem_range.2 hlt, ?_⟩
        have hlt2 : i < L.size := by omega
        have hL' : L.getD i false = false := by
          simp only [Array.getD, hlt2, dif_pos] at h0 ⊢
          exact h0
        simp only [hL']; rfl
      omega
    exact ⟨hr, final L q m a' w' hsz hi hr⟩
  | succ fuel ih =>
    intro L q m a' w' hsz hd hc hi
    refine ⟨final L q m a' w' hsz hi, fun i hmem => ?_⟩
    rw [mem_ready] at hmem
    obtain ⟨h0, o, ho, hp⟩ := hmem
    have hlt := (Array.getElem?_eq_some_iff.1 ho).1
    have hlt2 : i < L.size := by omega
    have hL : L.getD i false = false := by
      simp only [Array.getD, hlt2, dif_pos] at h0 ⊢; exact h0
    have ho' : ops.toList[i]? = some o := by simpa using ho
    have hset : ∀ j, (L.setIfInBounds i true).getD j false = if j = i then true else L.getD j false := by
      intro j
      by_cases e : j = i
      · subst e; simp [hlt2]
      · have : i ≠ j := Ne.symm e
        rw [getD_set_ne false this]; simp [e]
    have hfun : (fun j => (L.setIfInBounds i true).getD j false) = fun j => if j = i then true else L.getD j false := funext hset
    have hd2 : Down ops.toList (fun j => (L.setIfInBounds i true).getD j false) := by
      intro j oj hj hLj e he hb
      simp only [hset] at hLj ⊢
      by_cases ej : j = i
      · subst ej
        rw [ho'] at hj; simp only [Option.some.injEq] at hj; subst hj
        have := hp e he hb
        by_cases ee : e.on = j <;> simp [ee, this]
      · simp only [ej, if_false] at hLj
        have := hd j oj hj hLj e he hb
        by_cases ee : e.on = i <;> simp [ee, this]
    have hc2 : (List.range ops.size).countP (fun j => !(L.setIfInBounds i true).getD j false) ≤ fuel := by
      have := count_lt (p := fun j => !L.getD j false) (q := fun j => !(L.setIfInBounds i true).getD j false) (List.range ops.size)
        (fun x _ hx => by
          simp only [hset] at hx
          by_cases e : x = i
          · simp [e] at hx
          · simpa [e] using hx) ⟨i, List.mem_range.2 hlt, by simp [hL], by simp [hset]⟩
      omega
    have sees := fun (t : Nat) (hl : t ∈ looks ops.toList o) (v v' : Value) => hi.sees hs ht hd ho' hp hL hl (v := v) (v' := v')
    have hszA : (A i).tmps.size = a'.tmps.size := by rw [ht.size i (by simp; omega)]; exact hi.size
    have hguard : ∀ b, guardB ops o (A i) = some b → Region.wanted o (yielded ops a'.tmps) = b := fun b hb =>
      guardB_sees hszA hb (fun j want d hg hdd v v' => sees d (looks_guard hg hdd) v v')
    unfold wpOp
    simp only [ho]
    have goOn : ∀ (m2 : Mp) (q2 : Nat) (v v' : Value) (w2 : World), A (i + 1) = (A i).put o.dst v → Step m (Hs q) w' m2 (Hs q2) w2 → VR m2 v v' → q2 ≤ ops.toList.length →
        (∀ oq, ops.toList[q2]? = some oq → cls P oq = 2 ∧ L.getD q2 false = false ∧ q2 ≠ i) → (∀ (j : Nat) (oj : Oper), j < q2 → ops.toList[j]? = some oj → cls P oj = 2 → L.getD j false = true ∨ j = i) →
        wpAny P .any ops Q fuel (L.setIfInBounds i true) (a'.put o.dst v') w2 := by
      intro m2 q2 v v' w2 hA hst hv k1 k2 k3
      refine ih (L.setIfInBounds i true) q2 m2 _ w2 (by simpa using hsz) hd2 hc2 ?_
      rw [hfun]
      exact hi.put hs ht ho' hL hA hst hv k1 k2 k3
    have same : cls P o < 2 ∨ Hs (i + 1) = Hs i → ∀ (v v' : Value) (m2 : Mp) (w2 : World), A (i + 1) = (A i).put o.dst v → Step m (Hs q) w' m2 (Hs q) w2 → VR m2 v v' → (cls P o = 2 → False) → wpAny P .any ops Q fuel (L.setIfInBounds i true) (a'.put o.dst v') w2 := by
      intro _ v v' m2 w2 hA hst hv hne
      refine goOn m2 q v v' w2 hA hst hv hi.qle (fun oq hq => ?_) (fun j oj h1 h2 h3 => .inl (hi.qlow j oj h1 h2 h3))
      obtain ⟨a1, a2⟩ := hi.qeff oq hq
      refine ⟨a1, a2, fun e => ?_⟩
      subst e
      rw [ho'] at hq; simp only [Option.some.injEq] at hq; subst hq
      exact hne a1
    -- behind an effect: the next one
    have nextq : cls P o = 2 → i = q ∧ ∃ q2, q2 ≤ ops.toList.length ∧ Hs q2 = Hs (i + 1) ∧ (∀ oq, ops.toList[q2]? = some oq → cls P oq = 2 ∧ L.getD q2 false = false ∧ q2 ≠ i) ∧
        (∀ (j : Nat) (oj : Oper), j < q2 → ops.toList[j]? = some oj → cls P oj = 2 → L.getD j false = true ∨ j = i) := by
      intro hc
      have hiq := hi.next hs hd ho' hp hL hc
      refine ⟨hiq, ?_⟩
      have hlen : ops.toList.length = ops.size := by simp
      obtain ⟨q2, n1, n2, n3, n4⟩ := next_eff P ops.toList (ops.toList.length - (i + 1)) (i + 1) (by omega)
      refine ⟨q2, n2, ?_, ?_, ?_⟩
      · have := ht.heap (i + 1) (q2 - (i + 1)) (by omega) (fun j oj a b c => n3 j oj a (by omega) c)
        rw [show i + 1 + (q2 - (i + 1)) = q2 by omega] at this
        exact this
      · intro oq hq
        refine ⟨n4 oq hq, ?_, by omega⟩
        cases e : L.getD q2 false with
        | false => rfl
        | true =>
          have hb := hs.eff i q2 o oq ho' hq (by omega) hc (n4 oq hq)
          have this : L.getD i false = true := down_bit hs hd q2 oq i hq (fun x hx hbx => hd q2 oq hq e x hx hbx) hb
          rw [this] at hL; simp at hL
      · intro j oj h1 h2 h3
        rcases Nat.lt_trichotomy j i with e | e | e
        · exact .inl (hi.qlow j oj (by omega) h2 h3)
        · exact .inr e
        · exact absurd h3 (n3 j oj (by omega) h1 h2)
    rcases ht.step i o ho' with ⟨hg, hok, v, hy, hA⟩ | ⟨hg, hA, hH⟩
    · rw [if_pos (hguard true hg)]
      left
      have hρ : ∀ x ∈ o.op.operands.toList, VR m ((A i).eval x) (a'.eval x) := by
        intro x hx
        refine eval_sees hi.gl hszA (List.all_eq_true.1 hok x hx) (fun t e v v' => sees t ?_ v v')
        subst e
        exact looks_operand hx
      unfold Oper.wp
      by_cases hc : cls P o = 2
      · obtain ⟨hiq, q2, k1, k2, k3, k4⟩ := nextq hc
        subst hiq
        refine opK_sound hX hK hi.rel hi.gl hρ (k := fun v H' => some (.ret v, H')) (kp := fun _ _ => none) (r := (.ret v, Hs (i + 1))) ⟨?_, ?_⟩ (hy _ _)
        · intro m2 u u' H2 w2 hv hst hk
          simp only [Option.some.injEq, Prod.mk.injEq, End.ret.injEq] at hk
          obtain ⟨rfl, rfl⟩ := hk
          exact goOn m2 q2 u u' w2 hA (by rw [k2]; exact hst) hv k1 k3 k4
        · intro m2 c c' H2 w2 hv hst hk
          simp at hk
      · have hc2' : cls P o < 2 := by have := cls_le P o; omega
        have hyq := hi.quiet hs ht hd ho' hp hL hg hc2' hy hA
        refine opK_sound hX hK hi.rel hi.gl hρ (k := fun v H' => some (.ret v, H')) (kp := fun _ _ => none) (r := (.ret v, Hs q)) ⟨?_, ?_⟩ (hyq _ _)
        · intro m2 u u' H2 w2 hv hst hk
          simp only [Option.some.injEq, Prod.mk.injEq, End.ret.injEq] at hk
          obtain ⟨rfl, rfl⟩ := hk
          exact same (.inl hc2') u u' m2 w2 hA hst hv hc
        · intro m2 c c' H2 w2 hv hst hk
          simp at hk
    · rw [if_neg (by rw [hguard false hg]; simp)]
      by_cases hc : cls P o = 2
      · obtain ⟨hiq, q2, k1, k2, k3, k4⟩ := nextq hc
        subst hiq
        exact goOn m q2 undef undef w' hA (by rw [k2, hH]; exact .refl hi.rel) (.undef m) k1 k3 k4
      · exact same (.inr hH) undef undef m w' hA (.refl hi.rel) (.undef m) hc


theorem chk_spec {P : Program} {ops : Array Oper} {ts : List (Act × Heap)} {a0 : Act × Heap} (hlen : ts.length = ops.toList.length + 1) (h : drawChk P ops ts = true) :
    ∀ (i p : Nat) (oi op : Oper), ops.toList[i]? = some oi → ops.toList[p]? = some op → cls P oi = 1 → guardB ops oi ((ts[i]?.getD a0).1) = some true → cls P op = 2 →
    ((masks ops.toList []).getD i 0).testBit p = false → ((masks ops.toList []).getD p 0).testBit i = false →
    ∃ v, (∀ v', ((ts[i + 1]?.getD a0).1) = ((ts[i]?.getD a0).1).put oi.dst v' → v' = v) ∧ qval P ((ts[i]?.getD a0).1).eval oi ((ts[p]?.getD a0).2) = some v ∧ qval P ((ts[i]?.getD a0).1).eval oi ((ts[p + 1]?.getD a0).2) = some v := by
  intro i p oi op ho hp h1 hg h2 u1 u2
  have hi := (List.getElem?_eq_some_iff.1 ho).1
  have hpl := (List.getElem?_eq_some_iff.1 hp).1
  have t1 : ts[i]? = some ts[i] := List.getElem?_eq_getElem (by omega)
  have t2 : ts[i + 1]? = some ts[i + 1] := List.getElem?_eq_getElem (by omega)
  have t3 : ts[p]? = some ts[p] := List.getElem?_eq_getElem (by omega)
  have t4 : ts[p + 1]? = some ts[p + 1] := List.getElem?_eq_getElem (by omega)
  unfold drawChk at h
  simp only [List.all_eq_true, List.mem_range] at h
  have hh := h i hi
  rw [t1] at hg
  simp only [Option.getD_some] at hg
  simp only [ho, t1, t2, h1, hg, and_self, if_true, List.all_eq_true, List.mem_range] at hh
  have hh2 := hh p hpl
  simp only [hp, h2, u1, u2, and_self, if_true, t3, t4] at hh2
  cases hd : oi.dst with
  | none => rw [hd] at hh2; simp at hh2
  | some d =>
    rw [hd] at hh2
    simp only [Bool.and_eq_true] at hh2
    obtain ⟨c1, c2⟩ := hh2
    rw [t1, t2, t3, t4]
    simp only [Option.getD_some]
    cases q1 : qval P ts[i].1.eval oi ts[p].2 with
    | none => rw [q1] at c1; simp at c1
    | some v =>
      rw [q1] at c1
      cases q2 : qval P ts[i].1.eval oi ts[p + 1].2 with
      | none => rw [q2] at c2; simp at c2
      | some v2 =>
        rw [q2] at c2
        have e1 := veq_eq c1
        have e2 := veq_eq c2
        refine ⟨v, fun v' hv' => ?_, rfl, by rw [e2, ← e1]⟩
        rw [e1, hv']
        simp only [Act.put]
        by_cases hlt : d < ts[i].1.tmps.size
        · simp [hlt]
        · exfalso
          have hu : (ts[i + 1].1.tmps.getD d undef) = undef := by
            rw [hv']
            simp [Act.put, hlt]
          rw [hu] at e1
          rw [e1, hu] at c1
          simp [undef, veq, veq0] at c1

theorem draw_sound {P : Program} {X : Xf} {K : Kf} (hX : XSnd P X) (hK : KSnd P K) (hm : P.follows .mixedOrders = true) {ops : Array Oper} {r : End × Heap} {k : Act → Heap → R} {Q : Exit → Act → World → Prop} (hD : drawOk P ops.toList = true)
    {a a' : Act} {m : Mp} {H : Heap} {w : World} (h : StR P m a H a' w) (he : execTr P X K ops ops.toList a H [] (fun tr af Hf => cond (drawChk P ops tr) (k af Hf) none) = some r)
    (hQ : ∀ b' w', After P m H w (fun b H' => k b H' = some r) b' w' → Q .normal b' w') (id : Nat) : (Code.region id ops true).wp P Q a' w := by
  have hs := drawOk_spec hD
  obtain ⟨ts, k1, k2, k3, af, Hf, k4, k5⟩ := execTr_spec ops.toList hs.nd he
  simp only [List.nil_append] at k5
  cases hc : drawChk P ops ts with
  | false => rw [hc] at k5; simp at k5
  | true =>
    rw [hc] at k5
    simp only [cond_true] at k5
    have hchk := chk_spec (a0 := (a, H)) k1 hc
    let A : Nat → Act := fun i => (ts[i]?.getD (a, H)).1
    let Hs : Nat → Heap := fun i => (ts[i]?.getD (a, H)).2
    have A0 : A 0 = a := by simp only [A, k2, Option.getD_some]
    have H0 : Hs 0 = H := by simp only [Hs, k2, Option.getD_some]
    have An : A ops.toList.length = af := by simp only [A, k4, Option.getD_some]
    have Hn : Hs ops.toList.length = Hf := by simp only [Hs, k4, Option.getD_some]
    have ht : Tra P X K ops A Hs := by
      refine ⟨fun i o ho => ?_, fun i p oi op ho hp c1 hg c2 u1 u2 => ?_⟩
      · have hi := (List.getElem?_eq_some_iff.1 ho).1
        have t1 : ts[i]? = some ts[i] := List.getElem?_eq_getElem (by omega)
        have t2 : ts[i + 1]? = some ts[i + 1] := List.getElem?_eq_getElem (by omega)
        have := k3 i o _ _ ho t1 t2
        simpa only [A, Hs, t1, t2, Option.getD_some] using this
      · obtain ⟨v, q0, q1, q2⟩ := hchk i p oi op ho hp c1 hg c2 u1 u2
        exact ⟨v, fun _ v' _ _ hA => q0 v' hA, q1, q2⟩
    refine wp_region_any hm ?_
    have hst0 := step_drawn_heap h.rel
    have hlen : ops.toList.length = ops.size := by simp
    obtain ⟨q, n1, n2, n3, n4⟩ := next_eff P ops.toList ops.toList.length 0 (by omega)
    have hHq : Hs q = Hs 0 := by
      have := ht.heap 0 q (by omega) (fun j o a b c => n3 j o a (by omega) c)
      rwa [Nat.zero_add] at this
    refine draw_all hX hK hs ht (m0 := m) (w0 := w) (Q := Q) ?_ ops.size (Array.replicate ops.size false) q m a' _ (by simp) ?_ ?_ ?_
    · intro m2 b' w2 r1 r2 r3 r4
      rw [An, Hn] at *
      rw [H0] at r4
      exact hQ b' w2 ⟨m2, af, Hf, ⟨r3, r1, r2⟩, r4, k5⟩
    · intro i o ho hL
      have hi := (List.getElem?_eq_some_iff.1 ho).1
      simp [Array.getD] at hL
    · exact Nat.le_trans List.countP_le_length (by simp)
    · have nl : ∀ j, (Array.replicate ops.size false).getD j false = false := by
        intro j; simp [Array.getD]
      refine ⟨?_, h.gl, ?_, ?_, ?_, ?_, ?_, n2, ?_, ?_⟩
      · rw [hHq, H0]; exact hst0.rel
      · rw [hHq, H0]; exact hst0
      · rw [A0]; exact h.act.defers
      · rw [A0]; exact h.act.tmps.1
      · intro j o t v v' _ _ hL
        simp only [nl] at hL; simp at hL
      · intro t v v' _ hv hv'
        rw [A0] at hv
        obtain ⟨x1, e1⟩ := Array.getElem?_eq_some_iff.1 hv
        obtain ⟨x2, e2⟩ := Array.getElem?_eq_some_iff.1 hv'
        rw [← e1, ← e2]
        exact h.act.tmps.2 t x1 x2
      · intro o ho
        exact ⟨n4 o ho, nl q⟩
      · intro j o hj ho hc
        exact absurd hc (n3 j o (by omega) hj ho)

end Go.Am
