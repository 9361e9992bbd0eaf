/- Regions that draw their order, with free new variables: every order comes to the text's. -/
import Derived.Test.YtpfpfpeockbbpaaGreatDoorAmLH
namespace Go.Am
/-- What a free operation makes, in the world. -/
theorem upon_free {P : Program} {o : Oper} {a' : Act} {w : World} {next : Act → World → Prop} {Q : Exit → Act → World → Prop} {f : Nat → Value} {ob : Obj} {x : Blk} {n : Nat} (fr : Frees P o.op f ob x n)
    (hn : next (a'.put o.dst (f w.heap.size)) { w with heap := w.heap.push ob }) : o.upon P a' next Q ((execOp a'.eval o).run P w) := by
  generalize hop : o.op = op at fr
  cases fr with
  | alloc e i zv h1 h2 h3 h4 =>
    have hx : execOp a'.eval o = (do Pure.pure (.value (← Instr.alloc e true (.tuple #[])))) := by simp only [execOp, hop]
    have hr : (Instr.alloc e true (.tuple #[])).run P w = .ok (.pointer (some ⟨w.heap.size, 0, none⟩)) { w with heap := w.heap.push (.cells zv.cells e) } := by
      simp [Instr.alloc, run_zero h1 h2, newVar, newRow]
    rw [hx, Sem.run_bind, hr]
    exact hn
  | map e =>
    have hx : execOp a'.eval o = (do Pure.pure (.value (← Instr.makeMap e none))) := by simp only [execOp, hop, Option.map_none]
    have hr : (Instr.makeMap e none).run P w = .ok (.map (some w.heap.size)) { w with heap := w.heap.push (.map #[] 0) } := by
      simp [Instr.makeMap]
    rw [hx, Sem.run_bind, hr]
    exact hn
theorem draw_allF {P : Program} {X : Xf} {K : Kf} (hX : XSnd P X) (hK : KSnd P K) {ops : Array Oper} {A : Nat → Act} {Hs : Nat → Heap} (hs : StaF P ops.toList) (ht : Tra P X K ops A Hs)
    {m0 : Mp} {w0 : World} {Rs : Nat → Prop} {Q : Exit → Act → World → Prop} (hQ : ∀ m a' w', Rel m (Hs ops.toList.length) w' → Gl P m → ActR m (A ops.toList.length) a' → Step m0 (Hs 0) w0 m (Hs ops.toList.length) w' → Q .normal a' w') :
    ∀ (fuel : Nat) (L : Array Bool) (C : Nat → Nat) (q : Nat) (m : Mp) (a' : Act) (w' : World), L.size = ops.size → Down ops.toList (fun i => L.getD i false) → (List.range ops.size).countP (fun i => !L.getD i false) ≤ fuel →
      Pv P ops A Hs m0 w0 Rs (fun i => L.getD i false) C q m a' w' → QEff P ops (fun i => L.getD i false) q → wpAny P .any ops Q fuel L a' w' := by
  have final : ∀ (L : Array Bool) (C : Nat → Nat) (q : Nat) (m : Mp) (a' : Act) (w' : World), L.size = ops.size → Pv P ops A Hs m0 w0 Rs (fun i => L.getD i false) C q m a' w' → QEff P ops (fun i => L.getD i false) q → Region.ready .any ops L = [] → Q .normal a' w' := by
    intro L C q m a' w' hsz hi hqe hr
    have all : ∀ i, i < ops.size → L.getD i false = true := by
      intro i
      induction i using Nat.strongRecOn with
      | _ i ih =>
        intro hlt
        cases e : L.getD i false with
        | true => rfl
        | false =>
          have hmem : i ∈ Region.ready .any ops L := by
            rw [mem_ready]
            refine ⟨?_, ops[i], Array.getElem?_eq_getElem hlt, ?_⟩
            · have hlt2 : i < L.size := by omega
              simp only [Array.getD, hlt2, dif_pos] at e ⊢
              exact e
            · intro x hx hb
              have hlt3 := hs.edge i ops[i] (by simp) x hx hb
              exact ih x.on hlt3 (by omega)
          rw [hr] at hmem; simp at hmem
    have hlen : ops.toList.length = ops.size := by simp
    have hq : q = ops.toList.length := by
      rcases Nat.eq_or_lt_of_le hi.ple with e | e
      · exact e
      · have := (hqe _ (List.getElem?_eq_getElem e)).2
        have this : L.getD q false = false := this
        rw [all q (by omega)] at this; simp at this
    subst hq
    refine hQ m a' w' hi.rel hi.gl ⟨?_, ?_⟩ hi.step
    · have hsz2 := ht.size ops.toList.length (Nat.le_refl _)
      refine ⟨by rw [hsz2]; exact hi.size, fun t h1 h2 => ?_⟩
      by_cases hw : ∃ (j : Nat) (oj : Oper), ops.toList[j]? = some oj ∧ oj.dst = some t
      · obtain ⟨j, oj, hj, hjd⟩ := hw
        have hj2 := lt_len hj
        exact hi.done j oj t _ _ hj hjd (all j (by omega)) (fun _ => hj2) (Array.getElem?_eq_getElem h1) (Array.getElem?_eq_getElem h2)
      · have hsl := ht.slot t 0 ops.toList.length (by omega) (fun k ok _ _ c d => hw ⟨k, ok, c, d⟩)
        rw [Nat.zero_add] at hsl
        refine hi.kept t _ _ (fun j oj a _ c => hw ⟨j, oj, a, c⟩) ?_ (Array.getElem?_eq_getElem h2)
        rw [← hsl]; exact Array.getElem?_eq_getElem h1
    · rw [ht.defers _ (Nat.le_refl _)]; exact hi.defers
  intro fuel
  induction fuel with
  | zero =>
    intro L C q m a' w' hsz hd hc hi hqe
    have hr : Region.ready .any ops L = [] := by
      rw [List.eq_nil_iff_forall_not_mem]
      intro i hmem
      rw [mem_ready] at hmem
      obtain ⟨h0, o, ho, _⟩ := hmem
      have hlt := (Array.getElem?_eq_some_iff.1 ho).1
      have : 0 < (List.range ops.size).countP (fun i => !L.getD i false) := by
        rw [List.countP_pos_iff]
        refine ⟨i, List.mem_range.2 hlt, ?_⟩
        have hlt2 : i < L.size := by omega
        have hL' : L.getD i false = false := by
          simp only [Array.getD, hlt2, dif_pos] at h0 ⊢
          exact h0
        simp only [hL']; rfl
      omega
    exact ⟨hr, final L C q m a' w' hsz hi hqe hr⟩
  | succ fuel ih =>
    intro L C q m a' w' hsz hd hc hi hqe
    refine ⟨final L C q m a' w' hsz hi hqe, fun i hmem => ?_⟩
    rw [mem_ready] at hmem
    obtain ⟨h0, o, ho, hp⟩ := hmem
    have hlt := (Array.getElem?_eq_some_iff.1 ho).1
    have hlt2 : i < L.size := by omega
    have hL : L.getD i false = false := by
      simp only [Array.getD, hlt2, dif_pos] at h0 ⊢; exact h0
    have ho' : ops.toList[i]? = some o := by simpa using ho
    have hilen := lt_len ho'
    have hset : ∀ j, (L.setIfInBounds i true).getD j false = if j = i then true else L.getD j false := by
      intro j
      by_cases e : j = i
      · subst e; simp [hlt2]
      · have : i ≠ j := Ne.symm e
        rw [getD_set_ne false this]; simp [e]
    have hfun : (fun j => (L.setIfInBounds i true).getD j false) = fun j => if j = i then true else L.getD j false := funext hset
    have hd2 : Down ops.toList (fun j => (L.setIfInBounds i true).getD j false) := by
      intro j oj hj hLj e he hb
      simp only [hset] at hLj ⊢
      by_cases ej : j = i
      · subst ej
        rw [ho'] at hj; simp only [Option.some.injEq] at hj; subst hj
        have := hp e he hb
        by_cases ee : e.on = j <;> simp [ee, this]
      · simp only [ej, if_false] at hLj
        have := hd j oj hj hLj e he hb
        by_cases ee : e.on = i <;> simp [ee, this]
    have hc2 : (List.range ops.size).countP (fun j => !(L.setIfInBounds i true).getD j false) ≤ fuel := by
      have := count_lt (p := fun j => !L.getD j false) (q := fun j => !(L.setIfInBounds i true).getD j false) (List.range ops.size)
        (fun x _ hx => by
          simp only [hset] at hx
          by_cases e : x = i
          · simp [e] at hx
          · simpa [e] using hx) ⟨i, List.mem_range.2 hlt, by simp [hL], by simp [hset]⟩
      omega
    have sees := fun (t : Nat) (hl : t ∈ looks ops.toList o) (v v' : Value) => hi.sees hs ht hqe hd ho' hp hL hl (v := v) (v' := v')
    have hszA : (A i).tmps.size = a'.tmps.size := by rw [ht.size i (by omega)]; exact hi.size
    have hguard : ∀ b, guardB ops o (A i) = some b → Region.wanted o (yielded ops a'.tmps) = b := fun b hb =>
      guardB_sees hszA hb (fun j want d hg hdd v v' => sees d (looks_guard hg hdd) v v')
    -- whatever is done, what can be taken up is taken up
    have on : ∀ {C2 : Nat → Nat} {p2 : Nat} {m2 : Mp} {a2 : Act} {w2 : World}, Pv P ops A Hs m0 w0 Rs (fun j => if j = i then true else L.getD j false) C2 p2 m2 a2 w2 → wpAny P .any ops Q fuel (L.setIfInBounds i true) a2 w2 := by
      intro C2 p2 m2 a2 w2 hp2
      obtain ⟨q3, m3, h3, e3, _⟩ := hp2.settle hs ht (ops.toList.length - p2) p2 m2 (by have := hp2.ple; omega)
      refine ih (L.setIfInBounds i true) C2 q3 m3 a2 w2 (by simpa using hsz) hd2 hc2 ?_ ?_
      · rw [hfun]; exact h3
      · rw [hfun]; exact e3
    unfold wpOp
    simp only [ho]
    cases hf : freeA o with
    | true =>
      obtain ⟨t, hg, hdst, _⟩ := freeA_spec hf
      have hgb : guardB ops o (A i) = some true := by unfold guardB; rw [hg]
      rw [if_pos (hguard true hgb)]
      left
      obtain ⟨f, ob, x, n, z1, _, z3⟩ := free_step ht ho' hf hdst
      have hiq : q ≤ i := by
        rcases Nat.lt_or_ge i q with g | g
        · have this : L.getD i false = true := hi.low i o g ho' (freeA_cls hf P)
          rw [this] at hL; cases hL
        · exact g
      unfold Oper.wp
      refine upon_free z1 ?_
      exact on (hi.early hs ho' hf hdst hL hiq z1)
    | false =>
      have goOn : ∀ (m2 : Mp) (q2 : Nat) (v v' : Value) (w2 : World), A (i + 1) = (A i).put o.dst v → Step m (Hs q) w' m2 (Hs q2) w2 → VR m2 v v' → (q2 = q ∧ cls P o < 2 ∨ q2 = q + 1 ∧ i = q) →
          wpAny P .any ops Q fuel (L.setIfInBounds i true) (a'.put o.dst v') w2 := by
        intro m2 q2 v v' w2 hA hst hv hqq
        refine on (hi.put hs ht ho' hf hA hst hv (by omega) (by have := hi.ple; omega) (fun j oj h1 h2 h3 => ?_) (fun h2 => by omega) (fun j oj h1 h2 h3 => ?_))
        · rcases hqq with ⟨e, _⟩ | ⟨e, e'⟩
          · exact .inl (hi.low j oj (by omega) h2 h3)
          · rcases Nat.lt_or_ge j q with g | g
            · exact .inl (hi.low j oj g h2 h3)
            · exact .inr (by omega)
        · rcases hqq with ⟨e, _⟩ | ⟨e, e'⟩
          · omega
          · have : j = i := by omega
            subst this
            rw [ho'] at h3; simp only [Option.some.injEq] at h3; subst h3; exact hf
      rcases ht.step i o ho' with ⟨hg, hok, v, hy, hA⟩ | ⟨hg, hA, hH⟩
      · rw [if_pos (hguard true hg)]
        left
        have hρ : ∀ x ∈ o.op.operands.toList, VR m ((A i).eval x) (a'.eval x) := by
          intro x hx
          refine eval_sees hi.gl hszA (List.all_eq_true.1 hok x hx) (fun t e v v' => sees t ?_ v v')
          subst e
          exact looks_operand hx
        unfold Oper.wp
        by_cases hc : cls P o = 2
        · have hiq := hi.next hs hqe hd ho' hp hL hc hf
          subst hiq
          refine opK_sound hX hK hi.rel hi.gl hρ (k := fun v H' => some (.ret v, H')) (kp := fun _ _ => none) (r := (.ret v, Hs (i + 1))) ⟨?_, ?_⟩ (hy _ _)
          · intro m2 u u' H2 w2 hv hst hk
            simp only [Option.some.injEq, Prod.mk.injEq, End.ret.injEq] at hk
            obtain ⟨rfl, rfl⟩ := hk
            exact goOn m2 (i + 1) u u' w2 hA hst hv (.inr ⟨rfl, rfl⟩)
          · intro m2 c c' H2 w2 hv hst hk
            simp at hk
        · have hc2' : cls P o < 2 := by have := cls_le P o; omega
          have hyq := hi.quiet hs ht hqe hd ho' hp hL hg hc2' hy hA
          refine opK_sound hX hK hi.rel hi.gl hρ (k := fun v H' => some (.ret v, H')) (kp := fun _ _ => none) (r := (.ret v, Hs q)) ⟨?_, ?_⟩ (hyq _ _)
          · intro m2 u u' H2 w2 hv hst hk
            simp only [Option.some.injEq, Prod.mk.injEq, End.ret.injEq] at hk
            obtain ⟨rfl, rfl⟩ := hk
            exact goOn m2 q u u' w2 hA hst hv (.inl ⟨rfl, hc2'⟩)
          · intro m2 c c' H2 w2 hv hst hk
            simp at hk
      · rw [if_neg (by rw [hguard false hg]; simp)]
        by_cases hc : cls P o = 2
        · have hiq := hi.next hs hqe hd ho' hp hL hc hf
          subst hiq
          exact goOn m (i + 1) undef undef w' hA (by rw [hH]; exact .refl hi.rel) (.undef m) (.inr ⟨rfl, rfl⟩)
        · exact goOn m q undef undef w' hA (.refl hi.rel) (.undef m) (.inl ⟨rfl, by have := cls_le P o; omega⟩)
end Go.Am
