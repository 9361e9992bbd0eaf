/- Regions that draw their order: one operation more, over a frame of which a part is hidden; objects that are nobody's yet. -/
import Derived.Test.YtpfpfpeockbbpaaGreatDoorAmLJ
namespace Go.Am
section
variable {P : Program} {X : Xf} {K : Kf} {ops : Array Oper} {A : Nat → Act} {Hs : Nat → Heap} {m0 : Mp} {w0 : World} {Rs : Nat → Prop}
theorem Step.kept {m m2 : Mp} {H H2 : Heap} {w w2 : World} (h : Step m H w m2 H2 w2) : ∀ c, c < w.heap.size → (∀ b Lc, m b = some Lc → Lc.c ≠ c) → w2.heap[c]? = w.heap[c]? := fun c hc hu =>
  h.keep.block c hc fun ⟨b, _, L, _, _, hm, e⟩ => hu b L hm e
/-- One operation more. -/
theorem Pv.oper (hX : XSnd P X) (hK : KSnd P K) (hs : StaF P ops.toList) (ht : Tra P X K ops A Hs) {L : Nat → Bool} {C : Nat → Nat} {q : Nat} {m : Mp} {am : Act} {w' : World} (hi : Pv P ops A Hs m0 w0 Rs L C q m am w') (hqe : QEff P ops L q) (hd : Down ops.toList L)
    {i : Nat} {o : Oper} (ho : ops.toList[i]? = some o) (hp : ∀ e ∈ o.after, Region.binds .any e = true → L e.on = true) (hL : L i = false) (hgn : o.guard = none) {ar : Act} (hev : ∀ x ∈ o.op.operands.toList, ar.eval x = am.eval x)
    {next : Act → World → Prop} {Q : Exit → Act → World → Prop}
    (hn : ∀ C2 p2 m2 v' w2, Pv P ops A Hs m0 w0 Rs (fun j => if j = i then true else L j) C2 p2 m2 (am.put o.dst v') w2 → m.le m2 →
      (∀ c, c < w'.heap.size → (∀ b Lc, m b = some Lc → Lc.c ≠ c) → w2.heap[c]? = w'.heap[c]?) → next (ar.put o.dst v') w2) :
    o.upon P ar next Q ((execOp ar.eval o).run P w') := by
  have hilen := lt_len ho
  have sees := fun (t : Nat) (hl : t ∈ looks ops.toList o) (v v' : Value) => hi.sees hs ht hqe hd ho hp hL hl (v := v) (v' := v')
  have hszA : (A i).tmps.size = am.tmps.size := by rw [ht.size i (by omega)]; exact hi.size
  have hgb : guardB ops o (A i) = some true := by unfold guardB; rw [hgn]
  cases hf : freeA o with
  | true =>
    obtain ⟨t, hg, hdst, _⟩ := freeA_spec hf
    obtain ⟨f, ob, x, n, z1, _, z3⟩ := free_step ht ho hf hdst
    have hiq : q ≤ i := by
      rcases Nat.lt_or_ge i q with g | g
      · have := hi.low i o g ho (freeA_cls hf P)
        rw [this] at hL; cases hL
      · exact g
    refine upon_free z1 ?_
    refine hn _ _ _ _ _ (hi.early hs ho hf hdst hL hiq z1) (Mp.le_refl m) fun c hc _ => ?_
    show (w'.heap.push ob)[c]? = _
    rw [Array.getElem?_push]; simp [Nat.ne_of_lt hc]
  | false =>
    have goOn : ∀ (m2 : Mp) (q2 : Nat) (v v' : Value) (w2 : World), A (i + 1) = (A i).put o.dst v → Step m (Hs q) w' m2 (Hs q2) w2 → VR m2 v v' → (q2 = q ∧ cls P o < 2 ∨ q2 = q + 1 ∧ i = q) →
        next (ar.put o.dst v') w2 := by
      intro m2 q2 v v' w2 hA hst hv hqq
      refine hn _ _ _ _ _ (hi.put hs ht ho hf hA hst hv (by omega) (by have := hi.ple; omega) (fun j oj h1 h2 h3 => ?_) (fun h2 => by omega) (fun j oj h1 h2 h3 => ?_)) hst.later.1 hst.kept
      · rcases hqq with ⟨e, _⟩ | ⟨e, e'⟩
        · exact .inl (hi.low j oj (by omega) h2 h3)
        · rcases Nat.lt_or_ge j q with g | g
          · exact .inl (hi.low j oj g h2 h3)
          · exact .inr (by omega)
      · rcases hqq with ⟨e, _⟩ | ⟨e, e'⟩
        · omega
        · have : j = i := by omega
          subst this
          rw [ho] at h3; simp only [Option.some.injEq] at h3; subst h3; exact hf
    rcases ht.step i o ho with ⟨hg, hok, v, hy, hA⟩ | ⟨hg, hA, hH⟩
    · have hρ : ∀ x ∈ o.op.operands.toList, VR m ((A i).eval x) (ar.eval x) := by
        intro x hx
        rw [hev x hx]
        refine eval_sees hi.gl hszA (List.all_eq_true.1 hok x hx) (fun t e v v' => sees t ?_ v v')
        subst e
        exact looks_operand hx
      by_cases hc : cls P o = 2
      · have hiq := hi.next hs hqe hd ho hp hL hc hf
        subst hiq
        refine opK_sound hX hK hi.rel hi.gl hρ (k := fun v H' => some (.ret v, H')) (kp := fun _ _ => none) (r := (.ret v, Hs (i + 1))) ⟨?_, ?_⟩ (hy _ _)
        · intro m2 u u' H2 w2 hv hst hk
          simp only [Option.some.injEq, Prod.mk.injEq, End.ret.injEq] at hk
          obtain ⟨rfl, rfl⟩ := hk
          exact goOn m2 (i + 1) u u' w2 hA hst hv (.inr ⟨rfl, rfl⟩)
        · intro m2 c c' H2 w2 hv hst hk
          simp at hk
      · have hc2' : cls P o < 2 := by have := cls_le P o; omega
        have hyq := hi.quiet hs ht hqe hd ho hp hL hg hc2' hy hA
        refine opK_sound hX hK hi.rel hi.gl hρ (k := fun v H' => some (.ret v, H')) (kp := fun _ _ => none) (r := (.ret v, Hs q)) ⟨?_, ?_⟩ (hyq _ _)
        · intro m2 u u' H2 w2 hv hst hk
          simp only [Option.some.injEq, Prod.mk.injEq, End.ret.injEq] at hk
          obtain ⟨rfl, rfl⟩ := hk
          exact goOn m2 q u u' w2 hA hst hv (.inl ⟨rfl, hc2'⟩)
        · intro m2 c c' H2 w2 hv hst hk
          simp at hk
    · rw [hgb] at hg; simp at hg
/-- An operation that is hidden. -/
theorem Pv.idle (hs : StaF P ops.toList) (ht : Tra P X K ops A Hs) {L : Nat → Bool} {C : Nat → Nat} {q : Nat} {m : Mp} {am : Act} {w' : World} (hi : Pv P ops A Hs m0 w0 Rs L C q m am w')
    {i : Nat} {o : Oper} (ho : ops.toList[i]? = some o) (he : o.op = .assign (.const (.bool false))) (_hgn : o.guard = none) (hdn : o.dst = none) {w2 : World} (hst : Step m (Hs q) w' m (Hs q) w2) :
    Pv P ops A Hs m0 w0 Rs (fun j => if j = i then true else L j) C q m am w2 := by
  have hc : cls P o = 0 := by unfold cls; rw [he]
  have hf : freeA o = false := by unfold freeA; rw [he]
  have hA : ∃ v, A (i + 1) = (A i).put o.dst v := by
    rcases ht.step i o ho with ⟨hg, hok, v, hy, hA⟩ | ⟨hg, hA, hH⟩
    · exact ⟨v, hA⟩
    · exact ⟨undef, hA⟩
  obtain ⟨v, hA⟩ := hA
  have hA2 : A (i + 1) = (A i).put o.dst undef := by rw [hA, hdn]; rfl
  have := hi.put hs ht ho hf hA2 hst (.undef m) (Nat.le_refl q) hi.ple (fun j oj h1 h2 h3 => .inl (hi.low j oj h1 h2 h3)) (fun h2 => by rw [hc] at h2; cases h2) (fun j oj h1 h2 _ => by omega)
  rw [hdn] at this
  exact this
/-- What is nobody's yet may change. -/
theorem Pv.world {L : Nat → Bool} {C : Nat → Nat} {q : Nat} {m : Mp} {am : Act} {w' : World} (hi : Pv P ops A Hs m0 w0 Rs L C q m am w') {c : Nat} (hc : Rs c) (ob : Obj) :
    Pv P ops A Hs m0 w0 Rs L C q m am { w' with heap := w'.heap.setIfInBounds c ob } := by
  obtain ⟨r1, r2, r3, r4⟩ := hi.res c hc
  have hsz : (w'.heap.setIfInBounds c ob).size = w'.heap.size := by simp
  have hoth : ∀ k, k ≠ c → ({ w' with heap := w'.heap.setIfInBounds c ob } : World).heap[k]? = w'.heap[k]? := fun k hk => by
    show (w'.heap.setIfInBounds c ob)[k]? = _
    rw [Array.getElem?_setIfInBounds]; simp [Ne.symm hk]
  have hrel : Rel m (Hs q) { w' with heap := w'.heap.setIfInBounds c ob } := ⟨fun b x hb => by
      obtain ⟨L1, h1, h2⟩ := hi.rel.blk b x hb
      exact ⟨L1, h1, h2.mono (Mp.le_refl m) (hoth _ (r3 b L1 h1))⟩, hi.rel.apart, fun b L1 h1 => by
      have := hi.rel.bound b L1 h1
      show L1.c < (w'.heap.setIfInBounds c ob).size
      omega, hi.rel.fresh⟩
  refine ⟨hrel, hi.gl, ⟨hrel, hi.step.later, ⟨hi.step.keep.os, hi.step.keep.tape, hi.step.keep.output, ?_, fun k hk hown => ?_⟩⟩, hi.defers, hi.size, hi.done, hi.kept, hi.ple, hi.low, hi.nfl, fun j o t h1 h2 h3 h4 h6 => ?_, hi.pdist, fun k hk => ?_⟩
  · show _ ≤ (w'.heap.setIfInBounds c ob).size
    rw [hsz]; exact hi.step.keep.size
  · rw [hoth k (by omega)]; exact hi.step.keep.block k hk hown
  · obtain ⟨f, ob2, x, n, p1, p2, p3, p4, p5⟩ := hi.pend j o t h1 h2 h3 h4 h6
    exact ⟨f, ob2, x, n, p1, p2, by rw [hoth _ (r4 j o h1 h2 h3 h4)]; exact p3, p4, p5⟩
  · obtain ⟨s1, s2, s3, s4⟩ := hi.res k hk
    exact ⟨by show k < (w'.heap.setIfInBounds c ob).size; omega, s2, s3, s4⟩
/-- A new object is kept apart. -/
theorem Pv.reserve {L : Nat → Bool} {C : Nat → Nat} {q : Nat} {m : Mp} {am : Act} {w' : World} (hi : Pv P ops A Hs m0 w0 Rs L C q m am w') {c : Nat} (h1 : c < w'.heap.size) (h2 : w0.heap.size ≤ c) (h3 : ∀ b Lc, m b = some Lc → Lc.c ≠ c)
    (h4 : ∀ (j : Nat) (o : Oper), q ≤ j → ops.toList[j]? = some o → freeA o = true → L j = true → C j ≠ c) : Pv P ops A Hs m0 w0 (fun k => k = c) L C q m am w' :=
  ⟨hi.rel, hi.gl, hi.step, hi.defers, hi.size, hi.done, hi.kept, hi.ple, hi.low, hi.nfl, hi.pend, hi.pdist, fun k hk => by subst hk; exact ⟨h1, h2, h3, h4⟩⟩
theorem Pv.pend_lt {L : Nat → Bool} {C : Nat → Nat} {q : Nat} {m : Mp} {am : Act} {w' : World} (hi : Pv P ops A Hs m0 w0 Rs L C q m am w') : ∀ (j : Nat) (o : Oper), q ≤ j → ops.toList[j]? = some o → freeA o = true → L j = true → C j < w'.heap.size := fun j o h1 h2 h3 h4 => by
  obtain ⟨t, _, h6, _⟩ := freeA_spec h3
  obtain ⟨_, _, _, _, _, _, d2, _⟩ := hi.pend j o t h1 h2 h3 h4 h6
  exact (Array.getElem?_eq_some_iff.1 d2).1
end

/-! Looking up in a mapping whose keys are whole numbers of one kind. -/
theorem findNow_absent {d : TypeDesc} {k0 : IntKind} (hd : d = .int k0) {kd : IntKind} {n : Int} : ∀ (es : List MapEntry) (s : Nat), (∀ e ∈ es, ∃ n', e.key = .int kd n' ∧ n' ≠ n) → Instr.findNow d (.int kd n) es s = some none
  | [], s, _ => rfl
  | e :: es, s, h => by
    obtain ⟨n', e1, e2⟩ := h e (List.mem_cons_self ..)
    simp only [Instr.findNow, e1, hd, Instr.sameNow, if_true]
    have : (n == n') = false := by simpa using fun c => e2 c.symm
    rw [this]
    exact hd ▸ findNow_absent rfl es (s + 1) fun x hx => h x (List.mem_cons_of_mem _ hx)
theorem findNow_present {d : TypeDesc} {k0 : IntKind} (hd : d = .int k0) {kd : IntKind} {n : Int} {v : Value} : ∀ (es : List MapEntry) (s : Nat), (∀ e ∈ es, ∃ n', e.key = .int kd n' ∧ (n' = n → e.val = v)) → (∃ e ∈ es, e.key = .int kd n) →
    ∃ j, Instr.findNow d (.int kd n) es s = some (some (j, v))
  | [], s, _, h => by obtain ⟨e, h, _⟩ := h; cases h
  | e :: es, s, h, hx => by
    obtain ⟨n', e1, e2⟩ := h e (List.mem_cons_self ..)
    simp only [Instr.findNow, e1, hd, Instr.sameNow, if_true]
    cases c : (n == n') with
    | true => exact ⟨s, by rw [e2 (by simpa using c : n = n').symm]⟩
    | false =>
      simp only
      refine hd ▸ findNow_present rfl es (s + 1) (fun x hx => h x (List.mem_cons_of_mem _ hx)) ?_
      obtain ⟨y, hy, hk⟩ := hx
      rcases List.mem_cons.1 hy with rfl | hy
      · rw [e1] at hk
        simp only [Value.int.injEq, true_and] at hk
        subst hk
        simp at c
      · exact ⟨y, hy, hk⟩
/-- What a look-up by a number tells. -/
theorem findNow_tells {d : TypeDesc} {k : Value} (hk : keyKind d k = true) {kd : IntKind} : ∀ (es : List MapEntry) (s : Nat) (r : Option (Nat × Value)), (∀ e ∈ es, ∃ n, e.key = .int kd n) → Instr.findNow d k es s = some r → es = [] ∧ r = none ∨
    ∃ k0 n, d = .int k0 ∧ k = .int kd n ∧ ((r = none ∧ ∀ e ∈ es, e.key ≠ .int kd n) ∨ ∃ j e, e ∈ es ∧ e.key = .int kd n ∧ r = some (j, e.val))
  | [], s, r, _, hf => by simp only [Instr.findNow, Option.some.injEq] at hf; exact .inl ⟨rfl, hf.symm⟩
  | e :: es, s, r, h, hf => by
    right
    obtain ⟨n', e1⟩ := h e (List.mem_cons_self ..)
    simp only [Instr.findNow, e1] at hf
    have hkk : ∃ k0 kd' n, d = .int k0 ∧ k = .int kd' n := by
      unfold keyKind at hk
      split at hk
      · exact ⟨_, _, _, rfl, rfl⟩
      · simp [Instr.sameNow] at hf
      · cases hk
    obtain ⟨k0, kd', n, rfl, rfl⟩ := hkk
    simp only [Instr.sameNow] at hf
    by_cases hkd : kd' = kd
    · subst hkd
      rw [if_pos rfl] at hf
      refine ⟨k0, n, rfl, rfl, ?_⟩
      cases c : (n == n') with
      | true =>
        rw [c] at hf
        simp only [Option.some.injEq] at hf
        have : n = n' := by simpa using c
        subst this
        exact .inr ⟨s, e, List.mem_cons_self .., e1, hf.symm⟩
      | false =>
        rw [c] at hf
        simp only at hf
        have hne : n ≠ n' := by simpa using c
        rcases findNow_tells hk es (s + 1) r (fun x hx => h x (List.mem_cons_of_mem _ hx)) hf with ⟨h1, h2⟩ | ⟨_, n2, _, h2, h3⟩
        · subst h1
          refine .inl ⟨h2, fun x hx => ?_⟩
          rcases List.mem_cons.1 hx with rfl | hx
          · rw [e1]; simpa using fun c => hne c.symm
          · cases hx
        · simp only [Value.int.injEq, true_and] at h2
          subst h2
          rcases h3 with ⟨h3, h4⟩ | ⟨j, x, h4, h5, h6⟩
          · refine .inl ⟨h3, fun x hx => ?_⟩
            rcases List.mem_cons.1 hx with rfl | hx
            · rw [e1]; simpa using fun c => hne c.symm
            · exact h4 x hx
          · exact .inr ⟨j, x, List.mem_cons_of_mem _ h4, h5, h6⟩
    · rw [if_neg hkd] at hf; simp at hf
end Go.Am
/- Regions that draw their order, with a mapping that is written down. -/
namespace Go.Am

theorem maskL_get (G : Gath) (ops : List Oper) (i : Nat) : (maskL G ops)[i]? = ops[i]?.map (maskO G i) := by unfold maskL; rw [List.getElem?_mapIdx]
theorem maskO_after (G : Gath) (i : Nat) (o : Oper) : (maskO G i o).after = o.after := by unfold maskO; cases inG G i o <;> rfl
theorem maskO_guard (G : Gath) (i : Nat) (o : Oper) : (maskO G i o).guard = o.guard := by unfold maskO; cases inG G i o <;> rfl
theorem maskO_out {G : Gath} {i : Nat} {o : Oper} (h : inG G i o = false) : maskO G i o = o := by unfold maskO; rw [h]; rfl
theorem maskO_in {G : Gath} {i : Nat} {o : Oper} (h : inG G i o = true) : (maskO G i o).op = .assign (.const (.bool false)) ∧ (maskO G i o).dst = none := by unfold maskO; rw [h]; exact ⟨rfl, rfl⟩
theorem masks_congr : ∀ (l l' : List Oper) (acc : List Nat), l.length = l'.length → (∀ (i : Nat) (o o' : Oper), l[i]? = some o → l'[i]? = some o' → o.after = o'.after) → masks l acc = masks l' acc
  | [], [], _, _, _ => rfl
  | [], _ :: _, _, h, _ => by simp at h
  | _ :: _, [], _, h, _ => by simp at h
  | o :: l, o' :: l', acc, h, ha => by
    have e : maskOf acc o = maskOf acc o' := by unfold maskOf; rw [ha 0 o o' rfl rfl]
    simp only [masks, e]
    exact masks_congr l l' _ (by simpa using h) fun i x y h1 h2 => ha (i + 1) x y (by simpa using h1) (by simpa using h2)
theorem masks_mask (G : Gath) (ops : List Oper) : masks (maskL G ops) [] = masks ops [] := by
  refine masks_congr _ _ _ (by simp [maskL]) fun i o o' h1 h2 => ?_
  rw [maskL_get, h2] at h1
  simp only [Option.map_some, Option.some.injEq] at h1
  rw [← h1, maskO_after]

structure GOk (P : Program) (G : Gath) (ops : List Oper) : Prop where
  g : ∃ o ty, ops[G.g]? = some o ∧ o.op = .makeMap ty none ∧ o.dst = some G.t
  tz : G.zs.contains G.t = true
  draw : StaF P (maskL G ops)
  zs : ∀ t, G.zs.contains t = true → t = G.t ∨ ∃ j o x, j ≠ G.g ∧ ops[j]? = some o ∧ tailOf G.zs o = some (x, t)
  gn : ∀ (i : Nat) (o : Oper), ops[i]? = some o → o.guard = none
  ins : ∀ (i : Nat) (o : Oper) (x : TypeId × IntKind × Int × Tmp), ops[i]? = some o → i ≠ G.g → insOf G.t o = some x → o.dst = none ∧ ((masks ops []).getD i 0).testBit G.g = true ∧ gathIns P G ops i x = true
  tail : ∀ (i : Nat) (o : Oper) (x : Tmp × Tmp), ops[i]? = some o → i ≠ G.g → insOf G.t o = none → tailOf G.zs o = some x → ((masks ops []).getD i 0).testBit G.g = true ∧ gathTail G ops i x = true
  oth : ∀ (i : Nat) (o : Oper), ops[i]? = some o → inG G i o = false → (∀ d, o.dst = some d → G.zs.contains d = false) ∧ ∀ x ∈ o.op.operands.toList, ∀ t, x = .tmp t → G.zs.contains t = false

theorem beq_ne {a b : Nat} (h : Nat.beq a b = false) : a ≠ b := Nat.ne_of_beq_eq_false h
theorem ne_beq {a b : Nat} (h : a ≠ b) : Nat.beq a b = false := by
  cases e : Nat.beq a b with
  | false => rfl
  | true => exact absurd (Nat.eq_of_beq_eq_true e) h
theorem gathOk_spec {P : Program} {G : Gath} {ops : List Oper} (h : gathOk P G ops = true) : GOk P G ops := by
  unfold gathOk at h
  simp only [Bool.and_eq_true, List.all_eq_true, List.mem_range] at h
  obtain ⟨h1, h2, h3, h4, h5⟩ := h
  have hlt : ∀ (i : Nat) (o : Oper), ops[i]? = some o → i < ops.length := fun i o ho => (List.getElem?_eq_some_iff.1 ho).1
  have key := fun (i : Nat) (o : Oper) (ho : ops[i]? = some o) => by
    have := h5 i (hlt i o ho)
    simp only [ho, Bool.and_eq_true, Option.isNone_iff_eq_none] at this
    exact this
  refine ⟨?_, h2, drawOk_spec h3, fun t ht => ?_, fun i o ho => (key i o ho).1, fun i o x ho hg hx => ?_, fun i o x ho hg hx ht => ?_, fun i o ho hi => ?_⟩
  · split at h1
    · rename_i o ho
      simp only [Bool.and_eq_true, beq_iff_eq] at h1
      obtain ⟨h1, hd⟩ := h1
      split at h1
      · rename_i ty hop; exact ⟨o, ty, ho, hop, hd⟩
      · cases h1
    · cases h1
  · have := h4 t (by simpa using ht)
    simp only [Bool.or_eq_true, beq_iff_eq, List.any_eq_true, List.mem_range, Bool.and_eq_true, Bool.not_eq_true'] at this
    rcases this with e | ⟨j, hj, hjg, hm⟩
    · exact .inl e
    · right
      split at hm
      · rename_i x d' hb
        have hd : d' = t := by simpa using hm
        subst hd
        obtain ⟨o, ho, ho2⟩ := Option.bind_eq_some_iff.1 hb
        exact ⟨j, o, x, beq_ne hjg, ho, ho2⟩
      · cases hm
  · have := (key i o ho).2
    rw [ne_beq hg, hx] at this
    simp only [cond_false, Bool.and_eq_true, Option.isNone_iff_eq_none] at this
    exact ⟨this.1, this.2.1, this.2.2⟩
  · have := (key i o ho).2
    rw [ne_beq hg, hx, ht] at this
    simp only [cond_false, Bool.and_eq_true] at this
    exact this
  · unfold inG at hi
    simp only [Bool.or_eq_false_iff, Option.isSome_eq_false_iff, Option.isNone_iff_eq_none] at hi
    have := (key i o ho).2
    rw [hi.1, hi.2.1, hi.2.2] at this
    simp only [cond_false, Bool.and_eq_true] at this
    refine ⟨fun d hd => ?_, fun x hx t ht => ?_⟩
    · have := this.1; rw [hd] at this; simpa using this
    · have := List.all_eq_true.1 this.2 x hx
      rw [ht] at this; simpa using this

theorem hide_get (G : Gath) (a : Act) (t : Nat) : (hideA G a).tmps[t]? = a.tmps[t]?.map fun v => cond (G.zs.contains t) undef v := by simp [hideA]
theorem fill_get (G : Gath) (a : Act) (b t : Nat) : (fillA G a b).tmps[t]? = a.tmps[t]?.map fun v => cond (G.zs.contains t) (.map (some b)) v := by simp [fillA]
theorem hide_size (G : Gath) (a : Act) : (hideA G a).tmps.size = a.tmps.size := by simp [hideA]
theorem act_eq {a b : Act} (h1 : a.tmps = b.tmps) (h2 : a.defers = b.defers) : a = b := by cases a; cases b; simp_all
theorem hide_in {G : Gath} {d : Tmp} (h : G.zs.contains d = true) (a : Act) (v : Value) : hideA G (a.put (some d) v) = hideA G a := by
  refine act_eq (Array.ext_getElem? fun i => ?_) rfl
  rw [hide_get, hide_get]
  by_cases e : d = i
  · subst e
    simp only [Act.put, Array.getElem?_setIfInBounds, if_true]
    by_cases q : d < a.tmps.size
    · have h2 : d ∈ G.zs := by simpa using h
      simp [q, h2]
    · simp [q]
  · rw [put_get _ _ _ _ (by simpa using e)]
theorem hide_out {G : Gath} {d : Option Tmp} (h : ∀ t, d = some t → G.zs.contains t = false) (a : Act) (v : Value) : hideA G (a.put d v) = (hideA G a).put d v := by
  refine act_eq (Array.ext_getElem? fun i => ?_) (by rw [put_defers]; show (a.put d v).defers = a.defers; rw [put_defers])
  rw [hide_get]
  cases hd : d with
  | none => rw [show ((hideA G a).put none v) = hideA G a from rfl, hide_get]; rfl
  | some t =>
    have ht := h t hd
    by_cases e : t = i
    · subst e
      have ht' : t ∉ G.zs := by simpa using ht
      simp only [Act.put, Array.getElem?_setIfInBounds, if_true, hide_size]
      by_cases q : t < a.tmps.size
      · simp [q, ht']
      · simp [q]
    · rw [put_get _ _ _ _ (by simpa using e), put_get _ _ _ _ (by simpa using e), hide_get]
theorem hide_eval {G : Gath} {x : Operand} (h : ∀ t, x = .tmp t → G.zs.contains t = false) (a : Act) : a.eval x = (hideA G a).eval x := by
  cases x with
  | tmp t =>
    have ht := h t rfl
    simp only [Act.eval, Array.getD_eq_getD_getElem?, hide_get, ht, cond_false]
    cases a.tmps[t]? <;> rfl
  | const v => rfl
  | global g => rfl
  | func f => rfl

/-- A mapping under way. -/
structure GSt (G : Gath) (ops : List Oper) (af : Act) (L : Nat → Bool) (m : Mp) (Rs : Nat → Prop) (ar : Act) (w : World) (c0 : Nat) : Prop where
  rs : Rs c0
  obj : ∃ es clock, ∃ (is : List Nat) (en : Nat → MapEntry), w.heap[c0]? = some (.map es clock) ∧ es.toList = is.map en ∧ is.Nodup ∧ (∀ (i : Nat), i ∈ is ↔ L i = true ∧ ∃ o x, ops[i]? = some o ∧ insOf G.t o = some x) ∧
    ∀ (i : Nat) (o : Oper) (x : TypeId × IntKind × Int × Tmp), i ∈ is → ops[i]? = some o → insOf G.t o = some x → (en i).key = .int x.2.1 x.2.2.1 ∧ VR m (af.tmps.getD x.2.2.2 undef) (en i).val
  slot : ∀ v, ar.tmps[G.t]? = some v → v = .map (some c0)
  tails : ∀ j o x t, j ≠ G.g → ops[j]? = some o → tailOf G.zs o = some (x, t) → L j = true → ∀ v, ar.tmps[t]? = some v → v = .map (some c0)
theorem GSt.mono {G : Gath} {ops : List Oper} {af : Act} {L : Nat → Bool} {m m2 : Mp} {Rs : Nat → Prop} {ar : Act} {w : World} {c0 : Nat} (h : GSt G ops af L m Rs ar w c0) (hm : m.le m2) : GSt G ops af L m2 Rs ar w c0 := by
  obtain ⟨h1, ⟨es, clock, is, en, o1, o2, o3, o4, o5⟩, h3, h4⟩ := h
  exact ⟨h1, ⟨es, clock, is, en, o1, o2, o3, o4, fun i o x a b c => ⟨(o5 i o x a b c).1, (o5 i o x a b c).2.mono hm⟩⟩, h3, h4⟩

theorem insOf_spec {t : Tmp} {o : Oper} {x : TypeId × IntKind × Int × Tmp} (h : insOf t o = some x) : o.op = .insert x.1 (.tmp t) (.const (.int x.2.1 x.2.2.1)) (.tmp x.2.2.2) := by
  unfold insOf at h
  split at h
  · rename_i ty m kd n v hop
    split at h
    · rename_i hm
      subst hm
      simp only [Option.some.injEq] at h
      subst h
      exact hop
    · cases h
  · cases h
theorem tailOf_spec {zs : List Tmp} {o : Oper} {x d : Tmp} (h : tailOf zs o = some (x, d)) : (o.op = .move (.tmp x) ∨ o.op = .assign (.tmp x)) ∧ o.dst = some d ∧ zs.contains x = true := by
  unfold tailOf copyOf at h
  split at h
  · rename_i x' d' hc
    split at h
    · rename_i hz
      simp only [Option.some.injEq, Prod.mk.injEq] at h
      obtain ⟨rfl, rfl⟩ := h
      split at hc
      · rename_i e1 e2; simp only [Option.some.injEq, Prod.mk.injEq] at hc; obtain ⟨rfl, rfl⟩ := hc; exact ⟨.inl e1, e2, hz⟩
      · rename_i e1 e2; simp only [Option.some.injEq, Prod.mk.injEq] at hc; obtain ⟨rfl, rfl⟩ := hc; exact ⟨.inr e1, e2, hz⟩
      · cases hc
    · cases h
  · cases h
theorem ins_not_tail {zs : List Tmp} {t : Tmp} {o : Oper} {x : TypeId × IntKind × Int × Tmp} (h : insOf t o = some x) : tailOf zs o = none := by
  cases e : tailOf zs o with
  | none => rfl
  | some y =>
    have h1 := insOf_spec h
    obtain ⟨h2, _⟩ := tailOf_spec (x := y.1) (d := y.2) e
    rw [h1] at h2
    rcases h2 with h2 | h2 <;> cases h2

section
variable {P : Program} {G : Gath} {ops : List Oper}
/-- Two entries of the text have two keys. -/
theorem GOk.keys (ok : GOk P G ops) {i j : Nat} {o o' : Oper} {x y : TypeId × IntKind × Int × Tmp} (hi : ops[i]? = some o) (hj : ops[j]? = some o') (hx : insOf G.t o = some x) (hy : insOf G.t o' = some y) : x.2.1 = y.2.1 ∧ (i ≠ j → x.2.2.1 ≠ y.2.2.1) := by
  have notg : ∀ {k : Nat} {o1 : Oper} {z : TypeId × IntKind × Int × Tmp}, ops[k]? = some o1 → insOf G.t o1 = some z → k ≠ G.g := by
    intro k o1 z hk hz e
    obtain ⟨o2, ty, q1, q2, _⟩ := ok.g
    rw [e, q1] at hk
    simp only [Option.some.injEq] at hk
    subst hk
    rw [insOf_spec hz] at q2
    cases q2
  have lt : ∀ {i j : Nat} {o o' : Oper} {x y : TypeId × IntKind × Int × Tmp}, j < i → ops[i]? = some o → ops[j]? = some o' → insOf G.t o = some x → insOf G.t o' = some y → y.2.1 = x.2.1 ∧ y.2.2.1 ≠ x.2.2.1 := by
    intro i j o o' x y hij hi hj hx hy
    have h1 := (ok.ins i o x hi (notg hi hx) hx).2.2
    obtain ⟨ty, kd, n, v⟩ := x
    obtain ⟨ty', kd', n', v'⟩ := y
    unfold gathIns at h1
    simp only [Bool.and_eq_true] at h1
    have := List.all_eq_true.1 h1.2.2.2 j (List.mem_range.2 hij)
    rw [hj] at this
    simp only [Option.bind_some, hy, Bool.and_eq_true, beq_iff_eq, bne_iff_ne] at this
    exact this
  rcases Nat.lt_trichotomy i j with e | e | e
  · have := lt e hj hi hy hx
    exact ⟨this.1, fun _ => this.2⟩
  · subst e
    rw [hi] at hj; simp only [Option.some.injEq] at hj; subst hj
    rw [hx] at hy; simp only [Option.some.injEq] at hy; subst hy
    exact ⟨rfl, fun h => absurd rfl h⟩
  · have := lt e hi hj hx hy
    exact ⟨this.1.symm, fun _ h => this.2 h.symm⟩
theorem GOk.notg (ok : GOk P G ops) {k : Nat} {o1 : Oper} {z : TypeId × IntKind × Int × Tmp} (hk : ops[k]? = some o1) (hz : insOf G.t o1 = some z) : k ≠ G.g := by
  intro e
  obtain ⟨o2, ty, q1, q2, _⟩ := ok.g
  rw [e, q1] at hk
  simp only [Option.some.injEq] at hk
  subst hk
  rw [insOf_spec hz] at q2
  cases q2
theorem entOf_spec {a : Act} {i : Nat} {e : MapEntry} : entOf G ops a i = some e ↔ ∃ o x, ops[i]? = some o ∧ insOf G.t o = some x ∧ e = { key := .int x.2.1 x.2.2.1, val := a.tmps.getD x.2.2.2 undef, born := 0 } := by
  unfold entOf
  constructor
  · intro h
    split at h
    · rename_i ty kd n v hb
      obtain ⟨o, ho, hx⟩ := Option.bind_eq_some_iff.1 hb
      simp only [Option.some.injEq] at h
      exact ⟨o, _, ho, hx, h.symm⟩
    · cases h
  · rintro ⟨o, ⟨ty, kd, n, v⟩, ho, hx, rfl⟩
    rw [ho]
    simp only [Option.bind_some, hx]
/-- The mapping that is taken up answers as the world's does. -/
theorem GSt.looks (ok : GOk P G ops) {af : Act} {L : Nat → Bool} {m : Mp} {Rs : Nat → Prop} {ar : Act} {w : World} {c0 : Nat} (h : GSt G ops af L m Rs ar w c0) (all : ∀ i, i < ops.length → L i = true) :
    ∃ ob, w.heap[c0]? = some ob ∧ LkR m (.map (entsA G ops af).toArray 0) ob := by
  obtain ⟨es, clock, is, en, o1, o2, o3, o4, o5⟩ := h.obj
  refine ⟨_, o1, _, _, _, _, rfl, rfl, ?_, fun d k hk r hr => ?_⟩
  · have hlen : es.toList.length = is.length := by rw [o2, List.length_map]
    have e1 : (entsA G ops af).length = ((List.range ops.length).filter fun i => (entOf G ops af i).isSome).length := by
      unfold entsA
      rw [List.length_filterMap_eq_countP, List.countP_eq_length_filter]
    have e2 : is.Perm ((List.range ops.length).filter fun i => (entOf G ops af i).isSome) := by
      rw [List.perm_ext_iff_of_nodup o3 (List.Nodup.sublist List.filter_sublist List.nodup_range)]
      intro i
      rw [o4, List.mem_filter, List.mem_range, Option.isSome_iff_exists]
      constructor
      · rintro ⟨_, o, x, ho, hx⟩
        exact ⟨(List.getElem?_eq_some_iff.1 ho).1, _, entOf_spec.2 ⟨o, x, ho, hx, rfl⟩⟩
      · rintro ⟨hlt, e, he⟩
        obtain ⟨o, x, ho, hx, _⟩ := entOf_spec.1 he
        exact ⟨all i hlt, o, x, ho, hx⟩
    simp only [List.size_toArray]
    rw [e1, ← e2.length_eq, ← hlen, Array.length_toList]
  · rw [List.toList_toArray] at hr
    have absn : ∀ e ∈ entsA G ops af, ∃ (i : Nat) (o : Oper) (x : TypeId × IntKind × Int × Tmp), ops[i]? = some o ∧ insOf G.t o = some x ∧ e = { key := .int x.2.1 x.2.2.1, val := af.tmps.getD x.2.2.2 undef, born := 0 } := by
      intro e he
      obtain ⟨i, _, hi⟩ := List.mem_filterMap.1 he
      obtain ⟨o, x, ho, hx, h4⟩ := entOf_spec.1 hi
      exact ⟨i, o, x, ho, hx, h4⟩
    have abso : ∀ (i : Nat) (o : Oper) (x : TypeId × IntKind × Int × Tmp), ops[i]? = some o → insOf G.t o = some x → ({ key := .int x.2.1 x.2.2.1, val := af.tmps.getD x.2.2.2 undef, born := 0 } : MapEntry) ∈ entsA G ops af := fun i o x ho hx =>
      List.mem_filterMap.2 ⟨i, List.mem_range.2 (List.getElem?_eq_some_iff.1 ho).1, entOf_spec.2 ⟨o, x, ho, hx, rfl⟩⟩
    have con : ∀ e ∈ es.toList, ∃ (i : Nat) (o : Oper) (x : TypeId × IntKind × Int × Tmp), i ∈ is ∧ ops[i]? = some o ∧ insOf G.t o = some x ∧ e = en i := by
      intro e he
      rw [o2] at he
      obtain ⟨i, hi, rfl⟩ := List.mem_map.1 he
      obtain ⟨_, o, x, ho, hx⟩ := (o4 i).1 hi
      exact ⟨i, o, x, hi, ho, hx, rfl⟩
    have inis : ∀ (i : Nat) (o : Oper) (x : TypeId × IntKind × Int × Tmp), ops[i]? = some o → insOf G.t o = some x → i ∈ is := fun i o x ho hx => (o4 i).2 ⟨all i (List.getElem?_eq_some_iff.1 ho).1, o, x, ho, hx⟩
    cases hents : entsA G ops af with
    | nil =>
      have hes : es.toList = [] := by
        cases hh : es.toList with
        | nil => rfl
        | cons e l =>
          obtain ⟨i, o, x, _, ho, hx, _⟩ := con e (by rw [hh]; exact List.mem_cons_self ..)
          have := abso i o x ho hx
          rw [hents] at this; cases this
      rw [hents] at hr
      simp only [Instr.findNow, Option.some.injEq] at hr
      subst hr
      rw [hes]
      exact ⟨none, rfl, rfl⟩
    | cons e0 l0 =>
      obtain ⟨i0, p0, x0, hp0, hx0, _⟩ := absn e0 (by rw [hents]; exact List.mem_cons_self ..)
      rcases findNow_tells hk (kd := x0.2.1) (entsA G ops af) 0 r (fun e he => by
          obtain ⟨i, o, x, ho, hx, rfl⟩ := absn e he
          exact ⟨_, by rw [(ok.keys ho hp0 hx hx0).1]⟩) hr with ⟨h1, _⟩ | ⟨k0, n, rfl, rfl, h3⟩
      · rw [hents] at h1; cases h1
      · rcases h3 with ⟨rfl, h4⟩ | ⟨j, e, he, hkey, rfl⟩
        · refine ⟨none, findNow_absent rfl _ _ fun e he => ?_, rfl⟩
          obtain ⟨i, o, x, hi, ho, hx, rfl⟩ := con e he
          refine ⟨x.2.2.1, by rw [(o5 i o x hi ho hx).1, (ok.keys ho hp0 hx hx0).1], fun hn => ?_⟩
          have := h4 _ (abso i o x ho hx)
          simp only [(ok.keys ho hp0 hx hx0).1, hn] at this
          exact this rfl
        · obtain ⟨i, o, x, ho, hx, rfl⟩ := absn e he
          simp only [Value.int.injEq] at hkey
          obtain ⟨hk1, rfl⟩ := hkey
          have hi := inis i o x ho hx
          obtain ⟨j', hj⟩ := findNow_present (d := .int k0) rfl (kd := x0.2.1) (n := x.2.2.1) (v := (en i).val) es.toList 0 (fun e he => by
              obtain ⟨i', o', x', hi', ho', hx', rfl⟩ := con e he
              refine ⟨x'.2.2.1, by rw [(o5 i' o' x' hi' ho' hx').1, (ok.keys ho' hp0 hx' hx0).1], fun hn => ?_⟩
              by_cases e : i' = i
              · rw [e]
              · exact absurd hn ((ok.keys ho' ho hx' hx).2 e)) ⟨en i, by rw [o2]; exact List.mem_map.2 ⟨i, hi, rfl⟩, by rw [(o5 i o x hi ho hx).1, hk1]⟩
          exact ⟨_, hj, j', (en i).val, rfl, (o5 i o x hi ho hx).2⟩
end
end Go.Am
