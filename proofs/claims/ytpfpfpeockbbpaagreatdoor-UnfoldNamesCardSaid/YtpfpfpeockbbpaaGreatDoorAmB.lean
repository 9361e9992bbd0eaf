/- Frames that defer: soundness. -/
import Derived.Test.YtpfpfpeockbbpaaGreatDoorAmLM
import Derived.Test.YtpfpfpeockbbpaaGreatDoorAmR
namespace Go.Am

theorem recM_sound {m : Mp} {u : FrameMode} {c₀ : Frame} (cs : List Frame) (h : ModeR m u c₀.mode) :
    ∃ v' u2, VR m (recM u).1 v' ∧ ModeR m (recM u).2 u2 ∧ (match recoverD (c₀ :: cs) with | some (v, cs') => v = v' ∧ cs' = { c₀ with mode := u2 } :: cs | none => v' = .nilIface ∧ u2 = c₀.mode) := by
  obtain ⟨fnx, tmpsx, todox, defx, modex, kindx, rx⟩ := c₀
  simp only at h
  cases h with
  | returning => exact ⟨.nilIface, .returning, .atom _ rfl, .returning, by simp [recoverD]⟩
  | panicking o o' ho =>
    cases o with
    | nil =>
      have : o' = [] := by have := ho.1; simpa using this.symm
      subst this
      exact ⟨.nilIface, _, .atom _ rfl, .panicking _ _ ho, by simp [recoverD]⟩
    | cons p r =>
      obtain ⟨p', r', rfl, hv, h1, h2, hr⟩ := ho.cons_inv
      obtain ⟨v, rc, ge⟩ := p
      obtain ⟨v', rc', ge'⟩ := p'
      simp only at hv h1 h2
      subst h1 h2
      by_cases e : rc = false ∧ ge = false
      · obtain ⟨rfl, rfl⟩ := e
        refine ⟨v', .panicking ({ v := v', recovered := true } :: r'), by simpa [recM] using hv, ?_, by simp [recoverD]⟩
        simp only [recM, and_self, if_true]
        exact .panicking _ _ (PanR.cons hv rfl rfl hr)
      · refine ⟨.nilIface, _, by simp only [recM, if_neg e]; exact .atom _ rfl, by simp only [recM, if_neg e]; exact .panicking _ _ ho, ?_⟩
        cases rc <;> cases ge <;> first | (exact absurd ⟨rfl, rfl⟩ e) | simp [recoverD]

theorem wpOpsS_cons {P : Program} {ops : Array Oper} {Q : Exit → Act → List Frame → World → Prop} {cs : List Frame} {n : Nat} {rest : List Nat} {o : Oper} {a : Act} {w : World} (ho : ops[n]? = some o)
    (hw : Region.wanted o (yielded ops a.tmps) = true) (h : o.wp P a w (fun a' w' => wpOpsS P ops Q rest a' cs w') (fun e a' w' => Q e a' cs w')) : wpOpsS P ops Q (n :: rest) a cs w := by
  simp only [wpOpsS, ho, hw, if_true]
  unfold Oper.wp at h
  split
  · rename_i w' hr
    rw [hr] at h
    exact h.elim
  · exact h

theorem execOpsS_sound {P : Program} {X : Xf} {K : Kf} (hX : XSnd P X) (hK : KSnd P K) {ops : Array Oper} {r : End × Heap} {k : Act → Heap → R} {kp : List PanicEntry → Act → Heap → R} {Q : Exit → Act → List Frame → World → Prop} {cs : List Frame} :
    ∀ (l : List Oper) (n : Nat) (_ : l = ops.toList.drop n) {a a' : Act} {m : Mp} {H : Heap} {w : World}, StR P m a H a' w → execOps P X K ops l a H k kp = some r →
    (∀ b' w', After P m H w (fun b H' => k b H' = some r) b' w' → Q .normal b' cs w') →
    (∀ c' b' w', AfterP P m H w c' (fun c b H' => kp c b H' = some r) b' w' → Q (.panic c') b' cs w') →
    wpOpsS P ops Q ((List.range ops.size).drop n) a' cs w := by
  intro l
  induction l with
  | nil =>
    intro n hl a a' m H w h he hn hp
    have hlen : ops.size ≤ n := by
      have := congrArg List.length hl
      simp at this; omega
    rw [List.drop_of_length_le (by simpa using hlen)]
    exact hn _ _ ⟨m, a, H, h, .refl h.rel, he⟩
  | cons o rest ih =>
    intro n hl a a' m H w h he hn hp
    have hlt : n < ops.size := by
      have := congrArg List.length hl
      simp at this; omega
    have hd : (List.range ops.size).drop n = n :: (List.range ops.size).drop (n + 1) := by
      rw [List.drop_eq_getElem_cons (by simpa using hlt)]
      simp
    have hl2 : ops.toList.drop n = ops[n] :: ops.toList.drop (n + 1) := by
      rw [List.drop_eq_getElem_cons (by simpa using hlt)]
      simp
    rw [hl2] at hl
    simp only [List.cons.injEq] at hl
    obtain ⟨rfl, hrest⟩ := hl
    rw [hd]
    simp only [execOps] at he
    obtain ⟨b, hb, hc⟩ := guardK_sound h he
    rcases hc with ⟨hw, hr⟩ | ⟨hw, hr⟩
    · refine wpOpsS_cons (Array.getElem?_eq_getElem hlt) hw ?_
      refine execOp1_sound hX hK hb hr (fun b2 w2 ha => ?_) (fun c2 b2 w2 ha => hp c2 b2 w2 ha)
      obtain ⟨m2, b3, H3, s1, s2, s3⟩ := ha
      exact ih (n + 1) hrest s1 s3 (fun b4 w4 ha4 => hn b4 w4 (ha4.mono s2 (fun _ _ x => x))) (fun c4 b4 w4 ha4 => hp c4 b4 w4 (ha4.mono s2 (fun _ _ _ x => x)))
    · simp only [wpOpsS, Array.getElem?_eq_getElem hlt]
      rw [if_neg (by simp [hw])]
      exact ih (n + 1) hrest (hb.put _ (.undef m)) hr hn hp

/-- What a deferred call leaves. -/
def DEnd (m : Mp) (H : Heap) (w : World) (kd : End → FrameMode → Heap → R) (r : End × Heap) (e : Ending) (u' : FrameMode) (w' : World) : Prop :=
  ∃ m1 en uu H1, EndR m1 en e ∧ ModeR m1 uu u' ∧ Step m H w m1 H1 w' ∧ kd en uu H1 = some r

theorem nil_of_DRs {m : Mp} {l l' : List Deferred} (h : DRs m l l') (e : l = []) : l' = [] := by
  cases h with
  | nil => rfl
  | cons => cases e

theorem finD_sound {P : Program} {fn : Func} {u : FrameMode} {kd : End → FrameMode → Heap → R} {r : End × Heap} {m : Mp} {H : Heap} {w : World} {m0 : Mp} {u' : FrameMode} (hu : ModeR m0 u u') (hle : m0.le m)
    {e : Exit} {a : Act} {w1 : World} (hq : OutQ P m H w (finD P fn u kd) r e a w1) :
    (match e with
      | .normal | .ret => a.defers = [] ∧ ∃ v, (results fn a.tmps).run P w1 = .ok v w1 ∧ DEnd m H w kd r (.returned v) u' w1
      | .panic c => a.defers = [] ∧ DEnd m H w kd r (.panicked c) u' w1
      | _ => False) := by
  have fin : ∀ (m1 : Mp) (a1 : Act) (H1 : Heap), StR P m1 a1 H1 a w1 → Step m H w m1 H1 w1 → finD P fn u kd .norm a1 H1 = some r → a.defers = [] ∧ ∃ v, (results fn a.tmps).run P w1 = .ok v w1 ∧ DEnd m H w kd r (.returned v) u' w1 := by
    intro m1 a1 H1 s1 s2 s3
    simp only [finD] at s3
    split at s3
    · rename_i hd
      split at s3
      · rename_i l hl
        obtain ⟨v', q1, q2⟩ := results_sound s1.rel s1.act.tmps hl
        exact ⟨nil_of_DRs s1.act.defers hd, v', q1, m1, .ret (oneOf l), u, H1, q2, hu.mono (Mp.le_trans hle s2.later.1), s2, s3⟩
      · simp at s3
    · simp at s3
  cases e with
  | normal => obtain ⟨m1, a1, H1, s1, s2, s3⟩ := hq; exact fin m1 a1 H1 s1 s2 s3
  | ret => obtain ⟨m1, a1, H1, s1, s2, s3⟩ := hq; exact fin m1 a1 H1 s1 s2 s3
  | exit id => obtain ⟨m1, a1, H1, s1, s2, s3⟩ := hq; simp [finD] at s3
  | goto l => obtain ⟨m1, a1, H1, s1, s2, s3⟩ := hq; simp [finD] at s3
  | panic c' =>
    obtain ⟨m1, c1, a1, H1, s0, s1, s2, s3⟩ := hq
    simp only [finD] at s3
    split at s3
    · rename_i hd
      exact ⟨nil_of_DRs s1.act.defers hd, m1, .pan c1, u, H1, s0, hu.mono (Mp.le_trans hle s2.later.1), s2, s3⟩
    · simp at s3
  | outgrown => exact hq.elim

theorem act0_rel {P : Program} {m : Mp} {H : Heap} {w : World} (hrel : Rel m H w) (hgl : Gl P m) (fn : Func) {args args' : Array Value} (ha : VRa m args args') : StR P m (act0 fn args) H (act0 fn args') w := by
  refine ⟨⟨?_, .nil⟩, hrel, hgl⟩
  simp only [act0, ← ha.1]
  exact ha.append (VRa.replicate _ (.undef m))

theorem isRec_exec {o : Oper} (h : isRec o = true) : o.guard = none ∧ ∀ (P : Program) (ρ : Operand → Value) (w : World), (execOp ρ o).run P w = .ok .recover w := by
  unfold isRec at h
  split at h
  · rename_i c hc
    split at h
    · rename_i hcl
      simp only [Bool.and_eq_true, Option.isNone_iff_eq_none] at h
      refine ⟨h.1, fun P ρ w => ?_⟩
      simp [execOp, hc, hcl, resolve, invoke, builtin]
    · simp at h
  · simp at h

theorem bodyD_sound {P : Program} {X : Xf} {K : Kf} {N : Nat} (hX : XSnd P X) (hK : KSnd P K) (hD : DSnd P X K) {g : FuncId} {fn : Func} {c : Code} (hf : P.funcs[g]? = some fn) (hb : fn.body = some c)
    {args args' : Array Value} {u u' : FrameMode} {m : Mp} {H : Heap} {w : World} (hrel : Rel m H w) (hgl : Gl P m) (ha : VRa m args args') (hu : ModeR m u u') {kd : End → FrameMode → Heap → R} {r : End × Heap}
    (he : bodyD P X K N fn c args u H kd = some r) : CallsD P g args' u' w (DEnd m H w kd r) := by
  have hst := act0_rel hrel hgl fn ha
  have plain : exec P X K N c none (act0 fn args) H (finD P fn u kd) = some r → CallsD P g args' u' w (DEnd m H w kd r) := by
    intro hp
    refine (callsD_of_wp hf hb (R := fun e w1 => DEnd m H w kd r e u' w1) (OutQ.wp_mono (exec_sound hX hK hD r c none c rfl hst hp) ?_)).mono fun e u2 w1 ⟨h1, h2⟩ => h1 ▸ h2
    intro e a w1 hq
    have := finD_sound hu (Mp.le_refl m) hq
    cases e <;> first | exact this | exact this.elim
  unfold bodyD at he
  split at he
  · rename_i id ops rest
    split at he
    · rename_i o os hos
      cases hr : isRec o with
      | false => rw [hr] at he; exact plain he
      | true =>
      rw [hr] at he
      simp only [cond_true] at he
      obtain ⟨hgu, hex⟩ := isRec_exec hr
      refine callsD_of_wpS hf hb fun c₀ cs hc₀ => ?_
      subst hc₀
      obtain ⟨v', u2, hv', hu2, hrec⟩ := recM_sound cs hu
      have ho : ops[0]? = some o := by rw [← Array.getElem?_toList, hos]; rfl
      have hsz : 0 < ops.size := by rw [← Array.length_toList, hos]; simp
      have hdr : List.range ops.size = 0 :: (List.range ops.size).drop 1 := by
        have := List.drop_eq_getElem_cons (l := List.range ops.size) (i := 0) (by simpa using hsz)
        simpa using this
      have hw : Region.wanted o (yielded ops (act0 fn args').tmps) = true := by simp [Region.wanted, hgu]
      have hput := hst.put o.dst hv'
      have main : wpOpsS P ops (Exit.thenS (rest.wpS P (bodyPostS P fn c₀ cs (DEnd m H w kd r))) (bodyPostS P fn c₀ cs (DEnd m H w kd r))) ((List.range ops.size).drop 1) ((act0 fn args').put o.dst v') ({ c₀ with mode := u2 } :: cs) w := by
        refine execOpsS_sound hX hK os 1 (by rw [hos]; rfl) hput he ?_ ?_
        · intro b1 w1 hA
          obtain ⟨m1, a1, H1, s1, s2, s3⟩ := hA
          show rest.wpS P _ b1 _ w1
          refine wpS_of_wp (OutQ.wp_mono (exec_sound hX hK hD r rest none rest rfl s1 s3) ?_)
          intro e a w2 hq
          have := finD_sound hu2 (Mp.le_refl m) (OutQ.of s2 hq)
          cases e with
          | normal => obtain ⟨hd, v, q1, q2⟩ := this; exact ⟨hd, u2, rfl, v, q1, q2⟩
          | ret => obtain ⟨hd, v, q1, q2⟩ := this; exact ⟨hd, u2, rfl, v, q1, q2⟩
          | panic c2 => obtain ⟨hd, q2⟩ := this; exact ⟨hd, u2, rfl, q2⟩
          | exit id => exact this.elim
          | goto l => exact this.elim
          | outgrown => exact this.elim
        · intro c' b1 w1 hA
          have hq : OutQ P m H w (finD P fn (recM u).2 kd) r (.panic c') b1 w1 := hA
          obtain ⟨hd, q2⟩ := finD_sound hu2 (Mp.le_refl m) hq
          exact ⟨hd, u2, rfl, q2⟩
      refine wpS_seq (wpS_region ?_)
      rw [hdr]
      show wpOpsS P ops _ (0 :: (List.range ops.size).drop 1) (act0 fn args') (c₀ :: cs) w
      simp only [wpOpsS, ho, hw, if_true]
      rw [hex]
      simp only
      cases hrd : recoverD (c₀ :: cs) with
      | some x =>
        obtain ⟨v, cs'⟩ := x
        rw [hrd] at hrec
        simp only at hrec
        obtain ⟨rfl, rfl⟩ := hrec
        exact main
      | none =>
        rw [hrd] at hrec
        simp only at hrec
        obtain ⟨rfl, rfl⟩ := hrec
        exact main
    · exact plain he
  · exact plain he
/-- Frames that are left: what is named is alike. -/
def TmpsR (wk : Bool) (m : Mp) (ts ts' : Array Value) : Prop := ts.size = ts'.size ∧ ∀ (t : Nat) (h : t < ts.size) (h' : t < ts'.size), (wk = true ∧ isUndef ts[t] = true) ∨ VR m ts[t] ts'[t]
theorem TmpsR.mono {wk : Bool} {m m' : Mp} (hm : m.le m') {ts ts' : Array Value} (h : TmpsR wk m ts ts') : TmpsR wk m' ts ts' := ⟨h.1, fun t a b => (h.2 t a b).imp id fun x => x.mono hm⟩
theorem TmpsR.strong {m : Mp} {ts ts' : Array Value} (h : TmpsR false m ts ts') : VRa m ts ts' := ⟨h.1, fun t a b => (h.2 t a b).resolve_left fun x => by cases x.1⟩
theorem TmpsR.getD {wk : Bool} {m : Mp} {ts ts' : Array Value} (h : TmpsR wk m ts ts') (t : Nat) : isUndef (ts.getD t undef) = true ∨ VR m (ts.getD t undef) (ts'.getD t undef) := by
  by_cases c : t < ts.size
  · have c' : t < ts'.size := h.1 ▸ c
    simp only [Array.getD, c, c', dif_pos]
    exact (h.2 t c c').imp (fun x => x.2) id
  · simp only [Array.getD, c, dif_neg, not_false_eq_true]
    exact .inl rfl
theorem resL_weak {P : Program} {m : Mp} {H : Heap} {w : World} (h : Rel m H w) {ts ts' : Array Value} (hts : TmpsR true m ts ts') : ∀ (l : List ResultVar) (vs : List Value), resL P ts H l = some vs → vs.any isUndef = false →
    ∃ vs', (List.mapM (fun | .tmp t => Pure.pure (ts'.getD t undef) | .cell a t => (do loadVar t (← asAddr (ts'.getD a undef)) : Sem Value)) l : Sem (List Value)).run P w = .ok vs' w ∧ VRs m vs vs'
  | [], vs, he, _ => by simp only [resL, Option.some.injEq] at he; subst he; exact ⟨[], by simp, VRs.nil m⟩
  | .tmp t :: r, vs, he, hu => by
    simp only [resL] at he
    split at he
    · rename_i l hl
      simp only [Option.some.injEq] at he; subst he
      simp only [List.any_cons, Bool.or_eq_false_iff] at hu
      obtain ⟨vs', k1, k2⟩ := resL_weak h hts r l hl hu.2
      have hv := (hts.getD t).resolve_left (by rw [hu.1]; exact Bool.false_ne_true)
      exact ⟨ts'.getD t undef :: vs', by simp only [List.mapM_cons, Sem.run_bind, Sem.run_pure, Result.andThen_ok, k1], VRs.cons hv k2⟩
    · simp at he
  | .cell a t :: r, vs, he, hu => by
    simp only [resL] at he
    split at he
    · rename_i v H' hv
      split at he
      · rename_i l hl
        simp only [Option.some.injEq] at he; subst he
        simp only [List.any_cons, Bool.or_eq_false_iff] at hu
        obtain ⟨vs', k1, k2⟩ := resL_weak h hts r l hl hu.2
        have hp : ∃ b, ts.getD a undef = .pointer (some b) := by
          unfold loadA at hv
          split at hv
          · rename_i b hb; exact ⟨b, hb⟩
          · simp at hv
        obtain ⟨b, hb⟩ := hp
        have hx := (hts.getD a).resolve_left (by rw [hb]; exact Bool.false_ne_true)
        obtain ⟨v', q1, q2, q3⟩ := loadA_read h hx hv
        rw [hb] at hx
        obtain ⟨L, _, _, e⟩ := hx.ptr_inv
        rw [e] at q1
        have q1' : (loadVar t ⟨L.c, L.base + b.off, none⟩).run P w = .ok v' w := by
          simpa [Instr.loadAt, Instr.sureAddr] using q1
        refine ⟨v' :: vs', ?_, VRs.cons q2 k2⟩
        have hA : (asAddr (ts'.getD a undef)).run P w = .ok ⟨L.c, L.base + b.off, none⟩ w := by rw [e]; rfl
        simp only [List.mapM_cons, Sem.run_bind, hA, Result.andThen_ok, q1', k1, Sem.run_pure]
      · simp at he
    · simp at he
theorem results_weak {P : Program} {m : Mp} {H : Heap} {w : World} (h : Rel m H w) {fn : Func} {wk : Bool} {ts ts' : Array Value} (hts : TmpsR wk m ts ts') {vs : List Value} (he : resL P ts H fn.results.toList = some vs) (hu : (wk && vs.any isUndef) = false) :
    ∃ v', (results fn ts').run P w = .ok v' w ∧ VR m (oneOf vs) v' := by
  cases wk with
  | false => exact results_sound h hts.strong he
  | true =>
    rw [Bool.true_and] at hu
    obtain ⟨vs', k1, k2⟩ := resL_weak h hts fn.results.toList vs he hu
    refine ⟨_, ?_, oneOf_sound k2⟩
    unfold results
    have : (fn.results.mapM (fun | .tmp t => Pure.pure (ts'.getD t undef) | .cell a t => (do loadVar t (← asAddr (ts'.getD a undef)) : Sem Value)) : Sem (Array Value)).run P w = .ok vs'.toArray w := by
      rw [Array.mapM_eq_mapM_toList, Sem.run_map, k1]; rfl
    rw [Sem.run_bind]
    refine (congrArg (fun z => Result.andThen z _) this).trans ?_
    rfl
theorem leave_sound {P : Program} {X : Xf} {K : Kf} {N : Nat} (hX : XSnd P X) (hK : KSnd P K) (hD : DSnd P X K) {fn : Func} {wk : Bool} {m0 : Mp} {H0 : Heap} {w0 : World} {r : End × Heap} :
    ∀ (ds ds' : List Deferred) (u u' : FrameMode) {tmps tmps' : Array Value} {m : Mp} {H : Heap} {w : World}, Rel m H w → Gl P m → DRs m ds ds' → ModeR m u u' → TmpsR wk m tmps tmps' → Step m0 H0 w0 m H w → leave P X K N fn wk tmps ds u H = some r →
      Leaves P fn tmps' (fun e w' => ∃ m', EndR m' r.1 e ∧ Step m0 H0 w0 m' r.2 w') ds' u' w := by
  intro ds
  induction ds with
  | nil =>
    intro ds' u u' tmps tmps' m H w hrel hgl hds hu ht hs he
    cases hds
    cases hu with
    | returning =>
      simp only [leave] at he
      split at he
      · rename_i l hl
        cases hu : (wk && l.any isUndef) with
        | true => rw [hu] at he; cases he
        | false =>
          rw [hu] at he
          simp only [cond_false, Option.some.injEq] at he
          subst he
          obtain ⟨v', q1, q2⟩ := results_weak hrel ht hl hu
          exact ⟨v', q1, m, q2, hs⟩
      · simp at he
    | panicking c c' h =>
      simp only [leave, Option.some.injEq] at he
      subst he
      exact ⟨m, h, hs⟩
  | cons d ds ih =>
    intro ds' u u' tmps tmps' m H w hrel hgl hds hu ht hs he
    cases hds with
    | cons hd htl =>
    rename_i d' l'
    obtain ⟨fv, cap, cap', e1, e2, hcap, hda⟩ := hd
    have hur : u' ≠ .run := by cases hu <;> simp
    have he' : ∃ g gn c, fv = .func g ∧ P.funcs[g]? = some gn ∧ (gn.name == "runtime.NumGoroutine") = false ∧ gn.body = some c ∧ bodyD P X K N gn c (d.args ++ cap) u H (fun e u' H' => match e with
          | .ret _ => match settleA u' with | some u2 => leave P X K N fn wk tmps ds u2 H' | none => none
          | .pan ch => leave P X K N fn wk tmps ds (raised u' ch) H') = some r := by
      have key : (match d.target with
          | .fn (.func g) cap => match P.funcs[g]? with
            | some gn => if gn.name == "runtime.NumGoroutine" then none else match gn.body with
              | some c => bodyD P X K N gn c (d.args ++ cap) u H (fun e u' H' => match e with
                | .ret _ => match settleA u' with | some u2 => leave P X K N fn wk tmps ds u2 H' | none => none
                | .pan ch => leave P X K N fn wk tmps ds (raised u' ch) H')
              | none => none
            | none => none
          | _ => none) = some r := by
        cases hu <;> (simp only [leave] at he; exact he)
      rw [e1] at key
      cases fv with
      | func g =>
        simp only at key
        split at key
        · rename_i gn hg
          split at key
          · simp at key
          · rename_i hn
            split at key
            · rename_i c hc
              exact ⟨g, gn, c, rfl, hg, by simpa using hn, hc, key⟩
            · simp at key
        · simp at key
      | _ => simp at key
    obtain ⟨g, gn, c, rfl, hg, hn, hc, hbd⟩ := he'
    have hbs := bodyD_sound hX hK hD hg hc hrel hgl (hda.append hcap) hu hbd
    obtain ⟨dt, da⟩ := d'
    simp only at e2 hda hbs
    subst e2
    refine ⟨hur, .func g, cap', g, da ++ cap', rfl, ?_, hbs.mono ?_⟩
    · have hn' : ¬ gn.name = "runtime.NumGoroutine" := by simpa using hn
      simp [invoke, callFunc, hg, hn', hc]
    · intro e u2 w1 hde
      obtain ⟨m1, en, uu, H1, q1, q2, q3, q4⟩ := hde
      have hle := q3.later.1
      cases en with
      | ret v =>
        simp only at q4
        cases e with
        | returned v' =>
          split at q4
          · rename_i u3 hu3
            exact ih l' u3 _ q3.rel (hgl.mono hle) (htl.mono hle) (q2.settle hu3) (ht.mono hle) (hs.trans q3) q4
          · simp at q4
        | panicked c => exact q1.elim
        | outgrown => exact q1.elim
      | pan ch =>
        simp only at q4
        cases e with
        | panicked c => exact ih l' _ _ q3.rel (hgl.mono hle) (htl.mono hle) (q2.raised q1) (ht.mono hle) (hs.trans q3) q4
        | returned v' => exact q1.elim
        | outgrown => exact q1.elim

theorem callR_sound {P : Program} {X : Xf} {N : Nat} {hk : Hook} (hX : XSnd P X) (hH : HookSnd P hk) (hm : P.follows .mixedOrders = true) : ∀ d, KSnd P (callR P X N hk d)
  | 0 => fun f args H r H' he => by simp [callR] at he
  | d + 1 => by
    have hK := callR_sound (X := X) (N := N) hX hH hm d
    intro f args H r H' he m w args' hrel hgl hargs
    simp only [callR] at he
    split at he
    · rename_i r' hr
      rw [he] at hr
      exact hH f args H r H' hr m w args' hrel hgl hargs
    · split at he
      · rename_i fn hf
        split at he
        · rename_i c hb
          have hD : DSnd P X (callR P X N hk d) := fun ops r k kp Q _ _ _ _ _ h he hQ hP id => drawK_sound hX hK hm h he hQ hP id
          refine calls_of_wp_defers hf hb (OutQ.wp_mono (exec_sound hX hK hD (r, H') c none c rfl (act0_rel hrel hgl fn hargs) he) ?_)
          have fin : ∀ (a : Act) (m1 : Mp) (a1 : Act) (H1 : Heap) (w1 : World), StR P m1 a1 H1 a w1 → Step m H w m1 H1 w1 → leave P X (callR P X N hk d) N fn false a1.tmps a1.defers .returning H1 = some (r, H') →
              Leaves P fn a.tmps (fun e w' => ∃ m', EndR m' r e ∧ Step m H w m' H' w') a.defers .returning w1 :=
            fun a m1 a1 H1 w1 s1 s2 s3 => leave_sound hX hK hD _ _ _ _ s1.rel s1.gl s1.act.defers .returning ⟨s1.act.tmps.1, fun t a b => .inr (s1.act.tmps.2 t a b)⟩ s2 s3
          intro e a w1 hq
          cases e with
          | normal => obtain ⟨m1, a1, H1, s1, s2, s3⟩ := hq; exact fin a m1 a1 H1 w1 s1 s2 s3
          | ret => obtain ⟨m1, a1, H1, s1, s2, s3⟩ := hq; exact fin a m1 a1 H1 w1 s1 s2 s3
          | exit id => obtain ⟨m1, a1, H1, s1, s2, s3⟩ := hq; simp [finishR] at s3
          | goto l => obtain ⟨m1, a1, H1, s1, s2, s3⟩ := hq; simp [finishR] at s3
          | panic c' =>
            obtain ⟨m1, c1, a1, H1, s0, s1, s2, s3⟩ := hq
            exact leave_sound hX hK hD _ _ _ _ s1.rel s1.gl s1.act.defers (.panicking _ _ s0) ⟨s1.act.size, fun t a b => (s1.act.tmps t a b).imp (fun x => ⟨rfl, x⟩) id⟩ s2 s3
          | outgrown => exact hq.elim
        · simp at he
      · simp at he
end Go.Am
