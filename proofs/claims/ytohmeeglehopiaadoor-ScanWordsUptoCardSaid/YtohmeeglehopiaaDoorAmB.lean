/- Calls whose frames defer; deferred functions that recover first. -/
import Derived.Test.YtohmeeglehopiaaDoorAmC
import Derived.Recover
namespace Go.Am

def recM : FrameMode → Value × FrameMode
  | .panicking (p :: older) => if p.recovered = false ∧ p.goexit = false then (p.v, .panicking ({ v := p.v, recovered := true } :: older)) else (.nilIface, .panicking (p :: older))
  | u => (.nilIface, u)

def isRec (o : Oper) : Bool :=
  match o.op with
  | .call c => match c.callee with | .builtin .recover => o.guard.isNone && c.args.isEmpty | _ => false
  | _ => false

def finD (P : Program) (fn : Func) (u : FrameMode) (kd : End → FrameMode → Heap → R) (o : Out) (a : Act) (H : Heap) : R :=
  match o with
  | .norm | .ret => match a.defers with
    | [] => match resL P a.tmps H fn.results.toList with | some l => kd (.ret (oneOf l)) u H | none => none
    | _ => none
  | .pan c => match a.defers with | [] => kd (.pan c) u H | _ => none
  | _ => none

def act0 (fn : Func) (args : Array Value) : Act := { tmps := args ++ Array.replicate (fn.ntmps - args.size) undef, defers := [] }

def bodyD (P : Program) (X : Xf) (K : Kf) (N : Nat) (fn : Func) (c : Code) (args : Array Value) (u : FrameMode) (H : Heap) (kd : End → FrameMode → Heap → R) : R :=
  match c with
  | .seq (.region _ ops false) rest => match ops.toList with
    | o :: os => cond (isRec o)
      (execOps P X K ops os ((act0 fn args).put o.dst (recM u).1) H (fun a H => exec P X K N rest none a H (finD P fn (recM u).2 kd)) (fun c a H => finD P fn (recM u).2 kd (.pan c) a H))
      (exec P X K N c none (act0 fn args) H (finD P fn u kd))
    | [] => exec P X K N c none (act0 fn args) H (finD P fn u kd)
  | c => exec P X K N c none (act0 fn args) H (finD P fn u kd)

def settleA : FrameMode → Option FrameMode
  | .panicking (p :: older) => if p.recovered = true then (match older with | [] => some .returning | _ => none) else some (.panicking (p :: older))
  | u => some u

def leave (P : Program) (X : Xf) (K : Kf) (N : Nat) (fn : Func) (tmps : Array Value) : List Deferred → FrameMode → Heap → R
  | [], .returning, H => match resL P tmps H fn.results.toList with | some l => some (.ret (oneOf l), H) | none => none
  | [], .panicking c, H => some (.pan c, H)
  | [], .run, _ => none
  | _ :: _, .run, _ => none
  | d :: ds, u, H => match d.target with
    | .fn (.func g) cap => match P.funcs[g]? with
      | some gn => if gn.name == "runtime.NumGoroutine" then none else match gn.body with
        | some c => bodyD P X K N gn c (d.args ++ cap) u H fun e u' H' => match e with
          | .ret _ => match settleA u' with | some u2 => leave P X K N fn tmps ds u2 H' | none => none
          | .pan ch => leave P X K N fn tmps ds (raised u' ch) H'
        | none => none
      | none => none
    | _ => none

def finishR (P : Program) (X : Xf) (K : Kf) (N : Nat) (fn : Func) (o : Out) (a : Act) (H : Heap) : R :=
  match o with
  | .norm | .ret => leave P X K N fn a.tmps a.defers .returning H
  | .pan c => leave P X K N fn a.tmps a.defers (.panicking c) H
  | _ => none

/-- Calls to a depth, frames that defer among them. -/
def callR (P : Program) (X : Xf) (N : Nat) (hk : Hook) : Nat → Kf
  | 0 => fun _ _ _ => none
  | d + 1 => fun f args H =>
    match hk f args H with
    | some r => r
    | none =>
      match P.funcs[f]? with
      | some fn => match fn.body with
        | some c => exec P X (callR P X N hk d) N c none (act0 fn args) H (finishR P X (callR P X N hk d) N fn)
        | none => none
      | none => none

inductive ModeR (m : Mp) : FrameMode → FrameMode → Prop where
  | returning : ModeR m .returning .returning
  | panicking (c c' : List PanicEntry) (h : PanR m c c') : ModeR m (.panicking c) (.panicking c')

theorem ModeR.mono {m m' : Mp} (hm : m.le m') {u u' : FrameMode} (h : ModeR m u u') : ModeR m' u u' := by
  cases h with
  | returning => exact .returning
  | panicking c c' h => exact .panicking _ _ (h.mono hm)

theorem PanR.append {m : Mp} {a a' b b' : List PanicEntry} (h : PanR m a a') (k : PanR m b b') : PanR m (a ++ b) (a' ++ b') := by
  refine ⟨by simp [h.1, k.1], fun i hi hi' => ?_⟩
  by_cases e : i < a.length
  · have e' : i < a'.length := h.1 ▸ e
    simp only [List.getElem_append, e, e', dif_pos]
    exact h.2 i e e'
  · have e' : ¬ i < a'.length := h.1 ▸ e
    simp only [List.getElem_append, e, e', dif_neg, not_false_eq_true]
    have hs := h.1
    simp only [List.length_append] at hi hi'
    simp only [← hs]
    exact k.2 _ (by omega) (by have := k.1; omega)

theorem PanR.cons_inv {m : Mp} {p : PanicEntry} {r : List PanicEntry} {c' : List PanicEntry} (h : PanR m (p :: r) c') :
    ∃ p' r', c' = p' :: r' ∧ VR m p.v p'.v ∧ p.recovered = p'.recovered ∧ p.goexit = p'.goexit ∧ PanR m r r' := by
  cases c' with
  | nil => have := h.1; simp at this
  | cons p' r' =>
    have h0 := h.2 0 (by simp) (by simp)
    refine ⟨p', r', rfl, h0.1, h0.2.1, h0.2.2, by simpa using h.1, fun i a b => ?_⟩
    have := h.2 (i + 1) (by simpa using a) (by simpa using b)
    simpa using this

theorem PanR.cons {m : Mp} {p p' : PanicEntry} {r r' : List PanicEntry} (hv : VR m p.v p'.v) (h1 : p.recovered = p'.recovered) (h2 : p.goexit = p'.goexit) (h : PanR m r r') : PanR m (p :: r) (p' :: r') := by
  refine ⟨by simp [h.1], fun i a b => ?_⟩
  cases i with
  | zero => exact ⟨hv, h1, h2⟩
  | succ i => simpa using h.2 i (by simpa using a) (by simpa using b)

theorem ModeR.raised {m : Mp} {u u' : FrameMode} {c c' : List PanicEntry} (h : ModeR m u u') (hc : PanR m c c') : ModeR m (raised u c) (raised u' c') := by
  cases h with
  | returning => exact .panicking _ _ hc
  | panicking o o' ho => exact .panicking _ _ (hc.append ho)

theorem ModeR.settle {m : Mp} {u u' u2 : FrameMode} (h : ModeR m u u') (he : settleA u = some u2) : ModeR m u2 (settle u') := by
  cases h with
  | returning => simp only [settleA, Option.some.injEq] at he; subst he; exact .returning
  | panicking o o' ho =>
    cases o with
    | nil =>
      simp only [settleA, Option.some.injEq] at he
      subst he
      have : o' = [] := by have := ho.1; simpa using this.symm
      subst this
      exact .panicking _ _ ho
    | cons p r =>
      obtain ⟨p', r', rfl, hv, h1, h2, hr⟩ := ho.cons_inv
      simp only [settleA] at he
      by_cases e : p.recovered = true
      · rw [if_pos e] at he
        cases r with
        | cons => simp at he
        | nil =>
          simp only [Option.some.injEq] at he
          subst he
          have : r' = [] := by have := hr.1; simpa using this.symm
          subst this
          have e' : p'.recovered = true := h1 ▸ e
          obtain ⟨v', rec', ge'⟩ := p'
          simp only at e'
          subst e'
          simp only [Go.settle, List.dropWhile_nil]
          exact .returning
      · rw [if_neg e] at he
        simp only [Option.some.injEq] at he
        subst he
        have e' : p'.recovered = false := by rw [← h1]; simpa using e
        obtain ⟨v', rec', ge'⟩ := p'
        simp only at e'
        subst e'
        exact .panicking _ _ ho
end Go.Am
/- Frames that defer: soundness. -/
namespace Go.Am

theorem recM_sound {m : Mp} {u : FrameMode} {c₀ : Frame} (cs : List Frame) (h : ModeR m u c₀.mode) :
    ∃ v' u2, VR m (recM u).1 v' ∧ ModeR m (recM u).2 u2 ∧ (match recoverD (c₀ :: cs) with | some (v, cs') => v = v' ∧ cs' = { c₀ with mode := u2 } :: cs | none => v' = .nilIface ∧ u2 = c₀.mode) := by
  obtain ⟨fnx, tmpsx, todox, defx, modex, kindx, rx⟩ := c₀
  simp only at h
  cases h with
  | returning => exact ⟨.nilIface, .returning, .atom _ rfl, .returning, by simp [recoverD]⟩
  | panicking o o' ho =>
    cases o with
    | nil =>
      have : o' = [] := by have := ho.1; simpa using this.symm
      subst this
      exact ⟨.nilIface, _, .atom _ rfl, .panicking _ _ ho, by simp [recoverD]⟩
    | cons p r =>
      obtain ⟨p', r', rfl, hv, h1, h2, hr⟩ := ho.cons_inv
      obtain ⟨v, rc, ge⟩ := p
      obtain ⟨v', rc', ge'⟩ := p'
      simp only at hv h1 h2
      subst h1 h2
      by_cases e : rc = false ∧ ge = false
      · obtain ⟨rfl, rfl⟩ := e
        refine ⟨v', .panicking ({ v := v', recovered := true } :: r'), by simpa [recM] using hv, ?_, by simp [recoverD]⟩
        simp only [recM, and_self, if_true]
        exact .panicking _ _ (PanR.cons hv rfl rfl hr)
      · refine ⟨.nilIface, _, by simp only [recM, if_neg e]; exact .atom _ rfl, by simp only [recM, if_neg e]; exact .panicking _ _ ho, ?_⟩
        cases rc <;> cases ge <;> first | (exact absurd ⟨rfl, rfl⟩ e) | simp [recoverD]

theorem wpOpsS_cons {P : Program} {ops : Array Oper} {Q : Exit → Act → List Frame → World → Prop} {cs : List Frame} {n : Nat} {rest : List Nat} {o : Oper} {a : Act} {w : World} (ho : ops[n]? = some o)
    (hw : Region.wanted o (yielded ops a.tmps) = true) (h : o.wp P a w (fun a' w' => wpOpsS P ops Q rest a' cs w') (fun e a' w' => Q e a' cs w')) : wpOpsS P ops Q (n :: rest) a cs w := by
  simp only [wpOpsS, ho, hw, if_true]
  unfold Oper.wp at h
  split
  · rename_i w' hr
    rw [hr] at h
    exact h.elim
  · exact h

theorem execOpsS_sound {P : Program} {X : Xf} {K : Kf} (hX : XSnd P X) (hK : KSnd P K) {ops : Array Oper} {r : End × Heap} {k : Act → Heap → R} {kp : List PanicEntry → Act → Heap → R} {Q : Exit → Act → List Frame → World → Prop} {cs : List Frame} :
    ∀ (l : List Oper) (n : Nat) (_ : l = ops.toList.drop n) {a a' : Act} {m : Mp} {H : Heap} {w : World}, StR P m a H a' w → execOps P X K ops l a H k kp = some r →
    (∀ b' w', After P m H w (fun b H' => k b H' = some r) b' w' → Q .normal b' cs w') →
    (∀ c' b' w', AfterP P m H w c' (fun c b H' => kp c b H' = some r) b' w' → Q (.panic c') b' cs w') →
    wpOpsS P ops Q ((List.range ops.size).drop n) a' cs w := by
  intro l
  induction l with
  | nil =>
    intro n hl a a' m H w h he hn hp
    have hlen : ops.size ≤ n := by
      have := congrArg List.length hl
      simp at this; omega
    rw [List.drop_of_length_le (by simpa using hlen)]
    exact hn _ _ ⟨m, a, H, h, .refl h.rel, he⟩
  | cons o rest ih =>
    intro n hl a a' m H w h he hn hp
    have hlt : n < ops.size := by
      have := congrArg List.length hl
      simp at this; omega
    have hd : (List.range ops.size).drop n = n :: (List.range ops.size).drop (n + 1) := by
      rw [List.drop_eq_getElem_cons (by simpa using hlt)]
      simp
    have hl2 : ops.toList.drop n = ops[n] :: ops.toList.drop (n + 1) := by
      rw [List.drop_eq_getElem_cons (by simpa using hlt)]
      simp
    rw [hl2] at hl
    simp only [List.cons.injEq] at hl
    obtain ⟨rfl, hrest⟩ := hl
    rw [hd]
    simp only [execOps] at he
    obtain ⟨b, hb, hc⟩ := guardK_sound h he
    rcases hc with ⟨hw, hr⟩ | ⟨hw, hr⟩
    · refine wpOpsS_cons (Array.getElem?_eq_getElem hlt) hw ?_
      refine execOp1_sound hX hK hb hr (fun b2 w2 ha => ?_) (fun c2 b2 w2 ha => hp c2 b2 w2 ha)
      obtain ⟨m2, b3, H3, s1, s2, s3⟩ := ha
      exact ih (n + 1) hrest s1 s3 (fun b4 w4 ha4 => hn b4 w4 (ha4.mono s2 (fun _ _ x => x))) (fun c4 b4 w4 ha4 => hp c4 b4 w4 (ha4.mono s2 (fun _ _ _ x => x)))
    · simp only [wpOpsS, Array.getElem?_eq_getElem hlt]
      rw [if_neg (by simp [hw])]
      exact ih (n + 1) hrest (hb.put _ (.undef m)) hr hn hp

/-- What a deferred call leaves. -/
def DEnd (m : Mp) (H : Heap) (w : World) (kd : End → FrameMode → Heap → R) (r : End × Heap) (e : Ending) (u' : FrameMode) (w' : World) : Prop :=
  ∃ m1 en uu H1, EndR m1 en e ∧ ModeR m1 uu u' ∧ Step m H w m1 H1 w' ∧ kd en uu H1 = some r

theorem nil_of_DRs {m : Mp} {l l' : List Deferred} (h : DRs m l l') (e : l = []) : l' = [] := by
  cases h with
  | nil => rfl
  | cons => cases e

theorem finD_sound {P : Program} {fn : Func} {u : FrameMode} {kd : End → FrameMode → Heap → R} {r : End × Heap} {m : Mp} {H : Heap} {w : World} {m0 : Mp} {u' : FrameMode} (hu : ModeR m0 u u') (hle : m0.le m)
    {e : Exit} {a : Act} {w1 : World} (hq : OutQ P m H w (finD P fn u kd) r e a w1) :
    (match e with
      | .normal | .ret => a.defers = [] ∧ ∃ v, (results fn a.tmps).run P w1 = .ok v w1 ∧ DEnd m H w kd r (.returned v) u' w1
      | .panic c => a.defers = [] ∧ DEnd m H w kd r (.panicked c) u' w1
      | _ => False) := by
  have fin : ∀ (m1 : Mp) (a1 : Act) (H1 : Heap), StR P m1 a1 H1 a w1 → Step m H w m1 H1 w1 → finD P fn u kd .norm a1 H1 = some r → a.defers = [] ∧ ∃ v, (results fn a.tmps).run P w1 = .ok v w1 ∧ DEnd m H w kd r (.returned v) u' w1 := by
    intro m1 a1 H1 s1 s2 s3
    simp only [finD] at s3
    split at s3
    · rename_i hd
      split at s3
      · rename_i l hl
        obtain ⟨v', q1, q2⟩ := results_sound s1.rel s1.act.tmps hl
        exact ⟨nil_of_DRs s1.act.defers hd, v', q1, m1, .ret (oneOf l), u, H1, q2, hu.mono (Mp.le_trans hle s2.later.1), s2, s3⟩
      · simp at s3
    · simp at s3
  cases e with
  | normal => obtain ⟨m1, a1, H1, s1, s2, s3⟩ := hq; exact fin m1 a1 H1 s1 s2 s3
  | ret => obtain ⟨m1, a1, H1, s1, s2, s3⟩ := hq; exact fin m1 a1 H1 s1 s2 s3
  | exit id => obtain ⟨m1, a1, H1, s1, s2, s3⟩ := hq; simp [finD] at s3
  | goto l => obtain ⟨m1, a1, H1, s1, s2, s3⟩ := hq; simp [finD] at s3
  | panic c' =>
    obtain ⟨m1, c1, a1, H1, s0, s1, s2, s3⟩ := hq
    simp only [finD] at s3
    split at s3
    · rename_i hd
      exact ⟨nil_of_DRs s1.act.defers hd, m1, .pan c1, u, H1, s0, hu.mono (Mp.le_trans hle s2.later.1), s2, s3⟩
    · simp at s3
  | outgrown => exact hq.elim

theorem act0_rel {P : Program} {m : Mp} {H : Heap} {w : World} (hrel : Rel m H w) (hgl : Gl P m) (fn : Func) {args args' : Array Value} (ha : VRa m args args') : StR P m (act0 fn args) H (act0 fn args') w := by
  refine ⟨⟨?_, .nil⟩, hrel, hgl⟩
  simp only [act0, ← ha.1]
  exact ha.append (VRa.replicate _ (.undef m))

theorem isRec_exec {o : Oper} (h : isRec o = true) : o.guard = none ∧ ∀ (P : Program) (ρ : Operand → Value) (w : World), (execOp ρ o).run P w = .ok .recover w := by
  unfold isRec at h
  split at h
  · rename_i c hc
    split at h
    · rename_i hcl
      simp only [Bool.and_eq_true, Option.isNone_iff_eq_none] at h
      refine ⟨h.1, fun P ρ w => ?_⟩
      simp [execOp, hc, hcl, resolve, invoke, builtin]
    · simp at h
  · simp at h

theorem bodyD_sound {P : Program} {X : Xf} {K : Kf} {N : Nat} (hX : XSnd P X) (hK : KSnd P K) (hD : DSnd P X K) {g : FuncId} {fn : Func} {c : Code} (hf : P.funcs[g]? = some fn) (hb : fn.body = some c)
    {args args' : Array Value} {u u' : FrameMode} {m : Mp} {H : Heap} {w : World} (hrel : Rel m H w) (hgl : Gl P m) (ha : VRa m args args') (hu : ModeR m u u') {kd : End → FrameMode → Heap → R} {r : End × Heap}
    (he : bodyD P X K N fn c args u H kd = some r) : CallsD P g args' u' w (DEnd m H w kd r) := by
  have hst := act0_rel hrel hgl fn ha
  have plain : exec P X K N c none (act0 fn args) H (finD P fn u kd) = some r → CallsD P g args' u' w (DEnd m H w kd r) := by
    intro hp
    refine (callsD_of_wp hf hb (R := fun e w1 => DEnd m H w kd r e u' w1) (OutQ.wp_mono (exec_sound hX hK hD r c none c rfl hst hp) ?_)).mono fun e u2 w1 ⟨h1, h2⟩ => h1 ▸ h2
    intro e a w1 hq
    have := finD_sound hu (Mp.le_refl m) hq
    cases e <;> first | exact this | exact this.elim
  unfold bodyD at he
  split at he
  · rename_i id ops rest
    split at he
    · rename_i o os hos
      cases hr : isRec o with
      | false => rw [hr] at he; exact plain he
      | true =>
      rw [hr] at he
      simp only [cond_true] at he
      obtain ⟨hgu, hex⟩ := isRec_exec hr
      refine callsD_of_wpS hf hb fun c₀ cs hc₀ => ?_
      subst hc₀
      obtain ⟨v', u2, hv', hu2, hrec⟩ := recM_sound cs hu
      have ho : ops[0]? = some o := by rw [← Array.getElem?_toList, hos]; rfl
      have hsz : 0 < ops.size := by rw [← Array.length_toList, hos]; simp
      have hdr : List.range ops.size = 0 :: (List.range ops.size).drop 1 := by
        have := List.drop_eq_getElem_cons (l := List.range ops.size) (i := 0) (by simpa using hsz)
        simpa using this
      have hw : Region.wanted o (yielded ops (act0 fn args').tmps) = true := by simp [Region.wanted, hgu]
      have hput := hst.put o.dst hv'
      have main : wpOpsS P ops (Exit.thenS (rest.wpS P (bodyPostS P fn c₀ cs (DEnd m H w kd r))) (bodyPostS P fn c₀ cs (DEnd m H w kd r))) ((List.range ops.size).drop 1) ((act0 fn args').put o.dst v') ({ c₀ with mode := u2 } :: cs) w := by
        refine execOpsS_sound hX hK os 1 (by rw [hos]; rfl) hput he ?_ ?_
        · intro b1 w1 hA
          obtain ⟨m1, a1, H1, s1, s2, s3⟩ := hA
          show rest.wpS P _ b1 _ w1
          refine wpS_of_wp (OutQ.wp_mono (exec_sound hX hK hD r rest none rest rfl s1 s3) ?_)
          intro e a w2 hq
          have := finD_sound hu2 (Mp.le_refl m) (OutQ.of s2 hq)
          cases e with
          | normal => obtain ⟨hd, v, q1, q2⟩ := this; exact ⟨hd, u2, rfl, v, q1, q2⟩
          | ret => obtain ⟨hd, v, q1, q2⟩ := this; exact ⟨hd, u2, rfl, v, q1, q2⟩
          | panic c2 => obtain ⟨hd, q2⟩ := this; exact ⟨hd, u2, rfl, q2⟩
          | exit id => exact this.elim
          | goto l => exact this.elim
          | outgrown => exact this.elim
        · intro c' b1 w1 hA
          have hq : OutQ P m H w (finD P fn (recM u).2 kd) r (.panic c') b1 w1 := hA
          obtain ⟨hd, q2⟩ := finD_sound hu2 (Mp.le_refl m) hq
          exact ⟨hd, u2, rfl, q2⟩
      refine wpS_seq (wpS_region ?_)
      rw [hdr]
      show wpOpsS P ops _ (0 :: (List.range ops.size).drop 1) (act0 fn args') (c₀ :: cs) w
      simp only [wpOpsS, ho, hw, if_true]
      rw [hex]
      simp only
      cases hrd : recoverD (c₀ :: cs) with
      | some x =>
        obtain ⟨v, cs'⟩ := x
        rw [hrd] at hrec
        simp only at hrec
        obtain ⟨rfl, rfl⟩ := hrec
        exact main
      | none =>
        rw [hrd] at hrec
        simp only at hrec
        obtain ⟨rfl, rfl⟩ := hrec
        exact main
    · exact plain he
  · exact plain he
theorem leave_sound {P : Program} {X : Xf} {K : Kf} {N : Nat} (hX : XSnd P X) (hK : KSnd P K) (hD : DSnd P X K) {fn : Func} {m0 : Mp} {H0 : Heap} {w0 : World} {r : End × Heap} :
    ∀ (ds ds' : List Deferred) (u u' : FrameMode) {tmps tmps' : Array Value} {m : Mp} {H : Heap} {w : World}, Rel m H w → Gl P m → DRs m ds ds' → ModeR m u u' → VRa m tmps tmps' → Step m0 H0 w0 m H w → leave P X K N fn tmps ds u H = some r →
      Leaves P fn tmps' (fun e w' => ∃ m', EndR m' r.1 e ∧ Step m0 H0 w0 m' r.2 w') ds' u' w := by
  intro ds
  induction ds with
  | nil =>
    intro ds' u u' tmps tmps' m H w hrel hgl hds hu ht hs he
    cases hds
    cases hu with
    | returning =>
      simp only [leave] at he
      split at he
      · rename_i l hl
        simp only [Option.some.injEq] at he
        subst he
        obtain ⟨v', q1, q2⟩ := results_sound hrel ht hl
        exact ⟨v', q1, m, q2, hs⟩
      · simp at he
    | panicking c c' h =>
      simp only [leave, Option.some.injEq] at he
      subst he
      exact ⟨m, h, hs⟩
  | cons d ds ih =>
    intro ds' u u' tmps tmps' m H w hrel hgl hds hu ht hs he
    cases hds with
    | cons hd htl =>
    rename_i d' l'
    obtain ⟨fv, cap, cap', e1, e2, hcap, hda⟩ := hd
    have hur : u' ≠ .run := by cases hu <;> simp
    have he' : ∃ g gn c, fv = .func g ∧ P.funcs[g]? = some gn ∧ (gn.name == "runtime.NumGoroutine") = false ∧ gn.body = some c ∧ bodyD P X K N gn c (d.args ++ cap) u H (fun e u' H' => match e with
          | .ret _ => match settleA u' with | some u2 => leave P X K N fn tmps ds u2 H' | none => none
          | .pan ch => leave P X K N fn tmps ds (raised u' ch) H') = some r := by
      have key : (match d.target with
          | .fn (.func g) cap => match P.funcs[g]? with
            | some gn => if gn.name == "runtime.NumGoroutine" then none else match gn.body with
              | some c => bodyD P X K N gn c (d.args ++ cap) u H (fun e u' H' => match e with
                | .ret _ => match settleA u' with | some u2 => leave P X K N fn tmps ds u2 H' | none => none
                | .pan ch => leave P X K N fn tmps ds (raised u' ch) H')
              | none => none
            | none => none
          | _ => none) = some r := by
        cases hu <;> (simp only [leave] at he; exact he)
      rw [e1] at key
      cases fv with
      | func g =>
        simp only at key
        split at key
        · rename_i gn hg
          split at key
          · simp at key
          · rename_i hn
            split at key
            · rename_i c hc
              exact ⟨g, gn, c, rfl, hg, by simpa using hn, hc, key⟩
            · simp at key
        · simp at key
      | _ => simp at key
    obtain ⟨g, gn, c, rfl, hg, hn, hc, hbd⟩ := he'
    have hbs := bodyD_sound hX hK hD hg hc hrel hgl (hda.append hcap) hu hbd
    obtain ⟨dt, da⟩ := d'
    simp only at e2 hda hbs
    subst e2
    refine ⟨hur, .func g, cap', g, da ++ cap', rfl, ?_, hbs.mono ?_⟩
    · have hn' : ¬ gn.name = "runtime.NumGoroutine" := by simpa using hn
      simp [invoke, callFunc, hg, hn', hc]
    · intro e u2 w1 hde
      obtain ⟨m1, en, uu, H1, q1, q2, q3, q4⟩ := hde
      have hle := q3.later.1
      cases en with
      | ret v =>
        simp only at q4
        cases e with
        | returned v' =>
          split at q4
          · rename_i u3 hu3
            exact ih l' u3 _ q3.rel (hgl.mono hle) (htl.mono hle) (q2.settle hu3) (ht.mono hle) (hs.trans q3) q4
          · simp at q4
        | panicked c => exact q1.elim
        | outgrown => exact q1.elim
      | pan ch =>
        simp only at q4
        cases e with
        | panicked c => exact ih l' _ _ q3.rel (hgl.mono hle) (htl.mono hle) (q2.raised q1) (ht.mono hle) (hs.trans q3) q4
        | returned v' => exact q1.elim
        | outgrown => exact q1.elim

theorem callR_sound {P : Program} {X : Xf} {N : Nat} {hk : Hook} (hX : XSnd P X) (hH : HookSnd P hk) (hm : P.follows .mixedOrders = true) : ∀ d, KSnd P (callR P X N hk d)
  | 0 => fun f args H r H' he => by simp [callR] at he
  | d + 1 => by
    have hK := callR_sound (X := X) (N := N) hX hH hm d
    intro f args H r H' he m w args' hrel hgl hargs
    simp only [callR] at he
    split at he
    · rename_i r' hr
      rw [he] at hr
      exact hH f args H r H' hr m w args' hrel hgl hargs
    · split at he
      · rename_i fn hf
        split at he
        · rename_i c hb
          have hD : DSnd P X (callR P X N hk d) := fun ops r k Q hd _ _ _ _ _ h he hQ id => draw_sound hX hK hm hd h he hQ id
          refine calls_of_wp_defers hf hb (OutQ.wp_mono (exec_sound hX hK hD (r, H') c none c rfl (act0_rel hrel hgl fn hargs) he) ?_)
          have fin : ∀ (a : Act) (m1 : Mp) (a1 : Act) (H1 : Heap) (w1 : World), StR P m1 a1 H1 a w1 → Step m H w m1 H1 w1 → leave P X (callR P X N hk d) N fn a1.tmps a1.defers .returning H1 = some (r, H') →
              Leaves P fn a.tmps (fun e w' => ∃ m', EndR m' r e ∧ Step m H w m' H' w') a.defers .returning w1 :=
            fun a m1 a1 H1 w1 s1 s2 s3 => leave_sound hX hK hD _ _ _ _ s1.rel s1.gl s1.act.defers .returning s1.act.tmps s2 s3
          intro e a w1 hq
          cases e with
          | normal => obtain ⟨m1, a1, H1, s1, s2, s3⟩ := hq; exact fin a m1 a1 H1 w1 s1 s2 s3
          | ret => obtain ⟨m1, a1, H1, s1, s2, s3⟩ := hq; exact fin a m1 a1 H1 w1 s1 s2 s3
          | exit id => obtain ⟨m1, a1, H1, s1, s2, s3⟩ := hq; simp [finishR] at s3
          | goto l => obtain ⟨m1, a1, H1, s1, s2, s3⟩ := hq; simp [finishR] at s3
          | panic c' =>
            obtain ⟨m1, c1, a1, H1, s0, s1, s2, s3⟩ := hq
            exact leave_sound hX hK hD _ _ _ _ s1.rel s1.gl s1.act.defers (.panicking _ _ s0) s1.act.tmps s2 s3
          | outgrown => exact hq.elim
        · simp at he
      · simp at he
end Go.Am
