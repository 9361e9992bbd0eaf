/- Calls whose frames defer; deferred functions that recover first. -/
import Derived.Test.YtpfpfpeockbbpaaGreatDoorAmC
import Derived.Recover
namespace Go.Am

def recM : FrameMode → Value × FrameMode
  | .panicking (p :: older) => if p.recovered = false ∧ p.goexit = false then (p.v, .panicking ({ v := p.v, recovered := true } :: older)) else (.nilIface, .panicking (p :: older))
  | u => (.nilIface, u)

def isRec (o : Oper) : Bool :=
  match o.op with
  | .call c => match c.callee with | .builtin .recover => o.guard.isNone && c.args.isEmpty | _ => false
  | _ => false

def finD (P : Program) (fn : Func) (u : FrameMode) (kd : End → FrameMode → Heap → R) (o : Out) (a : Act) (H : Heap) : R :=
  match o with
  | .norm | .ret => match a.defers with
    | [] => match resL P a.tmps H fn.results.toList with | some l => kd (.ret (oneOf l)) u H | none => none
    | _ => none
  | .pan c => match a.defers with | [] => kd (.pan c) u H | _ => none
  | _ => none

def act0 (fn : Func) (args : Array Value) : Act := { tmps := args ++ Array.replicate (fn.ntmps - args.size) undef, defers := [] }

def bodyD (P : Program) (X : Xf) (K : Kf) (N : Nat) (fn : Func) (c : Code) (args : Array Value) (u : FrameMode) (H : Heap) (kd : End → FrameMode → Heap → R) : R :=
  match c with
  | .seq (.region _ ops false) rest => match ops.toList with
    | o :: os => cond (isRec o)
      (execOps P X K ops os ((act0 fn args).put o.dst (recM u).1) H (fun a H => exec P X K N rest none a H (finD P fn (recM u).2 kd)) (fun c a H => finD P fn (recM u).2 kd (.pan c) a H))
      (exec P X K N c none (act0 fn args) H (finD P fn u kd))
    | [] => exec P X K N c none (act0 fn args) H (finD P fn u kd)
  | c => exec P X K N c none (act0 fn args) H (finD P fn u kd)

def settleA : FrameMode → Option FrameMode
  | .panicking (p :: older) => if p.recovered = true then (match older with | [] => some .returning | _ => none) else some (.panicking (p :: older))
  | u => some u

def leave (P : Program) (X : Xf) (K : Kf) (N : Nat) (fn : Func) (wk : Bool) (tmps : Array Value) : List Deferred → FrameMode → Heap → R
  | [], .returning, H => match resL P tmps H fn.results.toList with | some l => cond (wk && l.any isUndef) none (some (.ret (oneOf l), H)) | none => none
  | [], .panicking c, H => some (.pan c, H)
  | [], .run, _ => none
  | _ :: _, .run, _ => none
  | d :: ds, u, H => match d.target with
    | .fn (.func g) cap => match P.funcs[g]? with
      | some gn => if gn.name == "runtime.NumGoroutine" then none else match gn.body with
        | some c => bodyD P X K N gn c (d.args ++ cap) u H fun e u' H' => match e with
          | .ret _ => match settleA u' with | some u2 => leave P X K N fn wk tmps ds u2 H' | none => none
          | .pan ch => leave P X K N fn wk tmps ds (raised u' ch) H'
        | none => none
      | none => none
    | _ => none

def finishR (P : Program) (X : Xf) (K : Kf) (N : Nat) (fn : Func) (o : Out) (a : Act) (H : Heap) : R :=
  match o with
  | .norm | .ret => leave P X K N fn false a.tmps a.defers .returning H
  | .pan c => leave P X K N fn true a.tmps a.defers (.panicking c) H
  | _ => none

/-- Calls to a depth, frames that defer among them. -/
def callR (P : Program) (X : Xf) (N : Nat) (hk : Hook) : Nat → Kf
  | 0 => fun _ _ _ => none
  | d + 1 => fun f args H =>
    match hk f args H with
    | some r => r
    | none =>
      match P.funcs[f]? with
      | some fn => match fn.body with
        | some c => exec P X (callR P X N hk d) N c none (act0 fn args) H (finishR P X (callR P X N hk d) N fn)
        | none => none
      | none => none

inductive ModeR (m : Mp) : FrameMode → FrameMode → Prop where
  | returning : ModeR m .returning .returning
  | panicking (c c' : List PanicEntry) (h : PanR m c c') : ModeR m (.panicking c) (.panicking c')

theorem ModeR.mono {m m' : Mp} (hm : m.le m') {u u' : FrameMode} (h : ModeR m u u') : ModeR m' u u' := by
  cases h with
  | returning => exact .returning
  | panicking c c' h => exact .panicking _ _ (h.mono hm)

theorem PanR.append {m : Mp} {a a' b b' : List PanicEntry} (h : PanR m a a') (k : PanR m b b') : PanR m (a ++ b) (a' ++ b') := by
  refine ⟨by simp [h.1, k.1], fun i hi hi' => ?_⟩
  by_cases e : i < a.length
  · have e' : i < a'.length := h.1 ▸ e
    simp only [List.getElem_append, e, e', dif_pos]
    exact h.2 i e e'
  · have e' : ¬ i < a'.length := h.1 ▸ e
    simp only [List.getElem_append, e, e', dif_neg, not_false_eq_true]
    have hs := h.1
    simp only [List.length_append] at hi hi'
    simp only [← hs]
    exact k.2 _ (by omega) (by have := k.1; omega)

theorem PanR.cons_inv {m : Mp} {p : PanicEntry} {r : List PanicEntry} {c' : List PanicEntry} (h : PanR m (p :: r) c') :
    ∃ p' r', c' = p' :: r' ∧ VR m p.v p'.v ∧ p.recovered = p'.recovered ∧ p.goexit = p'.goexit ∧ PanR m r r' := by
  cases c' with
  | nil => have := h.1; simp at this
  | cons p' r' =>
    have h0 := h.2 0 (by simp) (by simp)
    refine ⟨p', r', rfl, h0.1, h0.2.1, h0.2.2, by simpa using h.1, fun i a b => ?_⟩
    have := h.2 (i + 1) (by simpa using a) (by simpa using b)
    simpa using this

theorem PanR.cons {m : Mp} {p p' : PanicEntry} {r r' : List PanicEntry} (hv : VR m p.v p'.v) (h1 : p.recovered = p'.recovered) (h2 : p.goexit = p'.goexit) (h : PanR m r r') : PanR m (p :: r) (p' :: r') := by
  refine ⟨by simp [h.1], fun i a b => ?_⟩
  cases i with
  | zero => exact ⟨hv, h1, h2⟩
  | succ i => simpa using h.2 i (by simpa using a) (by simpa using b)

theorem ModeR.raised {m : Mp} {u u' : FrameMode} {c c' : List PanicEntry} (h : ModeR m u u') (hc : PanR m c c') : ModeR m (raised u c) (raised u' c') := by
  cases h with
  | returning => exact .panicking _ _ hc
  | panicking o o' ho => exact .panicking _ _ (hc.append ho)

theorem ModeR.settle {m : Mp} {u u' u2 : FrameMode} (h : ModeR m u u') (he : settleA u = some u2) : ModeR m u2 (settle u') := by
  cases h with
  | returning => simp only [settleA, Option.some.injEq] at he; subst he; exact .returning
  | panicking o o' ho =>
    cases o with
    | nil =>
      simp only [settleA, Option.some.injEq] at he
      subst he
      have : o' = [] := by have := ho.1; simpa using this.symm
      subst this
      exact .panicking _ _ ho
    | cons p r =>
      obtain ⟨p', r', rfl, hv, h1, h2, hr⟩ := ho.cons_inv
      simp only [settleA] at he
      by_cases e : p.recovered = true
      · rw [if_pos e] at he
        cases r with
        | cons => simp at he
        | nil =>
          simp only [Option.some.injEq] at he
          subst he
          have : r' = [] := by have := hr.1; simpa using this.symm
          subst this
          have e' : p'.recovered = true := h1 ▸ e
          obtain ⟨v', rec', ge'⟩ := p'
          simp only at e'
          subst e'
          simp only [Go.settle, List.dropWhile_nil]
          exact .returning
      · rw [if_neg e] at he
        simp only [Option.some.injEq] at he
        subst he
        have e' : p'.recovered = false := by rw [← h1]; simpa using e
        obtain ⟨v', rec', ge'⟩ := p'
        simp only at e'
        subst e'
        exact .panicking _ _ ho
end Go.Am
