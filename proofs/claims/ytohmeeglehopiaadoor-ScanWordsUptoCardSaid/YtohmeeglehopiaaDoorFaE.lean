/- Frames as functions: for proofs about all inputs. What this machine answers, the other answers. -/
import Derived.Test.YtohmeeglehopiaaDoorFaW
namespace Go.Am

abbrev Env := Nat → Value
def upd (E : Env) (d : Option Tmp) (v : Value) : Env := match d with | none => E | some i => fun j => if j = i then v else E j
theorem upd_none (E : Env) (v : Value) : upd E none v = E := rfl
theorem upd_some (E : Env) (i : Nat) (v : Value) (j : Nat) : upd E (some i) v j = if j = i then v else E j := rfl
def evalE (E : Env) : Operand → Value
  | .tmp i => E i
  | .const v => v
  | .global g => .pointer (some ⟨g, 0, none⟩)
  | .func f => .func (.func f) #[] #[]

structure SimE (n : Nat) (E : Env) (ds : List Deferred) (a : Act) : Prop where
  env : ∀ i, E i = a.tmps.getD i undef
  ds : a.defers = ds
  size : a.tmps.size = n
abbrev KE := Env → List Deferred → Heap → R
def KSE (n : Nat) (r : End × Heap) (k : KE) (k' : Act → Heap → R) : Prop := ∀ E ds a H, SimE n E ds a → k E ds H = some r → k' a H = some r

theorem evalE_eq {n : Nat} {E : Env} {ds : List Deferred} {a : Act} (h : SimE n E ds a) : evalE E = a.eval := by
  funext x
  cases x with
  | tmp i => exact h.env i
  | _ => rfl
def dstOk (n : Nat) (o : Oper) : Bool := match o.dst with | some i => decide (i < n) | none => true
theorem SimE.put {n : Nat} {E : Env} {ds : List Deferred} {a : Act} (h : SimE n E ds a) {o : Oper} (ho : dstOk n o = true) (v : Value) : SimE n (upd E o.dst v) ds (a.put o.dst v) := by
  cases hd : o.dst with
  | none => exact h
  | some i =>
    have hi : i < n := by simpa [dstOk, hd] using ho
    refine ⟨fun j => ?_, h.ds, by simp [Act.put, h.size]⟩
    have hs := h.size
    simp only [Act.put, upd_some]
    by_cases e : j = i
    · subst e; simp [hs, hi]
    · rw [if_neg e, h.env j]
      simp [Array.getD_eq_getD_getElem?, Ne.symm e]

def opE (P : Program) (X : Xf) (K : Kf) (o : Oper) (E : Env) (ds : List Deferred) (H : Heap) (k : KE) (kp : List PanicEntry → KE) : R :=
  match o.op with
  | .defer c => match deferOf (evalE E) c with
    | some d => k (upd E o.dst undef) (d :: ds) H
    | none => none
  | _ => opK P X K (evalE E) o H (fun v H => k (upd E o.dst v) ds H) (fun c H => kp c E ds H)

theorem opE_sim {P : Program} {X : Xf} {K K' : Kf} (hK : KLe K K') {n : Nat} {o : Oper} {E : Env} {ds : List Deferred} {a : Act} {H : Heap} {r : End × Heap} {k : KE} {k' : Act → Heap → R} {kp : List PanicEntry → KE} {kp' : List PanicEntry → Act → Heap → R}
    (hok : opOk P o = true) (hd : dstOk n o = true) (hs : SimE n E ds a) (hk : KSE n r k k') (hp : ∀ c, KSE n r (kp c) (kp' c)) (h : opE P X K o E ds H k kp = some r) : execOp1 P X K' o a H k' kp' = some r := by
  unfold execOp1
  rw [hok]
  simp only [cond_true]
  unfold opE at h
  rw [evalE_eq hs] at h
  split at h
  · rename_i c e
    simp only [e]
    split at h
    · rename_i d hd'
      rw [hd']
      exact hk _ _ _ _ (SimE.put (a := { a with defers := d :: a.defers }) ⟨hs.env, by rw [hs.ds], hs.size⟩ hd undef) h
    · cases h
  · rename_i hno
    split
    · rename_i c e; exact absurd e (hno c)
    · exact opK_mono hK (fun v H h => hk _ _ _ _ (hs.put hd v) h) (fun c H h => hp c _ _ _ _ hs h) h

def guardE (ops : Array Oper) (o : Oper) (E : Env) (run skip : R) : R :=
  match o.guard with
  | none => run
  | some (j, want) =>
    match (ops[j]?).bind (·.dst) with
    | none => skip
    | some d => match E d with
      | .bool b => cond (b == want) run skip
      | .tuple _ => skip
      | _ => none
def guardOk (n : Nat) (ops : Array Oper) (o : Oper) : Bool :=
  match o.guard with
  | none => true
  | some (j, _) => match (ops[j]?).bind (·.dst) with | none => true | some d => decide (d < n)
theorem guardE_sim {n : Nat} {ops : Array Oper} {o : Oper} {E : Env} {ds : List Deferred} {a : Act} {r : End × Heap} {run skip : R} {run' skip' : Act → R} (hg : guardOk n ops o = true) (hs : SimE n E ds a)
    (hr : ∀ a, SimE n E ds a → run = some r → run' a = some r) (hk : ∀ a, SimE n E ds a → skip = some r → skip' a = some r) (h : guardE ops o E run skip = some r) : guardK ops o a run' skip' = some r := by
  unfold guardE at h
  unfold guardK
  unfold guardOk at hg
  split at h
  · rename_i e; simp only [e]; exact hr a hs h
  · rename_i j want e
    simp only [e] at hg ⊢
    split at h
    · rename_i e2; simp only [e2]; exact hk a hs h
    · rename_i d e2
      simp only [e2] at hg ⊢
      have hlt : d < a.tmps.size := by rw [hs.size]; simpa using hg
      have e4 : a.tmps[d]? = some (E d) := by
        rw [hs.env d]; simp [hlt]
      rw [e4]
      split at h
      · rename_i b e3
        simp only [e3, splitB_eq]
        have hs' : SimE n E ds { a with tmps := a.tmps.setIfInBounds d (.bool b) } := by
          refine ⟨fun i => ?_, hs.ds, by simp [hs.size]⟩
          rw [hs.env i]
          simp only [Array.getD_eq_getD_getElem?, Array.getElem?_setIfInBounds]
          by_cases c : d = i
          · subst c; rw [e4, e3]; simp [hlt]
          · simp [c]
        cases hb : (b == want) with
        | true => rw [hb] at h; exact hr _ hs' h
        | false => rw [hb] at h; exact hk _ hs' h
      · rename_i e3; simp only [e3]; exact hk a hs h
      · cases h

def execOpsE (P : Program) (X : Xf) (K : Kf) (ops : Array Oper) : List Oper → Env → List Deferred → Heap → KE → (List PanicEntry → KE) → R
  | [], E, ds, H, k, _ => k E ds H
  | o :: rest, E, ds, H, k, kp => guardE ops o E (opE P X K o E ds H (fun E ds H => execOpsE P X K ops rest E ds H k kp) kp) (execOpsE P X K ops rest (upd E o.dst undef) ds H k kp)
def opsOk (P : Program) (n : Nat) (ops : Array Oper) (o : Oper) : Bool := opOk P o && (dstOk n o && guardOk n ops o)
theorem execOpsE_sim {P : Program} {X : Xf} {K K' : Kf} (hK : KLe K K') {n : Nat} {ops : Array Oper} {r : End × Heap} {k : KE} {k' : Act → Heap → R} {kp : List PanicEntry → KE} {kp' : List PanicEntry → Act → Heap → R}
    (hk : KSE n r k k') (hp : ∀ c, KSE n r (kp c) (kp' c)) : ∀ (l : List Oper) (_ : ∀ o ∈ l, opsOk P n ops o = true) (E : Env) (ds : List Deferred) (a : Act) (H : Heap), SimE n E ds a → execOpsE P X K ops l E ds H k kp = some r → execOps P X K' ops l a H k' kp' = some r
  | [], _, E, ds, a, H, hs, h => hk _ _ _ _ hs h
  | o :: rest, hall, E, ds, a, H, hs, h => by
    have ho := hall o (List.mem_cons_self ..)
    simp only [opsOk, Bool.and_eq_true] at ho
    have hr := fun o h => hall o (List.mem_cons_of_mem _ h)
    exact guardE_sim ho.2.2 hs (fun a hs h => opE_sim hK ho.1 ho.2.1 hs (fun E ds a H hs h => execOpsE_sim hK hk hp rest hr E ds a H hs h) hp h)
      (fun a hs h => execOpsE_sim hK hk hp rest hr _ _ _ _ (hs.put ho.2.1 undef) h) h
/-- The same, of a region whose order is left open: no panic. -/
theorem execTrE_sim {P : Program} {X : Xf} {K K' : Kf} (hK : KLe K K') {n : Nat} {ops : Array Oper} {r : End × Heap} {k : KE} {k' : List (Act × Heap) → Act → Heap → R} :
    ∀ (l : List Oper) (_ : ∀ o ∈ l, opsOk P n ops o = true) (z : Nat) (_ : ∀ tr', tr'.length = z + l.length + 1 → KSE n r k (k' tr')) (E : Env) (ds : List Deferred) (a : Act) (H : Heap) (tr' : List (Act × Heap)), tr'.length = z → SimE n E ds a →
      execOpsE P X K ops l E ds H k (fun _ _ _ _ => none) = some r → execTr P X K' ops l a H tr' k' = some r
  | [], _, z, hk, E, ds, a, H, tr', hn, hs, h => hk _ (by simp [hn]) _ _ _ _ hs h
  | o :: rest, hall, z, hk, E, ds, a, H, tr', hn, hs, h => by
    have ho := hall o (List.mem_cons_self ..)
    simp only [opsOk, Bool.and_eq_true] at ho
    have hr := fun o h => hall o (List.mem_cons_of_mem _ h)
    have hk' : ∀ tr', tr'.length = (z + 1) + rest.length + 1 → KSE n r k (k' tr') := fun tr' h2 => hk tr' (by rw [h2]; simp; omega)
    show guardK ops o a _ _ = some r
    exact guardE_sim ho.2.2 hs (fun a hs h => opE_sim hK ho.1 ho.2.1 hs (fun E ds a H hs h => execTrE_sim hK rest hr (z + 1) hk' E ds a H _ (by simp [hn]) hs h) (fun _ _ _ _ _ _ h => by cases h) h)
      (fun a hs h => execTrE_sim hK rest hr (z + 1) hk' _ _ _ _ _ (by simp [hn]) (hs.put ho.2.1 undef) h) h

abbrev KOE := Out → KE
def KSoE (n : Nat) (r : End × Heap) (k : KOE) (k' : Out → Act → Heap → R) : Prop := ∀ o, KSE n r (k o) (k' o)
def BSimE (n : Nat) (r : End × Heap) (body : Env → List Deferred → Heap → KOE → R) (body' : Act → Heap → (Out → Act → Heap → R) → R) : Prop :=
  ∀ k k', KSoE n r k k' → ∀ E ds a H, SimE n E ds a → body E ds H k = some r → body' a H k' = some r

/-- What stands behind a first part. -/
def thenE (b2 : Env → List Deferred → Heap → KOE → R) (k : KOE) : KOE := fun o E ds H => match o with | .norm => b2 E ds H k | o => k o E ds H
def leaveB (id : Nat) (k : KOE) : KOE := fun o E ds H => match o with | .exit i => cond (i == id) (k .norm E ds H) (k (.exit i) E ds H) | o => k o E ds H
def loopE (body : Env → List Deferred → Heap → KOE → R) : Nat → Env → List Deferred → Heap → KOE → R
  | 0, _, _, _, _ => none
  | n + 1, E, ds, H, k => body E ds H (thenE (fun E ds H k => loopE body n E ds H k) k)
def scopeE (c : Code) (body : Option Nat → Env → List Deferred → Heap → KOE → R) : Nat → Option Nat → Env → List Deferred → Heap → KOE → R
  | 0, _, _, _, _, _ => none
  | n + 1, s, E, ds, H, k => body s E ds H fun o E ds H => match o with | .goto l => cond (hasLabel l c) (scopeE c body n (some l) E ds H k) (k (.goto l) E ds H) | o => k o E ds H

theorem thenE_sim {n : Nat} {r : End × Heap} {b2 : Env → List Deferred → Heap → KOE → R} {b2' : Act → Heap → (Out → Act → Heap → R) → R} (h2 : BSimE n r b2 b2') {k : KOE} {k' : Out → Act → Heap → R} (hk : KSoE n r k k') :
    KSoE n r (thenE b2 k) (fun o a H => match o with | .norm => b2' a H k' | o => k' o a H) := by
  intro o E ds a H hs h
  cases o with
  | norm => exact h2 k k' hk _ _ _ _ hs h
  | _ => exact hk _ _ _ _ _ hs h
theorem loopE_sim {m : Nat} {r : End × Heap} {body : Env → List Deferred → Heap → KOE → R} {body' : Act → Heap → (Out → Act → Heap → R) → R} (hb : BSimE m r body body') : ∀ n, BSimE m r (loopE body n) (loopC body' n)
  | 0, _, _, _, _, _, _, _, _, h => by cases h
  | n + 1, k, k', hk, E, ds, a, H, hs, h => hb _ _ (thenE_sim (loopE_sim hb n) hk) E ds a H hs h
theorem scopeE_sim {m : Nat} {r : End × Heap} {c : Code} {body : Option Nat → Env → List Deferred → Heap → KOE → R} {body' : Option Nat → Act → Heap → (Out → Act → Heap → R) → R} (hb : ∀ s, BSimE m r (body s) (body' s)) :
    ∀ n s, BSimE m r (scopeE c body n s) (scopeC c body' n s)
  | 0, _, _, _, _, _, _, _, _, _, h => by cases h
  | n + 1, s, k, k', hk, E, ds, a, H, hs, h => by
    refine hb s _ _ (fun o E ds a H hs h => ?_) E ds a H hs h
    cases o with
    | goto l =>
      simp only at h ⊢
      cases e : hasLabel l c with
      | true => rw [e] at h; exact scopeE_sim hb n _ k k' hk _ _ _ _ hs h
      | false => rw [e] at h; exact hk _ _ _ _ _ hs h
    | _ => exact hk _ _ _ _ _ hs h

def condE (v : Value) (x y : R) : R := match v with | .bool t => cond t x y | _ => none
def execE (P : Program) (X : Xf) (K : Kf) (N : Nat) : Code → Option Nat → Env → List Deferred → Heap → KOE → R
  | .seq x y, none, E, ds, H, k => execE P X K N x none E ds H (thenE (execE P X K N y none) k)
  | .seq x y, some l, E, ds, H, k => cond (hasLabel l x) (execE P X K N x (some l) E ds H (thenE (execE P X K N y none) k)) (execE P X K N y (some l) E ds H k)
  | .label l', some l, E, ds, H, k => cond (l' == l) (k .norm E ds H) none
  | .label _, none, E, ds, H, k => k .norm E ds H
  | .skip, none, E, ds, H, k => k .norm E ds H
  | .region _ ops draw, none, E, ds, H, k => execOpsE P X K ops ops.toList E ds H (fun E ds H => k .norm E ds H) (fun c E ds H => cond draw none (k (.pan c) E ds H))
  | .cond c x y, none, E, ds, H, k => condE (evalE E c) (execE P X K N x none E ds H k) (execE P X K N y none E ds H k)
  | .block id b, none, E, ds, H, k => execE P X K N b none E ds H (leaveB id k)
  | .loop b, none, E, ds, H, k => loopE (execE P X K N b none) N E ds H k
  | .exit id, none, E, ds, H, k => k (.exit id) E ds H
  | .scope b, none, E, ds, H, k => scopeE b (execE P X K N b) N none E ds H k
  | .goto l, none, E, ds, H, k => k (.goto l) E ds H
  | .ret, none, E, ds, H, k => k .ret E ds H
  | _, _, _, _, _, _ => none
def goodE (P : Program) (n : Nat) : Code → Bool
  | .region _ ops draw => ops.toList.all (opsOk P n ops) && (!draw || (drawOk P ops.toList && (drawPairs P ops.toList).isEmpty))
  | .seq a b => goodE P n a && goodE P n b
  | .cond _ a b => goodE P n a && goodE P n b
  | .block _ b => goodE P n b
  | .loop b => goodE P n b
  | .scope b => goodE P n b
  | _ => true
theorem drawChk_none {P : Program} {ops : Array Oper} {tr' : List (Act × Heap)} (hn : tr'.length = ops.toList.length + 1) (hq : (drawPairs P ops.toList).isEmpty = true) : drawChk P ops tr' = true := by
  unfold drawChk
  simp only [List.all_eq_true, List.mem_range]
  intro i hi
  obtain ⟨oi, e0⟩ : ∃ oi, ops.toList[i]? = some oi := ⟨_, List.getElem?_eq_getElem hi⟩
  have c1 : i < tr'.length := by omega
  have c2 : i + 1 < tr'.length := by omega
  rw [e0, List.getElem?_eq_getElem c1, List.getElem?_eq_getElem c2]
  simp only
  split
  · rename_i hg
    simp only [List.all_eq_true, List.mem_range]
    intro p hp
    obtain ⟨op, e1⟩ : ∃ op, ops.toList[p]? = some op := ⟨_, List.getElem?_eq_getElem hp⟩
    rw [e1]
    simp only
    split
    · rename_i hq2
      exfalso
      have hmem : (i, p) ∈ drawPairs P ops.toList := by
        unfold drawPairs
        simp only [List.mem_flatMap, List.mem_range]
        refine ⟨i, hi, ?_⟩
        rw [e0]
        simp only [hg.1, decide_true, cond_true, List.mem_map, List.mem_filter, List.mem_range]
        refine ⟨p, ⟨hp, ?_⟩, rfl⟩
        rw [e1]
        exact decide_eq_true hq2
      have : drawPairs P ops.toList = [] := by simpa using hq
      rw [this] at hmem
      cases hmem
    · rfl
  · rfl

def resE (P : Program) (E : Env) (H : Heap) : List ResultVar → Option (List Value)
  | [] => some []
  | .tmp i :: r => match resE P E H r with | some l => some (E i :: l) | none => none
  | .cell i ty :: r => match loadA P ty (E i) H with
    | some (v, _) => match resE P E H r with | some l => some (v :: l) | none => none
    | none => none
theorem resE_eq {P : Program} {n : Nat} {E : Env} {ds : List Deferred} {a : Act} (h : SimE n E ds a) (H : Heap) : ∀ l, resE P E H l = resL P a.tmps H l
  | [] => rfl
  | .tmp i :: r => by
    unfold resE resL
    rw [resE_eq h H r, h.env i]
    cases resL P a.tmps H r <;> rfl
  | .cell i ty :: r => by
    unfold resE resL
    rw [resE_eq h H r, h.env i]
    cases loadA P ty (a.tmps.getD i undef) H with
    | none => rfl
    | some x => cases resL P a.tmps H r <;> rfl
def finE (P : Program) (fn : Func) (o : Out) (E : Env) (ds : List Deferred) (H : Heap) : R :=
  match o with
  | .norm | .ret => match ds with
    | [] => match resE P E H fn.results.toList with | some l => some (.ret (oneOf l), H) | none => none
    | _ => none
  | .pan c => match ds with | [] => some (.pan c, H) | _ => none
  | _ => none
theorem finE_sim {P : Program} {X : Xf} {K : Kf} {N n : Nat} {fn : Func} {r : End × Heap} : KSoE n r (finE P fn) (finishR P X K N fn) := by
  intro o E ds a H hs h
  unfold finishR
  rw [hs.ds]
  unfold finE at h
  split at h
  · split at h
    · unfold leave; rw [resE_eq hs] at h; exact h
    · cases h
  · split at h
    · unfold leave; rw [resE_eq hs] at h; exact h
    · cases h
  · split at h
    · unfold leave; exact h
    · cases h
  · cases h

def startE (args : Array Value) : Env := fun i => args.getD i undef
theorem start_sim {fn : Func} {args : Array Value} (h : args.size ≤ fn.ntmps) : SimE fn.ntmps (startE args) [] (act0 fn args) := by
  refine ⟨fun i => ?_, rfl, by simp [act0]; omega⟩
  simp only [startE, act0, Array.getD_eq_getD_getElem?, Array.getElem?_append, Array.getElem?_replicate]
  by_cases c : i < args.size
  · simp [c]
  · simp only [if_neg c, Array.getElem?_eq_none (Nat.le_of_not_lt c)]
    split <;> rfl

/-- Calls to a depth, over frames that are functions; 'okf' tells which code is looked at. -/
def callE (P : Program) (okf : FuncId → Bool) (X : Xf) (N : Nat) (hk : Hook) : Nat → Kf
  | 0 => fun _ _ _ => none
  | d + 1 => fun f args H =>
    match hk f args H with
    | some r => r
    | none =>
      match P.funcs[f]? with
      | some fn => match fn.body with
        | some c => cond (okf f && Nat.ble args.size fn.ntmps) (execE P X (callE P okf X N hk d) N c none (startE args) [] H (finE P fn)) none
        | none => none
      | none => none
def GoodE (P : Program) (okf : FuncId → Bool) : Prop := ∀ (f : FuncId) fn c, okf f = true → P.funcs[f]? = some fn → fn.body = some c → goodE P fn.ntmps c = true
end Go.Am
/- Code without rounds, over frames that are functions: regions of open order, where values are looked at again. -/
namespace Go.Am

def TrE (n : Nat) (l : List (Env × Heap)) (l' : List (Act × Heap)) : Prop := l.length = l'.length ∧ ∀ (i : Nat) x y, l[i]? = some x → l'[i]? = some y → (∃ ds, SimE n x.1 ds y.1) ∧ x.2 = y.2
theorem TrE.push {n : Nat} {l : List (Env × Heap)} {l' : List (Act × Heap)} (h : TrE n l l') {E : Env} {ds : List Deferred} {a : Act} (ha : SimE n E ds a) (H : Heap) : TrE n (l ++ [(E, H)]) (l' ++ [(a, H)]) := by
  refine ⟨by simp [h.1], fun i x y hx hy => ?_⟩
  by_cases c : i < l.length
  · have c' : i < l'.length := h.1 ▸ c
    rw [List.getElem?_append_left c] at hx
    rw [List.getElem?_append_left c'] at hy
    exact h.2 i x y hx hy
  · have c' : ¬ i < l'.length := h.1 ▸ c
    rw [List.getElem?_append_right (by omega)] at hx
    rw [List.getElem?_append_right (by omega)] at hy
    have e : i - l.length = i - l'.length := by rw [h.1]
    rw [e] at hx
    cases hj : i - l'.length with
    | zero => rw [hj] at hx hy; simp at hx hy; subst hx hy; exact ⟨⟨ds, ha⟩, rfl⟩
    | succ j => rw [hj] at hx; simp at hx

def execTrF (P : Program) (X : Xf) (K : Kf) (ops : Array Oper) : List Oper → Env → List Deferred → Heap → List (Env × Heap) → (List (Env × Heap) → KE) → R
  | [], E, ds, H, tr, k => k (tr ++ [(E, H)]) E ds H
  | o :: rest, E, ds, H, tr, k => guardE ops o E (opE P X K o E ds H (fun E' ds' H' => execTrF P X K ops rest E' ds' H' (tr ++ [(E, H)]) k) (fun _ _ _ _ => none)) (execTrF P X K ops rest (upd E o.dst undef) ds H (tr ++ [(E, H)]) k)
theorem execTrF_sim {P : Program} {X : Xf} {K K' : Kf} (hK : KLe K K') {n : Nat} {ops : Array Oper} {r : End × Heap} {k : List (Env × Heap) → KE} {k' : List (Act × Heap) → Act → Heap → R} :
    ∀ (l : List Oper) (_ : ∀ o ∈ l, opsOk P n ops o = true) (z : Nat) (_ : ∀ tr tr', TrE n tr tr' → tr'.length = z + l.length + 1 → KSE n r (k tr) (k' tr')) (E : Env) (ds : List Deferred) (a : Act) (H : Heap) (tr : List (Env × Heap)) (tr' : List (Act × Heap)), TrE n tr tr' → tr'.length = z → SimE n E ds a →
      execTrF P X K ops l E ds H tr k = some r → execTr P X K' ops l a H tr' k' = some r
  | [], _, z, hk, E, ds, a, H, tr, tr', ht, hn, hs, h => hk _ _ (ht.push hs H) (by simp [hn]) _ _ _ _ hs h
  | o :: rest, hall, z, hk, E, ds, a, H, tr, tr', ht, hn, hs, h => by
    have ho := hall o (List.mem_cons_self ..)
    simp only [opsOk, Bool.and_eq_true] at ho
    have hr := fun o h => hall o (List.mem_cons_of_mem _ h)
    have hk' : ∀ tr tr', TrE n tr tr' → tr'.length = (z + 1) + rest.length + 1 → KSE n r (k tr) (k' tr') := fun tr tr' h1 h2 => hk tr tr' h1 (by rw [h2]; simp; omega)
    unfold execTrF at h
    show guardK ops o a _ _ = some r
    refine guardE_sim ho.2.2 hs (fun b hb h => ?_) (fun b hb h => ?_) h
    · exact opE_sim hK ho.1 ho.2.1 hb (fun E2 ds2 a2 H2 hs2 h2 => execTrF_sim hK rest hr (z + 1) hk' E2 ds2 a2 H2 _ _ (ht.push hb H) (by simp [hn]) hs2 h2) (fun _ _ _ _ _ _ h => by cases h) h
    · exact execTrF_sim hK rest hr (z + 1) hk' _ _ _ _ _ _ (ht.push hb H) (by simp [hn]) (hb.put ho.2.1 undef) h

def guardBE (ops : Array Oper) (o : Oper) (E : Env) : Option Bool :=
  match o.guard with
  | none => some true
  | some (j, want) =>
    match (ops[j]?).bind (·.dst) with
    | none => some false
    | some d => match E d with
      | .bool b => some (b == want)
      | .tuple _ => some false
      | _ => none
def pairChkE (P : Program) (ops : Array Oper) (tr : List (Env × Heap)) (i p : Nat) : Bool :=
  match ops.toList[i]?, tr[i]?, tr[i + 1]?, tr[p]?, tr[p + 1]? with
  | some oi, some ti, some tn, some tp, some tq =>
    match guardBE ops oi ti.1 with
    | some true => (match oi.dst with
      | some d =>
        (match qval P (evalE ti.1) oi tp.2 with | some v => veq v (tn.1 d) | none => false) &&
        (match qval P (evalE ti.1) oi tq.2 with | some v => veq v (tn.1 d) | none => false)
      | none => false)
    | _ => true
  | _, _, _, _, _ => false

theorem drawChk_ofE {P : Program} {n : Nat} {ops : Array Oper} {tr : List (Env × Heap)} {tr' : List (Act × Heap)} (hall : ∀ o ∈ ops.toList, opsOk P n ops o = true) (h : TrE n tr tr') (hn : tr'.length = ops.toList.length + 1) {l : List (Nat × Nat)} (hl : ∀ x ∈ drawPairs P ops.toList, x ∈ l) (hc : l.all (fun x => pairChkE P ops tr x.1 x.2) = true) : drawChk P ops tr' = true := by
  unfold drawChk
  simp only [List.all_eq_true, List.mem_range]
  intro i hi
  have gt : ∀ j, j ≤ ops.toList.length → ∃ x y, tr[j]? = some x ∧ tr'[j]? = some y ∧ (∃ ds, SimE n x.1 ds y.1) ∧ x.2 = y.2 := fun j hj => by
    have c' : j < tr'.length := by omega
    have c : j < tr.length := by rw [h.1]; exact c'
    exact ⟨_, _, List.getElem?_eq_getElem c, List.getElem?_eq_getElem c', h.2 j _ _ (List.getElem?_eq_getElem c) (List.getElem?_eq_getElem c')⟩
  obtain ⟨oi, e0⟩ : ∃ oi, ops.toList[i]? = some oi := ⟨_, List.getElem?_eq_getElem hi⟩
  obtain ⟨xi, yi, a1, a2, ⟨_, a3⟩, a4⟩ := gt i (by omega)
  obtain ⟨xn, yn, b1, b2, ⟨_, b3⟩, b4⟩ := gt (i + 1) (by omega)
  have hoi := hall oi (List.mem_of_getElem? e0)
  simp only [opsOk, Bool.and_eq_true] at hoi
  have hgB : guardB ops oi yi.1 = some true → guardBE ops oi xi.1 = some true := fun hg => by
    unfold guardB at hg
    unfold guardBE
    have hgo := hoi.2.2
    unfold guardOk at hgo
    cases hq : oi.guard with
    | none => rfl
    | some q =>
      obtain ⟨j, want⟩ := q
      simp only [hq] at hg hgo ⊢
      cases hd : (ops[j]?).bind (·.dst) with
      | none => rw [hd] at hg; cases hg
      | some d =>
        simp only [hd] at hg hgo ⊢
        have hlt : d < yi.1.tmps.size := by rw [a3.size]; simpa using hgo
        have e4 : yi.1.tmps[d]? = some (xi.1 d) := by rw [a3.env d]; simp [hlt]
        rw [e4] at hg
        cases hv : xi.1 d <;> rw [hv] at hg <;> first
          | exact hg
          | (simp at hg; done)
  rw [e0, a2, b2]
  simp only
  split
  · rename_i hg
    simp only [List.all_eq_true, List.mem_range]
    intro p hp
    obtain ⟨op, e1⟩ : ∃ op, ops.toList[p]? = some op := ⟨_, List.getElem?_eq_getElem hp⟩
    rw [e1]
    simp only
    split
    · rename_i hq
      obtain ⟨xp, yp, c1, c2, _, c4⟩ := gt p (by omega)
      obtain ⟨xq, yq, d1, d2, _, d4⟩ := gt (p + 1) (by omega)
      have hmem : (i, p) ∈ drawPairs P ops.toList := by
        unfold drawPairs
        simp only [List.mem_flatMap, List.mem_range]
        refine ⟨i, hi, ?_⟩
        rw [e0]
        simp only [hg.1, decide_true, cond_true, List.mem_map, List.mem_filter, List.mem_range]
        refine ⟨p, ⟨hp, ?_⟩, rfl⟩
        rw [e1]
        exact decide_eq_true hq
      have hchk := List.all_eq_true.mp hc _ (hl _ hmem)
      unfold pairChkE at hchk
      rw [e0, a1, b1, c1, d1] at hchk
      simp only [hgB hg.2] at hchk
      rw [c2, d2]
      cases hd : oi.dst with
      | none => rw [hd] at hchk; cases hchk
      | some d =>
        rw [hd] at hchk
        simp only [evalE_eq a3, b3.env d, c4, d4] at hchk ⊢
        generalize qval P yi.1.eval oi yp.2 = q1 at hchk ⊢
        generalize qval P yi.1.eval oi yq.2 = q2 at hchk ⊢
        cases q1 <;> cases q2 <;> first
          | (simp at hchk; done)
          | simpa using hchk
    · rfl
  · rfl

/-- Code without rounds; 'pr' tells, of each region, which values are looked at again. -/
def execF (P : Program) (X : Xf) (K : Kf) (pr : Nat → List (Nat × Nat)) : Code → Env → List Deferred → Heap → KOE → R
  | .seq x y, E, ds, H, k => execF P X K pr x E ds H (thenE (execF P X K pr y) k)
  | .skip, E, ds, H, k => k .norm E ds H
  | .ret, E, ds, H, k => k .ret E ds H
  | .region i ops draw, E, ds, H, k => cond draw
    (execTrF P X K ops ops.toList E ds H [] fun tr E ds H => cond ((pr i).all fun x => pairChkE P ops tr x.1 x.2) (k .norm E ds H) none)
    (execOpsE P X K ops ops.toList E ds H (fun E ds H => k .norm E ds H) (fun c E ds H => k (.pan c) E ds H))
  | .cond c x y, E, ds, H, k => condE (evalE E c) (execF P X K pr x E ds H k) (execF P X K pr y E ds H k)
  | _, _, _, _, _ => none
def goodFp (P : Program) (pr : Nat → List (Nat × Nat)) (n : Nat) : Code → Bool
  | .region i ops draw => ops.toList.all (opsOk P n ops) && (!draw || (drawOk P ops.toList && (drawPairs P ops.toList).all fun x => (pr i).any fun y => Nat.beq x.1 y.1 && Nat.beq x.2 y.2))
  | .seq a b => goodFp P pr n a && goodFp P pr n b
  | .cond _ a b => goodFp P pr n a && goodFp P pr n b
  | _ => true
/-- A statement's function: what it calls is run by the other machine. -/
def topF (P : Program) (okf : FuncId → Bool) (X : Xf) (N : Nat) (hk : Hook) (d : Nat) (g : FuncId) (pr : Nat → List (Nat × Nat)) : Kf := fun f args H =>
  cond (Nat.beq f g) (match P.funcs[f]? with
    | some fn => match fn.body with
      | some c => cond (goodFp P pr fn.ntmps c && Nat.ble args.size fn.ntmps) (execF P X (callE P okf X N hk d) pr c (startE args) [] H (finE P fn)) none
      | none => none
    | none => none) none
end Go.Am
/- The machine over frames that are functions, all of it: rounds, and regions of open order where values are looked at again. -/
namespace Go.Am

def execG (P : Program) (X : Xf) (K : Kf) (N : Nat) (pr : Nat → List (Nat × Nat)) : Code → Option Nat → Env → List Deferred → Heap → KOE → R
  | .seq x y, none, E, ds, H, k => execG P X K N pr x none E ds H (thenE (execG P X K N pr y none) k)
  | .seq x y, some l, E, ds, H, k => cond (hasLabel l x) (execG P X K N pr x (some l) E ds H (thenE (execG P X K N pr y none) k)) (execG P X K N pr y (some l) E ds H k)
  | .label l', some l, E, ds, H, k => cond (l' == l) (k .norm E ds H) none
  | .label _, none, E, ds, H, k => k .norm E ds H
  | .skip, none, E, ds, H, k => k .norm E ds H
  | .region i ops draw, none, E, ds, H, k => cond (draw && !(pr i).isEmpty)
    (execTrF P X K ops ops.toList E ds H [] fun tr E ds H => cond ((pr i).all fun x => pairChkE P ops tr x.1 x.2) (k .norm E ds H) none)
    (execOpsE P X K ops ops.toList E ds H (fun E ds H => k .norm E ds H) (fun c E ds H => cond draw none (k (.pan c) E ds H)))
  | .cond c x y, none, E, ds, H, k => condE (evalE E c) (execG P X K N pr x none E ds H k) (execG P X K N pr y none E ds H k)
  | .block id b, none, E, ds, H, k => execG P X K N pr b none E ds H (leaveB id k)
  | .loop b, none, E, ds, H, k => loopE (execG P X K N pr b none) N E ds H k
  | .exit id, none, E, ds, H, k => k (.exit id) E ds H
  | .scope b, none, E, ds, H, k => scopeE b (execG P X K N pr b) N none E ds H k
  | .goto l, none, E, ds, H, k => k (.goto l) E ds H
  | .ret, none, E, ds, H, k => k .ret E ds H
  | _, _, _, _, _, _ => none
def goodG (P : Program) (pr : Nat → List (Nat × Nat)) (n : Nat) : Code → Bool
  | .region i ops draw => ops.toList.all (opsOk P n ops) && (!draw || (drawOk P ops.toList && (drawPairs P ops.toList).all fun x => (pr i).any fun y => Nat.beq x.1 y.1 && Nat.beq x.2 y.2))
  | .seq a b => goodG P pr n a && goodG P pr n b
  | .cond _ a b => goodG P pr n a && goodG P pr n b
  | .block _ b => goodG P pr n b
  | .loop b => goodG P pr n b
  | .scope b => goodG P pr n b
  | _ => true
theorem execG_sim {P : Program} {X : Xf} {K K' : Kf} (hK : KLe K K') {N n : Nat} {pr : Nat → List (Nat × Nat)} {r : End × Heap} : ∀ (c : Code) (_ : goodG P pr n c = true) (s : Option Nat), BSimE n r (execG P X K N pr c s) (exec P X K' N c s)
  | .skip, hg, none, k, k', hk, E, ds, a, H, hs, h => by unfold exec; unfold execG at h; exact hk _ _ _ _ _ hs h
  | .skip, hg, some _, k, k', hk, E, ds, a, H, hs, h => by unfold execG at h; cases h
  | .region id ops draw, hg, none, k, k', hk, E, ds, a, H, hs, h => by
    unfold exec
    unfold execG at h
    simp only [goodG, Bool.and_eq_true] at hg
    have ho := fun o h => List.all_eq_true.mp hg.1 o h
    cases draw with
    | false => exact execOpsE_sim (k' := fun a H => k' .norm a H) (kp' := fun c a H => k' (.pan c) a H) hK (fun E ds a H => hk .norm E ds a H) (fun c E ds a H => hk (.pan c) E ds a H) ops.toList ho E ds a H hs h
    | true =>
      have hq : drawOk P ops.toList = true ∧ ((drawPairs P ops.toList).all fun x => (pr id).any fun y => Nat.beq x.1 y.1 && Nat.beq x.2 y.2) = true := by simpa using hg.2
      rw [hq.1]
      simp only [cond_true, Bool.true_and] at h ⊢
      cases he : (pr id).isEmpty with
      | true =>
        rw [he] at h
        have hp : (drawPairs P ops.toList).isEmpty = true := by
          have e0 : pr id = [] := List.isEmpty_iff.mp he
          have h2 := hq.2
          rw [e0] at h2
          cases hd : drawPairs P ops.toList with
          | nil => rfl
          | cons x l => rw [hd] at h2; simp at h2
        refine execTrE_sim (k' := fun tr af Hf => cond (drawChk P ops tr) (k' .norm af Hf) none) hK ops.toList ho 0 (fun tr' hn => ?_) E ds a H [] rfl hs h
        intro E ds a H hs h
        have hc : drawChk P ops tr' = true := drawChk_none (by rw [hn]; omega) hp
        rw [hc]
        exact hk _ _ _ _ _ hs h
      | false =>
        rw [he] at h
        have hl : ∀ x ∈ drawPairs P ops.toList, x ∈ pr id := fun x hx => by
          have := List.all_eq_true.mp hq.2 x hx
          obtain ⟨y, hy, e⟩ := List.any_eq_true.mp this
          simp only [Bool.and_eq_true] at e
          have e1 := Nat.eq_of_beq_eq_true e.1
          have e2 := Nat.eq_of_beq_eq_true e.2
          have : x = y := by cases x; cases y; simp_all
          rw [this]; exact hy
        refine execTrF_sim (k' := fun tr af Hf => cond (drawChk P ops tr) (k' .norm af Hf) none) hK ops.toList ho 0 (fun tr tr' htr hn => ?_) E ds a H [] [] ⟨rfl, fun i x y hx => by simp at hx⟩ rfl hs h
        intro E ds a H hs h
        cases hc : ((pr id).all fun x => pairChkE P ops tr x.1 x.2) with
        | false => rw [hc] at h; cases h
        | true =>
          rw [hc] at h
          rw [drawChk_ofE ho htr (by rw [hn]; omega) hl hc]
          exact hk _ _ _ _ _ hs h
  | .region .., hg, some _, k, k', hk, E, ds, a, H, hs, h => by unfold execG at h; cases h
  | .seq x y, hg, none, k, k', hk, E, ds, a, H, hs, h => by
    unfold exec
    unfold execG at h
    simp only [goodG, Bool.and_eq_true] at hg
    exact execG_sim hK x hg.1 none _ _ (thenE_sim (execG_sim hK y hg.2 none) hk) E ds a H hs h
  | .seq x y, hg, some l, k, k', hk, E, ds, a, H, hs, h => by
    unfold exec
    unfold execG at h
    simp only [goodG, Bool.and_eq_true] at hg
    cases e : hasLabel l x with
    | true => rw [e] at h; exact execG_sim hK x hg.1 (some l) _ _ (thenE_sim (execG_sim hK y hg.2 none) hk) E ds a H hs h
    | false => rw [e] at h; exact execG_sim hK y hg.2 (some l) _ _ hk E ds a H hs h
  | .cond c x y, hg, none, k, k', hk, E, ds, a, H, hs, h => by
    unfold exec
    unfold execG condE at h
    simp only [goodG, Bool.and_eq_true] at hg
    rw [evalE_eq hs] at h
    split at h
    · rename_i b e
      simp only [e]
      cases b with
      | true => exact execG_sim hK x hg.1 none _ _ hk E ds a H hs h
      | false => exact execG_sim hK y hg.2 none _ _ hk E ds a H hs h
    · cases h
  | .cond .., hg, some _, k, k', hk, E, ds, a, H, hs, h => by unfold execG at h; cases h
  | .block id b, hg, none, k, k', hk, E, ds, a, H, hs, h => by
    unfold exec
    unfold execG at h
    simp only [goodG] at hg
    refine execG_sim hK b hg none _ _ (fun o E ds a H hs h => ?_) E ds a H hs h
    cases o with
    | exit i =>
      simp only [leaveB] at h ⊢
      cases e : (i == id) with
      | true => rw [e] at h; exact hk _ _ _ _ _ hs h
      | false => rw [e] at h; exact hk _ _ _ _ _ hs h
    | _ => exact hk _ _ _ _ _ hs h
  | .block .., hg, some _, k, k', hk, E, ds, a, H, hs, h => by unfold execG at h; cases h
  | .loop b, hg, none, k, k', hk, E, ds, a, H, hs, h => by
    unfold exec
    unfold execG at h
    simp only [goodG] at hg
    exact loopE_sim (execG_sim hK b hg none) N k k' hk E ds a H hs h
  | .loop _, hg, some _, k, k', hk, E, ds, a, H, hs, h => by unfold execG at h; cases h
  | .rangeFunc .., hg, s, k, k', hk, E, ds, a, H, hs, h => by cases s <;> (unfold execG at h; cases h)
  | .exit id, hg, none, k, k', hk, E, ds, a, H, hs, h => by unfold exec; unfold execG at h; exact hk _ _ _ _ _ hs h
  | .exit _, hg, some _, k, k', hk, E, ds, a, H, hs, h => by unfold execG at h; cases h
  | .scope b, hg, none, k, k', hk, E, ds, a, H, hs, h => by
    unfold exec
    unfold execG at h
    simp only [goodG] at hg
    exact scopeE_sim (fun s => execG_sim hK b hg s) N none k k' hk E ds a H hs h
  | .scope _, hg, some _, k, k', hk, E, ds, a, H, hs, h => by unfold execG at h; cases h
  | .label l', hg, none, k, k', hk, E, ds, a, H, hs, h => by unfold exec; unfold execG at h; exact hk _ _ _ _ _ hs h
  | .label l', hg, some l, k, k', hk, E, ds, a, H, hs, h => by
    unfold exec
    unfold execG at h
    cases e : (l' == l) with
    | true => rw [e] at h; exact hk _ _ _ _ _ hs h
    | false => rw [e] at h; cases h
  | .goto l, hg, none, k, k', hk, E, ds, a, H, hs, h => by unfold exec; unfold execG at h; exact hk _ _ _ _ _ hs h
  | .goto _, hg, some _, k, k', hk, E, ds, a, H, hs, h => by unfold execG at h; cases h
  | .ret, hg, none, k, k', hk, E, ds, a, H, hs, h => by unfold exec; unfold execG at h; exact hk _ _ _ _ _ hs h
  | .ret, hg, some _, k, k', hk, E, ds, a, H, hs, h => by unfold execG at h; cases h
  | .refuse _, hg, s, k, k', hk, E, ds, a, H, hs, h => by cases s <;> (unfold execG at h; cases h)

def callG (P : Program) (okf : FuncId → Bool) (prf : FuncId → Nat → List (Nat × Nat)) (X : Xf) (N : Nat) (hk : Hook) : Nat → Kf
  | 0 => fun _ _ _ => none
  | d + 1 => fun f args H =>
    match hk f args H with
    | some r => r
    | none =>
      match P.funcs[f]? with
      | some fn => match fn.body with
        | some c => cond (okf f && Nat.ble args.size fn.ntmps) (execG P X (callG P okf prf X N hk d) N (prf f) c none (startE args) [] H (finE P fn)) none
        | none => none
      | none => none
def GoodG (P : Program) (okf : FuncId → Bool) (prf : FuncId → Nat → List (Nat × Nat)) : Prop := ∀ (f : FuncId) fn c, okf f = true → P.funcs[f]? = some fn → fn.body = some c → goodG P (prf f) fn.ntmps c = true
theorem callG_le {P : Program} {okf : FuncId → Bool} {prf : FuncId → Nat → List (Nat × Nat)} (hg : GoodG P okf prf) {X : Xf} {N : Nat} {hk : Hook} : ∀ d, KLe (callG P okf prf X N hk d) (callR P X N hk d)
  | 0 => fun f args H r h => by cases h
  | d + 1 => fun f args H r h => by
    unfold callG at h
    unfold callR
    split at h
    · rename_i q e; simp only [e]; exact h
    · rename_i e
      simp only [e]
      split at h
      · rename_i fn hf
        simp only [hf]
        split at h
        · rename_i c hc
          simp only [hc]
          cases ho : (okf f && Nat.ble args.size fn.ntmps) with
          | false => rw [ho] at h; cases h
          | true =>
            rw [ho] at h
            simp only [Bool.and_eq_true] at ho
            exact execG_sim (callG_le hg d) c (hg f fn c ho.1 hf hc) none _ _ finE_sim (startE args) [] _ H (start_sim (Nat.le_of_ble_eq_true ho.2)) h
        · cases h
      · cases h
theorem callG_sound {P : Program} {okf : FuncId → Bool} {prf : FuncId → Nat → List (Nat × Nat)} (hg : GoodG P okf prf) {X : Xf} {N : Nat} {hk : Hook} (hX : XSnd P X) (hH : HookSnd P hk) (hm : P.follows .mixedOrders = true) (d : Nat) : KSnd P (callG P okf prf X N hk d) :=
  fun f args H r H' he => callR_sound hX hH hm d f args H r H' (callG_le hg d _ _ _ _ he)
end Go.Am
