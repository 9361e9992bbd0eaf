/- Frames as functions: for proofs about all inputs. What this machine answers, the other answers. -/
import Derived.Test.YtmliebodadgpbaaGreatDoorM05
namespace Go.Am
abbrev Env := Nat → Value
def upd (E : Env) (d : Option Tmp) (v : Value) : Env := match d with | none => E | some i => fun j => if j = i then v else E j
theorem ja5 (E : Env) (v : Value) : upd E none v = E := rfl
theorem ja1 (E : Env) (i : Nat) (v : Value) (j : Nat) : upd E (some i) v j = if j = i then v else E j := rfl
def evalE (E : Env) : Operand → Value
 | .tmp i => E i
 | .const v => v
 | .global g => .pointer (some ⟨g, 0, none⟩)
 | .func f => .func (.func f) #[] #[]
structure SimE (n : Nat) (E : Env) (ds : List Deferred) (a : Act) : Prop where
 env : ∀ i, E i = a.tmps.getD i undef
 ds : a.defers = ds
 size : a.tmps.size = n
abbrev KE := Env → List Deferred → Heap → R
def KSE (n : Nat) (r : End × Heap) (k : KE) (k' : Act → Heap → R) : Prop := ∀ E ds a H, SimE n E ds a → k E ds H = some r → k' a H = some r
theorem j4d {n : Nat} {E : Env} {ds : List Deferred} {a : Act} (h : SimE n E ds a) : evalE E = a.eval := by
 funext x
 cases x with
 | tmp i => exact h.env i
 | _ => rfl
def dstOk (n : Nat) (o : Oper) : Bool := match o.dst with | some i => decide (i < n) | none => true
theorem SimE.put {n : Nat} {E : Env} {ds : List Deferred} {a : Act} (h : SimE n E ds a) {o : Oper} (ho : dstOk n o = true) (v : Value) : SimE n (upd E o.dst v) ds (a.put o.dst v) := by
 cases hd : o.dst with
 | none => exact h
 | some i =>
   have hi : i < n := by simpa [dstOk, hd] using ho
   refine ⟨fun j => ?_, h.ds, by simp [Act.put, h.size]⟩
   have hs := h.size
   simp only [Act.put, ja1]
   by_cases e : j = i
   · subst e; simp [hs, hi]
   · rw [if_neg e, h.env j]
     simp [Array.getD_eq_getD_getElem?, Ne.symm e]
def opE (P : Program) (X : Xf) (K : Kf) (o : Oper) (E : Env) (ds : List Deferred) (H : Heap) (k : KE) (kp : List PanicEntry → KE) : R :=
 match o.op with
 | .defer c => match deferOf (evalE E) c with
   | some d => k (upd E o.dst undef) (d :: ds) H
   | none => none
 | _ => opK P X K (evalE E) o H (fun v H => k (upd E o.dst v) ds H) (fun c H => kp c E ds H)
theorem j7q {P : Program} {X : Xf} {K K' : Kf} (hK : KLe K K') {n : Nat} {o : Oper} {E : Env} {ds : List Deferred} {a : Act} {H : Heap} {r : End × Heap} {k : KE} {k' : Act → Heap → R} {kp : List PanicEntry → KE} {kp' : List PanicEntry → Act → Heap → R}
   (hok : opOk P o = true) (hd : dstOk n o = true) (hs : SimE n E ds a) (hk : KSE n r k k') (hp : ∀ c, KSE n r (kp c) (kp' c)) (h : opE P X K o E ds H k kp = some r) : execOp1 P X K' o a H k' kp' = some r := by
 unfold execOp1
 rw [hok]
 simp only [cond_true]
 unfold opE at h
 rw [j4d hs] at h
 split at h
 · rename_i c e
   simp only [e]
   split at h
   · rename_i d hd'
     rw [hd']
     exact hk _ _ _ _ (SimE.put (a := { a with defers := d :: a.defers }) ⟨hs.env, by rw [hs.ds], hs.size⟩ hd undef) h
   · cases h
 · rename_i hno
   split
   · rename_i c e; exact absurd e (hno c)
   · exact j4a hK (fun v H h => hk _ _ _ _ (hs.put hd v) h) (fun c H h => hp c _ _ _ _ hs h) h
def guardE (ops : Array Oper) (o : Oper) (E : Env) (run skip : R) : R :=
 match o.guard with
 | none => run
 | some (j, want) =>
   match (ops[j]?).bind (·.dst) with
   | none => skip
   | some d => match E d with
     | .bool b => cond (b == want) run skip
     | .tuple _ => skip
     | _ => none
def guardOk (n : Nat) (ops : Array Oper) (o : Oper) : Bool :=
 match o.guard with
 | none => true
 | some (j, _) => match (ops[j]?).bind (·.dst) with | none => true | some d => decide (d < n)
theorem jz2 {n : Nat} {ops : Array Oper} {o : Oper} {E : Env} {ds : List Deferred} {a : Act} {r : End × Heap} {run skip : R} {run' skip' : Act → R} (hg : guardOk n ops o = true) (hs : SimE n E ds a)
   (hr : ∀ a, SimE n E ds a → run = some r → run' a = some r) (hk : ∀ a, SimE n E ds a → skip = some r → skip' a = some r) (h : guardE ops o E run skip = some r) : guardK ops o a run' skip' = some r := by
 unfold guardE at h
 unfold guardK
 unfold guardOk at hg
 split at h
 · rename_i e; simp only [e]; exact hr a hs h
 · rename_i j want e
   simp only [e] at hg ⊢
   split at h
   · rename_i e2; simp only [e2]; exact hk a hs h
   · rename_i d e2
     simp only [e2] at hg ⊢
     have hlt : d < a.tmps.size := by rw [hs.size]; simpa using hg
     have e4 : a.tmps[d]? = some (E d) := by
       rw [hs.env d]; simp [hlt]
     rw [e4]
     split at h
     · rename_i b e3
       simp only [e3, jv1]
       have hs' : SimE n E ds { a with tmps := a.tmps.setIfInBounds d (.bool b) } := by
         refine ⟨fun i => ?_, hs.ds, by simp [hs.size]⟩
         rw [hs.env i]
         simp only [Array.getD_eq_getD_getElem?, Array.getElem?_setIfInBounds]
         by_cases c : d = i
         · subst c; rw [e4, e3]; simp [hlt]
         · simp [c]
       cases hb : (b == want) with
       | true => rw [hb] at h; exact hr _ hs' h
       | false => rw [hb] at h; exact hk _ hs' h
     · rename_i e3; simp only [e3]; exact hk a hs h
     · cases h
def execOpsE (P : Program) (X : Xf) (K : Kf) (ops : Array Oper) : List Oper → Env → List Deferred → Heap → KE → (List PanicEntry → KE) → R
 | [], E, ds, H, k, _ => k E ds H
 | o :: rest, E, ds, H, k, kp => guardE ops o E (opE P X K o E ds H (fun E ds H => execOpsE P X K ops rest E ds H k kp) kp) (execOpsE P X K ops rest (upd E o.dst undef) ds H k kp)
def opsOk (P : Program) (n : Nat) (ops : Array Oper) (o : Oper) : Bool := opOk P o && (dstOk n o && guardOk n ops o)
theorem jl7 {P : Program} {X : Xf} {K K' : Kf} (hK : KLe K K') {n : Nat} {ops : Array Oper} {r : End × Heap} {k : KE} {k' : Act → Heap → R} {kp : List PanicEntry → KE} {kp' : List PanicEntry → Act → Heap → R}
   (hk : KSE n r k k') (hp : ∀ c, KSE n r (kp c) (kp' c)) : ∀ (l : List Oper) (_ : ∀ o ∈ l, opsOk P n ops o = true) (E : Env) (ds : List Deferred) (a : Act) (H : Heap), SimE n E ds a → execOpsE P X K ops l E ds H k kp = some r → execOps P X K' ops l a H k' kp' = some r
 | [], _, E, ds, a, H, hs, h => hk _ _ _ _ hs h
 | o :: rest, hall, E, ds, a, H, hs, h => by
   have ho := hall o (List.mem_cons_self ..)
   simp only [opsOk, Bool.and_eq_true] at ho
   have hr := fun o h => hall o (List.mem_cons_of_mem _ h)
   exact jz2 ho.2.2 hs (fun a hs h => j7q hK ho.1 ho.2.1 hs (fun E ds a H hs h => jl7 hK hk hp rest hr E ds a H hs h) hp h)
     (fun a hs h => jl7 hK hk hp rest hr _ _ _ _ (hs.put ho.2.1 undef) h) h
theorem jt5 {P : Program} {X : Xf} {K K' : Kf} (hK : KLe K K') {n : Nat} {ops : Array Oper} {r : End × Heap} {k : KE} {k' : List (Act × Heap) → Act → Heap → R} {kp : List PanicEntry → KE} {kp' : List PanicEntry → Act → Heap → R} (hp : ∀ c, KSE n r (kp c) (kp' c)) :
   ∀ (l : List Oper) (_ : ∀ o ∈ l, opsOk P n ops o = true) (z : Nat) (_ : ∀ tr', tr'.length = z + l.length + 1 → KSE n r k (k' tr')) (E : Env) (ds : List Deferred) (a : Act) (H : Heap) (tr' : List (Act × Heap)), tr'.length = z → SimE n E ds a →
     execOpsE P X K ops l E ds H k kp = some r → execTr P X K' ops l a H tr' k' kp' = some r
 | [], _, z, hk, E, ds, a, H, tr', hn, hs, h => hk _ (by simp [hn]) _ _ _ _ hs h
 | o :: rest, hall, z, hk, E, ds, a, H, tr', hn, hs, h => by
   have ho := hall o (List.mem_cons_self ..)
   simp only [opsOk, Bool.and_eq_true] at ho
   have hr := fun o h => hall o (List.mem_cons_of_mem _ h)
   have hk' : ∀ tr', tr'.length = (z + 1) + rest.length + 1 → KSE n r k (k' tr') := fun tr' h2 => hk tr' (by rw [h2]; simp; omega)
   show guardK ops o a _ _ = some r
   exact jz2 ho.2.2 hs (fun a hs h => j7q hK ho.1 ho.2.1 hs (fun E ds a H hs h => jt5 hK hp rest hr (z + 1) hk' E ds a H _ (by simp [hn]) hs h) hp h)
     (fun a hs h => jt5 hK hp rest hr (z + 1) hk' _ _ _ _ _ (by simp [hn]) (hs.put ho.2.1 undef) h) h
abbrev KOE := Out → KE
def KSoE (n : Nat) (r : End × Heap) (k : KOE) (k' : Out → Act → Heap → R) : Prop := ∀ o, KSE n r (k o) (k' o)
def BSimE (n : Nat) (r : End × Heap) (body : Env → List Deferred → Heap → KOE → R) (body' : Act → Heap → (Out → Act → Heap → R) → R) : Prop :=
 ∀ k k', KSoE n r k k' → ∀ E ds a H, SimE n E ds a → body E ds H k = some r → body' a H k' = some r
def thenE (b2 : Env → List Deferred → Heap → KOE → R) (k : KOE) : KOE := fun o E ds H => match o with | .norm => b2 E ds H k | o => k o E ds H
def leaveB (id : Nat) (k : KOE) : KOE := fun o E ds H => match o with | .exit i => cond (i == id) (k .norm E ds H) (k (.exit i) E ds H) | o => k o E ds H
def loopE (body : Env → List Deferred → Heap → KOE → R) : Nat → Env → List Deferred → Heap → KOE → R
 | 0, _, _, _, _ => none
 | n + 1, E, ds, H, k => body E ds H (thenE (fun E ds H k => loopE body n E ds H k) k)
def scopeE (c : Code) (body : Option Nat → Env → List Deferred → Heap → KOE → R) : Nat → Option Nat → Env → List Deferred → Heap → KOE → R
 | 0, _, _, _, _, _ => none
 | n + 1, s, E, ds, H, k => body s E ds H fun o E ds H => match o with | .goto l => cond (hasLabel l c) (scopeE c body n (some l) E ds H k) (k (.goto l) E ds H) | o => k o E ds H
theorem j1p {n : Nat} {r : End × Heap} {b2 : Env → List Deferred → Heap → KOE → R} {b2' : Act → Heap → (Out → Act → Heap → R) → R} (h2 : BSimE n r b2 b2') {k : KOE} {k' : Out → Act → Heap → R} (hk : KSoE n r k k') :
   KSoE n r (thenE b2 k) (fun o a H => match o with | .norm => b2' a H k' | o => k' o a H) := by
 intro o E ds a H hs h
 cases o with
 | norm => exact h2 k k' hk _ _ _ _ hs h
 | _ => exact hk _ _ _ _ _ hs h
theorem j5y {m : Nat} {r : End × Heap} {body : Env → List Deferred → Heap → KOE → R} {body' : Act → Heap → (Out → Act → Heap → R) → R} (hb : BSimE m r body body') : ∀ n, BSimE m r (loopE body n) (loopC body' n)
 | 0, _, _, _, _, _, _, _, _, h => by cases h
 | n + 1, k, k', hk, E, ds, a, H, hs, h => hb _ _ (j1p (j5y hb n) hk) E ds a H hs h
theorem j3e {m : Nat} {r : End × Heap} {c : Code} {body : Option Nat → Env → List Deferred → Heap → KOE → R} {body' : Option Nat → Act → Heap → (Out → Act → Heap → R) → R} (hb : ∀ s, BSimE m r (body s) (body' s)) :
   ∀ n s, BSimE m r (scopeE c body n s) (scopeC c body' n s)
 | 0, _, _, _, _, _, _, _, _, _, h => by cases h
 | n + 1, s, k, k', hk, E, ds, a, H, hs, h => by
   refine hb s _ _ (fun o E ds a H hs h => ?_) E ds a H hs h
   cases o with
   | goto l =>
     simp only at h ⊢
     cases e : hasLabel l c with
     | true => rw [e] at h; exact j3e hb n _ k k' hk _ _ _ _ hs h
     | false => rw [e] at h; exact hk _ _ _ _ _ hs h
   | _ => exact hk _ _ _ _ _ hs h
def condE (v : Value) (x y : R) : R := match v with | .bool t => cond t x y | _ => none
def execE (P : Program) (X : Xf) (K : Kf) (N : Nat) : Code → Option Nat → Env → List Deferred → Heap → KOE → R
 | .seq x y, none, E, ds, H, k => execE P X K N x none E ds H (thenE (execE P X K N y none) k)
 | .seq x y, some l, E, ds, H, k => cond (hasLabel l x) (execE P X K N x (some l) E ds H (thenE (execE P X K N y none) k)) (execE P X K N y (some l) E ds H k)
 | .label l', some l, E, ds, H, k => cond (l' == l) (k .norm E ds H) none
 | .label _, none, E, ds, H, k => k .norm E ds H
 | .skip, none, E, ds, H, k => k .norm E ds H
 | .region _ ops draw, none, E, ds, H, k => execOpsE P X K ops ops.toList E ds H (fun E ds H => k .norm E ds H) (fun c E ds H => cond draw none (k (.pan c) E ds H))
 | .cond c x y, none, E, ds, H, k => condE (evalE E c) (execE P X K N x none E ds H k) (execE P X K N y none E ds H k)
 | .block id b, none, E, ds, H, k => execE P X K N b none E ds H (leaveB id k)
 | .loop b, none, E, ds, H, k => loopE (execE P X K N b none) N E ds H k
 | .exit id, none, E, ds, H, k => k (.exit id) E ds H
 | .scope b, none, E, ds, H, k => scopeE b (execE P X K N b) N none E ds H k
 | .goto l, none, E, ds, H, k => k (.goto l) E ds H
 | .ret, none, E, ds, H, k => k .ret E ds H
 | _, _, _, _, _, _ => none
theorem j5z {P : Program} {ops : Array Oper} {tr' : List (Act × Heap)} (hn : tr'.length = ops.toList.length + 1) (hq : (drawPairs P ops.toList).isEmpty = true) : drawChk P ops tr' = true := by
 unfold drawChk
 simp only [List.all_eq_true, List.mem_range]
 intro i hi
 obtain ⟨oi, e0⟩ : ∃ oi, ops.toList[i]? = some oi := ⟨_, List.getElem?_eq_getElem hi⟩
 have c1 : i < tr'.length := by omega
 have c2 : i + 1 < tr'.length := by omega
 rw [e0, List.getElem?_eq_getElem c1, List.getElem?_eq_getElem c2]
 simp only
 split
 · rename_i hg
   simp only [List.all_eq_true, List.mem_range]
   intro p hp
   obtain ⟨op, e1⟩ : ∃ op, ops.toList[p]? = some op := ⟨_, List.getElem?_eq_getElem hp⟩
   rw [e1]
   simp only
   split
   · rename_i hq2
     exfalso
     have hmem : (i, p) ∈ drawPairs P ops.toList := by
       unfold drawPairs
       simp only [List.mem_flatMap, List.mem_range]
       refine ⟨i, hi, ?_⟩
       rw [e0]
       simp only [hg.1, decide_true, cond_true, List.mem_map, List.mem_filter, List.mem_range]
       refine ⟨p, ⟨hp, ?_⟩, rfl⟩
       rw [e1]
       exact decide_eq_true hq2
     have : drawPairs P ops.toList = [] := by simpa using hq
     rw [this] at hmem
     cases hmem
   · rfl
 · rfl
def eraseE (ops : Array Oper) (E : Env) : Env := fun i => cond (writes ops i) undef (E i)
theorem yk1 {n : Nat} {E : Env} {ds : List Deferred} {a : Act} (ops : Array Oper) (h : SimE n E ds a) : SimE n (eraseE ops E) ds (eraseA ops a) := by
 refine ⟨fun i => ?_, h.ds, by simp [eraseA, h.size]⟩
 simp only [eraseE, eraseA, Array.getD_eq_getD_getElem?, Array.getElem?_mapIdx]
 rw [h.env i]
 simp only [Array.getD_eq_getD_getElem?]
 cases hg : a.tmps[i]? with
 | none => cases writes ops i <;> rfl
 | some v => cases writes ops i <;> rfl
def resE (P : Program) (E : Env) (H : Heap) : List ResultVar → Option (List Value)
 | [] => some []
 | .tmp i :: r => match resE P E H r with | some l => some (E i :: l) | none => none
 | .cell i ty :: r => match loadA P ty (E i) H with
   | some (v, _) => match resE P E H r with | some l => some (v :: l) | none => none
   | none => none
theorem j4e {P : Program} {n : Nat} {E : Env} {ds : List Deferred} {a : Act} (h : SimE n E ds a) (H : Heap) : ∀ l, resE P E H l = resL P a.tmps H l
 | [] => rfl
 | .tmp i :: r => by
   unfold resE resL
   rw [j4e h H r, h.env i]
   cases resL P a.tmps H r <;> rfl
 | .cell i ty :: r => by
   unfold resE resL
   rw [j4e h H r, h.env i]
   cases loadA P ty (a.tmps.getD i undef) H with
   | none => rfl
   | some x => cases resL P a.tmps H r <;> rfl
def finE (P : Program) (fn : Func) (o : Out) (E : Env) (ds : List Deferred) (H : Heap) : R :=
 match o with
 | .norm | .ret => match ds with
   | [] => match resE P E H fn.results.toList with | some l => some (.ret (oneOf l), H) | none => none
   | _ => none
 | .pan c => match ds with | [] => some (.pan c, H) | _ => none
 | _ => none
def startE (args : Array Value) : Env := fun i => args.getD i undef
theorem j1q {fn : Func} {args : Array Value} (h : args.size ≤ fn.ntmps) : SimE fn.ntmps (startE args) [] (act0 fn args) := by
 refine ⟨fun i => ?_, rfl, by simp [act0]; omega⟩
 simp only [startE, act0, Array.getD_eq_getD_getElem?, Array.getElem?_append, Array.getElem?_replicate]
 by_cases c : i < args.size
 · simp [c]
 · simp only [if_neg c, Array.getElem?_eq_none (Nat.le_of_not_lt c)]
   split <;> rfl
def callE (P : Program) (okf : FuncId → Bool) (X : Xf) (N : Nat) (hk : Hook) : Nat → Kf
 | 0 => fun _ _ _ => none
 | d + 1 => fun f args H =>
   match hk f args H with
   | some r => r
   | none =>
     match P.funcs[f]? with
     | some fn => match fn.body with
       | some c => cond (okf f && Nat.ble args.size fn.ntmps) (execE P X (callE P okf X N hk d) N c none (startE args) [] H (finE P fn)) none
       | none => none
     | none => none
def TrE (n : Nat) (l : List (Env × Heap)) (l' : List (Act × Heap)) : Prop := l.length = l'.length ∧ ∀ (i : Nat) x y, l[i]? = some x → l'[i]? = some y → (∃ ds, SimE n x.1 ds y.1) ∧ x.2 = y.2
theorem TrE.push {n : Nat} {l : List (Env × Heap)} {l' : List (Act × Heap)} (h : TrE n l l') {E : Env} {ds : List Deferred} {a : Act} (ha : SimE n E ds a) (H : Heap) : TrE n (l ++ [(E, H)]) (l' ++ [(a, H)]) := by
 refine ⟨by simp [h.1], fun i x y hx hy => ?_⟩
 by_cases c : i < l.length
 · have c' : i < l'.length := h.1 ▸ c
   rw [List.getElem?_append_left c] at hx
   rw [List.getElem?_append_left c'] at hy
   exact h.2 i x y hx hy
 · have c' : ¬ i < l'.length := h.1 ▸ c
   rw [List.getElem?_append_right (by omega)] at hx
   rw [List.getElem?_append_right (by omega)] at hy
   have e : i - l.length = i - l'.length := by rw [h.1]
   rw [e] at hx
   cases hj : i - l'.length with
   | zero => rw [hj] at hx hy; simp at hx hy; subst hx hy; exact ⟨⟨ds, ha⟩, rfl⟩
   | succ j => rw [hj] at hx; simp at hx
def execTrF (P : Program) (X : Xf) (K : Kf) (ops : Array Oper) : List Oper → Env → List Deferred → Heap → List (Env × Heap) → (List (Env × Heap) → KE) → (List PanicEntry → KE) → R
 | [], E, ds, H, tr, k, _ => k (tr ++ [(E, H)]) E ds H
 | o :: rest, E, ds, H, tr, k, kp => guardE ops o E (opE P X K o E ds H (fun E' ds' H' => execTrF P X K ops rest E' ds' H' (tr ++ [(E, H)]) k kp) kp) (execTrF P X K ops rest (upd E o.dst undef) ds H (tr ++ [(E, H)]) k kp)
theorem jt6 {P : Program} {X : Xf} {K K' : Kf} (hK : KLe K K') {n : Nat} {ops : Array Oper} {r : End × Heap} {k : List (Env × Heap) → KE} {k' : List (Act × Heap) → Act → Heap → R} {kp : List PanicEntry → KE} {kp' : List PanicEntry → Act → Heap → R} (hp : ∀ c, KSE n r (kp c) (kp' c)) :
   ∀ (l : List Oper) (_ : ∀ o ∈ l, opsOk P n ops o = true) (z : Nat) (_ : ∀ tr tr', TrE n tr tr' → tr'.length = z + l.length + 1 → KSE n r (k tr) (k' tr')) (E : Env) (ds : List Deferred) (a : Act) (H : Heap) (tr : List (Env × Heap)) (tr' : List (Act × Heap)), TrE n tr tr' → tr'.length = z → SimE n E ds a →
     execTrF P X K ops l E ds H tr k kp = some r → execTr P X K' ops l a H tr' k' kp' = some r
 | [], _, z, hk, E, ds, a, H, tr, tr', ht, hn, hs, h => hk _ _ (ht.push hs H) (by simp [hn]) _ _ _ _ hs h
 | o :: rest, hall, z, hk, E, ds, a, H, tr, tr', ht, hn, hs, h => by
   have ho := hall o (List.mem_cons_self ..)
   simp only [opsOk, Bool.and_eq_true] at ho
   have hr := fun o h => hall o (List.mem_cons_of_mem _ h)
   have hk' : ∀ tr tr', TrE n tr tr' → tr'.length = (z + 1) + rest.length + 1 → KSE n r (k tr) (k' tr') := fun tr tr' h1 h2 => hk tr tr' h1 (by rw [h2]; simp; omega)
   unfold execTrF at h
   show guardK ops o a _ _ = some r
   refine jz2 ho.2.2 hs (fun b hb h => ?_) (fun b hb h => ?_) h
   · exact j7q hK ho.1 ho.2.1 hb (fun E2 ds2 a2 H2 hs2 h2 => jt6 hK hp rest hr (z + 1) hk' E2 ds2 a2 H2 _ _ (ht.push hb H) (by simp [hn]) hs2 h2) hp h
   · exact jt6 hK hp rest hr (z + 1) hk' _ _ _ _ _ _ (ht.push hb H) (by simp [hn]) (hb.put ho.2.1 undef) h
def guardBE (ops : Array Oper) (o : Oper) (E : Env) : Option Bool :=
 match o.guard with
 | none => some true
 | some (j, want) =>
   match (ops[j]?).bind (·.dst) with
   | none => some false
   | some d => match E d with
     | .bool b => some (b == want)
     | .tuple _ => some false
     | _ => none
def pairChkE (P : Program) (ops : Array Oper) (tr : List (Env × Heap)) (i p : Nat) : Bool :=
 match ops.toList[i]?, tr[i]?, tr[i + 1]?, tr[p]?, tr[p + 1]? with
 | some oi, some ti, some tn, some tp, some tq =>
   match guardBE ops oi ti.1 with
   | some true => (match oi.dst with
     | some d =>
       (match qval P (evalE ti.1) oi tp.2 with | some v => veq v (tn.1 d) | none => false) &&
       (match qval P (evalE ti.1) oi tq.2 with | some v => veq v (tn.1 d) | none => false)
     | none => false)
   | _ => true
 | _, _, _, _, _ => false
theorem j7r {P : Program} {n : Nat} {ops : Array Oper} {tr : List (Env × Heap)} {tr' : List (Act × Heap)} (hall : ∀ o ∈ ops.toList, opsOk P n ops o = true) (h : TrE n tr tr') (hn : tr'.length = ops.toList.length + 1) {l : List (Nat × Nat)} (hl : ∀ x ∈ drawPairs P ops.toList, x ∈ l) (hc : l.all (fun x => pairChkE P ops tr x.1 x.2) = true) : drawChk P ops tr' = true := by
 unfold drawChk
 simp only [List.all_eq_true, List.mem_range]
 intro i hi
 have gt : ∀ j, j ≤ ops.toList.length → ∃ x y, tr[j]? = some x ∧ tr'[j]? = some y ∧ (∃ ds, SimE n x.1 ds y.1) ∧ x.2 = y.2 := fun j hj => by
   have c' : j < tr'.length := by omega
   have c : j < tr.length := by rw [h.1]; exact c'
   exact ⟨_, _, List.getElem?_eq_getElem c, List.getElem?_eq_getElem c', h.2 j _ _ (List.getElem?_eq_getElem c) (List.getElem?_eq_getElem c')⟩
 obtain ⟨oi, e0⟩ : ∃ oi, ops.toList[i]? = some oi := ⟨_, List.getElem?_eq_getElem hi⟩
 obtain ⟨xi, yi, a1, a2, ⟨_, a3⟩, a4⟩ := gt i (by omega)
 obtain ⟨xn, yn, b1, b2, ⟨_, b3⟩, b4⟩ := gt (i + 1) (by omega)
 have hoi := hall oi (List.mem_of_getElem? e0)
 simp only [opsOk, Bool.and_eq_true] at hoi
 have hgB : guardB ops oi yi.1 = some true → guardBE ops oi xi.1 = some true := fun hg => by
   unfold guardB at hg
   unfold guardBE
   have hgo := hoi.2.2
   unfold guardOk at hgo
   cases hq : oi.guard with
   | none => rfl
   | some q =>
     obtain ⟨j, want⟩ := q
     simp only [hq] at hg hgo ⊢
     cases hd : (ops[j]?).bind (·.dst) with
     | none => rw [hd] at hg; cases hg
     | some d =>
       simp only [hd] at hg hgo ⊢
       have hlt : d < yi.1.tmps.size := by rw [a3.size]; simpa using hgo
       have e4 : yi.1.tmps[d]? = some (xi.1 d) := by rw [a3.env d]; simp [hlt]
       rw [e4] at hg
       cases hv : xi.1 d <;> rw [hv] at hg <;> first
         | exact hg
         | (simp at hg; done)
 rw [e0, a2, b2]
 simp only
 split
 · rename_i hg
   simp only [List.all_eq_true, List.mem_range]
   intro p hp
   obtain ⟨op, e1⟩ : ∃ op, ops.toList[p]? = some op := ⟨_, List.getElem?_eq_getElem hp⟩
   rw [e1]
   simp only
   split
   · rename_i hq
     obtain ⟨xp, yp, c1, c2, _, c4⟩ := gt p (by omega)
     obtain ⟨xq, yq, d1, d2, _, d4⟩ := gt (p + 1) (by omega)
     have hmem : (i, p) ∈ drawPairs P ops.toList := by
       unfold drawPairs
       simp only [List.mem_flatMap, List.mem_range]
       refine ⟨i, hi, ?_⟩
       rw [e0]
       simp only [hg.1, decide_true, cond_true, List.mem_map, List.mem_filter, List.mem_range]
       refine ⟨p, ⟨hp, ?_⟩, rfl⟩
       rw [e1]
       exact decide_eq_true hq
     have hchk := List.all_eq_true.mp hc _ (hl _ hmem)
     unfold pairChkE at hchk
     rw [e0, a1, b1, c1, d1] at hchk
     simp only [hgB hg.2] at hchk
     rw [c2, d2]
     cases hd : oi.dst with
     | none => rw [hd] at hchk; cases hchk
     | some d =>
       rw [hd] at hchk
       simp only [j4d a3, b3.env d, c4, d4] at hchk ⊢
       generalize qval P yi.1.eval oi yp.2 = q1 at hchk ⊢
       generalize qval P yi.1.eval oi yq.2 = q2 at hchk ⊢
       cases q1 <;> cases q2 <;> first
         | (simp at hchk; done)
         | simpa using hchk
   · rfl
 · rfl
def panD (P : Program) (ops : Array Oper) (dr : Bool) (k : KOE) : List PanicEntry → KE := fun c E ds H => cond dr (cond (panAll P ops.toList) (k (.pan c) (eraseE ops E) ds H) none) (k (.pan c) E ds H)
theorem j9e {P : Program} {ops : Array Oper} {n : Nat} {r : End × Heap} {k : KOE} {k' : Out → Act → Heap → R} (hk : KSoE n r k k') : ∀ c, KSE n r (panD P ops true k c) (fun af Hf => cond (panAll P ops.toList) (k' (.pan c) (eraseA ops af) Hf) none) := by
 intro c E ds a H hs h
 unfold panD at h
 simp only [cond_true] at h
 cases hp : panAll P ops.toList with
 | false => rw [hp] at h; cases h
 | true => rw [hp] at h; exact hk _ _ _ _ _ (yk1 ops hs) h
def execG (P : Program) (X : Xf) (K : Kf) (N : Nat) (pr : Nat → List (Nat × Nat)) : Code → Option Nat → Env → List Deferred → Heap → KOE → R
 | .seq x y, none, E, ds, H, k => execG P X K N pr x none E ds H (thenE (execG P X K N pr y none) k)
 | .seq x y, some l, E, ds, H, k => cond (hasLabel l x) (execG P X K N pr x (some l) E ds H (thenE (execG P X K N pr y none) k)) (execG P X K N pr y (some l) E ds H k)
 | .label l', some l, E, ds, H, k => cond (l' == l) (k .norm E ds H) none
 | .label _, none, E, ds, H, k => k .norm E ds H
 | .skip, none, E, ds, H, k => k .norm E ds H
 | .region i ops draw, none, E, ds, H, k => cond (draw && !(pr i).isEmpty)
   (execTrF P X K ops ops.toList E ds H [] (fun tr E ds H => cond ((pr i).all fun x => pairChkE P ops tr x.1 x.2) (k .norm E ds H) none) (panD P ops true k))
   (execOpsE P X K ops ops.toList E ds H (fun E ds H => k .norm E ds H) (panD P ops draw k))
 | .cond c x y, none, E, ds, H, k => condE (evalE E c) (execG P X K N pr x none E ds H k) (execG P X K N pr y none E ds H k)
 | .block id b, none, E, ds, H, k => execG P X K N pr b none E ds H (leaveB id k)
 | .loop b, none, E, ds, H, k => loopE (execG P X K N pr b none) N E ds H k
 | .exit id, none, E, ds, H, k => k (.exit id) E ds H
 | .scope b, none, E, ds, H, k => scopeE b (execG P X K N pr b) N none E ds H k
 | .goto l, none, E, ds, H, k => k (.goto l) E ds H
 | .ret, none, E, ds, H, k => k .ret E ds H
 | _, _, _, _, _, _ => none
def goodG (P : Program) (pr : Nat → List (Nat × Nat)) (n : Nat) : Code → Bool
 | .region i ops draw => ops.toList.all (opsOk P n ops) && (!draw || (drawOk P ops.toList && (drawPairs P ops.toList).all fun x => (pr i).any fun y => Nat.beq x.1 y.1 && Nat.beq x.2 y.2))
 | .seq a b => goodG P pr n a && goodG P pr n b
 | .cond _ a b => goodG P pr n a && goodG P pr n b
 | .block _ b => goodG P pr n b
 | .loop b => goodG P pr n b
 | .scope b => goodG P pr n b
 | _ => true
theorem je6 {P : Program} {X : Xf} {K K' : Kf} (hK : KLe K K') {N n : Nat} {pr : Nat → List (Nat × Nat)} {r : End × Heap} : ∀ (c : Code) (_ : goodG P pr n c = true) (s : Option Nat), BSimE n r (execG P X K N pr c s) (exec P X K' N c s)
 | .skip, hg, none, k, k', hk, E, ds, a, H, hs, h => by unfold exec; unfold execG at h; exact hk _ _ _ _ _ hs h
 | .skip, hg, some _, k, k', hk, E, ds, a, H, hs, h => by unfold execG at h; cases h
 | .region id ops draw, hg, none, k, k', hk, E, ds, a, H, hs, h => by
   unfold exec
   unfold execG at h
   simp only [goodG, Bool.and_eq_true] at hg
   have ho := fun o h => List.all_eq_true.mp hg.1 o h
   cases draw with
   | false => exact jl7 (k' := fun a H => k' .norm a H) (kp' := fun c a H => k' (.pan c) a H) hK (fun E ds a H => hk .norm E ds a H) (fun c E ds a H => hk (.pan c) E ds a H) ops.toList ho E ds a H hs h
   | true =>
     have hq : drawOk P ops.toList = true ∧ ((drawPairs P ops.toList).all fun x => (pr id).any fun y => Nat.beq x.1 y.1 && Nat.beq x.2 y.2) = true := by simpa using hg.2
     rw [hq.1]
     simp only [cond_true, Bool.true_and] at h ⊢
     cases he : (pr id).isEmpty with
     | true =>
       rw [he] at h
       have hp : (drawPairs P ops.toList).isEmpty = true := by
         have e0 : pr id = [] := List.isEmpty_iff.mp he
         have h2 := hq.2
         rw [e0] at h2
         cases hd : drawPairs P ops.toList with
         | nil => rfl
         | cons x l => rw [hd] at h2; simp at h2
       refine jt5 (k' := fun tr af Hf => cond (drawChk P ops tr) (k' .norm af Hf) none) hK (j9e hk) ops.toList ho 0 (fun tr' hn => ?_) E ds a H [] rfl hs h
       intro E ds a H hs h
       have hc : drawChk P ops tr' = true := j5z (by rw [hn]; omega) hp
       rw [hc]
       exact hk _ _ _ _ _ hs h
     | false =>
       rw [he] at h
       have hl : ∀ x ∈ drawPairs P ops.toList, x ∈ pr id := fun x hx => by
         have := List.all_eq_true.mp hq.2 x hx
         obtain ⟨y, hy, e⟩ := List.any_eq_true.mp this
         simp only [Bool.and_eq_true] at e
         have e1 := Nat.eq_of_beq_eq_true e.1
         have e2 := Nat.eq_of_beq_eq_true e.2
         have : x = y := by cases x; cases y; simp_all
         rw [this]; exact hy
       refine jt6 (k' := fun tr af Hf => cond (drawChk P ops tr) (k' .norm af Hf) none) hK (j9e hk) ops.toList ho 0 (fun tr tr' htr hn => ?_) E ds a H [] [] ⟨rfl, fun i x y hx => by simp at hx⟩ rfl hs h
       intro E ds a H hs h
       cases hc : ((pr id).all fun x => pairChkE P ops tr x.1 x.2) with
       | false => rw [hc] at h; cases h
       | true =>
         rw [hc] at h
         rw [j7r ho htr (by rw [hn]; omega) hl hc]
         exact hk _ _ _ _ _ hs h
 | .region .., hg, some _, k, k', hk, E, ds, a, H, hs, h => by unfold execG at h; cases h
 | .seq x y, hg, none, k, k', hk, E, ds, a, H, hs, h => by
   unfold exec
   unfold execG at h
   simp only [goodG, Bool.and_eq_true] at hg
   exact je6 hK x hg.1 none _ _ (j1p (je6 hK y hg.2 none) hk) E ds a H hs h
 | .seq x y, hg, some l, k, k', hk, E, ds, a, H, hs, h => by
   unfold exec
   unfold execG at h
   simp only [goodG, Bool.and_eq_true] at hg
   cases e : hasLabel l x with
   | true => rw [e] at h; exact je6 hK x hg.1 (some l) _ _ (j1p (je6 hK y hg.2 none) hk) E ds a H hs h
   | false => rw [e] at h; exact je6 hK y hg.2 (some l) _ _ hk E ds a H hs h
 | .cond c x y, hg, none, k, k', hk, E, ds, a, H, hs, h => by
   unfold exec
   unfold execG condE at h
   simp only [goodG, Bool.and_eq_true] at hg
   rw [j4d hs] at h
   split at h
   · rename_i b e
     simp only [e]
     cases b with
     | true => exact je6 hK x hg.1 none _ _ hk E ds a H hs h
     | false => exact je6 hK y hg.2 none _ _ hk E ds a H hs h
   · cases h
 | .cond .., hg, some _, k, k', hk, E, ds, a, H, hs, h => by unfold execG at h; cases h
 | .block id b, hg, none, k, k', hk, E, ds, a, H, hs, h => by
   unfold exec
   unfold execG at h
   simp only [goodG] at hg
   refine je6 hK b hg none _ _ (fun o E ds a H hs h => ?_) E ds a H hs h
   cases o with
   | exit i =>
     simp only [leaveB] at h ⊢
     cases e : (i == id) with
     | true => rw [e] at h; exact hk _ _ _ _ _ hs h
     | false => rw [e] at h; exact hk _ _ _ _ _ hs h
   | _ => exact hk _ _ _ _ _ hs h
 | .block .., hg, some _, k, k', hk, E, ds, a, H, hs, h => by unfold execG at h; cases h
 | .loop b, hg, none, k, k', hk, E, ds, a, H, hs, h => by
   unfold exec
   unfold execG at h
   simp only [goodG] at hg
   exact j5y (je6 hK b hg none) N k k' hk E ds a H hs h
 | .loop _, hg, some _, k, k', hk, E, ds, a, H, hs, h => by unfold execG at h; cases h
 | .rangeFunc .., hg, s, k, k', hk, E, ds, a, H, hs, h => by cases s <;> (unfold execG at h; cases h)
 | .exit id, hg, none, k, k', hk, E, ds, a, H, hs, h => by unfold exec; unfold execG at h; exact hk _ _ _ _ _ hs h
 | .exit _, hg, some _, k, k', hk, E, ds, a, H, hs, h => by unfold execG at h; cases h
 | .scope b, hg, none, k, k', hk, E, ds, a, H, hs, h => by
   unfold exec
   unfold execG at h
   simp only [goodG] at hg
   exact j3e (fun s => je6 hK b hg s) N none k k' hk E ds a H hs h
 | .scope _, hg, some _, k, k', hk, E, ds, a, H, hs, h => by unfold execG at h; cases h
 | .label l', hg, none, k, k', hk, E, ds, a, H, hs, h => by unfold exec; unfold execG at h; exact hk _ _ _ _ _ hs h
 | .label l', hg, some l, k, k', hk, E, ds, a, H, hs, h => by
   unfold exec
   unfold execG at h
   cases e : (l' == l) with
   | true => rw [e] at h; exact hk _ _ _ _ _ hs h
   | false => rw [e] at h; cases h
 | .goto l, hg, none, k, k', hk, E, ds, a, H, hs, h => by unfold exec; unfold execG at h; exact hk _ _ _ _ _ hs h
 | .goto _, hg, some _, k, k', hk, E, ds, a, H, hs, h => by unfold execG at h; cases h
 | .ret, hg, none, k, k', hk, E, ds, a, H, hs, h => by unfold exec; unfold execG at h; exact hk _ _ _ _ _ hs h
 | .ret, hg, some _, k, k', hk, E, ds, a, H, hs, h => by unfold execG at h; cases h
 | .refuse _, hg, s, k, k', hk, E, ds, a, H, hs, h => by cases s <;> (unfold execG at h; cases h)
def callG (P : Program) (okf : FuncId → Bool) (prf : FuncId → Nat → List (Nat × Nat)) (X : Xf) (N : Nat) (hk : Hook) : Nat → Kf
 | 0 => fun _ _ _ => none
 | d + 1 => fun f args H =>
   match hk f args H with
   | some r => r
   | none =>
     match P.funcs[f]? with
     | some fn => match fn.body with
       | some c => cond (okf f && Nat.ble args.size fn.ntmps) (execG P X (callG P okf prf X N hk d) N (prf f) c none (startE args) [] H (finE P fn)) none
       | none => none
     | none => none
def GoodG (P : Program) (okf : FuncId → Bool) (prf : FuncId → Nat → List (Nat × Nat)) : Prop := ∀ (f : FuncId) fn c, okf f = true → P.funcs[f]? = some fn → fn.body = some c → goodG P (prf f) fn.ntmps c = true
theorem jk5 {P : Program} {X : Xf} {K : Kf} {N : Nat} (x y : Code) (E : Env) (ds : List Deferred) (H : Heap) (k : KOE) : execE P X K N (.seq x y) none E ds H k = execE P X K N x none E ds H (thenE (execE P X K N y none) k) := by rw [execE]
theorem jz3 {P : Program} {X : Xf} {K : Kf} {N : Nat} (E : Env) (ds : List Deferred) (H : Heap) (k : KOE) : execE P X K N .skip none E ds H k = k .norm E ds H := by rw [execE]
theorem jm9 {P : Program} {X : Xf} {K : Kf} {N : Nat} (E : Env) (ds : List Deferred) (H : Heap) (k : KOE) : execE P X K N .ret none E ds H k = k .ret E ds H := by rw [execE]
theorem j3f {P : Program} {X : Xf} {K : Kf} {N : Nat} (i : Nat) (E : Env) (ds : List Deferred) (H : Heap) (k : KOE) : execE P X K N (.exit i) none E ds H k = k (.exit i) E ds H := by rw [execE]
theorem jf4 {P : Program} {X : Xf} {K : Kf} {N : Nat} (i : Nat) (ops : Array Oper) (dr : Bool) (E : Env) (ds : List Deferred) (H : Heap) (k : KOE) :
   execE P X K N (.region i ops dr) none E ds H k = execOpsE P X K ops ops.toList E ds H (fun E ds H => k .norm E ds H) (fun c E ds H => cond dr none (k (.pan c) E ds H)) := by rw [execE]
theorem jz4 {P : Program} {X : Xf} {K : Kf} {N : Nat} (c : Operand) (x y : Code) (E : Env) (ds : List Deferred) (H : Heap) (k : KOE) :
   execE P X K N (.cond c x y) none E ds H k = condE (evalE E c) (execE P X K N x none E ds H k) (execE P X K N y none E ds H k) := by rw [execE]
theorem jo1 {P : Program} {X : Xf} {K : Kf} {N : Nat} (i : Nat) (b : Code) (E : Env) (ds : List Deferred) (H : Heap) (k : KOE) : execE P X K N (.block i b) none E ds H k = execE P X K N b none E ds H (leaveB i k) := by rw [execE]
theorem yf0 {P : Program} {X : Xf} {K : Kf} {N : Nat} (b : Code) (E : Env) (ds : List Deferred) (H : Heap) (k : KOE) : execE P X K N (.loop b) none E ds H k = loopE (execE P X K N b none) N E ds H k := by rw [execE]
theorem jc4 (b2 : Env → List Deferred → Heap → KOE → R) (k : KOE) (E : Env) (ds : List Deferred) (H : Heap) : thenE b2 k .norm E ds H = b2 E ds H k := id rfl
theorem ji7 (b2 : Env → List Deferred → Heap → KOE → R) (k : KOE) (E : Env) (ds : List Deferred) (H : Heap) : thenE b2 k .ret E ds H = k .ret E ds H := id rfl
theorem je3 (b2 : Env → List Deferred → Heap → KOE → R) (k : KOE) (i : Nat) (E : Env) (ds : List Deferred) (H : Heap) : thenE b2 k (.exit i) E ds H = k (.exit i) E ds H := id rfl
theorem j7s (i : Nat) (k : KOE) (E : Env) (ds : List Deferred) (H : Heap) : leaveB i k .norm E ds H = k .norm E ds H := id rfl
theorem jn0 (i : Nat) (k : KOE) (E : Env) (ds : List Deferred) (H : Heap) : leaveB i k .ret E ds H = k .ret E ds H := id rfl
theorem j1r (i j : Nat) (k : KOE) (E : Env) (ds : List Deferred) (H : Heap) : leaveB i k (.exit j) E ds H = cond (j == i) (k .norm E ds H) (k (.exit j) E ds H) := id rfl
theorem jb5 (body : Env → List Deferred → Heap → KOE → R) (n : Nat) (E : Env) (ds : List Deferred) (H : Heap) (k : KOE) : loopE body (n + 1) E ds H k = body E ds H (thenE (fun E ds H k => loopE body n E ds H k) k) := id rfl
theorem jf5 {P : Program} {X : Xf} {K : Kf} (ops : Array Oper) (E : Env) (ds : List Deferred) (H : Heap) (k : KE) (kp : List PanicEntry → KE) : execOpsE P X K ops [] E ds H k kp = k E ds H := id rfl
theorem jf0 {P : Program} {X : Xf} {K : Kf} (ops : Array Oper) (o : Oper) (rest : List Oper) (E : Env) (ds : List Deferred) (H : Heap) (k : KE) (kp : List PanicEntry → KE) :
   execOpsE P X K ops (o :: rest) E ds H k kp = guardE ops o E (opE P X K o E ds H (fun E ds H => execOpsE P X K ops rest E ds H k kp) kp) (execOpsE P X K ops rest (upd E o.dst undef) ds H k kp) := id rfl
theorem jg8 (ops : Array Oper) (d : Option Tmp) (op : Op) (t : TypeId) (p : String) (af : Array Edge) (E : Env) (run skip : R) : guardE ops ⟨d, op, t, p, af, none⟩ E run skip = run := id rfl
theorem jz5 (b : Bool) (x y : R) : condE (.bool b) x y = cond b x y := id rfl
section ops
variable {P : Program} {X : Xf} {K : Kf} {d : Option Tmp} {t : TypeId} {p : String} {af : Array Edge} {g : Option (Nat × Bool)} {E : Env} {ds : List Deferred} {H : Heap} {k : KE} {kp : List PanicEntry → KE}
theorem jr3 (x : Operand) : opE P X K ⟨d, .move x, t, p, af, g⟩ E ds H k kp = k (upd E d (evalE E x)) ds H := id rfl
theorem jh7 (x : Operand) : opE P X K ⟨d, .assign x, t, p, af, g⟩ E ds H k kp = k (upd E d (evalE E x)) ds H := id rfl
theorem j9f (c x y : Operand) : opE P X K ⟨d, .pick c x y, t, p, af, g⟩ E ds H k kp = match evalE E c with | .bool b => k (upd E d (pickV b (evalE E x) (evalE E y))) ds H | _ => none := id rfl
theorem yk2 (e : TypeId) : opE P X K ⟨d, .alloc e, t, p, af, g⟩ E ds H k kp = bindV (allocA P e H) fun v H => k (upd E d v) ds H := id rfl
theorem yk3 (e : TypeId) (parts : Array (Nat × Operand)) : opE P X K ⟨d, .build e parts, t, p, af, g⟩ E ds H k kp = bindO (buildA P e (parts.map fun (i, x) => (i, evalE E x))) fun v => k (upd E d v) ds H := id rfl
theorem j2x (e : TypeId) (n : Nat) (parts : Array (Nat × Operand)) : opE P X K ⟨d, .buildSlice e n parts, t, p, af, g⟩ E ds H k kp = bindV (buildSliceA P e n (parts.map fun (i, x) => (i, evalE E x)) H) fun v H => k (upd E d v) ds H := id rfl
theorem j4f (e : TypeId) (a : Operand) : opE P X K ⟨d, .load e a, t, p, af, g⟩ E ds H k kp = bindV (loadA P e (evalE E a) H) fun v H => k (upd E d v) ds H := id rfl
theorem yk4 (e : TypeId) (a x : Operand) : opE P X K ⟨d, .store e a x, t, p, af, g⟩ E ds H k kp = bindV (storeA P e (evalE E a) (evalE E x) H) fun v H => k (upd E d v) ds H := id rfl
theorem jp9 (op : BinOp) (e : TypeId) (x y : Operand) (e2 : TypeId) : opE P X K ⟨d, .binOp op e x y e2, t, p, af, g⟩ E ds H k kp = bindO (binA P op e x y (evalE E x) (evalE E y)) fun v => groundK v (k (upd E d v) ds H) := id rfl
theorem yk5 (e : TypeId) (x : Operand) (lo hi mx : Option Operand) : opE P X K ⟨d, .slice e x lo hi mx, t, p, af, g⟩ E ds H k kp = bindO (sliceOpA P e (evalE E x) (lo.map (evalE E)) (hi.map (evalE E)) (mx.map (evalE E)) H) fun v => k (upd E d v) ds H := id rfl
theorem jo2 (e : TypeId) (x i : Operand) : opE P X K ⟨d, .indexAddr e x i, t, p, af, g⟩ E ds H k kp = bindO (indexAddrA P e (evalE E x) (evalE E i)) fun v => k (upd E d v) ds H := id rfl
theorem jt7 (b : Builtin) (args : Array Operand) (ts : Array TypeId) : opE P X K ⟨d, .call { callee := .builtin b, args := args, argTypes := ts }, t, p, af, g⟩ E ds H k kp = builtinK P b ts (args.map (evalE E)) H fun v H => k (upd E d v) ds H := id rfl
theorem yz7 (f : FuncId) (args : Array Operand) (ts : Array TypeId) : opE P X K ⟨d, .call { callee := .value (.func f), args := args, argTypes := ts }, t, p, af, g⟩ E ds H k kp = callK P X K f (#[] ++ args.map (evalE E) ++ #[]) H (fun v H => k (upd E d v) ds H) (fun c H => kp c E ds H) := id rfl
end ops
theorem j50 (E : Env) (i : Nat) : evalE E (.tmp i) = E i := id rfl
theorem j1s (E : Env) (v : Value) : evalE E (.const v) = v := id rfl
theorem j9g (v : Value) (k : Value → R) : bindO (some v) k = k v := id rfl
theorem j9h (v : Value) (H : Heap) (k : Value → Heap → R) : bindV (some (v, H)) k = k v H := id rfl
theorem jq0 (b : Bool) (k : R) : groundK (.bool b) k = k := id rfl
theorem jt8 (i : IntKind) (n : Int) (k : R) : groundK (.int i n) k = k := id rfl
section bins
variable {P : Program} {t : TypeId} {x y : Operand} {i : IntKind} {a b : Int}
theorem j9i : binA P .lss t x y (.int i a) (.int i b) = some (.bool (decide (a < b))) := by simp [binA, ground, atomic, eqGuard, binOp, Op.intCmp]; rfl
theorem yz8 : binA P .leq t x y (.int i a) (.int i b) = some (.bool (decide (a ≤ b))) := by simp [binA, ground, atomic, eqGuard, binOp, Op.intCmp]; rfl
theorem yz9 : binA P .gtr t x y (.int i a) (.int i b) = some (.bool (decide (a > b))) := by simp [binA, ground, atomic, eqGuard, binOp, Op.intCmp]; rfl
theorem y0a : binA P .geq t x y (.int i a) (.int i b) = some (.bool (decide (a ≥ b))) := by simp [binA, ground, atomic, eqGuard, binOp, Op.intCmp]; rfl
theorem j9j : binA P .eql t x y (.int i a) (.int i b) = some (.bool (a == b)) := by simp [binA, ground, atomic, eqGuard, binOp, Op.intCmp]; rfl
theorem y0b : binA P .neq t x y (.int i a) (.int i b) = some (.bool (a != b)) := by simp [binA, ground, atomic, eqGuard, binOp, Op.intCmp]; rfl
theorem y0c : binA P .add t x y (.int i a) (.int i b) = some (.int i (i.wrap (a + b))) := by simp [binA, ground, atomic, eqGuard, binOp, Op.intArith]; rfl
theorem y0d : binA P .sub t x y (.int i a) (.int i b) = some (.int i (i.wrap (a - b))) := by simp [binA, ground, atomic, eqGuard, binOp, Op.intArith]; rfl
end bins
theorem ja7 {P : Program} {ts : Array TypeId} {t e : TypeId} (h0 : ts[0]? = some t) (h : P.underlying t = some (.slice e)) (a : Option Addr) (n c : Nat) (H : Heap) (k : Value → Heap → R) :
   builtinK P .len ts #[.slice a n c] H k = k (.int .i64 n) H := by simp [builtinK, h0, lenA, h, bindO]
theorem yk6 {P : Program} {ts : Array TypeId} (i : IntKind) (a b : Int) (H : Heap) (k : Value → Heap → R) : builtinK P .min ts #[.int i a, .int i b] H k = k (.int i (if b < a then b else a)) H := by simp [builtinK]
theorem y3j {P : Program} {ts : Array TypeId} (i : IntKind) (a b : Int) (H : Heap) (k : Value → Heap → R) : builtinK P .max ts #[.int i a, .int i b] H k = k (.int i (if b > a then b else a)) H := by simp [builtinK]
theorem jv7 {P : Program} {X : Xf} {K : Kf} {d : Option Tmp} {t : TypeId} {p : String} {af : Array Edge} {g : Option (Nat × Bool)} {E : Env} {ds : List Deferred} {H : Heap} {k : KE} {kp : List PanicEntry → KE} (f : FuncId) (args : Array Operand) (ts : Array TypeId) :
   opE P X K ⟨d, .call { callee := .value (.func f), args := args, argTypes := ts }, t, p, af, g⟩ E ds H k kp = callK P X K f (args.map (evalE E)) H (fun v H => k (upd E d v) ds H) (fun c H => kp c E ds H) := by
 rw [yz7]; simp
theorem ja3 {P : Program} {X : Xf} {K : Kf} {f : FuncId} {fn : Func} (hf : P.funcs[f]? = some fn) (hn : (fn.name == "runtime.NumGoroutine") = false) (hb : fn.body.isNone = false) {args : Array Value} {H H' : Heap} {v : Value} (hr : K f args H = some (.ret v, H')) (k : Value → Heap → R) (kp : List PanicEntry → Heap → R) :
   callK P X K f args H k kp = k v H' := by
 simp [callK, hf, hn, hb, hr, bindR]
theorem j1t {P : Program} {X : Xf} {K : Kf} {f : FuncId} {fn : Func} (hf : P.funcs[f]? = some fn) (hn : (fn.name == "runtime.NumGoroutine") = false) (hb : fn.body.isNone = true) {args : Array Value} {H H' : Heap} {v : Value} (hr : X f args H = some (v, H')) (k : Value → Heap → R) (kp : List PanicEntry → Heap → R) :
   callK P X K f args H k kp = k v H' := by
 simp [callK, hf, hn, hb, hr, bindV]
theorem j0u {P : Program} {okf : FuncId → Bool} {X : Xf} {N : Nat} {hk : Hook} {d : Nat} {f : FuncId} {fn : Func} {c : Code} {args : Array Value} {H : Heap} (hh : hk f args H = none) (hf : P.funcs[f]? = some fn) (hc : fn.body = some c) (ho : okf f = true) (hs : Nat.ble args.size fn.ntmps = true) :
   callE P okf X N hk (d + 1) f args H = execE P X (callE P okf X N hk d) N c none (startE args) [] H (finE P fn) := by
 simp [callE, hh, hf, hc, ho, hs]
theorem jd4 (v : Value) (l : List Value) : startE ⟨v :: l⟩ 0 = v := id rfl
theorem jf3 (v u : Value) (l : List Value) : startE ⟨v :: u :: l⟩ 1 = u := id rfl
theorem y3k {α β : Type} (f : α → β) (x : α) : (#[x] : Array α).map f = #[f x] := by simp
theorem y3l {α β : Type} (f : α → β) (x y : α) : (#[x, y] : Array α).map f = #[f x, f y] := by simp
theorem y3m {α β : Type} (f : α → β) : (#[] : Array α).map f = #[] := by simp
theorem jb6 {P : Program} {fn : Func} {E : Env} {H : Heap} {l : List Value} (h : resE P E H fn.results.toList = some l) : finE P fn .ret E [] H = some (.ret (oneOf l), H) := by simp [finE, h]
def noPr : Nat → List (Nat × Nat) := fun _ => []
section code
variable {P : Program} {X : Xf} {K : Kf} {N : Nat} {pr : Nat → List (Nat × Nat)}
theorem j51 (x y : Code) (E : Env) (ds : List Deferred) (H : Heap) (k : KOE) : execG P X K N pr (.seq x y) none E ds H k = execG P X K N pr x none E ds H (thenE (execG P X K N pr y none) k) := by rw [execG]
theorem j3g (E : Env) (ds : List Deferred) (H : Heap) (k : KOE) : execG P X K N pr .skip none E ds H k = k .norm E ds H := by rw [execG]
theorem yk7 (E : Env) (ds : List Deferred) (H : Heap) (k : KOE) : execG P X K N pr .ret none E ds H k = k .ret E ds H := by rw [execG]
theorem j3h (i : Nat) (E : Env) (ds : List Deferred) (H : Heap) (k : KOE) : execG P X K N pr (.exit i) none E ds H k = k (.exit i) E ds H := by rw [execG]
theorem j52 (i : Nat) (ops : Array Oper) (dr : Bool) (E : Env) (ds : List Deferred) (H : Heap) (k : KOE) :
   execG P X K N noPr (.region i ops dr) none E ds H k = execOpsE P X K ops ops.toList E ds H (fun E ds H => k .norm E ds H) (panD P ops dr k) := by rw [execG]; cases dr <;> rfl
theorem j7t (i : Nat) (ops : Array Oper) (E : Env) (ds : List Deferred) (H : Heap) (k : KOE) :
   execG P X K N pr (.region i ops false) none E ds H k = execOpsE P X K ops ops.toList E ds H (fun E ds H => k .norm E ds H) (panD P ops false k) := by rw [execG]; rfl
theorem j7u (i : Nat) (ops : Array Oper) (E : Env) (ds : List Deferred) (H : Heap) (k : KOE) (h : (pr i).isEmpty = true) :
   execG P X K N pr (.region i ops true) none E ds H k = execOpsE P X K ops ops.toList E ds H (fun E ds H => k .norm E ds H) (panD P ops true k) := by rw [execG, h]; rfl
theorem yf1 (i : Nat) (ops : Array Oper) (E : Env) (ds : List Deferred) (H : Heap) (k : KOE) (h : (pr i).isEmpty = false) :
   execG P X K N pr (.region i ops true) none E ds H k = execTrF P X K ops ops.toList E ds H [] (fun tr E ds H => cond ((pr i).all fun x => pairChkE P ops tr x.1 x.2) (k .norm E ds H) none) (panD P ops true k) := by rw [execG, h]; rfl
theorem j3i (c : Operand) (x y : Code) (E : Env) (ds : List Deferred) (H : Heap) (k : KOE) : execG P X K N pr (.cond c x y) none E ds H k = condE (evalE E c) (execG P X K N pr x none E ds H k) (execG P X K N pr y none E ds H k) := by rw [execG]
theorem j7v (i : Nat) (b : Code) (E : Env) (ds : List Deferred) (H : Heap) (k : KOE) : execG P X K N pr (.block i b) none E ds H k = execG P X K N pr b none E ds H (leaveB i k) := by rw [execG]
theorem jc8 (b : Code) (E : Env) (ds : List Deferred) (H : Heap) (k : KOE) : execG P X K N pr (.loop b) none E ds H k = loopE (execG P X K N pr b none) N E ds H k := by rw [execG]
end code
theorem j53 (ops : Array Oper) (d : Option Tmp) (op : Op) (t : TypeId) (p : String) (af : Array Edge) (j : Nat) (w : Bool) (e : Tmp) (b : Bool) (E : Env) (run skip : R) (hd : (ops[j]?).bind (·.dst) = some e) (h : E e = .bool b) : guardE ops ⟨d, op, t, p, af, some (j, w)⟩ E run skip = cond (b == w) run skip := by
 simp [guardE, hd, h]
section ops
variable {P : Program} {X : Xf} {K : Kf} {d : Option Tmp} {t : TypeId} {p : String} {af : Array Edge} {g : Option (Nat × Bool)} {E : Env} {ds : List Deferred} {H : Heap} {k : KE} {kp : List PanicEntry → KE}
theorem yk8 (i : Tmp) (args : Array Operand) (ts : Array TypeId) (f : FuncId) (a b : Array Value) (h : E i = .func (.func f) a b) :
   opE P X K ⟨d, .call { callee := .value (.tmp i), args := args, argTypes := ts }, t, p, af, g⟩ E ds H k kp = callK P X K f (a ++ args.map (evalE E) ++ b) H (fun v H => k (upd E d v) ds H) (fun c H => kp c E ds H) := by
 simp only [opE, opK, evalE, h]
end ops
theorem j0m (a : Addr) : nilCheckA (.pointer (some a)) = some (.pointer (some a)) := by simp [nilCheckA]
theorem jc2 {P : Program} {okf : FuncId → Bool} {prf : FuncId → Nat → List (Nat × Nat)} {X : Xf} {N : Nat} {hk : Hook} {d : Nat} {f : FuncId} {fn : Func} {c : Code} {args : Array Value} {H : Heap} (hh : hk f args H = none) (hf : P.funcs[f]? = some fn) (hc : fn.body = some c) (ho : okf f = true) (hs : Nat.ble args.size fn.ntmps = true) {pr : Nat → List (Nat × Nat)} (hp : prf f = pr) :
   callG P okf prf X N hk (d + 1) f args H = execG P X (callG P okf prf X N hk d) N pr c none (startE args) [] H (finE P fn) := by
 simp [callG, hh, hf, hc, ho, hs, hp]
theorem jj9 {P : Program} {okf : FuncId → Bool} {prf : FuncId → Nat → List (Nat × Nat)} {X : Xf} {N : Nat} {hk : Hook} {d : Nat} {f : FuncId} {args : Array Value} {H : Heap} {r : R} (hh : hk f args H = some r) :
   callG P okf prf X N hk (d + 1) f args H = r := by
 simp [callG, hh]
def opsAt (i : Nat) : Code → Option (Array Oper)
 | .seq a b => match opsAt i a with | some x => some x | none => opsAt i b
 | .cond _ a b => match opsAt i a with | some x => some x | none => opsAt i b
 | .block _ b => opsAt i b
 | .loop b => opsAt i b
 | .scope b => opsAt i b
 | .region j ops _ => if j = i then some ops else none
 | _ => none
theorem tl (A : Array Oper) : A.toList = A.toList := rfl
theorem gS {α : Type} {a b : α} : (some a).getD b = a := rfl
theorem gN {α : Type} {b : α} : (none : Option α).getD b = b := rfl
theorem tA {α : Type} {l : List α} : l.toArray.toList = l := rfl
def codeOf (fn : Func) : Code := fn.body.getD .skip
def rgn (f : Func) (i : Nat) : Array Oper := (opsAt i (codeOf f)).getD #[]
abbrev rF (f : Func) (i : Nat) : Code := .region i (rgn f i) false
abbrev rT (f : Func) (i : Nat) : Code := .region i (rgn f i) true
def rgnX (f : Func) (i : Nat) : List Oper := (rgn f i).toList
theorem rX (f : Func) (i : Nat) : rgnX f i = ((opsAt i (f.body.getD .skip)).getD #[]).toList := rfl
structure Pf (p : Prop) : Type where
 o : p
def dL := Pf.mk (And.intro @gS (And.intro @gN @tA))
theorem lX (f : Func) (i : Nat) : (rgn f i).toList = rgnX f i := rfl
theorem lX2 (f : Func) (i0 i1 : Nat) : (rgn f i0).toList = rgnX f i0 ∧ (rgn f i1).toList = rgnX f i1 := ⟨rfl, rfl⟩
theorem lX3 (f : Func) (i0 i1 i2 : Nat) : (rgn f i0).toList = rgnX f i0 ∧ (rgn f i1).toList = rgnX f i1 ∧ (rgn f i2).toList = rgnX f i2 := ⟨rfl, rfl, rfl⟩
theorem lX4 (f : Func) (i0 i1 i2 i3 : Nat) : (rgn f i0).toList = rgnX f i0 ∧ (rgn f i1).toList = rgnX f i1 ∧ (rgn f i2).toList = rgnX f i2 ∧ (rgn f i3).toList = rgnX f i3 := ⟨rfl, rfl, rfl, rfl⟩
theorem lX5 (f : Func) (i0 i1 i2 i3 i4 : Nat) : (rgn f i0).toList = rgnX f i0 ∧ (rgn f i1).toList = rgnX f i1 ∧ (rgn f i2).toList = rgnX f i2 ∧ (rgn f i3).toList = rgnX f i3 ∧ (rgn f i4).toList = rgnX f i4 := ⟨rfl, rfl, rfl, rfl, rfl⟩
theorem lX6 (f : Func) (i0 i1 i2 i3 i4 i5 : Nat) : (rgn f i0).toList = rgnX f i0 ∧ (rgn f i1).toList = rgnX f i1 ∧ (rgn f i2).toList = rgnX f i2 ∧ (rgn f i3).toList = rgnX f i3 ∧ (rgn f i4).toList = rgnX f i4 ∧ (rgn f i5).toList = rgnX f i5 := ⟨rfl, rfl, rfl, rfl, rfl, rfl⟩
theorem lX7 (f : Func) (i0 i1 i2 i3 i4 i5 i6 : Nat) : (rgn f i0).toList = rgnX f i0 ∧ (rgn f i1).toList = rgnX f i1 ∧ (rgn f i2).toList = rgnX f i2 ∧ (rgn f i3).toList = rgnX f i3 ∧ (rgn f i4).toList = rgnX f i4 ∧ (rgn f i5).toList = rgnX f i5 ∧ (rgn f i6).toList = rgnX f i6 := ⟨rfl, rfl, rfl, rfl, rfl, rfl, rfl⟩
theorem lX8 (f : Func) (i0 i1 i2 i3 i4 i5 i6 i7 : Nat) : (rgn f i0).toList = rgnX f i0 ∧ (rgn f i1).toList = rgnX f i1 ∧ (rgn f i2).toList = rgnX f i2 ∧ (rgn f i3).toList = rgnX f i3 ∧ (rgn f i4).toList = rgnX f i4 ∧ (rgn f i5).toList = rgnX f i5 ∧ (rgn f i6).toList = rgnX f i6 ∧ (rgn f i7).toList = rgnX f i7 := ⟨rfl, rfl, rfl, rfl, rfl, rfl, rfl, rfl⟩
def nextE (P : Program) (X : Xf) (K : Kf) (A : Array Oper) (rest : List Oper) (k : KE) (kp : List PanicEntry → KE) : KE := fun E ds H => execOpsE P X K A rest E ds H k kp
def putK (E : Env) (d : Option Tmp) (ds : List Deferred) (k : KE) : Value → Heap → R := fun v H => k (upd E d v) ds H
def putO (E : Env) (d : Option Tmp) (ds : List Deferred) (H : Heap) (k : KE) : Value → R := fun v => k (upd E d v) ds H
def putG (E : Env) (d : Option Tmp) (ds : List Deferred) (H : Heap) (k : KE) : Value → R := fun v => groundK v (k (upd E d v) ds H)
def panK (E : Env) (ds : List Deferred) (kp : List PanicEntry → KE) : List PanicEntry → Heap → R := fun c H => kp c E ds H
def normK (k : KOE) : KE := fun E ds H => k .norm E ds H
theorem j54 {P : Program} {X : Xf} {K : Kf} {A : Array Oper} {rest : List Oper} {k : KE} {kp : List PanicEntry → KE} (E : Env) (ds : List Deferred) (H : Heap) : nextE P X K A rest k kp E ds H = execOpsE P X K A rest E ds H k kp := id rfl
theorem j9k {E : Env} {d : Option Tmp} {ds : List Deferred} {k : KE} (v : Value) (H : Heap) : putK E d ds k v H = k (upd E d v) ds H := id rfl
theorem j9l {E : Env} {d : Option Tmp} {ds : List Deferred} {H : Heap} {k : KE} (v : Value) : putO E d ds H k v = k (upd E d v) ds H := id rfl
theorem j55 {E : Env} {d : Option Tmp} {ds : List Deferred} {H : Heap} {k : KE} (b : Bool) : putG E d ds H k (.bool b) = k (upd E d (.bool b)) ds H := id rfl
theorem y0e {E : Env} {d : Option Tmp} {ds : List Deferred} {H : Heap} {k : KE} (i : IntKind) (n : Int) : putG E d ds H k (.int i n) = k (upd E d (.int i n)) ds H := id rfl
theorem j56 {k : KOE} (E : Env) (ds : List Deferred) (H : Heap) : normK k E ds H = k .norm E ds H := id rfl
section code
variable {P : Program} {X : Xf} {K : Kf} {N : Nat} {pr : Nat → List (Nat × Nat)}
theorem ja2 (i : Nat) (ops : Array Oper) (dr : Bool) (E : Env) (ds : List Deferred) (H : Heap) (k : KOE) :
   execG P X K N noPr (.region i ops dr) none E ds H k = execOpsE P X K ops ops.toList E ds H (normK k) (panD P ops dr k) := j52 i ops dr E ds H k
theorem jb9 (i : Nat) (ops : Array Oper) (E : Env) (ds : List Deferred) (H : Heap) (k : KOE) :
   execG P X K N pr (.region i ops false) none E ds H k = execOpsE P X K ops ops.toList E ds H (normK k) (panD P ops false k) := j7t i ops E ds H k
theorem j7w (i : Nat) (ops : Array Oper) (E : Env) (ds : List Deferred) (H : Heap) (k : KOE) (h : (pr i).isEmpty = true) :
   execG P X K N pr (.region i ops true) none E ds H k = execOpsE P X K ops ops.toList E ds H (normK k) (panD P ops true k) := j7u i ops E ds H k h
theorem g_if (c : Operand) (x y : Code) (E : Env) (ds : List Deferred) (H : Heap) (k : KOE) (h : evalE E c = .bool true) : execG P X K N pr (.cond c x y) none E ds H k = execG P X K N pr x none E ds H k := by rw [j3i, h]; rfl
theorem y2h (c : Operand) (x y : Code) (E : Env) (ds : List Deferred) (H : Heap) (k : KOE) (h : evalE E c = .bool false) : execG P X K N pr (.cond c x y) none E ds H k = execG P X K N pr y none E ds H k := by rw [j3i, h]; rfl
theorem jt9 (i : Nat) (k : KOE) (E : Env) (ds : List Deferred) (H : Heap) : leaveB i k (.exit i) E ds H = k .norm E ds H := by simp [leaveB]
theorem y54 (i j : Nat) (k : KOE) (E : Env) (ds : List Deferred) (H : Heap) (h : (j == i) = false) : leaveB i k (.exit j) E ds H = k (.exit j) E ds H := by rw [j1r, h]; rfl
end code
section ops
variable {P : Program} {X : Xf} {K : Kf} {A : Array Oper} {d : Option Tmp} {t : TypeId} {p : String} {af : Array Edge} {E : Env} {ds : List Deferred} {H : Heap} {k : KE} {kp : List PanicEntry → KE}
theorem y3n : execOpsE P X K A [] E ds H k kp = k E ds H := id rfl
theorem y2i (op : Op) (rest : List Oper) : execOpsE P X K A (⟨d, op, t, p, af, none⟩ :: rest) E ds H k kp = opE P X K ⟨d, op, t, p, af, none⟩ E ds H (nextE P X K A rest k kp) kp := id rfl
theorem jb7 (op : Op) (j : Nat) (w : Bool) (e : Tmp) (rest : List Oper) (hd : (A[j]?).bind (·.dst) = some e) (h : E e = .bool w) :
   execOpsE P X K A (⟨d, op, t, p, af, some (j, w)⟩ :: rest) E ds H k kp = opE P X K ⟨d, op, t, p, af, none⟩ E ds H (nextE P X K A rest k kp) kp := by
 show guardE A _ E _ _ = _
 rw [j53 A d op t p af j w e w E _ _ hd h]
 cases w <;> rfl
theorem r_no (op : Op) (j : Nat) (w : Bool) (e : Tmp) (rest : List Oper) (hd : (A[j]?).bind (·.dst) = some e) (h : E e = .bool (!w)) :
   execOpsE P X K A (⟨d, op, t, p, af, some (j, w)⟩ :: rest) E ds H k kp = execOpsE P X K A rest (upd E d undef) ds H k kp := by
 show guardE A _ E _ _ = _
 rw [j53 A d op t p af j w e (!w) E _ _ hd h]
 cases w <;> rfl
variable {g : Option (Nat × Bool)}
theorem y2j (x : Operand) : opE P X K ⟨d, .move x, t, p, af, g⟩ E ds H k kp = k (upd E d (evalE E x)) ds H := id rfl
theorem j9m (x : Operand) : opE P X K ⟨d, .assign x, t, p, af, g⟩ E ds H k kp = k (upd E d (evalE E x)) ds H := id rfl
theorem yk9 (c x y : Operand) (h : evalE E c = .bool true) : opE P X K ⟨d, .pick c x y, t, p, af, g⟩ E ds H k kp = k (upd E d (evalE E x)) ds H := by rw [j9f, h]; simp only [j3z, if_true]
theorem y3o (c x y : Operand) (h : evalE E c = .bool false) : opE P X K ⟨d, .pick c x y, t, p, af, g⟩ E ds H k kp = k (upd E d (evalE E y)) ds H := by rw [j9f, h]; simp only [j3z, Bool.false_eq_true, if_false]
theorem y3p (e : TypeId) : opE P X K ⟨d, .alloc e, t, p, af, g⟩ E ds H k kp = bindV (allocA P e H) (putK E d ds k) := id rfl
theorem y7o (e : TypeId) (x : Operand) : opE P X K ⟨d, .box e x, t, p, af, g⟩ E ds H k kp = bindV (boxA P e (evalE E x) H) (putK E d ds k) := id rfl
theorem y3q (e : TypeId) (parts : Array (Nat × Operand)) : opE P X K ⟨d, .build e parts, t, p, af, g⟩ E ds H k kp = bindO (buildA P e (parts.map fun (i, x) => (i, evalE E x))) (putO E d ds H k) := id rfl
theorem j57 (e : TypeId) (n : Nat) (parts : Array (Nat × Operand)) : opE P X K ⟨d, .buildSlice e n parts, t, p, af, g⟩ E ds H k kp = bindV (buildSliceA P e n (parts.map fun (i, x) => (i, evalE E x)) H) (putK E d ds k) := id rfl
theorem y2k (e : TypeId) (a : Operand) : opE P X K ⟨d, .load e a, t, p, af, g⟩ E ds H k kp = bindV (loadA P e (evalE E a) H) (putK E d ds k) := id rfl
theorem y3r (e : TypeId) (a x : Operand) : opE P X K ⟨d, .store e a x, t, p, af, g⟩ E ds H k kp = bindV (storeA P e (evalE E a) (evalE E x) H) (putK E d ds k) := id rfl
theorem j3j (x : Operand) : opE P X K ⟨d, .nilCheck x, t, p, af, g⟩ E ds H k kp = bindO (nilCheckA (evalE E x)) (putO E d ds H k) := id rfl
theorem yl0 (op : BinOp) (e : TypeId) (x y : Operand) (e2 : TypeId) : opE P X K ⟨d, .binOp op e x y e2, t, p, af, g⟩ E ds H k kp = bindO (binA P op e x y (evalE E x) (evalE E y)) (putG E d ds H k) := id rfl
theorem y55 (op : UnOp) (e : TypeId) (x : Operand) : opE P X K ⟨d, .unOp op e x, t, p, af, g⟩ E ds H k kp = bindO (unA P op (evalE E x)) (putG E d ds H k) := id rfl
theorem yl1 (s e : TypeId) (x : Operand) : opE P X K ⟨d, .convert s e x, t, p, af, g⟩ E ds H k kp = bindV (convertA P s e (evalE E x) H) (putK E d ds k) := id rfl
theorem yf2 (fn : Fn) (a b : Array Operand) : opE P X K ⟨d, .makeFunc fn a b, t, p, af, g⟩ E ds H k kp = k (upd E d (.func fn (a.map (evalE E)) (b.map (evalE E)))) ds H := id rfl
theorem y3s (e : TypeId) (x : Operand) (lo hi mx : Option Operand) : opE P X K ⟨d, .slice e x lo hi mx, t, p, af, g⟩ E ds H k kp = bindO (sliceOpA P e (evalE E x) (lo.map (evalE E)) (hi.map (evalE E)) (mx.map (evalE E)) H) (putO E d ds H k) := id rfl
theorem j1u (s : TypeId) (x : Operand) (f : Nat) : opE P X K ⟨d, .fieldAddr s x f, t, p, af, g⟩ E ds H k kp = bindO (fieldAddrA P s (evalE E x) f) (putO E d ds H k) := id rfl
theorem j1v (e : TypeId) (x i : Operand) : opE P X K ⟨d, .indexAddr e x i, t, p, af, g⟩ E ds H k kp = bindO (indexAddrA P e (evalE E x) (evalE E i)) (putO E d ds H k) := id rfl
theorem y3t (e : TypeId) (x i : Operand) : opE P X K ⟨d, .index e x i, t, p, af, g⟩ E ds H k kp = bindO (indexA P e (evalE E x) (evalE E i)) (putO E d ds H k) := id rfl
theorem yl2 (x : Operand) (i : Nat) : opE P X K ⟨d, .extract x i, t, p, af, g⟩ E ds H k kp = bindO (extractA (evalE E x) i) (putO E d ds H k) := id rfl
theorem yl3 (b : Builtin) (args : Array Operand) (ts : Array TypeId) : opE P X K ⟨d, .call { callee := .builtin b, args := args, argTypes := ts }, t, p, af, g⟩ E ds H k kp = builtinK P b ts (args.map (evalE E)) H (putK E d ds k) := id rfl
theorem y3u (f : FuncId) (args : Array Operand) (ts : Array TypeId) :
   opE P X K ⟨d, .call { callee := .value (.func f), args := args, argTypes := ts }, t, p, af, g⟩ E ds H k kp = callK P X K f (args.map (evalE E)) H (putK E d ds k) (panK E ds kp) := jv7 f args ts
theorem jg2 (i : Tmp) (args : Array Operand) (ts : Array TypeId) (f : FuncId) (a b : Array Value) (h : E i = .func (.func f) a b) :
   opE P X K ⟨d, .call { callee := .value (.tmp i), args := args, argTypes := ts }, t, p, af, g⟩ E ds H k kp = callK P X K f (a ++ args.map (evalE E) ++ b) H (putK E d ds k) (panK E ds kp) := yk8 i args ts f a b h
end ops
theorem ja0 {P : Program} {X : Xf} {K : Kf} {A : Array Oper} {L : List Oper} (h : A.toList = L) (E : Env) (ds : List Deferred) (H : Heap) (k : KE) (kp : List PanicEntry → KE) : execOpsE P X K A A.toList E ds H k kp = execOpsE P X K A L E ds H k kp := by rw [h]
theorem j58 (E : Env) (g : Nat) : evalE E (.global g) = .pointer (some ⟨g, 0, none⟩) := id rfl
theorem yf3 (E : Env) (f : FuncId) : evalE E (.func f) = .func (.func f) #[] #[] := id rfl
theorem yl4 {α β : Type} (f : α → β) (x y z : α) : (#[x, y, z] : Array α).map f = #[f x, f y, f z] := by simp
theorem j9n (v u w : Value) (l : List Value) : startE ⟨v :: u :: w :: l⟩ 2 = w := rfl
theorem y0f (v u w x : Value) (l : List Value) : startE ⟨v :: u :: w :: x :: l⟩ 3 = x := rfl
theorem j9o (v u w x y : Value) (l : List Value) : startE ⟨v :: u :: w :: x :: y :: l⟩ 4 = y := rfl
theorem y0g (v u w x y z : Value) (l : List Value) : startE ⟨v :: u :: w :: x :: y :: z :: l⟩ 5 = z := rfl
def uG := Pf.mk (And.intro @j51 (And.intro @j7v (And.intro @yk7 (And.intro @j3g (And.intro @j3h (And.intro @g_if (And.intro @y2h (And.intro @y3n (And.intro @y2i (And.intro @y2j (And.intro @j9m (And.intro @yk9 (And.intro @y3o (And.intro @y3p (And.intro @y7o (And.intro @y3q (And.intro @j57 (And.intro @y2k (And.intro @y3r (And.intro @j3j (And.intro @yl0 (And.intro @y55 (And.intro @yl1 (And.intro @yf2 (And.intro @y3s (And.intro @j1u (And.intro @j1v (And.intro @y3t (And.intro @yl2 (And.intro @yl3 (@y3u)))))))))))))))))))))))))))))))
def uR := Pf.mk (And.intro @ja2 uG.o)
def dG := Pf.mk (And.intro @jc4 (And.intro @je3 (And.intro @ji7 (And.intro @j7s (And.intro @jn0 (And.intro @jt9 (And.intro @y54 (And.intro @j54 (And.intro @j9k (And.intro @j9l (And.intro @j55 (And.intro @y0e (And.intro @j56 (And.intro @j0m (And.intro @j50 (And.intro @j1s (And.intro @j58 (And.intro @yf3 (And.intro @j9g (And.intro @j9h (And.intro @y3k (And.intro @y3l (And.intro @yl4 (And.intro @y3m (And.intro @jd4 (And.intro @jf3 (And.intro @j9n (And.intro @y0f (And.intro @j9j (And.intro @y0b (And.intro @y0c (And.intro @y0d (And.intro @j9i (And.intro @yz8 (And.intro @yz9 (@y0a))))))))))))))))))))))))))))))))))))
end Go.Am
open Go.Proofs
namespace Go.Am
variable {s : List UInt8} {a : Addr} {H H' : Heap}
def okP (s : List UInt8) : Prop := ∀ u ∈ s, u ≠ 34 ∧ u ≠ 120
theorem okP.sub (h : okP s) (i n : Nat) : okP ((s.drop i).take n) := fun u hu => h u (List.mem_of_mem_drop (List.mem_of_mem_take hu))
structure Bts (H : Heap) (a : Option Addr) (s : List UInt8) : Prop where
 cell : ∀ j (h : j < s.length), ∃ b, a = some b ∧ ld1 H (b.add j) = some (.int .u8 (s[j]).toNat, H)
 str : strOf H a s.length = some ⟨s.toArray⟩
 small : s.length < 9223372036854775808
theorem und34 : PP.underlying 34 = some (.slice 5) := Tryz.underlying34
theorem size5 : sizeT PP 5 = some 1 := by decide +kernel
theorem agg5 : aggT PP 5 = some false := by decide +kernel
theorem jc1 {n c : Nat} {j : Nat} (h : j < n) : indexAddrA PP 34 (.slice (some a) n c) (.int .i64 (j : Int)) = some (.pointer (some (a.add j))) := by
 simp [indexAddrA, size5, at_, h]
theorem ja9 {v : Value} (h : ld1 H a = some (v, H)) : loadA PP 5 (.pointer (some a)) H = some (v, H) := by
 simp [loadA, agg5, h]
theorem jb2 {x : Int} (h0 : -9223372036854775808 ≤ x) (h1 : x < 9223372036854775808) : IntKind.i64.wrap x = x := by
 simp only [IntKind.wrap, IntKind.bits, IntKind.signed]
 simp
 split <;> omega
theorem jo3 (x z : UInt8) : (((x.toNat : Int) == (z.toNat : Int)) : Bool) = decide (x = z) := by
 rw [Bool.eq_iff_iff]
 simp only [beq_iff_eq, decide_eq_true_eq]
 constructor
 · intro h; exact UInt8.toNat_inj.mp (by omega)
 · intro h; rw [h]
def Fresh (H : Heap) : Prop := ∀ b, H.next ≤ b → H.get b = none
structure Ext (H H' : Heap) : Prop where
 next : H.next ≤ H'.next
 keep : ∀ b x, H.get b = some x → H'.get b = some x
 fresh : Fresh H'
theorem Ext.trans {A B C : Heap} (h : Ext A B) (k : Ext B C) : Ext A C := ⟨Nat.le_trans h.next k.next, fun b x e => k.keep b x (h.keep b x e), k.fresh⟩
theorem Ext.alloc (h : Fresh H) (es : Nat) (cells : List Value) : Ext H (H.alloc es cells) := by
 refine ⟨Nat.le_succ _, fun b x e => ?_, fun b hb => ?_⟩
 · rw [Heap.get_alloc]
   by_cases c : b = H.next
   · rw [c, h _ (Nat.le_refl _)] at e; cases e
   · rw [if_neg c]; exact e
 · have hb' : H.next + 1 ≤ b := hb
   rw [Heap.get_alloc, if_neg (by omega)]
   exact h b (by omega)
theorem Ext.set (h : Ext H H') {b : Nat} (hb : H.next ≤ b) (hf : Fresh H) (hl : b < H'.next) (x : Blk) : Ext H (H'.set b x) := by
 refine ⟨h.next, fun k y e => ?_, fun k hk => ?_⟩
 · rw [Heap.get_set]
   by_cases c : k = b
   · rw [c, hf _ hb] at e; cases e
   · rw [if_neg c]; exact h.keep k y e
 · have hk' : H'.next ≤ k := hk
   rw [Heap.get_set, if_neg (by omega)]
   exact h.fresh k hk'
theorem Ext.look (h : Ext H H') {a : Addr} {x : Blk} (e : look H a = some x) : look H' a = some x := by
 unfold Am.look at e ⊢
 split at e
 · cases e
 · rename_i hs
   cases hg : H.get a.block with
   | none => simp [hg] at e
   | some y =>
     rw [h.keep _ _ hg]
     simpa [hg] using e
structure Brow (H : Heap) (a : Option Addr) (s : List UInt8) : Prop where
 row : ∀ b, a = some b → ∃ x, look H b = some x ∧ x.es = 1 ∧ b.off + s.length ≤ x.cells.length ∧ (x.cells.drop b.off).take s.length = s.map fun u => .int .u8 (u.toNat : Int)
 nil : a = none → s = []
 small : s.length < 9223372036854775808
theorem Brow.ext {a : Option Addr} (h : Brow H a s) (e : Ext H H') : Brow H' a s :=
 ⟨fun b hb => let ⟨x, h1, h2⟩ := h.row b hb; ⟨x, e.look h1, h2⟩, h.nil, h.small⟩
theorem yl5 {x : Blk} (e : look H a = some x) : a.spot = none := by
 unfold Am.look at e
 split at e
 · cases e
 · rename_i hs; exact hs
theorem j9p {x : Blk} (e : look H a = some x) (j : Nat) : look H (a.add j) = some x ∧ (a.add j).off = a.off + j := by
 have hs := yl5 e
 obtain ⟨b, off, spot⟩ := a
 simp only at hs
 subst hs
 unfold Addr.add
 by_cases hj : j = 0
 · subst hj; simp [e]
 · simp only [hj, if_false, and_true]
   exact e
theorem j1w : ∀ s : List UInt8, bytesOf (s.map fun u => Value.int .u8 (u.toNat : Int)) = some s
 | [] => rfl
 | u :: s => by simp [bytesOf, j1w s]
theorem Brow.bts {a : Option Addr} (h : Brow H a s) : Bts H a s := by
 refine ⟨fun j hj => ?_, ?_, h.small⟩
 · cases a with
   | none => rw [h.nil rfl] at hj; simp at hj
   | some b =>
     obtain ⟨x, h1, h2, h3, h4⟩ := h.row b rfl
     refine ⟨b, rfl, ?_⟩
     obtain ⟨k1, k2⟩ := j9p h1 j
     unfold ld1
     rw [k1]
     simp only [k2]
     have : ((x.cells.drop b.off).take s.length)[j]? = some (.int .u8 (s[j].toNat : Int)) := by rw [h4]; simp [hj]
     rw [List.getElem?_take_of_lt hj, List.getElem?_drop] at this
     rw [this]
 · cases a with
   | none => rw [h.nil rfl]; rfl
   | some b =>
     obtain ⟨x, h1, h2, h3, h4⟩ := h.row b rfl
     unfold strOf
     by_cases h0 : s.length = 0
     · have : s = [] := List.length_eq_zero_iff.mp h0
       subst this; rfl
     · simp only [if_neg h0, h1, if_pos h3, h4, j1w]
theorem Brow.take {a : Option Addr} (h : Brow H a s) {k : Nat} (hk : k ≤ s.length) : Brow H a (s.take k) := by
 refine ⟨fun b hb => ?_, fun e => by rw [h.nil e]; simp, by simp; have := h.small; omega⟩
 obtain ⟨x, h1, h2, h3, h4⟩ := h.row b hb
 refine ⟨x, h1, h2, by simp; omega, ?_⟩
 have hl : (s.take k).length = k := by simp; omega
 rw [hl, List.map_take, ← h4, List.take_take, Nat.min_eq_left hk]
theorem size3 : sizeT PP 3 = some 1 := by decide +kernel
theorem agg3 : aggT PP 3 = some false := by decide +kernel
theorem j0v : Fresh GE := fun b hb => jo0.fresh b hb
theorem jv8 (H : Heap) (p : Nat) (x : Blk) : (H.set p x).get p = some x := by rw [Heap.get_set, if_pos rfl]
end Go.Am
namespace Go.Am
set_option maxRecDepth 100000
variable {H : Heap} {b n c at_ : Nat} {a : Option Addr}
def okC (f : FuncId) : Bool := f == 48 || f == 47 || f == 26 || f == 27 || f == 50 || f == 52 || f == 71 || f == 12 || f == 60 || f == 89 || f == 49 || f == 51 || f == 69 || f == 18 || f == 19 || f == 20 || f == 21 || f == 22 || f == 23 || f == 35 || f == 36 || f == 37 || f == 38 || f == 39 || f == 40 || f == 41 || f == 42 || f == 55 || f == 56 || f == 57 || f == 58 || f == 73 || f == 74 || f == 75 || f == 76 || f == 77 || f == 78 || f == 79 || f == 80 || f == 81 || f == 82 || f == 83 || f == 84 || f == 85 || f == 98 || f == 100 || f == 101 || f == 102 || f == 103 || f == 104 || f == 105 || f == 106 || f == 107 || f == 114 || f == 115 || f == 116 || f == 117 || f == 127 || f == 128 || f == 134 || f == 135 || f == 136 || f == 8 || f == 17 || f == 54 || f == 99 || f == 5 || f == 6 || f == 7 || f == 13 || f == 15 || f == 16 || f == 28 || f == 29 || f == 30 || f == 31 || f == 32 || f == 33 || f == 34 || f == 53 || f == 59 || f == 87 || f == 88 || f == 62 || f == 61 || f == 91 || f == 10 || f == 24 || f == 25 || f == 86 || f == 108 || f == 118 || f == 46
abbrev NH (hk : Hook) : Prop := ∀ f args H, okC f = true → hk f args H = none
def pr1 : Nat → List (Nat × Nat) := fun i => if i = 1 then [(0, 10), (3, 10), (4, 10), (7, 10), (9, 10)] else if i = 21 then [(0, 2)] else []
def pr5 : Nat → List (Nat × Nat) := fun i => if i = 16 then [(6, 5)] else []
def pr6 : Nat → List (Nat × Nat) := fun i => if i = 63 then [(4, 2)] else []
def pr17 : Nat → List (Nat × Nat) := fun i => if i = 5 then [(6, 4), (6, 7), (6, 8)] else []
def pr20 : Nat → List (Nat × Nat) := fun i => if i = 4 then [(4, 10), (8, 10)] else []
def pr34 : Nat → List (Nat × Nat) := fun i => if i = 1 then [(1, 4)] else []
def pr40 : Nat → List (Nat × Nat) := fun i => if i = 6 then [(1, 3), (1, 4)] else []
def pr55 : Nat → List (Nat × Nat) := fun i => if i = 1 then [(5, 12)] else []
def pr57 : Nat → List (Nat × Nat) := fun i => if i = 21 then [(1, 3), (1, 4)] else if i = 23 then [(1, 3), (1, 4)] else []
def pr74 : Nat → List (Nat × Nat) := fun i => if i = 3 then [(4, 6), (4, 7)] else []
def pr75 : Nat → List (Nat × Nat) := fun i => if i = 0 then [(4, 6), (4, 7)] else []
def pr77 : Nat → List (Nat × Nat) := fun i => if i = 3 then [(4, 6), (4, 7)] else if i = 12 then [(4, 6), (4, 7)] else []
def pr100 : Nat → List (Nat × Nat) := fun i => if i = 1 then [(5, 7)] else []
def pr101 : Nat → List (Nat × Nat) := fun i => if i = 1 then [(4, 6), (4, 7)] else []
def pr102 : Nat → List (Nat × Nat) := fun i => if i = 4 then [(1, 3), (1, 4)] else []
def pr117 : Nat → List (Nat × Nat) := fun i => if i = 0 then [(4, 6), (4, 7)] else []
def pr134 : Nat → List (Nat × Nat) := fun i => if i = 1 then [(4, 6), (4, 7)] else []
def pr135 : Nat → List (Nat × Nat) := fun i => if i = 1 then [(4, 6), (4, 7)] else []
def pr136 : Nat → List (Nat × Nat) := fun i => if i = 0 then [(4, 6), (4, 7)] else []
def prS : FuncId → Nat → List (Nat × Nat) := fun f => if f = 52 then pr1 else if f = 5 then pr5 else if f = 6 then pr6 else if f = 17 then pr17 else if f = 20 then pr20 else if f = 34 then pr34 else if f = 40 then pr40 else if f = 55 then pr55 else if f = 57 then pr57 else if f = 74 then pr74 else if f = 75 then pr75 else if f = 77 then pr77 else if f = 100 then pr100 else if f = 101 then pr101 else if f = 102 then pr102 else if f = 117 then pr117 else if f = 134 then pr134 else if f = 135 then pr135 else if f = 136 then pr136 else noPr
noncomputable abbrev CG (N : Nat) (hk : Hook) (d : Nat) : Kf := callG PP okC prS XX N hk d
def clsI (u : UInt8) : Int := if 127 < u.toNat then 0 else classesL.getD u.toNat 0
theorem yl6 {u : UInt8} (h : u.toNat ≤ 127) : indexAddrA PP 102 (.pointer (some ⟨1, 0, none⟩)) (.int .u8 (u.toNat : Int)) = some (.pointer (some ⟨1, u.toNat, none⟩)) := by
 have h' : (u.toNat : Int) < 128 := by omega
 by_cases h0 : u.toNat = 0
 · simp [indexAddrA, size5, at_, Addr.add, h0]
 · simp [indexAddrA, size5, at_, Addr.add, h', h0]
theorem y0h (hG : Ext GE H) {j : Nat} (h : j ≤ 127) : loadA PP 5 (.pointer (some ⟨1, j, none⟩)) H = some (.int .u8 (classesL.getD j 0), H) := by
 have g := hG.keep 1 _ (show GE.get 1 = some ⟨classesL.map fun z => .int .u8 z, false, 1, none⟩ from rfl)
 have hl : classesL.length = 128 := rfl
 apply ja9
 simp only [ld1, look, g]
 have : j < classesL.length := by omega
 simp [List.getD, this]
theorem code48 : codeOf Tryz.f48 = .seq (rF Tryz.f48 0) (.seq (.seq (rF Tryz.f48 1) (.cond (.tmp 4) (.seq (rF Tryz.f48 2) .ret) .skip)) (.seq (rF Tryz.f48 3) .ret)) := by kernel_rfl
theorem code47 : codeOf Tryz.f47 = .seq (rF Tryz.f47 0) (.seq (rT Tryz.f47 1) .ret) := by kernel_rfl
theorem j59 : ((rgn Tryz.f47 1)[10]?).bind (·.dst) = some 15 := by kernel_rfl
theorem jo4 {N : Nat} {hk : Hook} {d : Nat} (hG : Ext GE H) (u : UInt8) (hh : ∀ args H, hk 48 args H = none) :
   CG N hk (d + 1) 48 #[.int .u8 (u.toNat : Int)] H = some (.ret (.int .u8 (clsI u)), H) := by
 refine (jc2 (hh _ _) Tryz.func48 (c := codeOf Tryz.f48) rfl rfl rfl (pr := noPr) rfl).trans ?_
 have lL := lX4 Tryz.f48 0 1 2 3
 conv at lL in (occs := *) (rgnX _ _) => all_goals simp only [rX, opsAt, Tryz.f48, dL.o, reduceIte, Nat.reduceEqDiff]
 obtain ⟨l0, l1, l2, l3⟩ := lL
 rw [code48]
 generalize hF : finE PP Tryz.f48 = F
 by_cases h : 127 < u.toNat
 · have hgt : decide ((u.toNat : Int) > 127) = true := decide_eq_true (by omega)
   simp (decide := true) only [↓uR.o, dG.o, ja1, reduceIte, ↓ja0 l0, ↓ja0 l1, ↓ja0 l2, hgt]
   rw [← hF, jb6 (l := [.int .u8 0]) (by simp (decide := true) [Tryz.f48, resE, ja1])]
   simp [clsI, h, oneOf]
 · have hgt : decide ((u.toNat : Int) > 127) = false := decide_eq_false (by omega)
   simp (decide := true) only [↓uR.o, dG.o, ja1, reduceIte, ↓ja0 l0, ↓ja0 l1, ↓ja0 l3, hgt, yl6 (u := u) (by omega), y0h hG (j := u.toNat) (by omega)]
   rw [← hF, jb6 (l := [.int .u8 (classesL.getD u.toNat 0)]) (by simp (decide := true) [Tryz.f48, resE, ja1])]
   simp [clsI, h, oneOf]
def cur (a : Option Addr) (n c : Nat) (at_ : Nat) : Blk := ⟨[.slice a n c, .int .i64 (at_ : Int)], true, 1, none⟩
theorem fld0 (b : Nat) : fieldAddrA PP 71 (.pointer (some ⟨b, 0, none⟩)) 0 = some (.pointer (some ⟨b, 0, none⟩)) := by kernel_rfl
theorem fld1 (b : Nat) : fieldAddrA PP 71 (.pointer (some ⟨b, 0, none⟩)) 1 = some (.pointer (some ⟨b, 1, none⟩)) := by kernel_rfl
theorem aggB : aggT PP 34 = some false := by decide +kernel
theorem jd2 (h : H.get b = some (cur a n c at_)) : loadA PP 34 (.pointer (some ⟨b, 0, none⟩)) H = some (.slice a n c, H) := by
 simp only [loadA, aggB]
 simp [ld1, look, h, cur]
theorem jd0 (h : H.get b = some (cur a n c at_)) : loadA PP 3 (.pointer (some ⟨b, 1, none⟩)) H = some (.int .i64 (at_ : Int), H) := by
 simp only [loadA, agg3]
 simp [ld1, look, h, cur]
theorem ji5 {at' : Nat} (h : H.get b = some (cur a n c at_)) : storeA PP 3 (.pointer (some ⟨b, 1, none⟩)) (.int .i64 (at' : Int)) H = some (undef, H.set b (cur a n c at')) := by
 simp only [storeA, size3, stV]
 simp [Value.cells, st, look, h, cur, over, Value.oneCell']
def isI (s : List UInt8) (i : Nat) (k : Int) : Bool := decide (i < s.length) && (clsI (s.getD i 0) == k)
theorem jf6 {N : Nat} {hk : Hook} {d : Nat} {s : List UInt8} {i : Nat} (hG : Ext GE H) (hb : Brow H a s) (hc : H.get b = some (cur a s.length c i)) (k : Int) (hh : NH hk) :
   CG N hk (d + 2) 47 #[.pointer (some ⟨b, 0, none⟩), .int .u8 k] H = some (.ret (.bool (isI s i k)), H) := by
 refine (jc2 (hh _ _ _ rfl) Tryz.func47 (c := codeOf Tryz.f47) rfl rfl rfl (pr := noPr) rfl).trans ?_
 have lL := lX2 Tryz.f47 0 1
 conv at lL in (occs := *) (rgnX _ _) => all_goals simp only [rX, opsAt, Tryz.f47, dL.o, reduceIte, Nat.reduceEqDiff]
 obtain ⟨l0, l1⟩ := lL
 rw [code47]
 generalize hF : finE PP Tryz.f47 = F
 by_cases h : i < s.length
 · have hlt : decide ((i : Int) < (s.length : Int)) = true := decide_eq_true (by omega)
   have hcls := jo4 (N := N) (hk := hk) (d := d) hG s[i] (fun _ _ => hh _ _ _ rfl)
   obtain ⟨b0, rfl, hl⟩ := hb.bts.cell i h
   have hix := jc1 (n := s.length) (c := c) (a := b0) h
   simp (decide := true) only [↓uR.o, dG.o, ja1, reduceIte, ↓ja0 l0, ↓ja0 l1, ↓jb7 _ 10 true 15 _ j59, hlt, fld0, fld1, jd2 hc, jd0 hc, ja7 (ts := #[34]) rfl und34, hix, ja9 hl, ja3 Tryz.func48 rfl rfl hcls]
   have e : s.getD i 0 = s[i] := by simp [List.getD, h]
   rw [← hF, jb6 (l := [.bool (clsI s[i] == k)]) (by simp (decide := true) [Tryz.f47, resE, ja1])]
   simp [isI, h, oneOf]
 · have hlt : decide ((i : Int) < (s.length : Int)) = false := decide_eq_false (by omega)
   simp (decide := true) only [↓uR.o, dG.o, ja1, reduceIte, Bool.not_true, ↓ja0 l0, ↓ja0 l1, ↓r_no _ 10 true 15 _ j59, hlt, fld0, fld1, jd2 hc, jd0 hc, ja7 (ts := #[34]) rfl und34]
   rw [← hF, jb6 (l := [.bool false]) (by simp (decide := true) [Tryz.f47, resE, ja1])]
   simp [isI, h, oneOf]
end Go.Am
namespace Go.Am
set_option maxRecDepth 100000
variable {H0 H : Heap} {b n c i N d : Nat} {a : Option Addr} {s : List UInt8} {K : Kf} {E : Env} {Q : R → Prop} {k : KOE} {hk : Hook}
structure Ctx (H0 : Heap) (a : Option Addr) (c : Nat) (s : List UInt8) (b : Nat) : Prop where
 gg : Ext GE H0
 low : GE.next ≤ b
 lt : b < H0.next
 row : Brow H0 a s
 ne : ∀ x, a = some x → x.block ≠ b
structure Curs (H0 H : Heap) (b : Nat) (a : Option Addr) (n c i : Nat) : Prop where
 next : H.next = H0.next
 here : H.get b = some (cur a n c i)
 there : ∀ x, x ≠ b → H.get x = H0.get x
theorem Curs.set (h : Curs H0 H b a n c i) (j : Nat) : Curs H0 (H.set b (cur a n c j)) b a n c j :=
 ⟨h.next, by rw [Heap.get_set, if_pos rfl], fun x hx => by rw [Heap.get_set, if_neg hx]; exact h.there x hx⟩
theorem Curs.trans {A B C : Heap} {j : Nat} (h : Curs A B b a n c i) (k : Curs B C b a n c j) : Curs A C b a n c j :=
 ⟨k.next.trans h.next, k.here, fun x hx => (k.there x hx).trans (h.there x hx)⟩
theorem Curs.gg (h : Curs H0 H b a n c i) (x : Ctx H0 a c s b) : Ext GE H := by
 refine ⟨by rw [h.next]; exact x.gg.next, fun y z e => ?_, fun y hy => ?_⟩
 · by_cases e' : y = b
   · rw [e', j0v b x.low] at e; cases e
   · rw [h.there y e']; exact x.gg.keep y z e
 · rw [h.next] at hy
   have := x.lt
   rw [h.there y (by omega)]
   exact x.gg.fresh y hy
theorem Curs.row (h : Curs H0 H b a n c i) (x : Ctx H0 a c s b) : Brow H a s := by
 refine ⟨fun y hy => ?_, x.row.nil, x.row.small⟩
 obtain ⟨z, h1, h2⟩ := x.row.row y hy
 refine ⟨z, ?_, h2⟩
 have hn := h.there y.block (x.ne y hy)
 unfold look at h1 ⊢
 rw [hn]; exact h1
theorem Curs.ctx (h : Curs H0 H b a n c i) (x : Ctx H0 a c s b) : Ctx H a c s b :=
 ⟨h.gg x, x.low, by rw [h.next]; exact x.lt, h.row x, x.ne⟩
def lineEnd (s : List UInt8) : Nat → Nat → Nat
 | 0, i => i
 | n + 1, i => if s.getD i 0 = 10 then i else lineEnd s n (i + 1)
theorem jz6 (s : List UInt8) : ∀ n i, i ≤ lineEnd s n i ∧ lineEnd s n i ≤ i + n
 | 0, i => by simp [lineEnd]
 | n + 1, i => by
   unfold lineEnd
   have := jz6 s n (i + 1)
   split <;> omega
def skipTo (s : List UInt8) : Nat → Nat → Nat
 | 0, i => i
 | n + 1, i => if isI s i 1 then skipTo s n (i + 1) else if isI s i 2 then skipTo s n (lineEnd s (s.length - i) i) else i
theorem y0i : clsI 10 = 1 := by decide +kernel
theorem code26 : codeOf Tryz.f26 = .seq (rF Tryz.f26 0) (.seq (.block 0 (.loop (.seq (.seq (rF Tryz.f26 1) (.cond (.tmp 8) .skip (.exit 0))) (.block 1 (.seq (.seq (rF Tryz.f26 2) (.cond (.tmp 10) (.seq (.block 2 (.loop (.seq (.seq (rT Tryz.f26 3) (.cond (.tmp 33) .skip (.exit 2))) (.block 3 (rF Tryz.f26 4))))) (.exit 1)) .skip)) (rF Tryz.f26 5)))))) (.seq (rT Tryz.f26 6) .ret)) := by kernel_rfl
theorem j4g : ((rgn Tryz.f26 1)[2]?).bind (·.dst) = some 5 := by kernel_rfl
theorem j1x : ((rgn Tryz.f26 3)[10]?).bind (·.dst) = some 21 := by kernel_rfl
theorem y3v (x : Ctx H0 a c s b) (h : Curs H0 H b a s.length c i) (e0 : E 0 = .pointer (some ⟨b, 0, none⟩)) (hi : i < s.length) (hne : s[i] ≠ 10) (hx : ∀ E', E' 0 = .pointer (some ⟨b, 0, none⟩) → Q (k .norm E' [] (H.set b (cur a s.length c (i + 1))))) :
   Q (execG PP XX K N noPr (.seq (.seq (rT Tryz.f26 3) (.cond (.tmp 33) .skip (.exit 2))) (.block 3 (rF Tryz.f26 4))) none E [] H k) := by
 have hlt : decide ((i : Int) < (s.length : Int)) = true := decide_eq_true (by omega)
 have hsm := x.row.small
 obtain ⟨b0, rfl, hl⟩ := (h.row x).bts.cell i hi
 have hix := jc1 (n := s.length) (c := c) (a := b0) hi
 have h10 : ((s[i].toNat : Int) != 10) = true := by
   have := jo3 s[i] 10
   have e : ((10 : UInt8).toNat : Int) = 10 := rfl
   rw [e] at this
   simp only [bne, this, decide_eq_false hne, Bool.not_false]
 have w : IntKind.i64.wrap ((i : Int) + 1) = ((i + 1 : Nat) : Int) := by rw [jb2 (by omega) (by omega)]; omega
 have lL := lX2 Tryz.f26 3 4
 conv at lL in (occs := *) (rgnX _ _) => all_goals simp only [rX, opsAt, Tryz.f26, dL.o, reduceIte, Nat.reduceEqDiff]
 obtain ⟨l3, l4⟩ := lL
 simp (decide := true) only [↓uR.o, dG.o, ja1, ja5, reduceIte, ↓ja0 l3, ↓ja0 l4, ↓jb7 _ 10 true 21 _ j1x, e0, hlt, h10, w, fld0, fld1, jd2 h.here, jd0 h.here, ji5 h.here, ja7 (ts := #[34]) rfl und34, hix, ja9 hl]
 exact hx _ (e0)
theorem yl7 (x : Ctx H0 a c s b) (h : Curs H0 H b a s.length c i) (e0 : E 0 = .pointer (some ⟨b, 0, none⟩)) (hs : i < s.length → s.getD i 0 = 10) (hx : ∀ E', E' 0 = .pointer (some ⟨b, 0, none⟩) → Q (k (.exit 2) E' [] H)) :
   Q (execG PP XX K N noPr (.seq (.seq (rT Tryz.f26 3) (.cond (.tmp 33) .skip (.exit 2))) (.block 3 (rF Tryz.f26 4))) none E [] H k) := by
 by_cases hi : i < s.length
 · have hlt : decide ((i : Int) < (s.length : Int)) = true := decide_eq_true (by omega)
   obtain ⟨b0, rfl, hl⟩ := (h.row x).bts.cell i hi
   have hix := jc1 (n := s.length) (c := c) (a := b0) hi
   have he : s[i] = 10 := by have := hs hi; simpa [List.getD, hi] using this
   have h10 : ((s[i].toNat : Int) != 10) = false := by rw [he]; rfl
   have lL := lX2 Tryz.f26 3 4
   conv at lL in (occs := *) (rgnX _ _) => all_goals simp only [rX, opsAt, Tryz.f26, dL.o, reduceIte, Nat.reduceEqDiff]
   obtain ⟨l3, l4⟩ := lL
   simp (decide := true) only [↓uR.o, dG.o, ja1, reduceIte, ↓ja0 l3, ↓jb7 _ 10 true 21 _ j1x, e0, hlt, h10, fld0, fld1, jd2 h.here, jd0 h.here, ja7 (ts := #[34]) rfl und34, hix, ja9 hl]
   exact hx _ (e0)
 · have hlt : decide ((i : Int) < (s.length : Int)) = false := decide_eq_false (by omega)
   have lL := lX2 Tryz.f26 3 4
   conv at lL in (occs := *) (rgnX _ _) => all_goals simp only [rX, opsAt, Tryz.f26, dL.o, reduceIte, Nat.reduceEqDiff]
   obtain ⟨l3, l4⟩ := lL
   simp (decide := true) only [↓uR.o, dG.o, ja1, reduceIte, Bool.not_true, ↓ja0 l3, ↓r_no _ 10 true 21 _ j1x, e0, hlt, fld0, fld1, jd2 h.here, jd0 h.here, ja7 (ts := #[34]) rfl und34]
   exact hx _ (e0)
theorem yl8 (x : Ctx H0 a c s b) :
   ∀ (n i m : Nat) (_ : i + n = s.length) (_ : n < m) {H : Heap} {E : Env} (_ : Curs H0 H b a s.length c i) (_ : E 0 = .pointer (some ⟨b, 0, none⟩)) (_ : ∀ E' H', E' 0 = .pointer (some ⟨b, 0, none⟩) → Curs H0 H' b a s.length c (lineEnd s n i) → Q (k (.exit 2) E' [] H')),
     Q (loopE (execG PP XX K N noPr (.seq (.seq (rT Tryz.f26 3) (.cond (.tmp 33) .skip (.exit 2))) (.block 3 (rF Tryz.f26 4))) none) m E [] H k)
 | 0, i, m + 1, hn, hm, H, E, h, e0, hx => by
   rw [jb5]
   exact yl7 x h e0 (fun hi => by omega) fun E' e' => hx E' H e' h
 | n + 1, i, m + 1, hn, hm, H, E, h, e0, hx => by
   rw [jb5]
   by_cases h10 : s.getD i 0 = 10
   · have e : lineEnd s (n + 1) i = i := by unfold lineEnd; rw [if_pos h10]
     rw [e] at hx
     exact yl7 x h e0 (fun _ => h10) fun E' e' => hx E' H e' h
   · have e : lineEnd s (n + 1) i = lineEnd s n (i + 1) := by rw [lineEnd, if_neg h10]
     rw [e] at hx
     have hi : i < s.length := by omega
     refine y3v x h e0 hi (by simpa [List.getD, hi] using h10) fun E' e' => ?_
     rw [jc4]
     exact yl8 x n (i + 1) m (by omega) (by omega) (h.set (i + 1)) e' hx
theorem j9q (x : Ctx H0 a c s b) (h : Curs H0 H b a s.length c i) (e0 : E 0 = .pointer (some ⟨b, 0, none⟩)) (hh : NH hk) (h1 : isI s i 1 = false) (h2 : isI s i 2 = false) (hx : ∀ E', E' 0 = .pointer (some ⟨b, 0, none⟩) → Q (k (.exit 0) E' [] H)) :
   Q (execG PP XX (CG N hk (d + 2)) N noPr (.seq (.seq (rF Tryz.f26 1) (.cond (.tmp 8) .skip (.exit 0))) (.block 1 (.seq (.seq (rF Tryz.f26 2) (.cond (.tmp 10) (.seq (.block 2 (.loop (.seq (.seq (rT Tryz.f26 3) (.cond (.tmp 33) .skip (.exit 2))) (.block 3 (rF Tryz.f26 4))))) (.exit 1)) .skip)) (rF Tryz.f26 5)))) none E [] H k) := by
 have r1 := jf6 (N := N) (hk := hk) (d := d) (h.gg x) (h.row x) h.here 1 hh
 have r2 := jf6 (N := N) (hk := hk) (d := d) (h.gg x) (h.row x) h.here 2 hh
 rw [h1] at r1
 rw [h2] at r2
 have l1 := tl (rgn Tryz.f26 1)
 conv at l1 => rhs; simp only [rgn, opsAt, codeOf, Tryz.f26, gS, gN, reduceIte, Nat.reduceEqDiff, tA]
 simp (decide := true) only [↓uR.o, dG.o, ja1, reduceIte, ↓ja0 l1, ↓jb7 _ 2 false 5 _ j4g, e0, ja3 Tryz.func47 rfl rfl r1, ja3 Tryz.func47 rfl rfl r2]
 exact hx _ (e0)
theorem yl9 (x : Ctx H0 a c s b) (h : Curs H0 H b a s.length c i) (e0 : E 0 = .pointer (some ⟨b, 0, none⟩)) (hh : NH hk) (h1 : isI s i 1 = true) (h2 : isI s i 2 = false) (hi : i < s.length) (hx : ∀ E', E' 0 = .pointer (some ⟨b, 0, none⟩) → Q (k .norm E' [] (H.set b (cur a s.length c (i + 1))))) :
   Q (execG PP XX (CG N hk (d + 2)) N noPr (.seq (.seq (rF Tryz.f26 1) (.cond (.tmp 8) .skip (.exit 0))) (.block 1 (.seq (.seq (rF Tryz.f26 2) (.cond (.tmp 10) (.seq (.block 2 (.loop (.seq (.seq (rT Tryz.f26 3) (.cond (.tmp 33) .skip (.exit 2))) (.block 3 (rF Tryz.f26 4))))) (.exit 1)) .skip)) (rF Tryz.f26 5)))) none E [] H k) := by
 have r1 := jf6 (N := N) (hk := hk) (d := d) (h.gg x) (h.row x) h.here 1 hh
 have r2 := jf6 (N := N) (hk := hk) (d := d) (h.gg x) (h.row x) h.here 2 hh
 rw [h1] at r1
 rw [h2] at r2
 have hsm := x.row.small
 have w : IntKind.i64.wrap ((i : Int) + 1) = ((i + 1 : Nat) : Int) := by rw [jb2 (by omega) (by omega)]; omega
 have lL := lX3 Tryz.f26 1 2 5
 conv at lL in (occs := *) (rgnX _ _) => all_goals simp only [rX, opsAt, Tryz.f26, dL.o, reduceIte, Nat.reduceEqDiff]
 obtain ⟨l1, l2, l5⟩ := lL
 simp (decide := true) only [↓uR.o, dG.o, ja1, ja5, reduceIte, Bool.not_false, ↓ja0 l1, ↓ja0 l2, ↓ja0 l5, ↓r_no _ 2 false 5 _ j4g, e0, ja3 Tryz.func47 rfl rfl r1, ja3 Tryz.func47 rfl rfl r2, fld1, jd0 h.here, ji5 h.here, w]
 exact hx _ (e0)
theorem y0j (x : Ctx H0 a c s b) (h : Curs H0 H b a s.length c i) (e0 : E 0 = .pointer (some ⟨b, 0, none⟩)) (hh : NH hk) (h1 : isI s i 1 = false) (h2 : isI s i 2 = true) (hi : i < s.length) (hN : s.length < N) (hx : ∀ E' H', E' 0 = .pointer (some ⟨b, 0, none⟩) → Curs H0 H' b a s.length c (lineEnd s (s.length - i) i) → Q (k .norm E' [] H')) :
   Q (execG PP XX (CG N hk (d + 2)) N noPr (.seq (.seq (rF Tryz.f26 1) (.cond (.tmp 8) .skip (.exit 0))) (.block 1 (.seq (.seq (rF Tryz.f26 2) (.cond (.tmp 10) (.seq (.block 2 (.loop (.seq (.seq (rT Tryz.f26 3) (.cond (.tmp 33) .skip (.exit 2))) (.block 3 (rF Tryz.f26 4))))) (.exit 1)) .skip)) (rF Tryz.f26 5)))) none E [] H k) := by
 have r1 := jf6 (N := N) (hk := hk) (d := d) (h.gg x) (h.row x) h.here 1 hh
 have r2 := jf6 (N := N) (hk := hk) (d := d) (h.gg x) (h.row x) h.here 2 hh
 rw [h1] at r1
 rw [h2] at r2
 have lL := lX2 Tryz.f26 1 2
 conv at lL in (occs := *) (rgnX _ _) => all_goals simp only [rX, opsAt, Tryz.f26, dL.o, reduceIte, Nat.reduceEqDiff]
 obtain ⟨l1, l2⟩ := lL
 simp (decide := true) only [↓uR.o, dG.o, ja1, reduceIte, ↓ja0 l1, ↓ja0 l2, ↓jb7 _ 2 false 5 _ j4g, e0, ja3 Tryz.func47 rfl rfl r1, ja3 Tryz.func47 rfl rfl r2, ↓jc8]
 refine yl8 x (s.length - i) i N (by omega) (by omega) h ?_ fun E' H' e' h' => ?_
 · simp (decide := true) only [ja1, reduceIte, e0]
 simp (decide := true) only [↓j3h, dG.o]
 exact hx E' H' e' h'
theorem j4h (x : Ctx H0 a c s b) (hh : NH hk) (hN : s.length < N) :
   ∀ (n i m : Nat) (_ : i ≤ s.length) (_ : s.length ≤ i + n) (_ : n < m) {H : Heap} {E : Env} (_ : Curs H0 H b a s.length c i) (_ : E 0 = .pointer (some ⟨b, 0, none⟩)) (_ : ∀ E' H', E' 0 = .pointer (some ⟨b, 0, none⟩) → Curs H0 H' b a s.length c (skipTo s n i) → Q (k (.exit 0) E' [] H')),
     Q (loopE (execG PP XX (CG N hk (d + 2)) N noPr (.seq (.seq (rF Tryz.f26 1) (.cond (.tmp 8) .skip (.exit 0))) (.block 1 (.seq (.seq (rF Tryz.f26 2) (.cond (.tmp 10) (.seq (.block 2 (.loop (.seq (.seq (rT Tryz.f26 3) (.cond (.tmp 33) .skip (.exit 2))) (.block 3 (rF Tryz.f26 4))))) (.exit 1)) .skip)) (rF Tryz.f26 5)))) none) m E [] H k)
 | 0, i, m + 1, hi, hn, hm, H, E, h, e0, hx => by
   rw [jb5]
   have z : ∀ q, isI s i q = false := fun q => by simp [isI]; omega
   exact j9q x h e0 hh (z 1) (z 2) fun E' e' => hx E' H e' h
 | n + 1, i, m + 1, hi, hn, hm, H, E, h, e0, hx => by
   rw [jb5]
   by_cases h1 : isI s i 1 = true
   · have e : skipTo s (n + 1) i = skipTo s n (i + 1) := by rw [skipTo, if_pos h1]
     rw [e] at hx
     have q : i < s.length ∧ clsI (s.getD i 0) = 1 := by simpa [isI] using h1
     have h2 : isI s i 2 = false := by simp only [isI, q.2]; simp
     refine yl9 x h e0 hh h1 h2 q.1 fun E' e' => ?_
     rw [jc4]
     exact j4h x hh hN n (i + 1) m (by omega) (by omega) (by omega) (h.set (i + 1)) e' hx
   · have h1' : isI s i 1 = false := by simpa using h1
     by_cases h2 : isI s i 2 = true
     · have e : skipTo s (n + 1) i = skipTo s n (lineEnd s (s.length - i) i) := by rw [skipTo, if_neg h1, if_pos h2]
       rw [e] at hx
       have q : i < s.length ∧ clsI (s.getD i 0) = 2 := by simpa [isI] using h2
       have hge : i + 1 ≤ lineEnd s (s.length - i) i ∧ lineEnd s (s.length - i) i ≤ s.length := by
         obtain ⟨r, hr⟩ : ∃ r, s.length - i = r + 1 := ⟨s.length - i - 1, by omega⟩
         have h10 : ¬ s.getD i 0 = 10 := fun e => by
           have := q.2
           rw [e, y0i] at this
           exact absurd this (by decide)
         rw [hr, lineEnd, if_neg h10]
         have := jz6 s r (i + 1)
         omega
       refine y0j x h e0 hh h1' h2 q.1 hN fun E' H' e' h' => ?_
       rw [jc4]
       exact j4h x hh hN n _ m hge.2 (by omega) (by omega) h' e' hx
     · have h2' : isI s i 2 = false := by simpa using h2
       have e : skipTo s (n + 1) i = i := by rw [skipTo, if_neg h1, if_neg h2]
       rw [e] at hx
       exact j9q x h e0 hh h1' h2' fun E' e' => hx E' H e' h
theorem ym0 (x : Ctx H0 a c s b) (h : Curs H0 H b a s.length c i) (hh : NH hk) (hi : i ≤ s.length) (hN : s.length < N) :
   ∃ H', Curs H0 H' b a s.length c (skipTo s (s.length - i) i) ∧ CG N hk (d + 3) 26 #[.pointer (some ⟨b, 0, none⟩)] H = some (.ret (.bool (decide (skipTo s (s.length - i) i < s.length))), H') := by
 have main : ∃ R0 : R, CG N hk (d + 3) 26 #[.pointer (some ⟨b, 0, none⟩)] H = R0 ∧ ∃ H', Curs H0 H' b a s.length c (skipTo s (s.length - i) i) ∧ R0 = some (.ret (.bool (decide (skipTo s (s.length - i) i < s.length))), H') := by
   refine ⟨_, jc2 (hh _ _ _ rfl) Tryz.func26 (c := codeOf Tryz.f26) rfl rfl rfl (pr := noPr) rfl, ?_⟩
   rw [code26]
   generalize hF : finE PP Tryz.f26 = F
   have lL := lX2 Tryz.f26 0 6
   conv at lL in (occs := *) (rgnX _ _) => all_goals simp only [rX, opsAt, Tryz.f26, dL.o, reduceIte, Nat.reduceEqDiff]
   obtain ⟨l0, l6⟩ := lL
   simp (decide := true) only [↓uR.o, dG.o, ↓ja0 l0, ↓jc8]
   refine j4h (Q := fun r => ∃ H', Curs H0 H' b a s.length c (skipTo s (s.length - i) i) ∧ r = some (.ret (.bool (decide (skipTo s (s.length - i) i < s.length))), H')) x hh hN (s.length - i) i N hi (by omega) (by omega) h ?_ fun E' H' e' h' => ?_
   · simp (decide := true) only [ja1, reduceIte, jd4]
   have hlt : decide (((skipTo s (s.length - i) i : Nat) : Int) < (s.length : Int)) = decide (skipTo s (s.length - i) i < s.length) := by
     by_cases q : skipTo s (s.length - i) i < s.length
     · rw [decide_eq_true q]; exact decide_eq_true (by omega)
     · rw [decide_eq_false q]; exact decide_eq_false (by omega)
   refine ⟨H', h', ?_⟩
   simp (decide := true) only [↓uR.o, dG.o, ja1, reduceIte, ↓ja0 l6, e', hlt, fld0, fld1, jd2 h'.here, jd0 h'.here, ja7 (ts := #[34]) rfl und34]
   rw [← hF, jb6 (l := [.bool (decide (skipTo s (s.length - i) i < s.length))]) (by simp (decide := true) [Tryz.f26, resE, ja1])]
   rfl
 obtain ⟨R0, m1, H', m2, m3⟩ := main
 exact ⟨H', m2, m1.trans m3⟩
end Go.Am
