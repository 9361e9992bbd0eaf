/- Code and calls over frames that are trees. -/
import Derived.Test.YtohmeeglehopiaaGreatDoorM05
import Derived.Lib.ItoaNum
namespace Go.Am
abbrev KO := Out → KT
def KSo (r : End × Heap) (k : KO) (k' : Out → Act → Heap → R) : Prop := ∀ o, KS r (k o) (k' o)
noncomputable def loopT (body : T → List Deferred → Heap → KO → R) (n : Nat) : T → List Deferred → Heap → KO → R :=
 Nat.rec (motive := fun _ => T → List Deferred → Heap → KO → R) (fun _ _ _ _ => none)
   (fun _ ih t ds H k => body t ds H fun o t ds H => match o with | .norm => ih t ds H k | o => k o t ds H) n
def BSim (r : End × Heap) (body : T → List Deferred → Heap → KO → R) (body' : Act → Heap → (Out → Act → Heap → R) → R) : Prop :=
 ∀ k k', KSo r k k' → ∀ t ds a H, Sim t ds a → body t ds H k = some r → body' a H k' = some r
theorem j35 {r : End × Heap} {body : T → List Deferred → Heap → KO → R} {body' : Act → Heap → (Out → Act → Heap → R) → R} (hb : BSim r body body') : ∀ n, BSim r (loopT body n) (loopC body' n)
 | 0, _, _, _, _, _, _, _, _, h => by cases h
 | n + 1, k, k', hk, t, ds, a, H, hs, h => by
   refine hb _ _ (fun o t ds a H hs h => ?_) t ds a H hs h
   cases o with
   | norm => exact j35 hb n k k' hk _ _ _ _ hs h
   | _ => exact hk _ _ _ _ _ hs h
noncomputable def scopeT (c : Code) (body : Option Nat → T → List Deferred → Heap → KO → R) (n : Nat) : Option Nat → T → List Deferred → Heap → KO → R :=
 Nat.rec (motive := fun _ => Option Nat → T → List Deferred → Heap → KO → R) (fun _ _ _ _ _ => none)
   (fun _ ih s t ds H k => body s t ds H fun o t ds H => match o with | .goto l => cond (hasLabel l c) (ih (some l) t ds H k) (k (.goto l) t ds H) | o => k o t ds H) n
theorem j1u {r : End × Heap} {c : Code} {body : Option Nat → T → List Deferred → Heap → KO → R} {body' : Option Nat → Act → Heap → (Out → Act → Heap → R) → R} (hb : ∀ s, BSim r (body s) (body' s)) :
   ∀ n s, BSim r (scopeT c body n s) (scopeC c body' n s)
 | 0, _, _, _, _, _, _, _, _, _, h => by cases h
 | n + 1, s, k, k', hk, t, ds, a, H, hs, h => by
   refine hb s _ _ (fun o t ds a H hs h => ?_) t ds a H hs h
   cases o with
   | goto l =>
     simp only at h ⊢
     cases e : hasLabel l c with
     | true => rw [e] at h; exact j1u hb n _ k k' hk _ _ _ _ hs h
     | false => rw [e] at h; exact hk _ _ _ _ _ hs h
   | _ => exact hk _ _ _ _ _ hs h
noncomputable def execT (P : Program) (X : Xf) (K : Kf) (N : Nat) (c : Code) : Option Nat → T → List Deferred → Heap → KO → R :=
 Code.rec (motive := fun _ => Option Nat → T → List Deferred → Heap → KO → R)
   (skip := fun s t ds H k => Option.rec (motive := fun _ => R) (k .norm t ds H) (fun _ => none) s)
   (region := fun _ ops draw s t ds H k => Option.rec (motive := fun _ => R)
     (cond draw (execTrT P X K ops ops.toList t ds H [] fun tr t ds H => cond (drawChkT P ops tr) (k .norm t ds H) none)
       (execOpsT P X K ops ops.toList t ds H (k .norm) (fun c => k (.pan c)))) (fun _ => none) s)
   (seq := fun x _ ihx ihy s t ds H k => Option.rec (motive := fun _ => R)
     (ihx none t ds H fun o t ds H => match o with | .norm => ihy none t ds H k | o => k o t ds H)
     (fun l => cond (hasLabel l x) (ihx (some l) t ds H fun o t ds H => match o with | .norm => ihy none t ds H k | o => k o t ds H) (ihy (some l) t ds H k)) s)
   (cond := fun c _ _ ihx ihy s t ds H k => Option.rec (motive := fun _ => R) (match evalT t c with | .bool b => cond b (ihx none t ds H k) (ihy none t ds H k) | _ => none) (fun _ => none) s)
   (block := fun id _ ih s t ds H k => Option.rec (motive := fun _ => R) (ih none t ds H fun o t ds H => match o with | .exit i => cond (i == id) (k .norm t ds H) (k (.exit i) t ds H) | o => k o t ds H) (fun _ => none) s)
   (loop := fun _ ih s t ds H k => Option.rec (motive := fun _ => R) (loopT (ih none) N t ds H k) (fun _ => none) s)
   (rangeFunc := fun _ _ _ _ _ _ _ _ _ _ _ => none)
   (exit := fun id s t ds H k => Option.rec (motive := fun _ => R) (k (.exit id) t ds H) (fun _ => none) s)
   (scope := fun b ih s t ds H k => Option.rec (motive := fun _ => R) (scopeT b ih N none t ds H k) (fun _ => none) s)
   (label := fun l' s t ds H k => Option.rec (motive := fun _ => R) (k .norm t ds H) (fun l => cond (l' == l) (k .norm t ds H) none) s)
   (goto := fun l s t ds H k => Option.rec (motive := fun _ => R) (k (.goto l) t ds H) (fun _ => none) s)
   (ret := fun s t ds H k => Option.rec (motive := fun _ => R) (k .ret t ds H) (fun _ => none) s)
   (refuse := fun _ _ _ _ _ _ => none) c
theorem ya1 {r : End × Heap} {b2 : T → List Deferred → Heap → KO → R} {b2' : Act → Heap → (Out → Act → Heap → R) → R} (h2 : BSim r b2 b2') {k : KO} {k' : Out → Act → Heap → R} (hk : KSo r k k') :
   KSo r (fun o t ds H => match o with | .norm => b2 t ds H k | o => k o t ds H) (fun o a H => match o with | .norm => b2' a H k' | o => k' o a H) := by
 intro o t ds a H hs h
 cases o with
 | norm => exact h2 k k' hk _ _ _ _ hs h
 | _ => exact hk _ _ _ _ _ hs h
def goodC (P : Program) : Code → Bool
 | .region _ ops draw => ops.toList.all (opOk P) && (!draw || drawOk P ops.toList)
 | .seq a b => goodC P a && goodC P b
 | .cond _ a b => goodC P a && goodC P b
 | .block _ b => goodC P b
 | .loop b => goodC P b
 | .scope b => goodC P b
 | _ => true
theorem je8 {P : Program} {X : Xf} {K K' : Kf} (hK : KLe K K') {N : Nat} {r : End × Heap} : ∀ (c : Code) (_ : goodC P c = true) (s : Option Nat), BSim r (execT P X K N c s) (exec P X K' N c s)
 | .skip, hg, none, k, k', hk, t, ds, a, H, hs, h => by unfold exec; exact hk _ _ _ _ _ hs h
 | .skip, hg, some _, k, k', hk, t, ds, a, H, hs, h => by cases h
 | .region id ops draw, hg, none, k, k', hk, t, ds, a, H, hs, h => by
   unfold exec
   simp only [goodC, Bool.and_eq_true] at hg
   have ho := fun o h => List.all_eq_true.mp hg.1 o h
   cases draw with
   | false =>
     exact jk6 (k' := fun a H => k' .norm a H) (kp' := fun c a H => k' (.pan c) a H) hK (fun t ds a H => hk .norm t ds a H) (fun c t ds a H => hk (.pan c) t ds a H) ops.toList ho t ds a H hs h
   | true =>
     have e : drawOk P ops.toList = true := by simpa using hg.2
     rw [e]
     simp only [cond_true]
     refine js1 (k' := fun tr af Hf => cond (drawChk P ops tr) (k' .norm af Hf) none) hK ops.toList ho 0 (fun tr tr' htr hn => ?_) t ds a H [] [] ⟨rfl, fun i x y hx => by simp at hx⟩ rfl hs h
     intro t ds a H hs h
     cases e2 : drawChkT P ops tr with
     | false => rw [e2] at h; cases h
     | true =>
       rw [e2] at h
       rw [j8w htr (by rw [hn]; omega) e2]
       exact hk _ _ _ _ _ hs h
 | .region .., hg, some _, k, k', hk, t, ds, a, H, hs, h => by cases h
 | .seq x y, hg, none, k, k', hk, t, ds, a, H, hs, h => by
   simp only [goodC, Bool.and_eq_true] at hg
   unfold exec
   exact je8 hK x hg.1 none _ _ (ya1 (je8 hK y hg.2 none) hk) t ds a H hs h
 | .seq x y, hg, some l, k, k', hk, t, ds, a, H, hs, h => by
   simp only [goodC, Bool.and_eq_true] at hg
   unfold exec
   have h' : cond (hasLabel l x) (execT P X K N x (some l) t ds H fun o t ds H => match o with | .norm => execT P X K N y none t ds H k | o => k o t ds H) (execT P X K N y (some l) t ds H k) = some r := h
   cases e : hasLabel l x with
   | true => rw [e] at h'; exact je8 hK x hg.1 (some l) _ _ (ya1 (je8 hK y hg.2 none) hk) t ds a H hs h'
   | false => rw [e] at h'; exact je8 hK y hg.2 (some l) _ _ hk t ds a H hs h'
 | .cond c x y, hg, none, k, k', hk, t, ds, a, H, hs, h => by
   simp only [goodC, Bool.and_eq_true] at hg
   unfold exec
   have h' : (match evalT t c with | .bool b => cond b (execT P X K N x none t ds H k) (execT P X K N y none t ds H k) | _ => none) = some r := h
   rw [jk5 hs.tree] at h'
   split at h'
   · rename_i b e
     simp only [e]
     cases b with
     | true => exact je8 hK x hg.1 none _ _ hk t ds a H hs h'
     | false => exact je8 hK y hg.2 none _ _ hk t ds a H hs h'
   · cases h'
 | .cond .., hg, some _, k, k', hk, t, ds, a, H, hs, h => by cases h
 | .block id b, hg, none, k, k', hk, t, ds, a, H, hs, h => by
   unfold exec
   refine je8 hK b hg none _ _ (fun o t ds a H hs h => ?_) t ds a H hs h
   cases o with
   | exit i =>
     simp only at h ⊢
     cases e : (i == id) with
     | true => rw [e] at h; exact hk _ _ _ _ _ hs h
     | false => rw [e] at h; exact hk _ _ _ _ _ hs h
   | _ => exact hk _ _ _ _ _ hs h
 | .block .., hg, some _, k, k', hk, t, ds, a, H, hs, h => by cases h
 | .loop b, hg, none, k, k', hk, t, ds, a, H, hs, h => by
   unfold exec
   exact j35 (je8 hK b hg none) N k k' hk t ds a H hs h
 | .loop _, hg, some _, k, k', hk, t, ds, a, H, hs, h => by cases h
 | .rangeFunc .., hg, s, k, k', hk, t, ds, a, H, hs, h => by cases h
 | .exit id, hg, none, k, k', hk, t, ds, a, H, hs, h => by unfold exec; exact hk _ _ _ _ _ hs h
 | .exit _, hg, some _, k, k', hk, t, ds, a, H, hs, h => by cases h
 | .scope b, hg, none, k, k', hk, t, ds, a, H, hs, h => by
   unfold exec
   exact j1u (fun s => je8 hK b hg s) N none k k' hk t ds a H hs h
 | .scope _, hg, some _, k, k', hk, t, ds, a, H, hs, h => by cases h
 | .label l', hg, none, k, k', hk, t, ds, a, H, hs, h => by unfold exec; exact hk _ _ _ _ _ hs h
 | .label l', hg, some l, k, k', hk, t, ds, a, H, hs, h => by
   unfold exec
   have h' : cond (l' == l) (k .norm t ds H) none = some r := h
   cases e : (l' == l) with
   | true => rw [e] at h'; exact hk _ _ _ _ _ hs h'
   | false => rw [e] at h'; cases h'
 | .goto l, hg, none, k, k', hk, t, ds, a, H, hs, h => by unfold exec; exact hk _ _ _ _ _ hs h
 | .goto _, hg, some _, k, k', hk, t, ds, a, H, hs, h => by cases h
 | .ret, hg, none, k, k', hk, t, ds, a, H, hs, h => by unfold exec; exact hk _ _ _ _ _ hs h
 | .ret, hg, some _, k, k', hk, t, ds, a, H, hs, h => by cases h
 | .refuse _, hg, s, k, k', hk, t, ds, a, H, hs, h => by cases h
noncomputable def resT (P : Program) (t : T) (H : Heap) : List ResultVar → Option (List Value)
 | [] => some []
 | .tmp i :: r => match resT P t H r with | some l => some ((rdP (path i) t).getD undef :: l) | none => none
 | .cell i ty :: r => match loadA P ty ((rdP (path i) t).getD undef) H with
   | some (v, _) => match resT P t H r with | some l => some (v :: l) | none => none
   | none => none
theorem j0p {P : Program} {t : T} {ts : Array Value} (h : Rep t ts) (H : Heap) : ∀ l, resT P t H l = resL P ts H l
 | [] => rfl
 | .tmp i :: r => by
   unfold resT resL
   have e : (ts[i]?).getD undef = ts.getD i undef := by simp
   rw [j0p h H r, jw1, h i, e]
   cases resL P ts H r <;> rfl
 | .cell i ty :: r => by
   unfold resT resL
   have e : (ts[i]?).getD undef = ts.getD i undef := by simp
   rw [j0p h H r, jw1, h i, e]
   cases loadA P ty (ts.getD i undef) H with
   | none => rfl
   | some x => cases resL P ts H r <;> rfl
noncomputable def finDT (P : Program) (fn : Func) (u : FrameMode) (kd : End → FrameMode → Heap → R) (o : Out) (t : T) (ds : List Deferred) (H : Heap) : R :=
 match o with
 | .norm | .ret => match ds with
   | [] => match resT P t H fn.results.toList with | some l => kd (.ret (oneOf l)) u H | none => none
   | _ => none
 | .pan c => match ds with | [] => kd (.pan c) u H | _ => none
 | _ => none
theorem jo0 {P : Program} {fn : Func} {u : FrameMode} {kd kd' : End → FrameMode → Heap → R} {r : End × Heap} (hk : ∀ e u H, kd e u H = some r → kd' e u H = some r) : KSo r (finDT P fn u kd) (finD P fn u kd') := by
 intro o t ds a H hs h
 unfold finDT at h
 unfold finD
 split at h
 · simp only [hs.ds]
   split at h
   · rw [j0p hs.tree] at h
     simp only
     split at h
     · rename_i e; rw [e]; exact hk _ _ _ h
     · cases h
   · cases h
 · simp only [hs.ds]
   split at h
   · rw [j0p hs.tree] at h
     simp only
     split at h
     · rename_i e; rw [e]; exact hk _ _ _ h
     · cases h
   · cases h
 · simp only [hs.ds]
   split at h
   · exact hk _ _ _ h
   · cases h
 · cases h
noncomputable def bodyDT (P : Program) (X : Xf) (K : Kf) (N : Nat) (fn : Func) (c : Code) (args : Array Value) (u : FrameMode) (H : Heap) (kd : End → FrameMode → Heap → R) : R :=
 startT fn.ntmps args fun t => match c with
 | .seq (.region _ ops false) rest => match ops.toList with
   | o :: os => cond (isRec o)
     (putT o.dst t (recM u).1 fun t => execOpsT P X K ops os t [] H (fun t ds H => execT P X K N rest none t ds H (finDT P fn (recM u).2 kd)) (fun c t ds H => finDT P fn (recM u).2 kd (.pan c) t ds H))
     (execT P X K N c none t [] H (finDT P fn u kd))
   | [] => execT P X K N c none t [] H (finDT P fn u kd)
 | c => execT P X K N c none t [] H (finDT P fn u kd)
theorem j8x {P : Program} {X : Xf} {K K' : Kf} (hK : KLe K K') {N : Nat} {fn : Func} {c : Code} {args : Array Value} {u : FrameMode} {H : Heap} {kd kd' : End → FrameMode → Heap → R} {r : End × Heap}
   (hg : goodC P c = true) (hk : ∀ e u H, kd e u H = some r → kd' e u H = some r) (h : bodyDT P X K N fn c args u H kd = some r) : bodyD P X K' N fn c args u H kd' = some r := by
 unfold bodyDT at h
 obtain ⟨t, h1, h2⟩ := j0o h
 have hs : Sim t [] (act0 fn args) := ⟨h2, rfl⟩
 unfold bodyD
 split at h1
 · rename_i id ops rest
   simp only
   split at h1
   · rename_i o os e
     simp only [e]
     cases hi : isRec o with
     | true =>
       rw [hi] at h1
       simp only [goodC, Bool.and_eq_true] at hg
       have hall := fun o h => List.all_eq_true.mp hg.1.1 o h
       rw [e] at hall
       simp only [cond_true] at h1 ⊢
       obtain ⟨t', q1, q2, q3⟩ := jn9 (a := act0 fn args) h1 h2
       exact jk6 hK (fun t ds a H hs h => je8 hK rest hg.2 none _ _ (jo0 hk) t ds a H hs h) (fun c t ds a H hs h => jo0 hk (.pan c) t ds a H hs h) os (fun o h => hall o (List.mem_cons_of_mem _ h)) t' [] _ H ⟨q2, q3⟩ q1
     | false =>
       rw [hi] at h1
       exact je8 hK _ hg none _ _ (jo0 hk) t [] _ H hs h1
   · rename_i e
     simp only [e]
     exact je8 hK _ hg none _ _ (jo0 hk) t [] _ H hs h1
 · rename_i hno
   split
   · rename_i ops rest
     exact absurd rfl (hno _ _ _)
   · exact je8 hK _ hg none _ _ (jo0 hk) t [] _ H hs h1
def GoodP (P : Program) (bad : List Nat) : Prop := ∀ (f : FuncId) fn c, bad.any (Nat.beq f) = false → P.funcs[f]? = some fn → fn.body = some c → goodC P c = true
def goodF (P : Program) (fn : Func) : Bool := match fn.body with | some c => goodC P c | none => true
def goodAt (P : Program) (bad : List Nat) (f : Nat) : Bool := cond (bad.any (Nat.beq f)) true (match P.funcs[f]? with | some fn => goodF P fn | none => true)
theorem yj4 {P : Program} {bad : List Nat} {n : Nat} (hn : P.funcs.size = n) (h : ∀ f, f < n → goodAt P bad f = true) : GoodP P bad := by
 intro f fn c hb hf hc
 have hlt := (Array.getElem?_eq_some_iff.mp hf).1
 have := h f (by omega)
 simp only [goodAt, hb, hf, cond_false, goodF, hc] at this
 exact this
noncomputable def leaveT (P : Program) (bad : List Nat) (X : Xf) (K : Kf) (N : Nat) (fn : Func) (wk : Bool) (t : T) : List Deferred → FrameMode → Heap → R
 | [], .returning, H => match resT P t H fn.results.toList with | some l => cond (wk && l.any isUndef) none (some (.ret (oneOf l), H)) | none => none
 | [], .panicking c, H => some (.pan c, H)
 | [], .run, _ => none
 | _ :: _, .run, _ => none
 | d :: ds, u, H => match d.target with
   | .fn (.func g) cap => match P.funcs[g]? with
     | some gn => if gn.name == "runtime.NumGoroutine" || bad.any (Nat.beq g) then none else match gn.body with
       | some c => bodyDT P X K N gn c (d.args ++ cap) u H fun e u' H' => match e with
         | .ret _ => match settleA u' with | some u2 => leaveT P bad X K N fn wk t ds u2 H' | none => none
         | .pan ch => leaveT P bad X K N fn wk t ds (raised u' ch) H'
       | none => none
     | none => none
   | _ => none
theorem jw2 {P : Program} {X : Xf} {K K' : Kf} {bad : List Nat} (hgp : GoodP P bad) (hK : KLe K K') {N : Nat} {fn : Func} {wk : Bool} {t : T} {ts : Array Value} (ht : Rep t ts) {r : End × Heap} : ∀ (ds : List Deferred) (u : FrameMode) (H : Heap), leaveT P bad X K N fn wk t ds u H = some r → leave P X K' N fn wk ts ds u H = some r := by
 intro ds
 induction ds with
 | nil =>
   intro u H h
   cases u with
   | returning => unfold leaveT at h; unfold leave; rw [j0p ht] at h; exact h
   | panicking c => unfold leaveT at h; unfold leave; exact h
   | run => unfold leaveT at h; cases h
 | cons d ds ih =>
   intro u H h
   have go : ∀ u, (match d.target with
     | .fn (.func g) cap => match P.funcs[g]? with
       | some gn => if gn.name == "runtime.NumGoroutine" || bad.any (Nat.beq g) then none else match gn.body with
         | some c => bodyDT P X K N gn c (d.args ++ cap) u H fun e u' H' => match e with
           | .ret _ => match settleA u' with | some u2 => leaveT P bad X K N fn wk t ds u2 H' | none => none
           | .pan ch => leaveT P bad X K N fn wk t ds (raised u' ch) H'
         | none => none
       | none => none
     | _ => none) = some r → (match d.target with
     | .fn (.func g) cap => match P.funcs[g]? with
       | some gn => if gn.name == "runtime.NumGoroutine" then none else match gn.body with
         | some c => bodyD P X K' N gn c (d.args ++ cap) u H fun e u' H' => match e with
           | .ret _ => match settleA u' with | some u2 => leave P X K' N fn wk ts ds u2 H' | none => none
           | .pan ch => leave P X K' N fn wk ts ds (raised u' ch) H'
         | none => none
       | none => none
     | _ => none) = some r := by
     intro u h
     split at h
     · split at h
       · rename_i gn hf
         split at h
         · cases h
         · rename_i hn
           simp only [Bool.or_eq_true, not_or, Bool.not_eq_true] at hn
           rw [if_neg (by rw [hn.1]; decide)]
           split at h
           · rename_i c hb
             refine j8x hK (hgp _ _ _ hn.2 hf hb) (fun e u' H' h => ?_) h
             cases e with
             | ret v =>
               simp only at h ⊢
               split at h
               · rename_i u2 e2; exact ih _ _ h
               · cases h
             | pan ch => exact ih _ _ h
           · cases h
       · cases h
     · cases h
   cases u with
   | run => unfold leaveT at h; cases h
   | returning => unfold leaveT at h; unfold leave; exact go _ h
   | panicking c => unfold leaveT at h; unfold leave; exact go _ h
noncomputable def finishT (P : Program) (bad : List Nat) (X : Xf) (K : Kf) (N : Nat) (fn : Func) (o : Out) (t : T) (ds : List Deferred) (H : Heap) : R :=
 match o with
 | .norm | .ret => leaveT P bad X K N fn false t ds .returning H
 | .pan c => leaveT P bad X K N fn true t ds (.panicking c) H
 | _ => none
theorem j5s {P : Program} {X : Xf} {K K' : Kf} {bad : List Nat} (hgp : GoodP P bad) (hK : KLe K K') {N : Nat} {fn : Func} {r : End × Heap} : KSo r (finishT P bad X K N fn) (finishR P X K' N fn) := by
 intro o t ds a H hs h
 unfold finishR
 rw [hs.ds]
 cases o with
 | norm => exact jw2 hgp hK hs.tree _ _ _ h
 | ret => exact jw2 hgp hK hs.tree _ _ _ h
 | pan c => exact jw2 hgp hK hs.tree _ _ _ h
 | _ => cases h
noncomputable def callT (P : Program) (bad : List Nat) (X : Xf) (N : Nat) (hk : Hook) : Nat → Kf
 | 0 => fun _ _ _ => none
 | d + 1 => fun f args H =>
   match hk f args H with
   | some r => r
   | none => cond (bad.any (Nat.beq f)) none
     (match P.funcs[f]? with
     | some fn => match fn.body with
       | some c => startT fn.ntmps args fun t => execT P X (callT P bad X N hk d) N c none t [] H (finishT P bad X (callT P bad X N hk d) N fn)
       | none => none
     | none => none)
theorem j2y {P : Program} {X : Xf} {N : Nat} {hk : Hook} {bad : List Nat} (hgp : GoodP P bad) : ∀ d, KLe (callT P bad X N hk d) (callR P X N hk d)
 | 0 => fun f args H r h => by cases h
 | d + 1 => fun f args H r h => by
   unfold callT at h
   unfold callR
   split at h
   · rename_i q e; simp only [e]; exact h
   · rename_i e
     simp only [e]
     cases hb : bad.any (Nat.beq f) with
     | true => rw [hb] at h; cases h
     | false =>
     rw [hb] at h
     simp only [cond_false] at h
     split at h
     · rename_i fn hf
       simp only [hf]
       split at h
       · rename_i c hc
         simp only [hc]
         obtain ⟨t, h1, h2⟩ := j0o h
         exact je8 (j2y hgp d) c (hgp _ _ _ hb hf hc) none _ _ (j5s hgp (j2y hgp d)) t [] _ H ⟨h2, rfl⟩ h1
       · cases h
     · cases h
theorem j5t {P : Program} {X : Xf} {N : Nat} {hk : Hook} {bad : List Nat} (hgp : GoodP P bad) (hX : XSnd P X) (hH : HookSnd P hk) (hm : P.follows .mixedOrders = true) (d : Nat) : KSnd P (callT P bad X N hk d) :=
 fun f args H r H' he => jr9 hX hH hm d f args H r H' (j2y hgp d _ _ _ _ he)
def signsL : List (List UInt8) := [[123], [125], [91], [93], [40], [41], [59], [44], [46, 46], [61], [61, 61], [33, 61], [60], [60, 61], [62], [62, 61], [124], [94], [38], [60, 60], [62, 62], [43], [45], [42], [47], [37]]
def signsV : List Value := signsL.map strV
def errV (b : Nat) : Value := .iface 151 (.pointer (some ⟨b, 0, none⟩))
def ro (l : List Value) : Blk := ⟨l, false, 1, none, false⟩
def powV : List Value := Lib.pow10Tab.map fun z => .int .u64 z
def bruL : List Int := [0, 1, 56, 2, 57, 49, 28, 3, 61, 58, 42, 50, 38, 29, 17, 4, 62, 47, 59, 36, 45, 43, 51, 22, 53, 39, 33, 30, 24, 18, 12, 5, 63, 55, 48, 27, 60, 41, 37, 16, 46, 35, 44, 21, 52, 32, 23, 11, 54, 26, 40, 15, 34, 20, 31, 10, 25, 14, 19, 9, 13, 8, 7, 6]
def bruV : List Value := bruL.map fun z => .int .u8 z
def GE : Heap := { ((((((GG.set 2 (ro wordsV)).set 3 (ro signsV)).set 5 (ro powV)).set 6 (ro [errV 14])).set 7 (ro [errV 15])).set 10 (ro bruV)) with next := 16 }
theorem j36 : ∀ b x, GE.get b = some x → (b = 0 ∧ x = ro asciiV) ∨ (b = 1 ∧ x = ro (classesL.map fun z => .int .u8 z)) ∨ (b = 2 ∧ x = ro wordsV) ∨ (b = 3 ∧ x = ro signsV) ∨ (b = 5 ∧ x = ro powV) ∨ (b = 6 ∧ x = ro [errV 14]) ∨ (b = 7 ∧ x = ro [errV 15]) ∨ (b = 10 ∧ x = ro bruV) := by
 intro b x hb
 have e0 : GE.get b = ((((((GG.set 2 (ro wordsV)).set 3 (ro signsV)).set 5 (ro powV)).set 6 (ro [errV 14])).set 7 (ro [errV 15])).set 10 (ro bruV)).get b := rfl
 rw [e0] at hb
 rw [Heap.get_set] at hb
 by_cases e10 : b = 10
 · rw [if_pos e10] at hb; exact .inr (.inr (.inr (.inr (.inr (.inr (.inr (⟨e10, (Option.some.inj hb).symm⟩)))))))
 rw [if_neg e10] at hb
 rw [Heap.get_set] at hb
 by_cases e7 : b = 7
 · rw [if_pos e7] at hb; exact .inr (.inr (.inr (.inr (.inr (.inr (.inl ⟨e7, (Option.some.inj hb).symm⟩))))))
 rw [if_neg e7] at hb
 rw [Heap.get_set] at hb
 by_cases e6 : b = 6
 · rw [if_pos e6] at hb; exact .inr (.inr (.inr (.inr (.inr (.inl ⟨e6, (Option.some.inj hb).symm⟩)))))
 rw [if_neg e6] at hb
 rw [Heap.get_set] at hb
 by_cases e5 : b = 5
 · rw [if_pos e5] at hb; exact .inr (.inr (.inr (.inr (.inl ⟨e5, (Option.some.inj hb).symm⟩))))
 rw [if_neg e5] at hb
 rw [Heap.get_set] at hb
 by_cases e3 : b = 3
 · rw [if_pos e3] at hb; exact .inr (.inr (.inr (.inl ⟨e3, (Option.some.inj hb).symm⟩)))
 rw [if_neg e3] at hb
 rw [Heap.get_set] at hb
 by_cases e2 : b = 2
 · rw [if_pos e2] at hb; exact .inr (.inr (.inl ⟨e2, (Option.some.inj hb).symm⟩))
 rw [if_neg e2] at hb
 unfold GG at hb
 rw [Heap.get_set] at hb
 by_cases e0 : b = 0
 · rw [if_pos e0] at hb; exact .inl ⟨e0, (Option.some.inj hb).symm⟩
 rw [if_neg e0, Heap.get_set] at hb
 by_cases e1 : b = 1
 · rw [if_pos e1] at hb; exact .inr (.inl ⟨e1, (Option.some.inj hb).symm⟩)
 rw [if_neg e1] at hb
 have : (⟨.nil, 14⟩ : Heap).get b = none := rfl
 rw [this] at hb; simp at hb
theorem jo1 : Tabs PP GE := by
 refine ⟨fun b x hb => ?_, by rw [ji4]; decide, fun b hb => ?_⟩
 · rcases j36 b x hb with ⟨_, rfl⟩ | ⟨_, rfl⟩ | ⟨_, rfl⟩ | ⟨_, rfl⟩ | ⟨_, rfl⟩ | ⟨_, rfl⟩ | ⟨_, rfl⟩ | ⟨_, rfl⟩ <;> exact ⟨rfl, rfl, by decide +kernel⟩
 · have hn : 16 ≤ b := hb
   cases hg : GE.get b with
   | none => rfl
   | some x => rcases j36 b x hg with ⟨rfl, _⟩ | ⟨rfl, _⟩ | ⟨rfl, _⟩ | ⟨rfl, _⟩ | ⟨rfl, _⟩ | ⟨rfl, _⟩ | ⟨rfl, _⟩ | ⟨rfl, _⟩ <;> omega
theorem j8y : ∀ b x, GE.get b = some x → b ∈ [0, 1, 2, 3, 5, 6, 7, 10] := by
 intro b x hb
 rcases j36 b x hb with ⟨rfl, _⟩ | ⟨rfl, _⟩ | ⟨rfl, _⟩ | ⟨rfl, _⟩ | ⟨rfl, _⟩ | ⟨rfl, _⟩ | ⟨rfl, _⟩ | ⟨rfl, _⟩ <;> decide
theorem mixed : PP.follows .mixedOrders = true := by kernel_rfl
noncomputable def XX : Xf := extX PP
theorem j2z : XSnd PP XX := j8m PP
noncomputable def okRow (K : Kf) (G : Heap) (e : PureRow) : Bool := (e.args.all atomic && atomic e.v) && chkPure (K e.f e.args.toArray G) e.v
def hook0 : Hook := hookOr hookC hookF
theorem jh6 : HookSnd PP hook0 := jd5 j5m j0j
theorem goods0 : (List.range' 0 50).all (goodAt PP []) = true := by decide +kernel
theorem goods1 : (List.range' 50 50).all (goodAt PP []) = true := by decide +kernel
theorem goods2 : (List.range' 100 49).all (goodAt PP []) = true := by decide +kernel
theorem j8z : PP.funcs.size = 149 := by decide +kernel
theorem good : GoodP PP [] := yj4 j8z fun f hf => by
 by_cases h0 : f < 50
 · exact List.all_eq_true.mp goods0 f (by rw [List.mem_range'_1]; omega)
 · by_cases h1 : f < 100
   · exact List.all_eq_true.mp goods1 f (by rw [List.mem_range'_1]; omega)
   · exact List.all_eq_true.mp goods2 f (by rw [List.mem_range'_1]; omega)
noncomputable def fast (h : Hook) : Kf := callT PP [] XX 100000 h 60
theorem jj1 {h : Hook} (hh : HookSnd PP h) : KSnd PP (fast h) := j5t good j2z hh mixed 60
abbrev Env := Nat → Value
def upd (E : Env) (d : Option Tmp) (v : Value) : Env := match d with | none => E | some i => fun j => if j = i then v else E j
theorem jb1 (E : Env) (v : Value) : upd E none v = E := rfl
theorem ja1 (E : Env) (i : Nat) (v : Value) (j : Nat) : upd E (some i) v j = if j = i then v else E j := rfl
def evalE (E : Env) : Operand → Value
 | .tmp i => E i
 | .const v => v
 | .global g => .pointer (some ⟨g, 0, none⟩)
 | .func f => .func (.func f) #[] #[]
structure SimE (n : Nat) (E : Env) (ds : List Deferred) (a : Act) : Prop where
 env : ∀ i, E i = a.tmps.getD i undef
 ds : a.defers = ds
 size : a.tmps.size = n
abbrev KE := Env → List Deferred → Heap → R
def KSE (n : Nat) (r : End × Heap) (k : KE) (k' : Act → Heap → R) : Prop := ∀ E ds a H, SimE n E ds a → k E ds H = some r → k' a H = some r
theorem j20 {n : Nat} {E : Env} {ds : List Deferred} {a : Act} (h : SimE n E ds a) : evalE E = a.eval := by
 funext x
 cases x with
 | tmp i => exact h.env i
 | _ => rfl
def dstOk (n : Nat) (o : Oper) : Bool := match o.dst with | some i => decide (i < n) | none => true
theorem SimE.put {n : Nat} {E : Env} {ds : List Deferred} {a : Act} (h : SimE n E ds a) {o : Oper} (ho : dstOk n o = true) (v : Value) : SimE n (upd E o.dst v) ds (a.put o.dst v) := by
 cases hd : o.dst with
 | none => exact h
 | some i =>
   have hi : i < n := by simpa [dstOk, hd] using ho
   refine ⟨fun j => ?_, h.ds, by simp [Act.put, h.size]⟩
   have hs := h.size
   simp only [Act.put, ja1]
   by_cases e : j = i
   · subst e; simp [hs, hi]
   · rw [if_neg e, h.env j]
     simp [Array.getD_eq_getD_getElem?, Ne.symm e]
def opE (P : Program) (X : Xf) (K : Kf) (o : Oper) (E : Env) (ds : List Deferred) (H : Heap) (k : KE) (kp : List PanicEntry → KE) : R :=
 match o.op with
 | .defer c => match deferOf (evalE E) c with
   | some d => k (upd E o.dst undef) (d :: ds) H
   | none => none
 | _ => opK P X K (evalE E) o H (fun v H => k (upd E o.dst v) ds H) (fun c H => kp c E ds H)
theorem j5u {P : Program} {X : Xf} {K K' : Kf} (hK : KLe K K') {n : Nat} {o : Oper} {E : Env} {ds : List Deferred} {a : Act} {H : Heap} {r : End × Heap} {k : KE} {k' : Act → Heap → R} {kp : List PanicEntry → KE} {kp' : List PanicEntry → Act → Heap → R}
   (hok : opOk P o = true) (hd : dstOk n o = true) (hs : SimE n E ds a) (hk : KSE n r k k') (hp : ∀ c, KSE n r (kp c) (kp' c)) (h : opE P X K o E ds H k kp = some r) : execOp1 P X K' o a H k' kp' = some r := by
 unfold execOp1
 rw [hok]
 simp only [cond_true]
 unfold opE at h
 rw [j20 hs] at h
 split at h
 · rename_i c e
   simp only [e]
   split at h
   · rename_i d hd'
     rw [hd']
     exact hk _ _ _ _ (SimE.put (a := { a with defers := d :: a.defers }) ⟨hs.env, by rw [hs.ds], hs.size⟩ hd undef) h
   · cases h
 · rename_i hno
   split
   · rename_i c e; exact absurd e (hno c)
   · exact j6w hK (fun v H h => hk _ _ _ _ (hs.put hd v) h) (fun c H h => hp c _ _ _ _ hs h) h
def guardE (ops : Array Oper) (o : Oper) (E : Env) (run skip : R) : R :=
 match o.guard with
 | none => run
 | some (j, want) =>
   match (ops[j]?).bind (·.dst) with
   | none => skip
   | some d => match E d with
     | .bool b => cond (b == want) run skip
     | .tuple _ => skip
     | _ => none
def guardOk (n : Nat) (ops : Array Oper) (o : Oper) : Bool :=
 match o.guard with
 | none => true
 | some (j, _) => match (ops[j]?).bind (·.dst) with | none => true | some d => decide (d < n)
theorem jw3 {n : Nat} {ops : Array Oper} {o : Oper} {E : Env} {ds : List Deferred} {a : Act} {r : End × Heap} {run skip : R} {run' skip' : Act → R} (hg : guardOk n ops o = true) (hs : SimE n E ds a)
   (hr : ∀ a, SimE n E ds a → run = some r → run' a = some r) (hk : ∀ a, SimE n E ds a → skip = some r → skip' a = some r) (h : guardE ops o E run skip = some r) : guardK ops o a run' skip' = some r := by
 unfold guardE at h
 unfold guardK
 unfold guardOk at hg
 split at h
 · rename_i e; simp only [e]; exact hr a hs h
 · rename_i j want e
   simp only [e] at hg ⊢
   split at h
   · rename_i e2; simp only [e2]; exact hk a hs h
   · rename_i d e2
     simp only [e2] at hg ⊢
     have hlt : d < a.tmps.size := by rw [hs.size]; simpa using hg
     have e4 : a.tmps[d]? = some (E d) := by
       rw [hs.env d]; simp [hlt]
     rw [e4]
     split at h
     · rename_i b e3
       simp only [e3, jn6]
       have hs' : SimE n E ds { a with tmps := a.tmps.setIfInBounds d (.bool b) } := by
         refine ⟨fun i => ?_, hs.ds, by simp [hs.size]⟩
         rw [hs.env i]
         simp only [Array.getD_eq_getD_getElem?, Array.getElem?_setIfInBounds]
         by_cases c : d = i
         · subst c; rw [e4, e3]; simp [hlt]
         · simp [c]
       cases hb : (b == want) with
       | true => rw [hb] at h; exact hr _ hs' h
       | false => rw [hb] at h; exact hk _ hs' h
     · rename_i e3; simp only [e3]; exact hk a hs h
     · cases h
def execOpsE (P : Program) (X : Xf) (K : Kf) (ops : Array Oper) : List Oper → Env → List Deferred → Heap → KE → (List PanicEntry → KE) → R
 | [], E, ds, H, k, _ => k E ds H
 | o :: rest, E, ds, H, k, kp => guardE ops o E (opE P X K o E ds H (fun E ds H => execOpsE P X K ops rest E ds H k kp) kp) (execOpsE P X K ops rest (upd E o.dst undef) ds H k kp)
def opsOk (P : Program) (n : Nat) (ops : Array Oper) (o : Oper) : Bool := opOk P o && (dstOk n o && guardOk n ops o)
theorem jo2 {P : Program} {X : Xf} {K K' : Kf} (hK : KLe K K') {n : Nat} {ops : Array Oper} {r : End × Heap} {k : KE} {k' : Act → Heap → R} {kp : List PanicEntry → KE} {kp' : List PanicEntry → Act → Heap → R}
   (hk : KSE n r k k') (hp : ∀ c, KSE n r (kp c) (kp' c)) : ∀ (l : List Oper) (_ : ∀ o ∈ l, opsOk P n ops o = true) (E : Env) (ds : List Deferred) (a : Act) (H : Heap), SimE n E ds a → execOpsE P X K ops l E ds H k kp = some r → execOps P X K' ops l a H k' kp' = some r
 | [], _, E, ds, a, H, hs, h => hk _ _ _ _ hs h
 | o :: rest, hall, E, ds, a, H, hs, h => by
   have ho := hall o (List.mem_cons_self ..)
   simp only [opsOk, Bool.and_eq_true] at ho
   have hr := fun o h => hall o (List.mem_cons_of_mem _ h)
   exact jw3 ho.2.2 hs (fun a hs h => j5u hK ho.1 ho.2.1 hs (fun E ds a H hs h => jo2 hK hk hp rest hr E ds a H hs h) hp h)
     (fun a hs h => jo2 hK hk hp rest hr _ _ _ _ (hs.put ho.2.1 undef) h) h
theorem js2 {P : Program} {X : Xf} {K K' : Kf} (hK : KLe K K') {n : Nat} {ops : Array Oper} {r : End × Heap} {k : KE} {k' : List (Act × Heap) → Act → Heap → R} {kp : List PanicEntry → KE} {kp' : List PanicEntry → Act → Heap → R} (hp : ∀ c, KSE n r (kp c) (kp' c)) :
   ∀ (l : List Oper) (_ : ∀ o ∈ l, opsOk P n ops o = true) (z : Nat) (_ : ∀ tr', tr'.length = z + l.length + 1 → KSE n r k (k' tr')) (E : Env) (ds : List Deferred) (a : Act) (H : Heap) (tr' : List (Act × Heap)), tr'.length = z → SimE n E ds a →
     execOpsE P X K ops l E ds H k kp = some r → execTr P X K' ops l a H tr' k' kp' = some r
 | [], _, z, hk, E, ds, a, H, tr', hn, hs, h => hk _ (by simp [hn]) _ _ _ _ hs h
 | o :: rest, hall, z, hk, E, ds, a, H, tr', hn, hs, h => by
   have ho := hall o (List.mem_cons_self ..)
   simp only [opsOk, Bool.and_eq_true] at ho
   have hr := fun o h => hall o (List.mem_cons_of_mem _ h)
   have hk' : ∀ tr', tr'.length = (z + 1) + rest.length + 1 → KSE n r k (k' tr') := fun tr' h2 => hk tr' (by rw [h2]; simp; omega)
   show guardK ops o a _ _ = some r
   exact jw3 ho.2.2 hs (fun a hs h => j5u hK ho.1 ho.2.1 hs (fun E ds a H hs h => js2 hK hp rest hr (z + 1) hk' E ds a H _ (by simp [hn]) hs h) hp h)
     (fun a hs h => js2 hK hp rest hr (z + 1) hk' _ _ _ _ _ (by simp [hn]) (hs.put ho.2.1 undef) h) h
abbrev KOE := Out → KE
def KSoE (n : Nat) (r : End × Heap) (k : KOE) (k' : Out → Act → Heap → R) : Prop := ∀ o, KSE n r (k o) (k' o)
def BSimE (n : Nat) (r : End × Heap) (body : Env → List Deferred → Heap → KOE → R) (body' : Act → Heap → (Out → Act → Heap → R) → R) : Prop :=
 ∀ k k', KSoE n r k k' → ∀ E ds a H, SimE n E ds a → body E ds H k = some r → body' a H k' = some r
def thenE (b2 : Env → List Deferred → Heap → KOE → R) (k : KOE) : KOE := fun o E ds H => match o with | .norm => b2 E ds H k | o => k o E ds H
def leaveB (id : Nat) (k : KOE) : KOE := fun o E ds H => match o with | .exit i => cond (i == id) (k .norm E ds H) (k (.exit i) E ds H) | o => k o E ds H
def loopE (body : Env → List Deferred → Heap → KOE → R) : Nat → Env → List Deferred → Heap → KOE → R
 | 0, _, _, _, _ => none
 | n + 1, E, ds, H, k => body E ds H (thenE (fun E ds H k => loopE body n E ds H k) k)
def scopeE (c : Code) (body : Option Nat → Env → List Deferred → Heap → KOE → R) : Nat → Option Nat → Env → List Deferred → Heap → KOE → R
 | 0, _, _, _, _, _ => none
 | n + 1, s, E, ds, H, k => body s E ds H fun o E ds H => match o with | .goto l => cond (hasLabel l c) (scopeE c body n (some l) E ds H k) (k (.goto l) E ds H) | o => k o E ds H
theorem j0q {n : Nat} {r : End × Heap} {b2 : Env → List Deferred → Heap → KOE → R} {b2' : Act → Heap → (Out → Act → Heap → R) → R} (h2 : BSimE n r b2 b2') {k : KOE} {k' : Out → Act → Heap → R} (hk : KSoE n r k k') :
   KSoE n r (thenE b2 k) (fun o a H => match o with | .norm => b2' a H k' | o => k' o a H) := by
 intro o E ds a H hs h
 cases o with
 | norm => exact h2 k k' hk _ _ _ _ hs h
 | _ => exact hk _ _ _ _ _ hs h
theorem j37 {m : Nat} {r : End × Heap} {body : Env → List Deferred → Heap → KOE → R} {body' : Act → Heap → (Out → Act → Heap → R) → R} (hb : BSimE m r body body') : ∀ n, BSimE m r (loopE body n) (loopC body' n)
 | 0, _, _, _, _, _, _, _, _, h => by cases h
 | n + 1, k, k', hk, E, ds, a, H, hs, h => hb _ _ (j0q (j37 hb n) hk) E ds a H hs h
theorem j1v {m : Nat} {r : End × Heap} {c : Code} {body : Option Nat → Env → List Deferred → Heap → KOE → R} {body' : Option Nat → Act → Heap → (Out → Act → Heap → R) → R} (hb : ∀ s, BSimE m r (body s) (body' s)) :
   ∀ n s, BSimE m r (scopeE c body n s) (scopeC c body' n s)
 | 0, _, _, _, _, _, _, _, _, _, h => by cases h
 | n + 1, s, k, k', hk, E, ds, a, H, hs, h => by
   refine hb s _ _ (fun o E ds a H hs h => ?_) E ds a H hs h
   cases o with
   | goto l =>
     simp only at h ⊢
     cases e : hasLabel l c with
     | true => rw [e] at h; exact j1v hb n _ k k' hk _ _ _ _ hs h
     | false => rw [e] at h; exact hk _ _ _ _ _ hs h
   | _ => exact hk _ _ _ _ _ hs h
def condE (v : Value) (x y : R) : R := match v with | .bool t => cond t x y | _ => none
theorem j38 {P : Program} {ops : Array Oper} {tr' : List (Act × Heap)} (hn : tr'.length = ops.toList.length + 1) (hq : (drawPairs P ops.toList).isEmpty = true) : drawChk P ops tr' = true := by
 unfold drawChk
 simp only [List.all_eq_true, List.mem_range]
 intro i hi
 obtain ⟨oi, e0⟩ : ∃ oi, ops.toList[i]? = some oi := ⟨_, List.getElem?_eq_getElem hi⟩
 have c1 : i < tr'.length := by omega
 have c2 : i + 1 < tr'.length := by omega
 rw [e0, List.getElem?_eq_getElem c1, List.getElem?_eq_getElem c2]
 simp only
 split
 · rename_i hg
   simp only [List.all_eq_true, List.mem_range]
   intro p hp
   obtain ⟨op, e1⟩ : ∃ op, ops.toList[p]? = some op := ⟨_, List.getElem?_eq_getElem hp⟩
   rw [e1]
   simp only
   split
   · rename_i hq2
     exfalso
     have hmem : (i, p) ∈ drawPairs P ops.toList := by
       unfold drawPairs
       simp only [List.mem_flatMap, List.mem_range]
       refine ⟨i, hi, ?_⟩
       rw [e0]
       simp only [hg.1, decide_true, cond_true, List.mem_map, List.mem_filter, List.mem_range]
       refine ⟨p, ⟨hp, ?_⟩, rfl⟩
       rw [e1]
       exact decide_eq_true hq2
     have : drawPairs P ops.toList = [] := by simpa using hq
     rw [this] at hmem
     cases hmem
   · rfl
 · rfl
def eraseE (ops : Array Oper) (E : Env) : Env := fun i => cond (writes ops i) undef (E i)
theorem ya2 {n : Nat} {E : Env} {ds : List Deferred} {a : Act} (ops : Array Oper) (h : SimE n E ds a) : SimE n (eraseE ops E) ds (eraseA ops a) := by
 refine ⟨fun i => ?_, h.ds, by simp [eraseA, h.size]⟩
 simp only [eraseE, eraseA, Array.getD_eq_getD_getElem?, Array.getElem?_mapIdx]
 rw [h.env i]
 simp only [Array.getD_eq_getD_getElem?]
 cases hg : a.tmps[i]? with
 | none => cases writes ops i <;> rfl
 | some v => cases writes ops i <;> rfl
def resE (P : Program) (E : Env) (H : Heap) : List ResultVar → Option (List Value)
 | [] => some []
 | .tmp i :: r => match resE P E H r with | some l => some (E i :: l) | none => none
 | .cell i ty :: r => match loadA P ty (E i) H with
   | some (v, _) => match resE P E H r with | some l => some (v :: l) | none => none
   | none => none
theorem jw4 {P : Program} {n : Nat} {E : Env} {ds : List Deferred} {a : Act} (h : SimE n E ds a) (H : Heap) : ∀ l, resE P E H l = resL P a.tmps H l
 | [] => rfl
 | .tmp i :: r => by
   unfold resE resL
   rw [jw4 h H r, h.env i]
   cases resL P a.tmps H r <;> rfl
 | .cell i ty :: r => by
   unfold resE resL
   rw [jw4 h H r, h.env i]
   cases loadA P ty (a.tmps.getD i undef) H with
   | none => rfl
   | some x => cases resL P a.tmps H r <;> rfl
def finE (P : Program) (fn : Func) (o : Out) (E : Env) (ds : List Deferred) (H : Heap) : R :=
 match o with
 | .norm | .ret => match ds with
   | [] => match resE P E H fn.results.toList with | some l => some (.ret (oneOf l), H) | none => none
   | _ => none
 | .pan c => match ds with | [] => some (.pan c, H) | _ => none
 | _ => none
theorem yj5 {P : Program} {X : Xf} {K : Kf} {N n : Nat} {fn : Func} {r : End × Heap} : KSoE n r (finE P fn) (finishR P X K N fn) := by
 intro o E ds a H hs h
 unfold finishR
 rw [hs.ds]
 unfold finE at h
 split at h
 · split at h
   · unfold leave; rw [jw4 hs] at h; exact h
   · cases h
 · split at h
   · unfold leave; rw [jw4 hs] at h; exact h
   · cases h
 · split at h
   · unfold leave; exact h
   · cases h
 · cases h
def startE (args : Array Value) : Env := fun i => args.getD i undef
theorem j39 {fn : Func} {args : Array Value} (h : args.size ≤ fn.ntmps) : SimE fn.ntmps (startE args) [] (act0 fn args) := by
 refine ⟨fun i => ?_, rfl, by simp [act0]; omega⟩
 simp only [startE, act0, Array.getD_eq_getD_getElem?, Array.getElem?_append, Array.getElem?_replicate]
 by_cases c : i < args.size
 · simp [c]
 · simp only [if_neg c, Array.getElem?_eq_none (Nat.le_of_not_lt c)]
   split <;> rfl
def TrE (n : Nat) (l : List (Env × Heap)) (l' : List (Act × Heap)) : Prop := l.length = l'.length ∧ ∀ (i : Nat) x y, l[i]? = some x → l'[i]? = some y → (∃ ds, SimE n x.1 ds y.1) ∧ x.2 = y.2
theorem TrE.push {n : Nat} {l : List (Env × Heap)} {l' : List (Act × Heap)} (h : TrE n l l') {E : Env} {ds : List Deferred} {a : Act} (ha : SimE n E ds a) (H : Heap) : TrE n (l ++ [(E, H)]) (l' ++ [(a, H)]) := by
 refine ⟨by simp [h.1], fun i x y hx hy => ?_⟩
 by_cases c : i < l.length
 · have c' : i < l'.length := h.1 ▸ c
   rw [List.getElem?_append_left c] at hx
   rw [List.getElem?_append_left c'] at hy
   exact h.2 i x y hx hy
 · have c' : ¬ i < l'.length := h.1 ▸ c
   rw [List.getElem?_append_right (by omega)] at hx
   rw [List.getElem?_append_right (by omega)] at hy
   have e : i - l.length = i - l'.length := by rw [h.1]
   rw [e] at hx
   cases hj : i - l'.length with
   | zero => rw [hj] at hx hy; simp at hx hy; subst hx hy; exact ⟨⟨ds, ha⟩, rfl⟩
   | succ j => rw [hj] at hx; simp at hx
def execTrF (P : Program) (X : Xf) (K : Kf) (ops : Array Oper) : List Oper → Env → List Deferred → Heap → List (Env × Heap) → (List (Env × Heap) → KE) → (List PanicEntry → KE) → R
 | [], E, ds, H, tr, k, _ => k (tr ++ [(E, H)]) E ds H
 | o :: rest, E, ds, H, tr, k, kp => guardE ops o E (opE P X K o E ds H (fun E' ds' H' => execTrF P X K ops rest E' ds' H' (tr ++ [(E, H)]) k kp) kp) (execTrF P X K ops rest (upd E o.dst undef) ds H (tr ++ [(E, H)]) k kp)
theorem js3 {P : Program} {X : Xf} {K K' : Kf} (hK : KLe K K') {n : Nat} {ops : Array Oper} {r : End × Heap} {k : List (Env × Heap) → KE} {k' : List (Act × Heap) → Act → Heap → R} {kp : List PanicEntry → KE} {kp' : List PanicEntry → Act → Heap → R} (hp : ∀ c, KSE n r (kp c) (kp' c)) :
   ∀ (l : List Oper) (_ : ∀ o ∈ l, opsOk P n ops o = true) (z : Nat) (_ : ∀ tr tr', TrE n tr tr' → tr'.length = z + l.length + 1 → KSE n r (k tr) (k' tr')) (E : Env) (ds : List Deferred) (a : Act) (H : Heap) (tr : List (Env × Heap)) (tr' : List (Act × Heap)), TrE n tr tr' → tr'.length = z → SimE n E ds a →
     execTrF P X K ops l E ds H tr k kp = some r → execTr P X K' ops l a H tr' k' kp' = some r
 | [], _, z, hk, E, ds, a, H, tr, tr', ht, hn, hs, h => hk _ _ (ht.push hs H) (by simp [hn]) _ _ _ _ hs h
 | o :: rest, hall, z, hk, E, ds, a, H, tr, tr', ht, hn, hs, h => by
   have ho := hall o (List.mem_cons_self ..)
   simp only [opsOk, Bool.and_eq_true] at ho
   have hr := fun o h => hall o (List.mem_cons_of_mem _ h)
   have hk' : ∀ tr tr', TrE n tr tr' → tr'.length = (z + 1) + rest.length + 1 → KSE n r (k tr) (k' tr') := fun tr tr' h1 h2 => hk tr tr' h1 (by rw [h2]; simp; omega)
   unfold execTrF at h
   show guardK ops o a _ _ = some r
   refine jw3 ho.2.2 hs (fun b hb h => ?_) (fun b hb h => ?_) h
   · exact j5u hK ho.1 ho.2.1 hb (fun E2 ds2 a2 H2 hs2 h2 => js3 hK hp rest hr (z + 1) hk' E2 ds2 a2 H2 _ _ (ht.push hb H) (by simp [hn]) hs2 h2) hp h
   · exact js3 hK hp rest hr (z + 1) hk' _ _ _ _ _ _ (ht.push hb H) (by simp [hn]) (hb.put ho.2.1 undef) h
def guardBE (ops : Array Oper) (o : Oper) (E : Env) : Option Bool :=
 match o.guard with
 | none => some true
 | some (j, want) =>
   match (ops[j]?).bind (·.dst) with
   | none => some false
   | some d => match E d with
     | .bool b => some (b == want)
     | .tuple _ => some false
     | _ => none
def pairChkE (P : Program) (ops : Array Oper) (tr : List (Env × Heap)) (i p : Nat) : Bool :=
 match ops.toList[i]?, tr[i]?, tr[i + 1]?, tr[p]?, tr[p + 1]? with
 | some oi, some ti, some tn, some tp, some tq =>
   match guardBE ops oi ti.1 with
   | some true => (match oi.dst with
     | some d =>
       (match qval P (evalE ti.1) oi tp.2 with | some v => veq v (tn.1 d) | none => false) &&
       (match qval P (evalE ti.1) oi tq.2 with | some v => veq v (tn.1 d) | none => false)
     | none => false)
   | _ => true
 | _, _, _, _, _ => false
theorem j5v {P : Program} {n : Nat} {ops : Array Oper} {tr : List (Env × Heap)} {tr' : List (Act × Heap)} (hall : ∀ o ∈ ops.toList, opsOk P n ops o = true) (h : TrE n tr tr') (hn : tr'.length = ops.toList.length + 1) {l : List (Nat × Nat)} (hl : ∀ x ∈ drawPairs P ops.toList, x ∈ l) (hc : l.all (fun x => pairChkE P ops tr x.1 x.2) = true) : drawChk P ops tr' = true := by
 unfold drawChk
 simp only [List.all_eq_true, List.mem_range]
 intro i hi
 have gt : ∀ j, j ≤ ops.toList.length → ∃ x y, tr[j]? = some x ∧ tr'[j]? = some y ∧ (∃ ds, SimE n x.1 ds y.1) ∧ x.2 = y.2 := fun j hj => by
   have c' : j < tr'.length := by omega
   have c : j < tr.length := by rw [h.1]; exact c'
   exact ⟨_, _, List.getElem?_eq_getElem c, List.getElem?_eq_getElem c', h.2 j _ _ (List.getElem?_eq_getElem c) (List.getElem?_eq_getElem c')⟩
 obtain ⟨oi, e0⟩ : ∃ oi, ops.toList[i]? = some oi := ⟨_, List.getElem?_eq_getElem hi⟩
 obtain ⟨xi, yi, a1, a2, ⟨_, a3⟩, a4⟩ := gt i (by omega)
 obtain ⟨xn, yn, b1, b2, ⟨_, b3⟩, b4⟩ := gt (i + 1) (by omega)
 have hoi := hall oi (List.mem_of_getElem? e0)
 simp only [opsOk, Bool.and_eq_true] at hoi
 have hgB : guardB ops oi yi.1 = some true → guardBE ops oi xi.1 = some true := fun hg => by
   unfold guardB at hg
   unfold guardBE
   have hgo := hoi.2.2
   unfold guardOk at hgo
   cases hq : oi.guard with
   | none => rfl
   | some q =>
     obtain ⟨j, want⟩ := q
     simp only [hq] at hg hgo ⊢
     cases hd : (ops[j]?).bind (·.dst) with
     | none => rw [hd] at hg; cases hg
     | some d =>
       simp only [hd] at hg hgo ⊢
       have hlt : d < yi.1.tmps.size := by rw [a3.size]; simpa using hgo
       have e4 : yi.1.tmps[d]? = some (xi.1 d) := by rw [a3.env d]; simp [hlt]
       rw [e4] at hg
       cases hv : xi.1 d <;> rw [hv] at hg <;> first
         | exact hg
         | (simp at hg; done)
 rw [e0, a2, b2]
 simp only
 split
 · rename_i hg
   simp only [List.all_eq_true, List.mem_range]
   intro p hp
   obtain ⟨op, e1⟩ : ∃ op, ops.toList[p]? = some op := ⟨_, List.getElem?_eq_getElem hp⟩
   rw [e1]
   simp only
   split
   · rename_i hq
     obtain ⟨xp, yp, c1, c2, _, c4⟩ := gt p (by omega)
     obtain ⟨xq, yq, d1, d2, _, d4⟩ := gt (p + 1) (by omega)
     have hmem : (i, p) ∈ drawPairs P ops.toList := by
       unfold drawPairs
       simp only [List.mem_flatMap, List.mem_range]
       refine ⟨i, hi, ?_⟩
       rw [e0]
       simp only [hg.1, decide_true, cond_true, List.mem_map, List.mem_filter, List.mem_range]
       refine ⟨p, ⟨hp, ?_⟩, rfl⟩
       rw [e1]
       exact decide_eq_true hq
     have hchk := List.all_eq_true.mp hc _ (hl _ hmem)
     unfold pairChkE at hchk
     rw [e0, a1, b1, c1, d1] at hchk
     simp only [hgB hg.2] at hchk
     rw [c2, d2]
     cases hd : oi.dst with
     | none => rw [hd] at hchk; cases hchk
     | some d =>
       rw [hd] at hchk
       simp only [j20 a3, b3.env d, c4, d4] at hchk ⊢
       generalize qval P yi.1.eval oi yp.2 = q1 at hchk ⊢
       generalize qval P yi.1.eval oi yq.2 = q2 at hchk ⊢
       cases q1 <;> cases q2 <;> first
         | (simp at hchk; done)
         | simpa using hchk
   · rfl
 · rfl
def panD (P : Program) (ops : Array Oper) (dr : Bool) (k : KOE) : List PanicEntry → KE := fun c E ds H => cond dr (cond (panAll P ops.toList) (k (.pan c) (eraseE ops E) ds H) none) (k (.pan c) E ds H)
theorem j6y {P : Program} {ops : Array Oper} {n : Nat} {r : End × Heap} {k : KOE} {k' : Out → Act → Heap → R} (hk : KSoE n r k k') : ∀ c, KSE n r (panD P ops true k c) (fun af Hf => cond (panAll P ops.toList) (k' (.pan c) (eraseA ops af) Hf) none) := by
 intro c E ds a H hs h
 unfold panD at h
 simp only [cond_true] at h
 cases hp : panAll P ops.toList with
 | false => rw [hp] at h; cases h
 | true => rw [hp] at h; exact hk _ _ _ _ _ (ya2 ops hs) h
def execG (P : Program) (X : Xf) (K : Kf) (N : Nat) (pr : Nat → List (Nat × Nat)) : Code → Option Nat → Env → List Deferred → Heap → KOE → R
 | .seq x y, none, E, ds, H, k => execG P X K N pr x none E ds H (thenE (execG P X K N pr y none) k)
 | .seq x y, some l, E, ds, H, k => cond (hasLabel l x) (execG P X K N pr x (some l) E ds H (thenE (execG P X K N pr y none) k)) (execG P X K N pr y (some l) E ds H k)
 | .label l', some l, E, ds, H, k => cond (l' == l) (k .norm E ds H) none
 | .label _, none, E, ds, H, k => k .norm E ds H
 | .skip, none, E, ds, H, k => k .norm E ds H
 | .region i ops draw, none, E, ds, H, k => cond (draw && !(pr i).isEmpty)
   (execTrF P X K ops ops.toList E ds H [] (fun tr E ds H => cond ((pr i).all fun x => pairChkE P ops tr x.1 x.2) (k .norm E ds H) none) (panD P ops true k))
   (execOpsE P X K ops ops.toList E ds H (fun E ds H => k .norm E ds H) (panD P ops draw k))
 | .cond c x y, none, E, ds, H, k => condE (evalE E c) (execG P X K N pr x none E ds H k) (execG P X K N pr y none E ds H k)
 | .block id b, none, E, ds, H, k => execG P X K N pr b none E ds H (leaveB id k)
 | .loop b, none, E, ds, H, k => loopE (execG P X K N pr b none) N E ds H k
 | .exit id, none, E, ds, H, k => k (.exit id) E ds H
 | .scope b, none, E, ds, H, k => scopeE b (execG P X K N pr b) N none E ds H k
 | .goto l, none, E, ds, H, k => k (.goto l) E ds H
 | .ret, none, E, ds, H, k => k .ret E ds H
 | _, _, _, _, _, _ => none
def goodG (P : Program) (pr : Nat → List (Nat × Nat)) (n : Nat) : Code → Bool
 | .region i ops draw => ops.toList.all (opsOk P n ops) && (!draw || (drawOk P ops.toList && (drawPairs P ops.toList).all fun x => (pr i).any fun y => Nat.beq x.1 y.1 && Nat.beq x.2 y.2))
 | .seq a b => goodG P pr n a && goodG P pr n b
 | .cond _ a b => goodG P pr n a && goodG P pr n b
 | .block _ b => goodG P pr n b
 | .loop b => goodG P pr n b
 | .scope b => goodG P pr n b
 | _ => true
theorem jf4 {P : Program} {X : Xf} {K K' : Kf} (hK : KLe K K') {N n : Nat} {pr : Nat → List (Nat × Nat)} {r : End × Heap} : ∀ (c : Code) (_ : goodG P pr n c = true) (s : Option Nat), BSimE n r (execG P X K N pr c s) (exec P X K' N c s)
 | .skip, hg, none, k, k', hk, E, ds, a, H, hs, h => by unfold exec; unfold execG at h; exact hk _ _ _ _ _ hs h
 | .skip, hg, some _, k, k', hk, E, ds, a, H, hs, h => by unfold execG at h; cases h
 | .region id ops draw, hg, none, k, k', hk, E, ds, a, H, hs, h => by
   unfold exec
   unfold execG at h
   simp only [goodG, Bool.and_eq_true] at hg
   have ho := fun o h => List.all_eq_true.mp hg.1 o h
   cases draw with
   | false => exact jo2 (k' := fun a H => k' .norm a H) (kp' := fun c a H => k' (.pan c) a H) hK (fun E ds a H => hk .norm E ds a H) (fun c E ds a H => hk (.pan c) E ds a H) ops.toList ho E ds a H hs h
   | true =>
     have hq : drawOk P ops.toList = true ∧ ((drawPairs P ops.toList).all fun x => (pr id).any fun y => Nat.beq x.1 y.1 && Nat.beq x.2 y.2) = true := by simpa using hg.2
     rw [hq.1]
     simp only [cond_true, Bool.true_and] at h ⊢
     cases he : (pr id).isEmpty with
     | true =>
       rw [he] at h
       have hp : (drawPairs P ops.toList).isEmpty = true := by
         have e0 : pr id = [] := List.isEmpty_iff.mp he
         have h2 := hq.2
         rw [e0] at h2
         cases hd : drawPairs P ops.toList with
         | nil => rfl
         | cons x l => rw [hd] at h2; simp at h2
       refine js2 (k' := fun tr af Hf => cond (drawChk P ops tr) (k' .norm af Hf) none) hK (j6y hk) ops.toList ho 0 (fun tr' hn => ?_) E ds a H [] rfl hs h
       intro E ds a H hs h
       have hc : drawChk P ops tr' = true := j38 (by rw [hn]; omega) hp
       rw [hc]
       exact hk _ _ _ _ _ hs h
     | false =>
       rw [he] at h
       have hl : ∀ x ∈ drawPairs P ops.toList, x ∈ pr id := fun x hx => by
         have := List.all_eq_true.mp hq.2 x hx
         obtain ⟨y, hy, e⟩ := List.any_eq_true.mp this
         simp only [Bool.and_eq_true] at e
         have e1 := Nat.eq_of_beq_eq_true e.1
         have e2 := Nat.eq_of_beq_eq_true e.2
         have : x = y := by cases x; cases y; simp_all
         rw [this]; exact hy
       refine js3 (k' := fun tr af Hf => cond (drawChk P ops tr) (k' .norm af Hf) none) hK (j6y hk) ops.toList ho 0 (fun tr tr' htr hn => ?_) E ds a H [] [] ⟨rfl, fun i x y hx => by simp at hx⟩ rfl hs h
       intro E ds a H hs h
       cases hc : ((pr id).all fun x => pairChkE P ops tr x.1 x.2) with
       | false => rw [hc] at h; cases h
       | true =>
         rw [hc] at h
         rw [j5v ho htr (by rw [hn]; omega) hl hc]
         exact hk _ _ _ _ _ hs h
 | .region .., hg, some _, k, k', hk, E, ds, a, H, hs, h => by unfold execG at h; cases h
 | .seq x y, hg, none, k, k', hk, E, ds, a, H, hs, h => by
   unfold exec
   unfold execG at h
   simp only [goodG, Bool.and_eq_true] at hg
   exact jf4 hK x hg.1 none _ _ (j0q (jf4 hK y hg.2 none) hk) E ds a H hs h
 | .seq x y, hg, some l, k, k', hk, E, ds, a, H, hs, h => by
   unfold exec
   unfold execG at h
   simp only [goodG, Bool.and_eq_true] at hg
   cases e : hasLabel l x with
   | true => rw [e] at h; exact jf4 hK x hg.1 (some l) _ _ (j0q (jf4 hK y hg.2 none) hk) E ds a H hs h
   | false => rw [e] at h; exact jf4 hK y hg.2 (some l) _ _ hk E ds a H hs h
 | .cond c x y, hg, none, k, k', hk, E, ds, a, H, hs, h => by
   unfold exec
   unfold execG condE at h
   simp only [goodG, Bool.and_eq_true] at hg
   rw [j20 hs] at h
   split at h
   · rename_i b e
     simp only [e]
     cases b with
     | true => exact jf4 hK x hg.1 none _ _ hk E ds a H hs h
     | false => exact jf4 hK y hg.2 none _ _ hk E ds a H hs h
   · cases h
 | .cond .., hg, some _, k, k', hk, E, ds, a, H, hs, h => by unfold execG at h; cases h
 | .block id b, hg, none, k, k', hk, E, ds, a, H, hs, h => by
   unfold exec
   unfold execG at h
   simp only [goodG] at hg
   refine jf4 hK b hg none _ _ (fun o E ds a H hs h => ?_) E ds a H hs h
   cases o with
   | exit i =>
     simp only [leaveB] at h ⊢
     cases e : (i == id) with
     | true => rw [e] at h; exact hk _ _ _ _ _ hs h
     | false => rw [e] at h; exact hk _ _ _ _ _ hs h
   | _ => exact hk _ _ _ _ _ hs h
 | .block .., hg, some _, k, k', hk, E, ds, a, H, hs, h => by unfold execG at h; cases h
 | .loop b, hg, none, k, k', hk, E, ds, a, H, hs, h => by
   unfold exec
   unfold execG at h
   simp only [goodG] at hg
   exact j37 (jf4 hK b hg none) N k k' hk E ds a H hs h
 | .loop _, hg, some _, k, k', hk, E, ds, a, H, hs, h => by unfold execG at h; cases h
 | .rangeFunc .., hg, s, k, k', hk, E, ds, a, H, hs, h => by cases s <;> (unfold execG at h; cases h)
 | .exit id, hg, none, k, k', hk, E, ds, a, H, hs, h => by unfold exec; unfold execG at h; exact hk _ _ _ _ _ hs h
 | .exit _, hg, some _, k, k', hk, E, ds, a, H, hs, h => by unfold execG at h; cases h
 | .scope b, hg, none, k, k', hk, E, ds, a, H, hs, h => by
   unfold exec
   unfold execG at h
   simp only [goodG] at hg
   exact j1v (fun s => jf4 hK b hg s) N none k k' hk E ds a H hs h
 | .scope _, hg, some _, k, k', hk, E, ds, a, H, hs, h => by unfold execG at h; cases h
 | .label l', hg, none, k, k', hk, E, ds, a, H, hs, h => by unfold exec; unfold execG at h; exact hk _ _ _ _ _ hs h
 | .label l', hg, some l, k, k', hk, E, ds, a, H, hs, h => by
   unfold exec
   unfold execG at h
   cases e : (l' == l) with
   | true => rw [e] at h; exact hk _ _ _ _ _ hs h
   | false => rw [e] at h; cases h
 | .goto l, hg, none, k, k', hk, E, ds, a, H, hs, h => by unfold exec; unfold execG at h; exact hk _ _ _ _ _ hs h
 | .goto _, hg, some _, k, k', hk, E, ds, a, H, hs, h => by unfold execG at h; cases h
 | .ret, hg, none, k, k', hk, E, ds, a, H, hs, h => by unfold exec; unfold execG at h; exact hk _ _ _ _ _ hs h
 | .ret, hg, some _, k, k', hk, E, ds, a, H, hs, h => by unfold execG at h; cases h
 | .refuse _, hg, s, k, k', hk, E, ds, a, H, hs, h => by cases s <;> (unfold execG at h; cases h)
def callG (P : Program) (okf : FuncId → Bool) (prf : FuncId → Nat → List (Nat × Nat)) (X : Xf) (N : Nat) (hk : Hook) : Nat → Kf
 | 0 => fun _ _ _ => none
 | d + 1 => fun f args H =>
   match hk f args H with
   | some r => r
   | none =>
     match P.funcs[f]? with
     | some fn => match fn.body with
       | some c => cond (okf f && Nat.ble args.size fn.ntmps) (execG P X (callG P okf prf X N hk d) N (prf f) c none (startE args) [] H (finE P fn)) none
       | none => none
     | none => none
def GoodG (P : Program) (okf : FuncId → Bool) (prf : FuncId → Nat → List (Nat × Nat)) : Prop := ∀ (f : FuncId) fn c, okf f = true → P.funcs[f]? = some fn → fn.body = some c → goodG P (prf f) fn.ntmps c = true
theorem j6z {P : Program} {okf : FuncId → Bool} {prf : FuncId → Nat → List (Nat × Nat)} (hg : GoodG P okf prf) {X : Xf} {N : Nat} {hk : Hook} : ∀ d, KLe (callG P okf prf X N hk d) (callR P X N hk d)
 | 0 => fun f args H r h => by cases h
 | d + 1 => fun f args H r h => by
   unfold callG at h
   unfold callR
   split at h
   · rename_i q e; simp only [e]; exact h
   · rename_i e
     simp only [e]
     split at h
     · rename_i fn hf
       simp only [hf]
       split at h
       · rename_i c hc
         simp only [hc]
         cases ho : (okf f && Nat.ble args.size fn.ntmps) with
         | false => rw [ho] at h; cases h
         | true =>
           rw [ho] at h
           simp only [Bool.and_eq_true] at ho
           exact jf4 (j6z hg d) c (hg f fn c ho.1 hf hc) none _ _ yj5 (startE args) [] _ H (j39 (Nat.le_of_ble_eq_true ho.2)) h
       · cases h
     · cases h
theorem j5w {P : Program} {okf : FuncId → Bool} {prf : FuncId → Nat → List (Nat × Nat)} (hg : GoodG P okf prf) {X : Xf} {N : Nat} {hk : Hook} (hX : XSnd P X) (hH : HookSnd P hk) (hm : P.follows .mixedOrders = true) (d : Nat) : KSnd P (callG P okf prf X N hk d) :=
 fun f args H r H' he => jr9 hX hH hm d f args H r H' (j6z hg d _ _ _ _ he)
theorem jc9 (b2 : Env → List Deferred → Heap → KOE → R) (k : KOE) (E : Env) (ds : List Deferred) (H : Heap) : thenE b2 k .norm E ds H = b2 E ds H k := id rfl
theorem jl6 (b2 : Env → List Deferred → Heap → KOE → R) (k : KOE) (E : Env) (ds : List Deferred) (H : Heap) : thenE b2 k .ret E ds H = k .ret E ds H := id rfl
theorem j80 (b2 : Env → List Deferred → Heap → KOE → R) (k : KOE) (i : Nat) (E : Env) (ds : List Deferred) (H : Heap) : thenE b2 k (.exit i) E ds H = k (.exit i) E ds H := id rfl
theorem j5x (i : Nat) (k : KOE) (E : Env) (ds : List Deferred) (H : Heap) : leaveB i k .norm E ds H = k .norm E ds H := id rfl
theorem j1w (i : Nat) (k : KOE) (E : Env) (ds : List Deferred) (H : Heap) : leaveB i k .ret E ds H = k .ret E ds H := id rfl
theorem j5y (i j : Nat) (k : KOE) (E : Env) (ds : List Deferred) (H : Heap) : leaveB i k (.exit j) E ds H = cond (j == i) (k .norm E ds H) (k (.exit j) E ds H) := id rfl
theorem ja5 (body : Env → List Deferred → Heap → KOE → R) (n : Nat) (E : Env) (ds : List Deferred) (H : Heap) (k : KOE) : loopE body (n + 1) E ds H k = body E ds H (thenE (fun E ds H k => loopE body n E ds H k) k) := id rfl
section ops
variable {P : Program} {X : Xf} {K : Kf} {d : Option Tmp} {t : TypeId} {p : String} {af : Array Edge} {g : Option (Nat × Bool)} {E : Env} {ds : List Deferred} {H : Heap} {k : KE} {kp : List PanicEntry → KE}
theorem j60 (c x y : Operand) : opE P X K ⟨d, .pick c x y, t, p, af, g⟩ E ds H k kp = match evalE E c with | .bool b => k (upd E d (pickV b (evalE E x) (evalE E y))) ds H | _ => none := id rfl
theorem yj6 (f : FuncId) (args : Array Operand) (ts : Array TypeId) : opE P X K ⟨d, .call { callee := .value (.func f), args := args, argTypes := ts }, t, p, af, g⟩ E ds H k kp = callK P X K f (#[] ++ args.map (evalE E) ++ #[]) H (fun v H => k (upd E d v) ds H) (fun c H => kp c E ds H) := id rfl
end ops
theorem ya3 (E : Env) (i : Nat) : evalE E (.tmp i) = E i := id rfl
theorem j5z (E : Env) (v : Value) : evalE E (.const v) = v := id rfl
theorem yj7 (v : Value) (k : Value → R) : bindO (some v) k = k v := id rfl
theorem yj8 (v : Value) (H : Heap) (k : Value → Heap → R) : bindV (some (v, H)) k = k v H := id rfl
section bins
variable {P : Program} {t : TypeId} {x y : Operand} {i : IntKind} {a b : Int}
theorem yj9 : binA P .lss t x y (.int i a) (.int i b) = some (.bool (decide (a < b))) := by simp [binA, ground, atomic, eqGuard, binOp, Op.intCmp]; rfl
theorem yk0 : binA P .leq t x y (.int i a) (.int i b) = some (.bool (decide (a ≤ b))) := by simp [binA, ground, atomic, eqGuard, binOp, Op.intCmp]; rfl
theorem yk1 : binA P .gtr t x y (.int i a) (.int i b) = some (.bool (decide (a > b))) := by simp [binA, ground, atomic, eqGuard, binOp, Op.intCmp]; rfl
theorem yk2 : binA P .geq t x y (.int i a) (.int i b) = some (.bool (decide (a ≥ b))) := by simp [binA, ground, atomic, eqGuard, binOp, Op.intCmp]; rfl
theorem yk3 : binA P .eql t x y (.int i a) (.int i b) = some (.bool (a == b)) := by simp [binA, ground, atomic, eqGuard, binOp, Op.intCmp]; rfl
theorem j61 : binA P .neq t x y (.int i a) (.int i b) = some (.bool (a != b)) := by simp [binA, ground, atomic, eqGuard, binOp, Op.intCmp]; rfl
theorem yk4 : binA P .add t x y (.int i a) (.int i b) = some (.int i (i.wrap (a + b))) := by simp [binA, ground, atomic, eqGuard, binOp, Op.intArith]; rfl
theorem yk5 : binA P .sub t x y (.int i a) (.int i b) = some (.int i (i.wrap (a - b))) := by simp [binA, ground, atomic, eqGuard, binOp, Op.intArith]; rfl
end bins
theorem ja6 {P : Program} {ts : Array TypeId} {t e : TypeId} (h0 : ts[0]? = some t) (h : P.underlying t = some (.slice e)) (a : Option Addr) (n c : Nat) (H : Heap) (k : Value → Heap → R) :
   builtinK P .len ts #[.slice a n c] H k = k (.int .i64 n) H := by simp [builtinK, h0, lenA, h, bindO]
theorem ya4 {P : Program} {X : Xf} {K : Kf} {d : Option Tmp} {t : TypeId} {p : String} {af : Array Edge} {g : Option (Nat × Bool)} {E : Env} {ds : List Deferred} {H : Heap} {k : KE} {kp : List PanicEntry → KE} (f : FuncId) (args : Array Operand) (ts : Array TypeId) :
   opE P X K ⟨d, .call { callee := .value (.func f), args := args, argTypes := ts }, t, p, af, g⟩ E ds H k kp = callK P X K f (args.map (evalE E)) H (fun v H => k (upd E d v) ds H) (fun c H => kp c E ds H) := by
 rw [yj6]; simp
theorem ja3 {P : Program} {X : Xf} {K : Kf} {f : FuncId} {fn : Func} (hf : P.funcs[f]? = some fn) (hn : (fn.name == "runtime.NumGoroutine") = false) (hb : fn.body.isNone = false) {args : Array Value} {H H' : Heap} {v : Value} (hr : K f args H = some (.ret v, H')) (k : Value → Heap → R) (kp : List PanicEntry → Heap → R) :
   callK P X K f args H k kp = k v H' := by
 simp [callK, hf, hn, hb, hr, bindR]
theorem j4a {P : Program} {X : Xf} {K : Kf} {f : FuncId} {fn : Func} (hf : P.funcs[f]? = some fn) (hn : (fn.name == "runtime.NumGoroutine") = false) (hb : fn.body.isNone = true) {args : Array Value} {H H' : Heap} {v : Value} (hr : X f args H = some (v, H')) (k : Value → Heap → R) (kp : List PanicEntry → Heap → R) :
   callK P X K f args H k kp = k v H' := by
 simp [callK, hf, hn, hb, hr, bindV]
theorem jc7 (v : Value) (l : List Value) : startE ⟨v :: l⟩ 0 = v := id rfl
theorem je4 (v u : Value) (l : List Value) : startE ⟨v :: u :: l⟩ 1 = u := id rfl
theorem yt3 {α β : Type} (f : α → β) (x : α) : (#[x] : Array α).map f = #[f x] := by simp
theorem yt4 {α β : Type} (f : α → β) (x y : α) : (#[x, y] : Array α).map f = #[f x, f y] := by simp
theorem map_nil {α β : Type} (f : α → β) : (#[] : Array α).map f = #[] := by simp
theorem jb0 {P : Program} {fn : Func} {E : Env} {H : Heap} {l : List Value} (h : resE P E H fn.results.toList = some l) : finE P fn .ret E [] H = some (.ret (oneOf l), H) := by simp [finE, h]
def noPr : Nat → List (Nat × Nat) := fun _ => []
section code
variable {P : Program} {X : Xf} {K : Kf} {N : Nat} {pr : Nat → List (Nat × Nat)}
theorem jo3 (x y : Code) (E : Env) (ds : List Deferred) (H : Heap) (k : KOE) : execG P X K N pr (.seq x y) none E ds H k = execG P X K N pr x none E ds H (thenE (execG P X K N pr y none) k) := by rw [execG]
theorem j81 (E : Env) (ds : List Deferred) (H : Heap) (k : KOE) : execG P X K N pr .skip none E ds H k = k .norm E ds H := by rw [execG]
theorem ya5 (E : Env) (ds : List Deferred) (H : Heap) (k : KOE) : execG P X K N pr .ret none E ds H k = k .ret E ds H := by rw [execG]
theorem j1x (i : Nat) (E : Env) (ds : List Deferred) (H : Heap) (k : KOE) : execG P X K N pr (.exit i) none E ds H k = k (.exit i) E ds H := by rw [execG]
theorem j4b (i : Nat) (ops : Array Oper) (dr : Bool) (E : Env) (ds : List Deferred) (H : Heap) (k : KOE) :
   execG P X K N noPr (.region i ops dr) none E ds H k = execOpsE P X K ops ops.toList E ds H (fun E ds H => k .norm E ds H) (panD P ops dr k) := by rw [execG]; cases dr <;> rfl
theorem j50 (i : Nat) (ops : Array Oper) (E : Env) (ds : List Deferred) (H : Heap) (k : KOE) :
   execG P X K N pr (.region i ops false) none E ds H k = execOpsE P X K ops ops.toList E ds H (fun E ds H => k .norm E ds H) (panD P ops false k) := by rw [execG]; rfl
theorem j51 (i : Nat) (ops : Array Oper) (E : Env) (ds : List Deferred) (H : Heap) (k : KOE) (h : (pr i).isEmpty = true) :
   execG P X K N pr (.region i ops true) none E ds H k = execOpsE P X K ops ops.toList E ds H (fun E ds H => k .norm E ds H) (panD P ops true k) := by rw [execG, h]; rfl
theorem j82 (i : Nat) (ops : Array Oper) (E : Env) (ds : List Deferred) (H : Heap) (k : KOE) (h : (pr i).isEmpty = false) :
   execG P X K N pr (.region i ops true) none E ds H k = execTrF P X K ops ops.toList E ds H [] (fun tr E ds H => cond ((pr i).all fun x => pairChkE P ops tr x.1 x.2) (k .norm E ds H) none) (panD P ops true k) := by rw [execG, h]; rfl
theorem j1y (c : Operand) (x y : Code) (E : Env) (ds : List Deferred) (H : Heap) (k : KOE) : execG P X K N pr (.cond c x y) none E ds H k = condE (evalE E c) (execG P X K N pr x none E ds H k) (execG P X K N pr y none E ds H k) := by rw [execG]
theorem j52 (i : Nat) (b : Code) (E : Env) (ds : List Deferred) (H : Heap) (k : KOE) : execG P X K N pr (.block i b) none E ds H k = execG P X K N pr b none E ds H (leaveB i k) := by rw [execG]
theorem jb4 (b : Code) (E : Env) (ds : List Deferred) (H : Heap) (k : KOE) : execG P X K N pr (.loop b) none E ds H k = loopE (execG P X K N pr b none) N E ds H k := by rw [execG]
end code
theorem j4c (ops : Array Oper) (d : Option Tmp) (op : Op) (t : TypeId) (p : String) (af : Array Edge) (j : Nat) (w : Bool) (e : Tmp) (b : Bool) (E : Env) (run skip : R) (hd : (ops[j]?).bind (·.dst) = some e) (h : E e = .bool b) : guardE ops ⟨d, op, t, p, af, some (j, w)⟩ E run skip = cond (b == w) run skip := by
 simp [guardE, hd, h]
section ops
variable {P : Program} {X : Xf} {K : Kf} {d : Option Tmp} {t : TypeId} {p : String} {af : Array Edge} {g : Option (Nat × Bool)} {E : Env} {ds : List Deferred} {H : Heap} {k : KE} {kp : List PanicEntry → KE}
theorem ya6 (i : Tmp) (args : Array Operand) (ts : Array TypeId) (f : FuncId) (a b : Array Value) (h : E i = .func (.func f) a b) :
   opE P X K ⟨d, .call { callee := .value (.tmp i), args := args, argTypes := ts }, t, p, af, g⟩ E ds H k kp = callK P X K f (a ++ args.map (evalE E) ++ b) H (fun v H => k (upd E d v) ds H) (fun c H => kp c E ds H) := by
 simp only [opE, opK, evalE, h]
end ops
theorem j4d (a : Addr) : nilCheckA (.pointer (some a)) = some (.pointer (some a)) := by simp [nilCheckA]
theorem jb6 {P : Program} {okf : FuncId → Bool} {prf : FuncId → Nat → List (Nat × Nat)} {X : Xf} {N : Nat} {hk : Hook} {d : Nat} {f : FuncId} {fn : Func} {c : Code} {args : Array Value} {H : Heap} (hh : hk f args H = none) (hf : P.funcs[f]? = some fn) (hc : fn.body = some c) (ho : okf f = true) (hs : Nat.ble args.size fn.ntmps = true) {pr : Nat → List (Nat × Nat)} (hp : prf f = pr) :
   callG P okf prf X N hk (d + 1) f args H = execG P X (callG P okf prf X N hk d) N pr c none (startE args) [] H (finE P fn) := by
 simp [callG, hh, hf, hc, ho, hs, hp]
theorem jc1 {P : Program} {okf : FuncId → Bool} {prf : FuncId → Nat → List (Nat × Nat)} {X : Xf} {N : Nat} {hk : Hook} {d : Nat} {f : FuncId} {args : Array Value} {H : Heap} {r : R} (hh : hk f args H = some r) :
   callG P okf prf X N hk (d + 1) f args H = r := by
 simp [callG, hh]
def oA (i : Nat) : Code → Option (Array Oper)
 | .seq a b => match oA i a with | some x => some x | none => oA i b
 | .cond _ a b => match oA i a with | some x => some x | none => oA i b
 | .block _ b => oA i b
 | .loop b => oA i b
 | .scope b => oA i b
 | .region j ops _ => if j = i then some ops else none
 | _ => none
theorem tl (A : Array Oper) : A.toList = A.toList := rfl
theorem gS {α : Type} {a b : α} : (some a).getD b = a := rfl
theorem gN {α : Type} {b : α} : (none : Option α).getD b = b := rfl
theorem tA {α : Type} {l : List α} : l.toArray.toList = l := rfl
def codeOf (fn : Func) : Code := fn.body.getD .skip
def rgn (f : Func) (i : Nat) : Array Oper := (oA i (codeOf f)).getD #[]
abbrev rF (f : Func) (i : Nat) : Code := .region i (rgn f i) false
abbrev rT (f : Func) (i : Nat) : Code := .region i (rgn f i) true
def rq (f : Func) (i : Nat) : List Oper := (rgn f i).toList
theorem rX (f : Func) (i : Nat) : rq f i = ((oA i (f.body.getD .skip)).getD #[]).toList := rfl
structure Pf (p : Prop) : Type where
 o : p
def dL := Pf.mk (And.intro @gS (And.intro @gN @tA))
theorem lX (f : Func) (i : Nat) : (rgn f i).toList = rq f i := rfl
theorem lX2 (f : Func) (i0 i1 : Nat) : (rgn f i0).toList = rq f i0 ∧ (rgn f i1).toList = rq f i1 := ⟨rfl, rfl⟩
theorem lX3 (f : Func) (i0 i1 i2 : Nat) : (rgn f i0).toList = rq f i0 ∧ (rgn f i1).toList = rq f i1 ∧ (rgn f i2).toList = rq f i2 := ⟨rfl, rfl, rfl⟩
theorem lX4 (f : Func) (i0 i1 i2 i3 : Nat) : (rgn f i0).toList = rq f i0 ∧ (rgn f i1).toList = rq f i1 ∧ (rgn f i2).toList = rq f i2 ∧ (rgn f i3).toList = rq f i3 := ⟨rfl, rfl, rfl, rfl⟩
theorem lX5 (f : Func) (i0 i1 i2 i3 i4 : Nat) : (rgn f i0).toList = rq f i0 ∧ (rgn f i1).toList = rq f i1 ∧ (rgn f i2).toList = rq f i2 ∧ (rgn f i3).toList = rq f i3 ∧ (rgn f i4).toList = rq f i4 := ⟨rfl, rfl, rfl, rfl, rfl⟩
theorem lX6 (f : Func) (i0 i1 i2 i3 i4 i5 : Nat) : (rgn f i0).toList = rq f i0 ∧ (rgn f i1).toList = rq f i1 ∧ (rgn f i2).toList = rq f i2 ∧ (rgn f i3).toList = rq f i3 ∧ (rgn f i4).toList = rq f i4 ∧ (rgn f i5).toList = rq f i5 := ⟨rfl, rfl, rfl, rfl, rfl, rfl⟩
theorem lX7 (f : Func) (i0 i1 i2 i3 i4 i5 i6 : Nat) : (rgn f i0).toList = rq f i0 ∧ (rgn f i1).toList = rq f i1 ∧ (rgn f i2).toList = rq f i2 ∧ (rgn f i3).toList = rq f i3 ∧ (rgn f i4).toList = rq f i4 ∧ (rgn f i5).toList = rq f i5 ∧ (rgn f i6).toList = rq f i6 := ⟨rfl, rfl, rfl, rfl, rfl, rfl, rfl⟩
theorem lX8 (f : Func) (i0 i1 i2 i3 i4 i5 i6 i7 : Nat) : (rgn f i0).toList = rq f i0 ∧ (rgn f i1).toList = rq f i1 ∧ (rgn f i2).toList = rq f i2 ∧ (rgn f i3).toList = rq f i3 ∧ (rgn f i4).toList = rq f i4 ∧ (rgn f i5).toList = rq f i5 ∧ (rgn f i6).toList = rq f i6 ∧ (rgn f i7).toList = rq f i7 := ⟨rfl, rfl, rfl, rfl, rfl, rfl, rfl, rfl⟩
def nextE (P : Program) (X : Xf) (K : Kf) (A : Array Oper) (rest : List Oper) (k : KE) (kp : List PanicEntry → KE) : KE := fun E ds H => execOpsE P X K A rest E ds H k kp
def putK (E : Env) (d : Option Tmp) (ds : List Deferred) (k : KE) : Value → Heap → R := fun v H => k (upd E d v) ds H
def putO (E : Env) (d : Option Tmp) (ds : List Deferred) (H : Heap) (k : KE) : Value → R := fun v => k (upd E d v) ds H
def putG (E : Env) (d : Option Tmp) (ds : List Deferred) (H : Heap) (k : KE) : Value → R := fun v => groundK v (k (upd E d v) ds H)
def panK (E : Env) (ds : List Deferred) (kp : List PanicEntry → KE) : List PanicEntry → Heap → R := fun c H => kp c E ds H
def normK (k : KOE) : KE := fun E ds H => k .norm E ds H
theorem ya7 {P : Program} {X : Xf} {K : Kf} {A : Array Oper} {rest : List Oper} {k : KE} {kp : List PanicEntry → KE} (E : Env) (ds : List Deferred) (H : Heap) : nextE P X K A rest k kp E ds H = execOpsE P X K A rest E ds H k kp := id rfl
theorem yk6 {E : Env} {d : Option Tmp} {ds : List Deferred} {k : KE} (v : Value) (H : Heap) : putK E d ds k v H = k (upd E d v) ds H := id rfl
theorem yk7 {E : Env} {d : Option Tmp} {ds : List Deferred} {H : Heap} {k : KE} (v : Value) : putO E d ds H k v = k (upd E d v) ds H := id rfl
theorem ya8 {E : Env} {d : Option Tmp} {ds : List Deferred} {H : Heap} {k : KE} (b : Bool) : putG E d ds H k (.bool b) = k (upd E d (.bool b)) ds H := id rfl
theorem yk8 {E : Env} {d : Option Tmp} {ds : List Deferred} {H : Heap} {k : KE} (i : IntKind) (n : Int) : putG E d ds H k (.int i n) = k (upd E d (.int i n)) ds H := id rfl
theorem ya9 {k : KOE} (E : Env) (ds : List Deferred) (H : Heap) : normK k E ds H = k .norm E ds H := id rfl
section code
variable {P : Program} {X : Xf} {K : Kf} {N : Nat} {pr : Nat → List (Nat × Nat)}
theorem jt7 (i : Nat) (ops : Array Oper) (dr : Bool) (E : Env) (ds : List Deferred) (H : Heap) (k : KOE) :
   execG P X K N noPr (.region i ops dr) none E ds H k = execOpsE P X K ops ops.toList E ds H (normK k) (panD P ops dr k) := j4b i ops dr E ds H k
theorem jb9 (i : Nat) (ops : Array Oper) (E : Env) (ds : List Deferred) (H : Heap) (k : KOE) :
   execG P X K N pr (.region i ops false) none E ds H k = execOpsE P X K ops ops.toList E ds H (normK k) (panD P ops false k) := j50 i ops E ds H k
theorem jh0 (i : Nat) (ops : Array Oper) (E : Env) (ds : List Deferred) (H : Heap) (k : KOE) (h : (pr i).isEmpty = true) :
   execG P X K N pr (.region i ops true) none E ds H k = execOpsE P X K ops ops.toList E ds H (normK k) (panD P ops true k) := j51 i ops E ds H k h
theorem g_if (c : Operand) (x y : Code) (E : Env) (ds : List Deferred) (H : Heap) (k : KOE) (h : evalE E c = .bool true) : execG P X K N pr (.cond c x y) none E ds H k = execG P X K N pr x none E ds H k := by rw [j1y, h]; rfl
theorem yz8 (c : Operand) (x y : Code) (E : Env) (ds : List Deferred) (H : Heap) (k : KOE) (h : evalE E c = .bool false) : execG P X K N pr (.cond c x y) none E ds H k = execG P X K N pr y none E ds H k := by rw [j1y, h]; rfl
theorem j53 (i : Nat) (k : KOE) (E : Env) (ds : List Deferred) (H : Heap) : leaveB i k (.exit i) E ds H = k .norm E ds H := by simp [leaveB]
theorem yz9 (i j : Nat) (k : KOE) (E : Env) (ds : List Deferred) (H : Heap) (h : (j == i) = false) : leaveB i k (.exit j) E ds H = k (.exit j) E ds H := by rw [j5y, h]; rfl
end code
section ops
variable {P : Program} {X : Xf} {K : Kf} {A : Array Oper} {d : Option Tmp} {t : TypeId} {p : String} {af : Array Edge} {E : Env} {ds : List Deferred} {H : Heap} {k : KE} {kp : List PanicEntry → KE}
theorem y1a : execOpsE P X K A [] E ds H k kp = k E ds H := id rfl
theorem y0a (op : Op) (rest : List Oper) : execOpsE P X K A (⟨d, op, t, p, af, none⟩ :: rest) E ds H k kp = opE P X K ⟨d, op, t, p, af, none⟩ E ds H (nextE P X K A rest k kp) kp := id rfl
theorem jb8 (op : Op) (j : Nat) (w : Bool) (e : Tmp) (rest : List Oper) (hd : (A[j]?).bind (·.dst) = some e) (h : E e = .bool w) :
   execOpsE P X K A (⟨d, op, t, p, af, some (j, w)⟩ :: rest) E ds H k kp = opE P X K ⟨d, op, t, p, af, none⟩ E ds H (nextE P X K A rest k kp) kp := by
 show guardE A _ E _ _ = _
 rw [j4c A d op t p af j w e w E _ _ hd h]
 cases w <;> rfl
theorem r_no (op : Op) (j : Nat) (w : Bool) (e : Tmp) (rest : List Oper) (hd : (A[j]?).bind (·.dst) = some e) (h : E e = .bool (!w)) :
   execOpsE P X K A (⟨d, op, t, p, af, some (j, w)⟩ :: rest) E ds H k kp = execOpsE P X K A rest (upd E d undef) ds H k kp := by
 show guardE A _ E _ _ = _
 rw [j4c A d op t p af j w e (!w) E _ _ hd h]
 cases w <;> rfl
variable {g : Option (Nat × Bool)}
theorem y0b (x : Operand) : opE P X K ⟨d, .move x, t, p, af, g⟩ E ds H k kp = k (upd E d (evalE E x)) ds H := id rfl
theorem yk9 (x : Operand) : opE P X K ⟨d, .assign x, t, p, af, g⟩ E ds H k kp = k (upd E d (evalE E x)) ds H := id rfl
theorem yt5 (c x y : Operand) (h : evalE E c = .bool true) : opE P X K ⟨d, .pick c x y, t, p, af, g⟩ E ds H k kp = k (upd E d (evalE E x)) ds H := by rw [j60, h]; simp only [j2i, if_true]
theorem yt6 (c x y : Operand) (h : evalE E c = .bool false) : opE P X K ⟨d, .pick c x y, t, p, af, g⟩ E ds H k kp = k (upd E d (evalE E y)) ds H := by rw [j60, h]; simp only [j2i, Bool.false_eq_true, if_false]
theorem yt7 (e : TypeId) : opE P X K ⟨d, .alloc e, t, p, af, g⟩ E ds H k kp = bindV (allocA P e H) (putK E d ds k) := id rfl
theorem y1b (e : TypeId) (x : Operand) : opE P X K ⟨d, .box e x, t, p, af, g⟩ E ds H k kp = bindV (boxA P e (evalE E x) H) (putK E d ds k) := id rfl
theorem yt8 (e : TypeId) (parts : Array (Nat × Operand)) : opE P X K ⟨d, .build e parts, t, p, af, g⟩ E ds H k kp = bindO (buildA P e (parts.map fun (i, x) => (i, evalE E x))) (putO E d ds H k) := id rfl
theorem j4e (e : TypeId) (n : Nat) (parts : Array (Nat × Operand)) : opE P X K ⟨d, .buildSlice e n parts, t, p, af, g⟩ E ds H k kp = bindV (buildSliceA P e n (parts.map fun (i, x) => (i, evalE E x)) H) (putK E d ds k) := id rfl
theorem y0c (e : TypeId) (a : Operand) : opE P X K ⟨d, .load e a, t, p, af, g⟩ E ds H k kp = bindV (loadA P e (evalE E a) H) (putK E d ds k) := id rfl
theorem yt9 (e : TypeId) (a x : Operand) : opE P X K ⟨d, .store e a x, t, p, af, g⟩ E ds H k kp = bindV (storeA P e (evalE E a) (evalE E x) H) (putK E d ds k) := id rfl
theorem j83 (x : Operand) : opE P X K ⟨d, .nilCheck x, t, p, af, g⟩ E ds H k kp = bindO (nilCheckA (evalE E x)) (putO E d ds H k) := id rfl
theorem yu0 (op : BinOp) (e : TypeId) (x y : Operand) (e2 : TypeId) : opE P X K ⟨d, .binOp op e x y e2, t, p, af, g⟩ E ds H k kp = bindO (binA P op e x y (evalE E x) (evalE E y)) (putG E d ds H k) := id rfl
theorem y0d (op : UnOp) (e : TypeId) (x : Operand) : opE P X K ⟨d, .unOp op e x, t, p, af, g⟩ E ds H k kp = bindO (unA P op (evalE E x)) (putG E d ds H k) := id rfl
theorem yb0 (s e : TypeId) (x : Operand) : opE P X K ⟨d, .convert s e x, t, p, af, g⟩ E ds H k kp = bindV (convertA P s e (evalE E x) H) (putK E d ds k) := id rfl
theorem j84 (fn : Fn) (a b : Array Operand) : opE P X K ⟨d, .makeFunc fn a b, t, p, af, g⟩ E ds H k kp = k (upd E d (.func fn (a.map (evalE E)) (b.map (evalE E)))) ds H := id rfl
theorem j54 (e : TypeId) (x y : Operand) : opE P X K ⟨d, .makeSlice e x y, t, p, af, g⟩ E ds H k kp = bindV (makeSliceA P e (evalE E x) (evalE E y) H) (putK E d ds k) := id rfl
theorem yu1 (e : TypeId) (x : Operand) (lo hi mx : Option Operand) : opE P X K ⟨d, .slice e x lo hi mx, t, p, af, g⟩ E ds H k kp = bindO (sliceOpA P e (evalE E x) (lo.map (evalE E)) (hi.map (evalE E)) (mx.map (evalE E)) H) (putO E d ds H k) := id rfl
theorem j55 (s : TypeId) (x : Operand) (f : Nat) : opE P X K ⟨d, .fieldAddr s x f, t, p, af, g⟩ E ds H k kp = bindO (fieldAddrA P s (evalE E x) f) (putO E d ds H k) := id rfl
theorem j56 (e : TypeId) (x i : Operand) : opE P X K ⟨d, .indexAddr e x i, t, p, af, g⟩ E ds H k kp = bindO (indexAddrA P e (evalE E x) (evalE E i)) (putO E d ds H k) := id rfl
theorem yu2 (e : TypeId) (x i : Operand) : opE P X K ⟨d, .index e x i, t, p, af, g⟩ E ds H k kp = bindO (indexA P e (evalE E x) (evalE E i)) (putO E d ds H k) := id rfl
theorem yb1 (x : Operand) (i : Nat) : opE P X K ⟨d, .extract x i, t, p, af, g⟩ E ds H k kp = bindO (extractA (evalE E x) i) (putO E d ds H k) := id rfl
theorem yb2 (b : Builtin) (args : Array Operand) (ts : Array TypeId) : opE P X K ⟨d, .call { callee := .builtin b, args := args, argTypes := ts }, t, p, af, g⟩ E ds H k kp = builtinK P b ts (args.map (evalE E)) H (putK E d ds k) := id rfl
theorem yu3 (f : FuncId) (args : Array Operand) (ts : Array TypeId) :
   opE P X K ⟨d, .call { callee := .value (.func f), args := args, argTypes := ts }, t, p, af, g⟩ E ds H k kp = callK P X K f (args.map (evalE E)) H (putK E d ds k) (panK E ds kp) := ya4 f args ts
theorem jg0 (i : Tmp) (args : Array Operand) (ts : Array TypeId) (f : FuncId) (a b : Array Value) (h : E i = .func (.func f) a b) :
   opE P X K ⟨d, .call { callee := .value (.tmp i), args := args, argTypes := ts }, t, p, af, g⟩ E ds H k kp = callK P X K f (a ++ args.map (evalE E) ++ b) H (putK E d ds k) (panK E ds kp) := ya6 i args ts f a b h
end ops
theorem ja0 {P : Program} {X : Xf} {K : Kf} {A : Array Oper} {L : List Oper} (h : A.toList = L) (E : Env) (ds : List Deferred) (H : Heap) (k : KE) (kp : List PanicEntry → KE) : execOpsE P X K A A.toList E ds H k kp = execOpsE P X K A L E ds H k kp := by rw [h]
theorem j4f (E : Env) (g : Nat) : evalE E (.global g) = .pointer (some ⟨g, 0, none⟩) := id rfl
theorem j85 (E : Env) (f : FuncId) : evalE E (.func f) = .func (.func f) #[] #[] := id rfl
theorem yb3 {α β : Type} (f : α → β) (x y z : α) : (#[x, y, z] : Array α).map f = #[f x, f y, f z] := by simp
theorem yl0 (v u w : Value) (l : List Value) : startE ⟨v :: u :: w :: l⟩ 2 = w := rfl
theorem yl1 (v u w x : Value) (l : List Value) : startE ⟨v :: u :: w :: x :: l⟩ 3 = x := rfl
theorem jy8 (v u w x y : Value) (l : List Value) : startE ⟨v :: u :: w :: x :: y :: l⟩ 4 = y := rfl
theorem yl2 (v u w x y z : Value) (l : List Value) : startE ⟨v :: u :: w :: x :: y :: z :: l⟩ 5 = z := rfl
def uG := Pf.mk (And.intro @jo3 (And.intro @j52 (And.intro @ya5 (And.intro @j81 (And.intro @j1x (And.intro @g_if (And.intro @yz8 (And.intro @y1a (And.intro @y0a (And.intro @y0b (And.intro @yk9 (And.intro @yt5 (And.intro @yt6 (And.intro @yt7 (And.intro @y1b (And.intro @yt8 (And.intro @j4e (And.intro @y0c (And.intro @yt9 (And.intro @j83 (And.intro @yu0 (And.intro @y0d (And.intro @yb0 (And.intro @j84 (And.intro @j54 (And.intro @yu1 (And.intro @j55 (And.intro @j56 (And.intro @yu2 (And.intro @yb1 (And.intro @yb2 (@yu3))))))))))))))))))))))))))))))))
def uR := Pf.mk (And.intro @jt7 uG.o)
def dG := Pf.mk (And.intro @jc9 (And.intro @j80 (And.intro @jl6 (And.intro @j5x (And.intro @j1w (And.intro @j53 (And.intro @yz9 (And.intro @ya7 (And.intro @yk6 (And.intro @yk7 (And.intro @ya8 (And.intro @yk8 (And.intro @ya9 (And.intro @j4d (And.intro @ya3 (And.intro @j5z (And.intro @j4f (And.intro @j85 (And.intro @yj7 (And.intro @yj8 (And.intro @yt3 (And.intro @yt4 (And.intro @yb3 (And.intro @map_nil (And.intro @jc7 (And.intro @je4 (And.intro @yl0 (And.intro @yl1 (And.intro @yk3 (And.intro @j61 (And.intro @yk4 (And.intro @yk5 (And.intro @yj9 (And.intro @yk0 (And.intro @yk1 (@yk2))))))))))))))))))))))))))))))))))))
end Go.Am
open Go.Proofs
namespace Go.Am
variable {a : Addr} {H H' : Heap} {s : List UInt8}
structure Bts (H : Heap) (a : Option Addr) (s : List UInt8) : Prop where
 cell : ∀ j (h : j < s.length), ∃ b, a = some b ∧ ld1 H (b.add j) = some (.int .u8 (s[j]).toNat, H)
 str : strOf H a s.length = some ⟨s.toArray⟩
 small : s.length < 9223372036854775808
theorem und34 : PP.underlying 22 = some (.slice 5) := Tryz.underlying22
theorem size5 : sizeT PP 5 = some 1 := by decide +kernel
theorem agg5 : aggT PP 5 = some false := by decide +kernel
theorem jc4 {n c : Nat} {j : Nat} (h : j < n) : indexAddrA PP 22 (.slice (some a) n c) (.int .i64 (j : Int)) = some (.pointer (some (a.add j))) := by
 simp [indexAddrA, size5, at_, h]
theorem jb7 {v : Value} (h : ld1 H a = some (v, H)) : loadA PP 5 (.pointer (some a)) H = some (v, H) := by
 simp [loadA, agg5, h]
theorem ja4 {x : Int} (h0 : -9223372036854775808 ≤ x) (h1 : x < 9223372036854775808) : IntKind.i64.wrap x = x := by
 simp only [IntKind.wrap, IntKind.bits, IntKind.signed]
 simp
 split <;> omega
theorem ja7 (x z : UInt8) : (((x.toNat : Int) == (z.toNat : Int)) : Bool) = decide (x = z) := by
 rw [Bool.eq_iff_iff]
 simp only [beq_iff_eq, decide_eq_true_eq]
 constructor
 · intro h; exact UInt8.toNat_inj.mp (by omega)
 · intro h; rw [h]
def Fresh (H : Heap) : Prop := ∀ b, H.next ≤ b → H.get b = none
structure Ext (H H' : Heap) : Prop where
 next : H.next ≤ H'.next
 keep : ∀ b x, H.get b = some x → H'.get b = some x
 fresh : Fresh H'
theorem Ext.trans {A B C : Heap} (h : Ext A B) (k : Ext B C) : Ext A C := ⟨Nat.le_trans h.next k.next, fun b x e => k.keep b x (h.keep b x e), k.fresh⟩
theorem Ext.alloc (h : Fresh H) (es : Nat) (cells : List Value) : Ext H (H.alloc es cells) := by
 refine ⟨Nat.le_succ _, fun b x e => ?_, fun b hb => ?_⟩
 · rw [Heap.get_alloc]
   by_cases c : b = H.next
   · rw [c, h _ (Nat.le_refl _)] at e; cases e
   · rw [if_neg c]; exact e
 · have hb' : H.next + 1 ≤ b := hb
   rw [Heap.get_alloc, if_neg (by omega)]
   exact h b (by omega)
theorem Ext.set (h : Ext H H') {b : Nat} (hb : H.next ≤ b) (hf : Fresh H) (hl : b < H'.next) (x : Blk) : Ext H (H'.set b x) := by
 refine ⟨h.next, fun k y e => ?_, fun k hk => ?_⟩
 · rw [Heap.get_set]
   by_cases c : k = b
   · rw [c, hf _ hb] at e; cases e
   · rw [if_neg c]; exact h.keep k y e
 · have hk' : H'.next ≤ k := hk
   rw [Heap.get_set, if_neg (by omega)]
   exact h.fresh k hk'
theorem Ext.look (h : Ext H H') {a : Addr} {x : Blk} (e : look H a = some x) : look H' a = some x := by
 unfold Am.look at e ⊢
 split at e
 · cases e
 · rename_i hs
   cases hg : H.get a.block with
   | none => simp [hg] at e
   | some y =>
     rw [h.keep _ _ hg]
     simpa [hg] using e
structure Brow (H : Heap) (a : Option Addr) (s : List UInt8) : Prop where
 row : ∀ b, a = some b → ∃ x, look H b = some x ∧ x.es = 1 ∧ b.off + s.length ≤ x.cells.length ∧ (x.cells.drop b.off).take s.length = s.map fun u => .int .u8 (u.toNat : Int)
 nil : a = none → s = []
 small : s.length < 9223372036854775808
theorem Brow.ext {a : Option Addr} (h : Brow H a s) (e : Ext H H') : Brow H' a s :=
 ⟨fun b hb => let ⟨x, h1, h2⟩ := h.row b hb; ⟨x, e.look h1, h2⟩, h.nil, h.small⟩
theorem yb4 {x : Blk} (e : look H a = some x) : a.spot = none := by
 unfold Am.look at e
 split at e
 · cases e
 · rename_i hs; exact hs
theorem j62 {x : Blk} (e : look H a = some x) (j : Nat) : look H (a.add j) = some x ∧ (a.add j).off = a.off + j := by
 have hs := yb4 e
 obtain ⟨b, off, spot⟩ := a
 simp only at hs
 subst hs
 unfold Addr.add
 by_cases hj : j = 0
 · subst hj; simp [e]
 · simp only [hj, if_false, and_true]
   exact e
theorem js4 : ∀ s : List UInt8, bytesOf (s.map fun u => Value.int .u8 (u.toNat : Int)) = some s
 | [] => rfl
 | u :: s => by simp [bytesOf, js4 s]
theorem Brow.bts {a : Option Addr} (h : Brow H a s) : Bts H a s := by
 refine ⟨fun j hj => ?_, ?_, h.small⟩
 · cases a with
   | none => rw [h.nil rfl] at hj; simp at hj
   | some b =>
     obtain ⟨x, h1, h2, h3, h4⟩ := h.row b rfl
     refine ⟨b, rfl, ?_⟩
     obtain ⟨k1, k2⟩ := j62 h1 j
     unfold ld1
     rw [k1]
     simp only [k2]
     have : ((x.cells.drop b.off).take s.length)[j]? = some (.int .u8 (s[j].toNat : Int)) := by rw [h4]; simp [hj]
     rw [List.getElem?_take_of_lt hj, List.getElem?_drop] at this
     rw [this]
 · cases a with
   | none => rw [h.nil rfl]; rfl
   | some b =>
     obtain ⟨x, h1, h2, h3, h4⟩ := h.row b rfl
     unfold strOf
     by_cases h0 : s.length = 0
     · have : s = [] := List.length_eq_zero_iff.mp h0
       subst this; rfl
     · simp only [if_neg h0, h1, if_pos h3, h4, js4]
theorem Brow.take {a : Option Addr} (h : Brow H a s) {k : Nat} (hk : k ≤ s.length) : Brow H a (s.take k) := by
 refine ⟨fun b hb => ?_, fun e => by rw [h.nil e]; simp, by simp; have := h.small; omega⟩
 obtain ⟨x, h1, h2, h3, h4⟩ := h.row b hb
 refine ⟨x, h1, h2, by simp; omega, ?_⟩
 have hl : (s.take k).length = k := by simp; omega
 rw [hl, List.map_take, ← h4, List.take_take, Nat.min_eq_left hk]
theorem size3 : sizeT PP 3 = some 1 := by decide +kernel
theorem agg3 : aggT PP 3 = some false := by decide +kernel
theorem jy9 : Fresh GE := fun b hb => jo1.fresh b hb
theorem jc6 (H : Heap) (p : Nat) (x : Blk) : (H.set p x).get p = some x := by rw [Heap.get_set, if_pos rfl]
end Go.Am
