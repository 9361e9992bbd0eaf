/- Code and calls over frames that are trees. -/
import Derived.Test.YtpfpfpeockbbpaaGreatDoorFaW
namespace Go.Am

abbrev KO := Out → KT
def KSo (r : End × Heap) (k : KO) (k' : Out → Act → Heap → R) : Prop := ∀ o, KS r (k o) (k' o)

noncomputable def loopT (body : T → List Deferred → Heap → KO → R) (n : Nat) : T → List Deferred → Heap → KO → R :=
  Nat.rec (motive := fun _ => T → List Deferred → Heap → KO → R) (fun _ _ _ _ => none)
    (fun _ ih t ds H k => body t ds H fun o t ds H => match o with | .norm => ih t ds H k | o => k o t ds H) n
def BSim (r : End × Heap) (body : T → List Deferred → Heap → KO → R) (body' : Act → Heap → (Out → Act → Heap → R) → R) : Prop :=
  ∀ k k', KSo r k k' → ∀ t ds a H, Sim t ds a → body t ds H k = some r → body' a H k' = some r
theorem loopT_sim {r : End × Heap} {body : T → List Deferred → Heap → KO → R} {body' : Act → Heap → (Out → Act → Heap → R) → R} (hb : BSim r body body') : ∀ n, BSim r (loopT body n) (loopC body' n)
  | 0, _, _, _, _, _, _, _, _, h => by cases h
  | n + 1, k, k', hk, t, ds, a, H, hs, h => by
    refine hb _ _ (fun o t ds a H hs h => ?_) t ds a H hs h
    cases o with
    | norm => exact loopT_sim hb n k k' hk _ _ _ _ hs h
    | _ => exact hk _ _ _ _ _ hs h

noncomputable def scopeT (c : Code) (body : Option Nat → T → List Deferred → Heap → KO → R) (n : Nat) : Option Nat → T → List Deferred → Heap → KO → R :=
  Nat.rec (motive := fun _ => Option Nat → T → List Deferred → Heap → KO → R) (fun _ _ _ _ _ => none)
    (fun _ ih s t ds H k => body s t ds H fun o t ds H => match o with | .goto l => cond (hasLabel l c) (ih (some l) t ds H k) (k (.goto l) t ds H) | o => k o t ds H) n
theorem scopeT_sim {r : End × Heap} {c : Code} {body : Option Nat → T → List Deferred → Heap → KO → R} {body' : Option Nat → Act → Heap → (Out → Act → Heap → R) → R} (hb : ∀ s, BSim r (body s) (body' s)) :
    ∀ n s, BSim r (scopeT c body n s) (scopeC c body' n s)
  | 0, _, _, _, _, _, _, _, _, _, h => by cases h
  | n + 1, s, k, k', hk, t, ds, a, H, hs, h => by
    refine hb s _ _ (fun o t ds a H hs h => ?_) t ds a H hs h
    cases o with
    | goto l =>
      simp only at h ⊢
      cases e : hasLabel l c with
      | true => rw [e] at h; exact scopeT_sim hb n _ k k' hk _ _ _ _ hs h
      | false => rw [e] at h; exact hk _ _ _ _ _ hs h
    | _ => exact hk _ _ _ _ _ hs h

/-- The check at a panic; the frame without what the region writes. -/
noncomputable def panChkT (P : Program) (ops : Array Oper) (tr : List (T × Heap)) : Bool :=
  ((List.range ops.toList.length).all fun i => match ops.toList[i]? with
    | none => true
    | some o => match o.guard with | some (j, _) => decide (j < i) | none => true) &&
  ((List.range ops.toList.length).all fun j => !decide (tr.length ≤ j) || ((masks ops.toList []).getD j 0).testBit (tr.length - 1)) &&
  (strictB P ops.toList && drawChkT P (ops.toList.take (tr.length - 1)).toArray tr)
noncomputable def panOkT (P : Program) (ops : Array Oper) (tr : List (T × Heap)) : Bool := panAll P ops.toList || panChkT P ops tr
theorem panOkT_of {P : Program} {ops : Array Oper} {tr : List (T × Heap)} {tr' : List (Act × Heap)} (h : TrR tr tr') (h1 : 0 < tr'.length) (h2 : tr'.length < 0 + ops.toList.length + 1) (hc : panOkT P ops tr = true) : panOkTr P ops tr' = true := by
  unfold panOkT at hc
  unfold panOkTr
  rw [Bool.or_eq_true] at hc ⊢
  rcases hc with hc | hc
  · exact .inl hc
  · right
    unfold panChkT at hc
    unfold panChk
    rw [h.1] at hc
    simp only [Bool.and_eq_true] at hc ⊢
    exact ⟨hc.1, hc.2.1, drawChk_of h (by show tr'.length = (ops.toList.take (tr'.length - 1)).length + 1; rw [List.length_take]; omega) hc.2.2⟩
noncomputable def eraseL (l : List Oper) : T → (T → R) → R := List.rec (motive := fun _ => T → (T → R) → R) (fun t k => k t) (fun o _ ih t k => putT o.dst t undef fun t' => ih t' k) l
theorem eraseL_some {r : End × Heap} {k : T → R} : ∀ (l : List Oper) {t : T} {a : Act}, eraseL l t k = some r → Rep t a.tmps → ∃ t', k t' = some r ∧ Rep t' (l.foldl (fun a o => a.put o.dst undef) a).tmps ∧ (l.foldl (fun a o => a.put o.dst undef) a).defers = a.defers
  | [], t, a, h, hr => ⟨t, h, hr, rfl⟩
  | o :: l, t, a, h, hr => by
    have h' : (putT o.dst t undef fun t' => eraseL l t' k) = some r := h
    obtain ⟨t', g1, g2, g3⟩ := putT_some h' hr
    obtain ⟨t2, k1, k2, k3⟩ := eraseL_some l g1 g2
    exact ⟨t2, k1, k2, k3.trans g3⟩
theorem foldl_erase : ∀ (l : List Oper) (a : Act) (i : Nat), (l.foldl (fun a o => a.put o.dst undef) a).tmps[i]? = a.tmps[i]?.map fun v => cond (l.any fun o => dstIs o i) undef v
  | [], a, i => by simp
  | o :: l, a, i => by
    rw [List.foldl_cons, foldl_erase l]
    have e : (a.put o.dst undef).tmps[i]? = a.tmps[i]?.map fun v => cond (dstIs o i) undef v := by
      unfold dstIs
      cases hd : o.dst with
      | none => simp [Act.put]
      | some d =>
        simp only [Act.put, Array.getElem?_setIfInBounds]
        by_cases c : d = i
        · subst c
          by_cases q : d < a.tmps.size
          · simp [q]
          · simp [q]
        · have e2 : (d == i) = false := beq_eq_false_iff_ne.2 c
          rw [if_neg c]
          simp [e2]
    rw [e, List.any_cons, Option.map_map]
    congr 1
    funext v
    simp only [Function.comp]
    cases dstIs o i <;> cases (l.any fun o => dstIs o i) <;> rfl
theorem foldl_eraseA (ops : Array Oper) (a : Act) : (ops.toList.foldl (fun a o => a.put o.dst undef) a).tmps = (eraseA ops a).tmps := by
  apply Array.ext_getElem?
  intro i
  rw [foldl_erase, erase_get]
  rfl
noncomputable def execT (P : Program) (X : Xf) (K : Kf) (N : Nat) (c : Code) : Option Nat → T → List Deferred → Heap → KO → R :=
  Code.rec (motive := fun _ => Option Nat → T → List Deferred → Heap → KO → R)
    (skip := fun s t ds H k => Option.rec (motive := fun _ => R) (k .norm t ds H) (fun _ => none) s)
    (region := fun _ ops draw s t ds H k => Option.rec (motive := fun _ => R)
      (cond draw (execTrT P X K ops ops.toList t ds H [] (fun tr t ds H => cond (drawChkT P ops tr) (k .norm t ds H) none) fun tr c t ds H => cond (panOkT P ops tr) (eraseL ops.toList t fun t => k (.pan c) t ds H) none)
        (execOpsT P X K ops ops.toList t ds H (k .norm) (fun c => k (.pan c)))) (fun _ => none) s)
    (seq := fun x _ ihx ihy s t ds H k => Option.rec (motive := fun _ => R)
      (ihx none t ds H fun o t ds H => match o with | .norm => ihy none t ds H k | o => k o t ds H)
      (fun l => cond (hasLabel l x) (ihx (some l) t ds H fun o t ds H => match o with | .norm => ihy none t ds H k | o => k o t ds H) (ihy (some l) t ds H k)) s)
    (cond := fun c _ _ ihx ihy s t ds H k => Option.rec (motive := fun _ => R) (match evalT t c with | .bool b => cond b (ihx none t ds H k) (ihy none t ds H k) | _ => none) (fun _ => none) s)
    (block := fun id _ ih s t ds H k => Option.rec (motive := fun _ => R) (ih none t ds H fun o t ds H => match o with | .exit i => cond (i == id) (k .norm t ds H) (k (.exit i) t ds H) | o => k o t ds H) (fun _ => none) s)
    (loop := fun _ ih s t ds H k => Option.rec (motive := fun _ => R) (loopT (ih none) N t ds H k) (fun _ => none) s)
    (rangeFunc := fun _ _ _ _ _ _ _ _ _ _ _ => none)
    (exit := fun id s t ds H k => Option.rec (motive := fun _ => R) (k (.exit id) t ds H) (fun _ => none) s)
    (scope := fun b ih s t ds H k => Option.rec (motive := fun _ => R) (scopeT b ih N none t ds H k) (fun _ => none) s)
    (label := fun l' s t ds H k => Option.rec (motive := fun _ => R) (k .norm t ds H) (fun l => cond (l' == l) (k .norm t ds H) none) s)
    (goto := fun l s t ds H k => Option.rec (motive := fun _ => R) (k (.goto l) t ds H) (fun _ => none) s)
    (ret := fun s t ds H k => Option.rec (motive := fun _ => R) (k .ret t ds H) (fun _ => none) s)
    (refuse := fun _ _ _ _ _ _ => none) c

theorem seq_sim {r : End × Heap} {b2 : T → List Deferred → Heap → KO → R} {b2' : Act → Heap → (Out → Act → Heap → R) → R} (h2 : BSim r b2 b2') {k : KO} {k' : Out → Act → Heap → R} (hk : KSo r k k') :
    KSo r (fun o t ds H => match o with | .norm => b2 t ds H k | o => k o t ds H) (fun o a H => match o with | .norm => b2' a H k' | o => k' o a H) := by
  intro o t ds a H hs h
  cases o with
  | norm => exact h2 k k' hk _ _ _ _ hs h
  | _ => exact hk _ _ _ _ _ hs h

/-- What is told by the code alone: constants and globals; whether a region's order is bound enough. -/
def goodC (P : Program) : Code → Bool
  | .region _ ops draw => ops.toList.all (opOk P) && (!draw || drawOk P ops.toList)
  | .seq a b => goodC P a && goodC P b
  | .cond _ a b => goodC P a && goodC P b
  | .block _ b => goodC P b
  | .loop b => goodC P b
  | .scope b => goodC P b
  | _ => true
theorem execT_sim {P : Program} {X : Xf} {K K' : Kf} (hK : KLe K K') {N : Nat} {r : End × Heap} : ∀ (c : Code) (_ : goodC P c = true) (s : Option Nat), BSim r (execT P X K N c s) (exec P X K' N c s)
  | .skip, hg, none, k, k', hk, t, ds, a, H, hs, h => by unfold exec; exact hk _ _ _ _ _ hs h
  | .skip, hg, some _, k, k', hk, t, ds, a, H, hs, h => by cases h
  | .region id ops draw, hg, none, k, k', hk, t, ds, a, H, hs, h => by
    unfold exec
    simp only [goodC, Bool.and_eq_true] at hg
    have ho := fun o h => List.all_eq_true.mp hg.1 o h
    cases draw with
    | false =>
      exact execOpsT_sim (k' := fun a H => k' .norm a H) (kp' := fun c a H => k' (.pan c) a H) hK (fun t ds a H => hk .norm t ds a H) (fun c t ds a H => hk (.pan c) t ds a H) ops.toList ho t ds a H hs h
    | true =>
      have e : drawOk P ops.toList = true := by simpa using hg.2
      simp only [cond_true, drawK, e]
      refine execTrT_sim (k' := fun tr af Hf => cond (drawChk P ops tr) (k' .norm af Hf) none) hK ops.toList ho 0 (fun tr tr' htr hn1 hn2 c => ?_) (fun tr tr' htr hn => ?_) t ds a H [] [] ⟨rfl, fun i x y hx => by simp at hx⟩ rfl hs h
      · intro t ds a H hs h
        cases e2 : panOkT P ops tr with
        | false => rw [e2] at h; cases h
        | true =>
          rw [e2] at h
          rw [panOkT_of htr hn1 hn2 e2]
          obtain ⟨t', g1, g2, g3⟩ := eraseL_some ops.toList h hs.tree
          rw [foldl_eraseA] at g2
          exact hk (.pan c) t' ds (eraseA ops a) H ⟨g2, hs.ds⟩ g1
      intro t ds a H hs h
      cases e2 : drawChkT P ops tr with
      | false => rw [e2] at h; cases h
      | true =>
        rw [e2] at h
        rw [drawChk_of htr (by rw [hn]; omega) e2]
        exact hk _ _ _ _ _ hs h
  | .region .., hg, some _, k, k', hk, t, ds, a, H, hs, h => by cases h
  | .seq x y, hg, none, k, k', hk, t, ds, a, H, hs, h => by
    simp only [goodC, Bool.and_eq_true] at hg
    unfold exec
    exact execT_sim hK x hg.1 none _ _ (seq_sim (execT_sim hK y hg.2 none) hk) t ds a H hs h
  | .seq x y, hg, some l, k, k', hk, t, ds, a, H, hs, h => by
    simp only [goodC, Bool.and_eq_true] at hg
    unfold exec
    have h' : cond (hasLabel l x) (execT P X K N x (some l) t ds H fun o t ds H => match o with | .norm => execT P X K N y none t ds H k | o => k o t ds H) (execT P X K N y (some l) t ds H k) = some r := h
    cases e : hasLabel l x with
    | true => rw [e] at h'; exact execT_sim hK x hg.1 (some l) _ _ (seq_sim (execT_sim hK y hg.2 none) hk) t ds a H hs h'
    | false => rw [e] at h'; exact execT_sim hK y hg.2 (some l) _ _ hk t ds a H hs h'
  | .cond c x y, hg, none, k, k', hk, t, ds, a, H, hs, h => by
    simp only [goodC, Bool.and_eq_true] at hg
    unfold exec
    have h' : (match evalT t c with | .bool b => cond b (execT P X K N x none t ds H k) (execT P X K N y none t ds H k) | _ => none) = some r := h
    rw [evalT_eq hs.tree] at h'
    split at h'
    · rename_i b e
      simp only [e]
      cases b with
      | true => exact execT_sim hK x hg.1 none _ _ hk t ds a H hs h'
      | false => exact execT_sim hK y hg.2 none _ _ hk t ds a H hs h'
    · cases h'
  | .cond .., hg, some _, k, k', hk, t, ds, a, H, hs, h => by cases h
  | .block id b, hg, none, k, k', hk, t, ds, a, H, hs, h => by
    unfold exec
    refine execT_sim hK b hg none _ _ (fun o t ds a H hs h => ?_) t ds a H hs h
    cases o with
    | exit i =>
      simp only at h ⊢
      cases e : (i == id) with
      | true => rw [e] at h; exact hk _ _ _ _ _ hs h
      | false => rw [e] at h; exact hk _ _ _ _ _ hs h
    | _ => exact hk _ _ _ _ _ hs h
  | .block .., hg, some _, k, k', hk, t, ds, a, H, hs, h => by cases h
  | .loop b, hg, none, k, k', hk, t, ds, a, H, hs, h => by
    unfold exec
    exact loopT_sim (execT_sim hK b hg none) N k k' hk t ds a H hs h
  | .loop _, hg, some _, k, k', hk, t, ds, a, H, hs, h => by cases h
  | .rangeFunc .., hg, s, k, k', hk, t, ds, a, H, hs, h => by cases h
  | .exit id, hg, none, k, k', hk, t, ds, a, H, hs, h => by unfold exec; exact hk _ _ _ _ _ hs h
  | .exit _, hg, some _, k, k', hk, t, ds, a, H, hs, h => by cases h
  | .scope b, hg, none, k, k', hk, t, ds, a, H, hs, h => by
    unfold exec
    exact scopeT_sim (fun s => execT_sim hK b hg s) N none k k' hk t ds a H hs h
  | .scope _, hg, some _, k, k', hk, t, ds, a, H, hs, h => by cases h
  | .label l', hg, none, k, k', hk, t, ds, a, H, hs, h => by unfold exec; exact hk _ _ _ _ _ hs h
  | .label l', hg, some l, k, k', hk, t, ds, a, H, hs, h => by
    unfold exec
    have h' : cond (l' == l) (k .norm t ds H) none = some r := h
    cases e : (l' == l) with
    | true => rw [e] at h'; exact hk _ _ _ _ _ hs h'
    | false => rw [e] at h'; cases h'
  | .goto l, hg, none, k, k', hk, t, ds, a, H, hs, h => by unfold exec; exact hk _ _ _ _ _ hs h
  | .goto _, hg, some _, k, k', hk, t, ds, a, H, hs, h => by cases h
  | .ret, hg, none, k, k', hk, t, ds, a, H, hs, h => by unfold exec; exact hk _ _ _ _ _ hs h
  | .ret, hg, some _, k, k', hk, t, ds, a, H, hs, h => by cases h
  | .refuse _, hg, s, k, k', hk, t, ds, a, H, hs, h => by cases h

noncomputable def resT (P : Program) (t : T) (H : Heap) : List ResultVar → Option (List Value)
  | [] => some []
  | .tmp i :: r => match resT P t H r with | some l => some ((rdP (path i) t).getD undef :: l) | none => none
  | .cell i ty :: r => match loadA P ty ((rdP (path i) t).getD undef) H with
    | some (v, _) => match resT P t H r with | some l => some (v :: l) | none => none
    | none => none
theorem resT_eq {P : Program} {t : T} {ts : Array Value} (h : Rep t ts) (H : Heap) : ∀ l, resT P t H l = resL P ts H l
  | [] => rfl
  | .tmp i :: r => by
    unfold resT resL
    have e : (ts[i]?).getD undef = ts.getD i undef := by simp
    rw [resT_eq h H r, rd_path, h i, e]
    cases resL P ts H r <;> rfl
  | .cell i ty :: r => by
    unfold resT resL
    have e : (ts[i]?).getD undef = ts.getD i undef := by simp
    rw [resT_eq h H r, rd_path, h i, e]
    cases loadA P ty (ts.getD i undef) H with
    | none => rfl
    | some x => cases resL P ts H r <;> rfl

noncomputable def finDT (P : Program) (fn : Func) (u : FrameMode) (kd : End → FrameMode → Heap → R) (o : Out) (t : T) (ds : List Deferred) (H : Heap) : R :=
  match o with
  | .norm | .ret => match ds with
    | [] => match resT P t H fn.results.toList with | some l => kd (.ret (oneOf l)) u H | none => none
    | _ => none
  | .pan c => match ds with | [] => kd (.pan c) u H | _ => none
  | _ => none
theorem finDT_sim {P : Program} {fn : Func} {u : FrameMode} {kd kd' : End → FrameMode → Heap → R} {r : End × Heap} (hk : ∀ e u H, kd e u H = some r → kd' e u H = some r) : KSo r (finDT P fn u kd) (finD P fn u kd') := by
  intro o t ds a H hs h
  unfold finDT at h
  unfold finD
  split at h
  · simp only [hs.ds]
    split at h
    · rw [resT_eq hs.tree] at h
      simp only
      split at h
      · rename_i e; rw [e]; exact hk _ _ _ h
      · cases h
    · cases h
  · simp only [hs.ds]
    split at h
    · rw [resT_eq hs.tree] at h
      simp only
      split at h
      · rename_i e; rw [e]; exact hk _ _ _ h
      · cases h
    · cases h
  · simp only [hs.ds]
    split at h
    · exact hk _ _ _ h
    · cases h
  · cases h

noncomputable def bodyDT (P : Program) (X : Xf) (K : Kf) (N : Nat) (fn : Func) (c : Code) (args : Array Value) (u : FrameMode) (H : Heap) (kd : End → FrameMode → Heap → R) : R :=
  startT fn.ntmps args fun t => match c with
  | .seq (.region _ ops false) rest => match ops.toList with
    | o :: os => cond (isRec o)
      (putT o.dst t (recM u).1 fun t => execOpsT P X K ops os t [] H (fun t ds H => execT P X K N rest none t ds H (finDT P fn (recM u).2 kd)) (fun c t ds H => finDT P fn (recM u).2 kd (.pan c) t ds H))
      (execT P X K N c none t [] H (finDT P fn u kd))
    | [] => execT P X K N c none t [] H (finDT P fn u kd)
  | c => execT P X K N c none t [] H (finDT P fn u kd)
theorem bodyDT_sim {P : Program} {X : Xf} {K K' : Kf} (hK : KLe K K') {N : Nat} {fn : Func} {c : Code} {args : Array Value} {u : FrameMode} {H : Heap} {kd kd' : End → FrameMode → Heap → R} {r : End × Heap}
    (hg : goodC P c = true) (hk : ∀ e u H, kd e u H = some r → kd' e u H = some r) (h : bodyDT P X K N fn c args u H kd = some r) : bodyD P X K' N fn c args u H kd' = some r := by
  unfold bodyDT at h
  obtain ⟨t, h1, h2⟩ := startT_some h
  have hs : Sim t [] (act0 fn args) := ⟨h2, rfl⟩
  unfold bodyD
  split at h1
  · rename_i id ops rest
    simp only
    split at h1
    · rename_i o os e
      simp only [e]
      cases hi : isRec o with
      | true =>
        rw [hi] at h1
        simp only [goodC, Bool.and_eq_true] at hg
        have hall := fun o h => List.all_eq_true.mp hg.1.1 o h
        rw [e] at hall
        simp only [cond_true] at h1 ⊢
        obtain ⟨t', q1, q2, q3⟩ := putT_some (a := act0 fn args) h1 h2
        exact execOpsT_sim hK (fun t ds a H hs h => execT_sim hK rest hg.2 none _ _ (finDT_sim hk) t ds a H hs h) (fun c t ds a H hs h => finDT_sim hk (.pan c) t ds a H hs h) os (fun o h => hall o (List.mem_cons_of_mem _ h)) t' [] _ H ⟨q2, q3⟩ q1
      | false =>
        rw [hi] at h1
        exact execT_sim hK _ hg none _ _ (finDT_sim hk) t [] _ H hs h1
    · rename_i e
      simp only [e]
      exact execT_sim hK _ hg none _ _ (finDT_sim hk) t [] _ H hs h1
  · rename_i hno
    split
    · rename_i ops rest
      exact absurd rfl (hno _ _ _)
    · exact execT_sim hK _ hg none _ _ (finDT_sim hk) t [] _ H hs h1

/-- The code of all functions is so, but for some that are told. -/
def GoodP (P : Program) (bad : List Nat) : Prop := ∀ (f : FuncId) fn c, bad.any (Nat.beq f) = false → P.funcs[f]? = some fn → fn.body = some c → goodC P c = true
def goodF (P : Program) (fn : Func) : Bool := match fn.body with | some c => goodC P c | none => true
def goodAt (P : Program) (bad : List Nat) (f : Nat) : Bool := cond (bad.any (Nat.beq f)) true (match P.funcs[f]? with | some fn => goodF P fn | none => true)
theorem goodP_of {P : Program} {bad : List Nat} {n : Nat} (hn : P.funcs.size = n) (h : ∀ f, f < n → goodAt P bad f = true) : GoodP P bad := by
  intro f fn c hb hf hc
  have hlt := (Array.getElem?_eq_some_iff.mp hf).1
  have := h f (by omega)
  simp only [goodAt, hb, hf, cond_false, goodF, hc] at this
  exact this

noncomputable def leaveT (P : Program) (bad : List Nat) (X : Xf) (K : Kf) (N : Nat) (fn : Func) (wk : Bool) (t : T) : List Deferred → FrameMode → Heap → R
  | [], .returning, H => match resT P t H fn.results.toList with | some l => cond (wk && l.any isUndef) none (some (.ret (oneOf l), H)) | none => none
  | [], .panicking c, H => some (.pan c, H)
  | [], .run, _ => none
  | _ :: _, .run, _ => none
  | d :: ds, u, H => match d.target with
    | .fn (.func g) cap => match P.funcs[g]? with
      | some gn => if gn.name == "runtime.NumGoroutine" || bad.any (Nat.beq g) then none else match gn.body with
        | some c => bodyDT P X K N gn c (d.args ++ cap) u H fun e u' H' => match e with
          | .ret _ => match settleA u' with | some u2 => leaveT P bad X K N fn wk t ds u2 H' | none => none
          | .pan ch => leaveT P bad X K N fn wk t ds (raised u' ch) H'
        | none => none
      | none => none
    | _ => none
theorem leaveT_sim {P : Program} {X : Xf} {K K' : Kf} {bad : List Nat} (hgp : GoodP P bad) (hK : KLe K K') {N : Nat} {fn : Func} {wk : Bool} {t : T} {ts : Array Value} (ht : Rep t ts) {r : End × Heap} : ∀ (ds : List Deferred) (u : FrameMode) (H : Heap), leaveT P bad X K N fn wk t ds u H = some r → leave P X K' N fn wk ts ds u H = some r := by
  intro ds
  induction ds with
  | nil =>
    intro u H h
    cases u with
    | returning => unfold leaveT at h; unfold leave; rw [resT_eq ht] at h; exact h
    | panicking c => unfold leaveT at h; unfold leave; exact h
    | run => unfold leaveT at h; cases h
  | cons d ds ih =>
    intro u H h
    have go : ∀ u, (match d.target with
      | .fn (.func g) cap => match P.funcs[g]? with
        | some gn => if gn.name == "runtime.NumGoroutine" || bad.any (Nat.beq g) then none else match gn.body with
          | some c => bodyDT P X K N gn c (d.args ++ cap) u H fun e u' H' => match e with
            | .ret _ => match settleA u' with | some u2 => leaveT P bad X K N fn wk t ds u2 H' | none => none
            | .pan ch => leaveT P bad X K N fn wk t ds (raised u' ch) H'
          | none => none
        | none => none
      | _ => none) = some r → (match d.target with
      | .fn (.func g) cap => match P.funcs[g]? with
        | some gn => if gn.name == "runtime.NumGoroutine" then none else match gn.body with
          | some c => bodyD P X K' N gn c (d.args ++ cap) u H fun e u' H' => match e with
            | .ret _ => match settleA u' with | some u2 => leave P X K' N fn wk ts ds u2 H' | none => none
            | .pan ch => leave P X K' N fn wk ts ds (raised u' ch) H'
          | none => none
        | none => none
      | _ => none) = some r := by
      intro u h
      split at h
      · split at h
        · rename_i gn hf
          split at h
          · cases h
          · rename_i hn
            simp only [Bool.or_eq_true, not_or, Bool.not_eq_true] at hn
            rw [if_neg (by rw [hn.1]; decide)]
            split at h
            · rename_i c hb
              refine bodyDT_sim hK (hgp _ _ _ hn.2 hf hb) (fun e u' H' h => ?_) h
              cases e with
              | ret v =>
                simp only at h ⊢
                split at h
                · rename_i u2 e2; exact ih _ _ h
                · cases h
              | pan ch => exact ih _ _ h
            · cases h
        · cases h
      · cases h
    cases u with
    | run => unfold leaveT at h; cases h
    | returning => unfold leaveT at h; unfold leave; exact go _ h
    | panicking c => unfold leaveT at h; unfold leave; exact go _ h

noncomputable def finishT (P : Program) (bad : List Nat) (X : Xf) (K : Kf) (N : Nat) (fn : Func) (o : Out) (t : T) (ds : List Deferred) (H : Heap) : R :=
  match o with
  | .norm | .ret => leaveT P bad X K N fn false t ds .returning H
  | .pan c => leaveT P bad X K N fn true t ds (.panicking c) H
  | _ => none
theorem finishT_sim {P : Program} {X : Xf} {K K' : Kf} {bad : List Nat} (hgp : GoodP P bad) (hK : KLe K K') {N : Nat} {fn : Func} {r : End × Heap} : KSo r (finishT P bad X K N fn) (finishR P X K' N fn) := by
  intro o t ds a H hs h
  unfold finishR
  rw [hs.ds]
  cases o with
  | norm => exact leaveT_sim hgp hK hs.tree _ _ _ h
  | ret => exact leaveT_sim hgp hK hs.tree _ _ _ h
  | pan c => exact leaveT_sim hgp hK hs.tree _ _ _ h
  | _ => cases h

/-- Calls to a depth, over frames that are trees. -/
noncomputable def callT (P : Program) (bad : List Nat) (X : Xf) (N : Nat) (hk : Hook) : Nat → Kf
  | 0 => fun _ _ _ => none
  | d + 1 => fun f args H =>
    match hk f args H with
    | some r => r
    | none => cond (bad.any (Nat.beq f)) none
      (match P.funcs[f]? with
      | some fn => match fn.body with
        | some c => startT fn.ntmps args fun t => execT P X (callT P bad X N hk d) N c none t [] H (finishT P bad X (callT P bad X N hk d) N fn)
        | none => none
      | none => none)
theorem callT_le {P : Program} {X : Xf} {N : Nat} {hk : Hook} {bad : List Nat} (hgp : GoodP P bad) : ∀ d, KLe (callT P bad X N hk d) (callR P X N hk d)
  | 0 => fun f args H r h => by cases h
  | d + 1 => fun f args H r h => by
    unfold callT at h
    unfold callR
    split at h
    · rename_i q e; simp only [e]; exact h
    · rename_i e
      simp only [e]
      cases hb : bad.any (Nat.beq f) with
      | true => rw [hb] at h; cases h
      | false =>
      rw [hb] at h
      simp only [cond_false] at h
      split at h
      · rename_i fn hf
        simp only [hf]
        split at h
        · rename_i c hc
          simp only [hc]
          obtain ⟨t, h1, h2⟩ := startT_some h
          exact execT_sim (callT_le hgp d) c (hgp _ _ _ hb hf hc) none _ _ (finishT_sim hgp (callT_le hgp d)) t [] _ H ⟨h2, rfl⟩ h1
        · cases h
      · cases h
theorem callT_sound {P : Program} {X : Xf} {N : Nat} {hk : Hook} {bad : List Nat} (hgp : GoodP P bad) (hX : XSnd P X) (hH : HookSnd P hk) (hm : P.follows .mixedOrders = true) (d : Nat) : KSnd P (callT P bad X N hk d) :=
  fun f args H r H' he => callR_sound hX hH hm d f args H r H' (callT_le hgp d _ _ _ _ he)
end Go.Am
