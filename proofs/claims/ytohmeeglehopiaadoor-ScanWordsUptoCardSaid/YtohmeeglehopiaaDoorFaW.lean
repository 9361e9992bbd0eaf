/- Stretches of operations over a frame that is a tree. -/
import Derived.Test.YtohmeeglehopiaaDoorFaT
namespace Go.Am

structure Sim (t : T) (ds : List Deferred) (a : Act) : Prop where
  tree : Rep t a.tmps
  ds : a.defers = ds
abbrev KT := T → List Deferred → Heap → R

/-- Continuations alike. -/
def KS (r : End × Heap) (k : KT) (k' : Act → Heap → R) : Prop := ∀ t ds a H, Sim t ds a → k t ds H = some r → k' a H = some r

def binOf (o : Oper) : Option (BinOp × Operand × Operand) := match o.op with | .binOp op _ x y _ => some (op, x, y) | _ => none
def movOf (o : Oper) : Option Operand := match o.op with | .move x | .assign x => some x | _ => none
def callOf (o : Oper) : Option Call := match o.op with | .defer c => some c | _ => none
noncomputable def stT (P : Program) (o : Oper) (t : T) (ds : List Deferred) (k : KT) (v : Value) (H : Heap) : R :=
  typedF (P.underlying o.type) v fun v => forceV v fun v => putT o.dst t v fun t => k t ds H
def asNat (v : Value) (f : IntKind → Nat → R) (g : R) : R := match v with | .int k (.ofNat n) => f k n | _ => g
noncomputable def binT (op : BinOp) (x y : Value) (kv : Value → R) (gen : R) : R :=
  asNat x (fun ka a => asNat y (fun kb b => cond (Nat.beq (tagK ka) (tagK kb)) (fastI op ka a b kv gen) gen) gen) gen
noncomputable def opT (P : Program) (X : Xf) (K : Kf) (o : Oper) (t : T) (ds : List Deferred) (H : Heap) (k : KT) (kp : List PanicEntry → KT) : R :=
  match movOf o with
    | some x => stT P o t ds k (evalT t x) H
    | none => match binOf o with
      | some (op, x, y) => binT op (evalT t x) (evalT t y) (fun v => stT P o t ds k v H) (opK P X K (evalT t) o H (stT P o t ds k) fun c H => kp c t ds H)
      | none => match callOf o with
        | some c => (match deferOf (evalT t) c with | some d => putT o.dst t undef fun t => k t (d :: ds) H | none => none)
        | none => opK P X K (evalT t) o H (stT P o t ds k) fun c H => kp c t ds H

theorem stT_sim {P : Program} {o : Oper} {t : T} {ds : List Deferred} {a : Act} {r : End × Heap} {k : KT} {k' : Act → Heap → R} (hs : Sim t ds a) (hk : KS r k k') {v : Value} {H : Heap} (h : stT P o t ds k v H = some r) :
    typed (P.underlying o.type) v (fun v => k' (a.put o.dst v) H) = some r := by
  have h := typedF_some h
  rw [forceV_eq] at h
  obtain ⟨t', h1, h2, h3⟩ := putT_some h hs.tree
  exact hk _ _ _ _ ⟨h2, h3.trans hs.ds⟩ h1

theorem asNat_some {v : Value} {f : IntKind → Nat → R} {g : R} {r : End × Heap} (h : asNat v f g = some r) : (∃ k n, v = .int k (.ofNat n) ∧ f k n = some r) ∨ g = some r := by
  unfold asNat at h
  split at h
  · exact .inl ⟨_, _, rfl, h⟩
  · exact .inr h

theorem opT_sim {P : Program} {X : Xf} {K K' : Kf} (hK : KLe K K') {o : Oper} {t : T} {ds : List Deferred} {a : Act} {H : Heap} {r : End × Heap} {k : KT} {k' : Act → Heap → R} {kp : List PanicEntry → KT} {kp' : List PanicEntry → Act → Heap → R}
    (hok : opOk P o = true) (hs : Sim t ds a) (hk : KS r k k') (hp : ∀ c, KS r (kp c) (kp' c)) (h : opT P X K o t ds H k kp = some r) : execOp1 P X K' o a H k' kp' = some r := by
  unfold opT at h
  unfold execOp1
  rw [hok]
  simp only [cond_true]
  have gen : opK P X K (evalT t) o H (stT P o t ds k) (fun c H => kp c t ds H) = some r →
      opK P X K' a.eval o H (fun v H => typed (P.underlying o.type) v fun v => k' (a.put o.dst v) H) (fun c H => kp' c a H) = some r := by
    rw [evalT_eq hs.tree]
    exact opK_mono hK (fun v H => stT_sim hs hk) (fun c H => hp c _ _ _ _ hs)
  split at h
  · rename_i x hm
    unfold movOf at hm
    split at hm
    · rename_i y e
      obtain rfl := Option.some.inj hm
      rw [e]
      simp only [opK, e]
      rw [← evalT_eq hs.tree]
      exact stT_sim hs hk h
    · rename_i y e
      obtain rfl := Option.some.inj hm
      rw [e]
      simp only [opK, e]
      rw [← evalT_eq hs.tree]
      exact stT_sim hs hk h
    · cases hm
  · split at h
    · rename_i op x y hb
      unfold binOf at hb
      split at hb
      · rename_i op' ty x' y' q e
        obtain ⟨rfl, rfl, rfl⟩ : op' = op ∧ x' = x ∧ y' = y := by
          have := Option.some.inj hb
          simp only [Prod.mk.injEq] at this
          exact this
        have gen' := gen
        rw [e]
        simp only [opK, e] at gen' ⊢
        rcases asNat_some h with ⟨ka, m, e1, h⟩ | h
        · rcases asNat_some h with ⟨kb, n, e2, h⟩ | h
          · cases et : Nat.beq (tagK ka) (tagK kb) with
            | false => rw [et] at h; exact gen' (by simpa only [opK, e, cond_false] using h)
            | true =>
              rw [et] at h
              obtain rfl := tagK_inj (Nat.eq_of_beq_eq_true et)
              rw [evalT_eq hs.tree] at e1 e2
              simp only [cond_true] at h
              have big : fastI op' ka m n (fun v => stT P o t ds k v H) (opK P X K (evalT t) o H (stT P o t ds k) (fun c H => kp c t ds H)) = some r → _ :=
                fun h => fastI_some (P := P) (t := ty) (x := x') (y := y') h (fun h => by
                  rw [evalT_eq hs.tree] at h
                  simp only [opK, e, e1, e2] at h
                  exact h)
              have h2 := big h
              rw [e1, e2]
              exact bindO_mono (fun v => groundK_mono (stT_sim hs hk)) h2
          · exact gen' (by simpa only [opK, e] using h)
        · exact gen' (by simpa only [opK, e] using h)
      · cases hb
    · split at h
      · rename_i c hc
        unfold callOf at hc
        split at hc
        · rename_i c' e
          obtain rfl := Option.some.inj hc
          rw [e]
          simp only
          rw [evalT_eq hs.tree] at h
          split at h
          · rename_i d hd
            rw [hd]
            simp only
            obtain ⟨t', h1, h2, h3⟩ := putT_some (a := { a with defers := d :: a.defers }) h hs.tree
            exact hk _ _ _ _ ⟨h2, h3.trans (by simp [hs.ds])⟩ h1
          · cases h
        · cases hc
      · rename_i hc
        have := gen h
        split
        · rename_i c e
          simp [callOf, e] at hc
        · exact this

noncomputable def guardT (ops : Array Oper) (o : Oper) (t : T) (run skip : R) : R :=
  match o.guard with
  | none => run
  | some (j, want) =>
    match (ops[j]?).bind (·.dst) with
    | none => skip
    | some d => match rdP (path d) t with
      | some (.bool b) => cond b (cond want run skip) (cond want skip run)
      | some (.tuple _) => skip
      | _ => none
theorem guardT_sim {ops : Array Oper} {o : Oper} {t : T} {ds : List Deferred} {a : Act} {r : End × Heap} {run skip : R} {run' skip' : Act → R} (hs : Sim t ds a)
    (hr : ∀ a, Sim t ds a → run = some r → run' a = some r) (hk : ∀ a, Sim t ds a → skip = some r → skip' a = some r) (h : guardT ops o t run skip = some r) : guardK ops o a run' skip' = some r := by
  unfold guardT at h
  unfold guardK
  split at h
  · rename_i e; simp only [e]; exact hr a hs h
  · rename_i j want e
    simp only [e]
    split at h
    · rename_i e2; simp only [e2]; exact hk a hs h
    · rename_i d e2
      simp only [e2]
      rw [rd_path, hs.tree d] at h
      split at h
      · rename_i b e3
        simp only [e3, splitB_eq]
        have hs' : Sim t ds { a with tmps := a.tmps.setIfInBounds d (.bool b) } := by
          refine ⟨fun i => ?_, hs.ds⟩
          rw [hs.tree i, Array.getElem?_setIfInBounds]
          by_cases c : d = i
          · subst c
            have := (Array.getElem?_eq_some_iff.mp e3).1
            have e4 := (Array.getElem?_eq_some_iff.mp e3).2
            simp [this, e4]
          · simp [c]
        cases b <;> cases want <;> simp only [cond_true, cond_false] at h <;> first
          | exact hr _ hs' h
          | exact hk _ hs' h
      · rename_i e3; simp only [e3]; exact hk a hs h
      · cases h

noncomputable def execOpsT (P : Program) (X : Xf) (K : Kf) (ops : Array Oper) (l : List Oper) : T → List Deferred → Heap → KT → (List PanicEntry → KT) → R :=
  List.rec (motive := fun _ => T → List Deferred → Heap → KT → (List PanicEntry → KT) → R) (fun t ds H k _ => k t ds H)
    (fun o _ ih t ds H k kp => guardT ops o t (opT P X K o t ds H (fun t ds H => ih t ds H k kp) kp) (putT o.dst t undef fun t => ih t ds H k kp)) l
theorem execOpsT_sim {P : Program} {X : Xf} {K K' : Kf} (hK : KLe K K') {ops : Array Oper} {r : End × Heap} {k : KT} {k' : Act → Heap → R} {kp : List PanicEntry → KT} {kp' : List PanicEntry → Act → Heap → R}
    (hk : KS r k k') (hp : ∀ c, KS r (kp c) (kp' c)) : ∀ (l : List Oper) (_ : ∀ o ∈ l, opOk P o = true) (t : T) (ds : List Deferred) (a : Act) (H : Heap), Sim t ds a → execOpsT P X K ops l t ds H k kp = some r → execOps P X K' ops l a H k' kp' = some r
  | [], _, t, ds, a, H, hs, h => hk _ _ _ _ hs h
  | o :: rest, hall, t, ds, a, H, hs, h => by
    have ho := hall o (List.mem_cons_self ..)
    have hr := fun o h => hall o (List.mem_cons_of_mem _ h)
    have h' : guardT ops o t (opT P X K o t ds H (fun t ds H => execOpsT P X K ops rest t ds H k kp) kp) (putT o.dst t undef fun t => execOpsT P X K ops rest t ds H k kp) = some r := h
    show guardK ops o a _ _ = some r
    refine guardT_sim hs (fun a hs h => ?_) (fun a hs h => ?_) h'
    · exact opT_sim hK ho hs (fun t ds a H hs h => execOpsT_sim hK hk hp rest hr t ds a H hs h) hp h
    · obtain ⟨t', h1, h2, h3⟩ := putT_some h hs.tree
      exact execOpsT_sim hK hk hp rest hr _ _ _ _ ⟨h2, h3.trans hs.ds⟩ h1

/-- Traces alike. -/
def TrR (l : List (T × Heap)) (l' : List (Act × Heap)) : Prop := l.length = l'.length ∧ ∀ (i : Nat) x y, l[i]? = some x → l'[i]? = some y → Rep x.1 y.1.tmps ∧ x.2 = y.2
theorem TrR.push {l : List (T × Heap)} {l' : List (Act × Heap)} (h : TrR l l') {t : T} {a : Act} (ha : Rep t a.tmps) (H : Heap) : TrR (l ++ [(t, H)]) (l' ++ [(a, H)]) := by
  refine ⟨by simp [h.1], fun i x y hx hy => ?_⟩
  by_cases c : i < l.length
  · have c' : i < l'.length := h.1 ▸ c
    rw [List.getElem?_append_left c] at hx
    rw [List.getElem?_append_left c'] at hy
    exact h.2 i x y hx hy
  · have c' : ¬ i < l'.length := h.1 ▸ c
    rw [List.getElem?_append_right (by omega)] at hx
    rw [List.getElem?_append_right (by omega)] at hy
    have e : i - l.length = i - l'.length := by rw [h.1]
    rw [e] at hx
    cases hj : i - l'.length with
    | zero => rw [hj] at hx hy; simp at hx hy; subst hx hy; exact ⟨ha, rfl⟩
    | succ j => rw [hj] at hx; simp at hx

noncomputable def execTrT (P : Program) (X : Xf) (K : Kf) (ops : Array Oper) (l : List Oper) : T → List Deferred → Heap → List (T × Heap) → (List (T × Heap) → KT) → R :=
  List.rec (motive := fun _ => T → List Deferred → Heap → List (T × Heap) → (List (T × Heap) → KT) → R) (fun t ds H tr k => k (tr ++ [(t, H)]) t ds H)
    (fun o _ ih t ds H tr k => guardT ops o t (opT P X K o t ds H (fun t' ds' H' => ih t' ds' H' (tr ++ [(t, H)]) k) (fun _ _ _ _ => none)) (putT o.dst t undef fun t' => ih t' ds H (tr ++ [(t, H)]) k)) l
theorem execTrT_sim {P : Program} {X : Xf} {K K' : Kf} (hK : KLe K K') {ops : Array Oper} {r : End × Heap} {k : List (T × Heap) → KT} {k' : List (Act × Heap) → Act → Heap → R} :
    ∀ (l : List Oper) (_ : ∀ o ∈ l, opOk P o = true) (n : Nat) (_ : ∀ tr tr', TrR tr tr' → tr'.length = n + l.length + 1 → KS r (k tr) (k' tr')) (t : T) (ds : List Deferred) (a : Act) (H : Heap) (tr : List (T × Heap)) (tr' : List (Act × Heap)), TrR tr tr' → tr'.length = n → Sim t ds a →
      execTrT P X K ops l t ds H tr k = some r → execTr P X K' ops l a H tr' k' = some r
  | [], _, n, hk, t, ds, a, H, tr, tr', ht, hn, hs, h => hk _ _ (ht.push hs.tree H) (by simp [hn]) _ _ _ _ hs h
  | o :: rest, hall, n, hk, t, ds, a, H, tr, tr', ht, hn, hs, h => by
    have ho := hall o (List.mem_cons_self ..)
    have hr := fun o h => hall o (List.mem_cons_of_mem _ h)
    have h' : guardT ops o t (opT P X K o t ds H (fun t' ds' H' => execTrT P X K ops rest t' ds' H' (tr ++ [(t, H)]) k) (fun _ _ _ _ => none)) (putT o.dst t undef fun t' => execTrT P X K ops rest t' ds H (tr ++ [(t, H)]) k) = some r := h
    show guardK ops o a _ _ = some r
    have hk' : ∀ tr tr', TrR tr tr' → tr'.length = (n + 1) + rest.length + 1 → KS r (k tr) (k' tr') := fun tr tr' h1 h2 => hk tr tr' h1 (by rw [h2]; simp; omega)
    refine guardT_sim hs (fun a hs h => ?_) (fun a hs h => ?_) h'
    · exact opT_sim hK ho hs (fun t2 ds2 a2 H2 hs2 h2 => execTrT_sim hK rest hr (n + 1) hk' t2 ds2 a2 H2 _ _ (ht.push hs.tree H) (by simp [hn]) hs2 h2) (fun c t ds a H hs h => by cases h) h
    · obtain ⟨t', h1, h2, h3⟩ := putT_some h hs.tree
      exact execTrT_sim hK rest hr (n + 1) hk' _ _ _ _ _ _ (ht.push hs.tree H) (by simp [hn]) ⟨h2, h3.trans hs.ds⟩ h1

/-- Which values must be looked at again: told by the code alone. -/
def drawPairs (P : Program) (ops : List Oper) : List (Nat × Nat) :=
  let b := masks ops []
  let n := ops.length
  (List.range n).flatMap fun i => match ops[i]? with
    | some oi => cond (decide (cls P oi = 1)) ((List.range n).filter fun p => match ops[p]? with
        | some op => decide (cls P op = 2 ∧ (b.getD i 0).testBit p = false ∧ (b.getD p 0).testBit i = false)
        | none => false) [] |>.map fun p => (i, p)
    | none => []
noncomputable def guardBT (ops : Array Oper) (o : Oper) (t : T) : Option Bool :=
  match o.guard with
  | none => some true
  | some (j, want) =>
    match (ops[j]?).bind (·.dst) with
    | none => some false
    | some d =>
      match rdP (path d) t with
      | some (.bool b) => some (b == want)
      | some (.tuple _) => some false
      | _ => none
theorem guardBT_eq {ops : Array Oper} {o : Oper} {t : T} {a : Act} (h : Rep t a.tmps) : guardBT ops o t = guardB ops o a := by
  unfold guardBT guardB
  cases o.guard with
  | none => rfl
  | some q =>
    obtain ⟨j, want⟩ := q
    simp only
    cases (ops[j]?).bind (·.dst) with
    | none => rfl
    | some d =>
      simp only [rd_path, h d]
      cases a.tmps[d]? with
      | none => rfl
      | some v => cases v <;> rfl
noncomputable def pairChk (P : Program) (ops : Array Oper) (tr : List (T × Heap)) (i p : Nat) : Bool :=
  match ops.toList[i]?, tr[i]?, tr[i + 1]?, tr[p]?, tr[p + 1]? with
  | some oi, some ti, some tn, some tp, some tq =>
    match guardBT ops oi ti.1 with
    | some true => (match oi.dst with
      | some d =>
        (match qval P (evalT ti.1) oi tp.2 with | some v => veq v ((rdP (path d) tn.1).getD undef) | none => false) &&
        (match qval P (evalT ti.1) oi tq.2 with | some v => veq v ((rdP (path d) tn.1).getD undef) | none => false)
      | none => false)
    | _ => true
  | _, _, _, _, _ => false
noncomputable def drawChkT (P : Program) (ops : Array Oper) (tr : List (T × Heap)) : Bool := (drawPairs P ops.toList).all fun x => pairChk P ops tr x.1 x.2

theorem drawChk_of {P : Program} {ops : Array Oper} {tr : List (T × Heap)} {tr' : List (Act × Heap)} (h : TrR tr tr') (hn : tr'.length = ops.toList.length + 1) (hc : drawChkT P ops tr = true) : drawChk P ops tr' = true := by
  unfold drawChk
  simp only [List.all_eq_true, List.mem_range]
  intro i hi
  have g0 : ∃ oi, ops.toList[i]? = some oi := ⟨_, List.getElem?_eq_getElem hi⟩
  have gt : ∀ j, j ≤ ops.toList.length → ∃ x y, tr[j]? = some x ∧ tr'[j]? = some y ∧ Rep x.1 y.1.tmps ∧ x.2 = y.2 := fun j hj => by
    have c' : j < tr'.length := by omega
    have c : j < tr.length := by rw [h.1]; exact c'
    exact ⟨_, _, List.getElem?_eq_getElem c, List.getElem?_eq_getElem c', h.2 j _ _ (List.getElem?_eq_getElem c) (List.getElem?_eq_getElem c')⟩
  obtain ⟨oi, e0⟩ := g0
  obtain ⟨xi, yi, a1, a2, a3, a4⟩ := gt i (by omega)
  obtain ⟨xn, yn, b1, b2, b3, b4⟩ := gt (i + 1) (by omega)
  rw [e0, a2, b2]
  simp only
  split
  · rename_i hg
    simp only [List.all_eq_true, List.mem_range]
    intro p hp
    obtain ⟨op, e1⟩ : ∃ op, ops.toList[p]? = some op := ⟨_, List.getElem?_eq_getElem hp⟩
    rw [e1]
    simp only
    split
    · rename_i hq
      obtain ⟨xp, yp, c1, c2, c3, c4⟩ := gt p (by omega)
      obtain ⟨xq, yq, d1, d2, d3, d4⟩ := gt (p + 1) (by omega)
      have hmem : (i, p) ∈ drawPairs P ops.toList := by
        unfold drawPairs
        simp only [List.mem_flatMap, List.mem_range]
        refine ⟨i, hi, ?_⟩
        rw [e0]
        simp only [hg.1, decide_true, cond_true, List.mem_map, List.mem_filter, List.mem_range]
        refine ⟨p, ⟨hp, ?_⟩, rfl⟩
        rw [e1]
        exact decide_eq_true hq
      have hchk := List.all_eq_true.mp hc _ hmem
      unfold pairChk at hchk
      rw [e0, a1, b1, c1, d1] at hchk
      simp only [guardBT_eq a3, hg.2] at hchk
      rw [c2, d2]
      cases hd : oi.dst with
      | none => rw [hd] at hchk; cases hchk
      | some d =>
        rw [hd] at hchk
        simp only [evalT_eq a3, rd_path, b3 d, c4, d4] at hchk ⊢
        generalize qval P yi.1.eval oi yp.2 = q1 at hchk ⊢
        generalize qval P yi.1.eval oi yq.2 = q2 at hchk ⊢
        cases q1 <;> cases q2 <;> first
          | (simp at hchk; done)
          | simpa using hchk
    · rfl
  · rfl
end Go.Am
/- Code and calls over frames that are trees. -/
namespace Go.Am

abbrev KO := Out → KT
def KSo (r : End × Heap) (k : KO) (k' : Out → Act → Heap → R) : Prop := ∀ o, KS r (k o) (k' o)

noncomputable def loopT (body : T → List Deferred → Heap → KO → R) (n : Nat) : T → List Deferred → Heap → KO → R :=
  Nat.rec (motive := fun _ => T → List Deferred → Heap → KO → R) (fun _ _ _ _ => none)
    (fun _ ih t ds H k => body t ds H fun o t ds H => match o with | .norm => ih t ds H k | o => k o t ds H) n
def BSim (r : End × Heap) (body : T → List Deferred → Heap → KO → R) (body' : Act → Heap → (Out → Act → Heap → R) → R) : Prop :=
  ∀ k k', KSo r k k' → ∀ t ds a H, Sim t ds a → body t ds H k = some r → body' a H k' = some r
theorem loopT_sim {r : End × Heap} {body : T → List Deferred → Heap → KO → R} {body' : Act → Heap → (Out → Act → Heap → R) → R} (hb : BSim r body body') : ∀ n, BSim r (loopT body n) (loopC body' n)
  | 0, _, _, _, _, _, _, _, _, h => by cases h
  | n + 1, k, k', hk, t, ds, a, H, hs, h => by
    refine hb _ _ (fun o t ds a H hs h => ?_) t ds a H hs h
    cases o with
    | norm => exact loopT_sim hb n k k' hk _ _ _ _ hs h
    | _ => exact hk _ _ _ _ _ hs h

noncomputable def scopeT (c : Code) (body : Option Nat → T → List Deferred → Heap → KO → R) (n : Nat) : Option Nat → T → List Deferred → Heap → KO → R :=
  Nat.rec (motive := fun _ => Option Nat → T → List Deferred → Heap → KO → R) (fun _ _ _ _ _ => none)
    (fun _ ih s t ds H k => body s t ds H fun o t ds H => match o with | .goto l => cond (hasLabel l c) (ih (some l) t ds H k) (k (.goto l) t ds H) | o => k o t ds H) n
theorem scopeT_sim {r : End × Heap} {c : Code} {body : Option Nat → T → List Deferred → Heap → KO → R} {body' : Option Nat → Act → Heap → (Out → Act → Heap → R) → R} (hb : ∀ s, BSim r (body s) (body' s)) :
    ∀ n s, BSim r (scopeT c body n s) (scopeC c body' n s)
  | 0, _, _, _, _, _, _, _, _, _, h => by cases h
  | n + 1, s, k, k', hk, t, ds, a, H, hs, h => by
    refine hb s _ _ (fun o t ds a H hs h => ?_) t ds a H hs h
    cases o with
    | goto l =>
      simp only at h ⊢
      cases e : hasLabel l c with
      | true => rw [e] at h; exact scopeT_sim hb n _ k k' hk _ _ _ _ hs h
      | false => rw [e] at h; exact hk _ _ _ _ _ hs h
    | _ => exact hk _ _ _ _ _ hs h

noncomputable def execT (P : Program) (X : Xf) (K : Kf) (N : Nat) (c : Code) : Option Nat → T → List Deferred → Heap → KO → R :=
  Code.rec (motive := fun _ => Option Nat → T → List Deferred → Heap → KO → R)
    (skip := fun s t ds H k => Option.rec (motive := fun _ => R) (k .norm t ds H) (fun _ => none) s)
    (region := fun _ ops draw s t ds H k => Option.rec (motive := fun _ => R)
      (cond draw (execTrT P X K ops ops.toList t ds H [] fun tr t ds H => cond (drawChkT P ops tr) (k .norm t ds H) none)
        (execOpsT P X K ops ops.toList t ds H (k .norm) (fun c => k (.pan c)))) (fun _ => none) s)
    (seq := fun x _ ihx ihy s t ds H k => Option.rec (motive := fun _ => R)
      (ihx none t ds H fun o t ds H => match o with | .norm => ihy none t ds H k | o => k o t ds H)
      (fun l => cond (hasLabel l x) (ihx (some l) t ds H fun o t ds H => match o with | .norm => ihy none t ds H k | o => k o t ds H) (ihy (some l) t ds H k)) s)
    (cond := fun c _ _ ihx ihy s t ds H k => Option.rec (motive := fun _ => R) (match evalT t c with | .bool b => cond b (ihx none t ds H k) (ihy none t ds H k) | _ => none) (fun _ => none) s)
    (block := fun id _ ih s t ds H k => Option.rec (motive := fun _ => R) (ih none t ds H fun o t ds H => match o with | .exit i => cond (i == id) (k .norm t ds H) (k (.exit i) t ds H) | o => k o t ds H) (fun _ => none) s)
    (loop := fun _ ih s t ds H k => Option.rec (motive := fun _ => R) (loopT (ih none) N t ds H k) (fun _ => none) s)
    (rangeFunc := fun _ _ _ _ _ _ _ _ _ _ _ => none)
    (exit := fun id s t ds H k => Option.rec (motive := fun _ => R) (k (.exit id) t ds H) (fun _ => none) s)
    (scope := fun b ih s t ds H k => Option.rec (motive := fun _ => R) (scopeT b ih N none t ds H k) (fun _ => none) s)
    (label := fun l' s t ds H k => Option.rec (motive := fun _ => R) (k .norm t ds H) (fun l => cond (l' == l) (k .norm t ds H) none) s)
    (goto := fun l s t ds H k => Option.rec (motive := fun _ => R) (k (.goto l) t ds H) (fun _ => none) s)
    (ret := fun s t ds H k => Option.rec (motive := fun _ => R) (k .ret t ds H) (fun _ => none) s)
    (refuse := fun _ _ _ _ _ _ => none) c

theorem seq_sim {r : End × Heap} {b2 : T → List Deferred → Heap → KO → R} {b2' : Act → Heap → (Out → Act → Heap → R) → R} (h2 : BSim r b2 b2') {k : KO} {k' : Out → Act → Heap → R} (hk : KSo r k k') :
    KSo r (fun o t ds H => match o with | .norm => b2 t ds H k | o => k o t ds H) (fun o a H => match o with | .norm => b2' a H k' | o => k' o a H) := by
  intro o t ds a H hs h
  cases o with
  | norm => exact h2 k k' hk _ _ _ _ hs h
  | _ => exact hk _ _ _ _ _ hs h

/-- What is told by the code alone: constants and globals; whether a region's order is bound enough. -/
def goodC (P : Program) : Code → Bool
  | .region _ ops draw => ops.toList.all (opOk P) && (!draw || drawOk P ops.toList)
  | .seq a b => goodC P a && goodC P b
  | .cond _ a b => goodC P a && goodC P b
  | .block _ b => goodC P b
  | .loop b => goodC P b
  | .scope b => goodC P b
  | _ => true
theorem execT_sim {P : Program} {X : Xf} {K K' : Kf} (hK : KLe K K') {N : Nat} {r : End × Heap} : ∀ (c : Code) (_ : goodC P c = true) (s : Option Nat), BSim r (execT P X K N c s) (exec P X K' N c s)
  | .skip, hg, none, k, k', hk, t, ds, a, H, hs, h => by unfold exec; exact hk _ _ _ _ _ hs h
  | .skip, hg, some _, k, k', hk, t, ds, a, H, hs, h => by cases h
  | .region id ops draw, hg, none, k, k', hk, t, ds, a, H, hs, h => by
    unfold exec
    simp only [goodC, Bool.and_eq_true] at hg
    have ho := fun o h => List.all_eq_true.mp hg.1 o h
    cases draw with
    | false =>
      exact execOpsT_sim (k' := fun a H => k' .norm a H) (kp' := fun c a H => k' (.pan c) a H) hK (fun t ds a H => hk .norm t ds a H) (fun c t ds a H => hk (.pan c) t ds a H) ops.toList ho t ds a H hs h
    | true =>
      have e : drawOk P ops.toList = true := by simpa using hg.2
      rw [e]
      simp only [cond_true]
      refine execTrT_sim (k' := fun tr af Hf => cond (drawChk P ops tr) (k' .norm af Hf) none) hK ops.toList ho 0 (fun tr tr' htr hn => ?_) t ds a H [] [] ⟨rfl, fun i x y hx => by simp at hx⟩ rfl hs h
      intro t ds a H hs h
      cases e2 : drawChkT P ops tr with
      | false => rw [e2] at h; cases h
      | true =>
        rw [e2] at h
        rw [drawChk_of htr (by rw [hn]; omega) e2]
        exact hk _ _ _ _ _ hs h
  | .region .., hg, some _, k, k', hk, t, ds, a, H, hs, h => by cases h
  | .seq x y, hg, none, k, k', hk, t, ds, a, H, hs, h => by
    simp only [goodC, Bool.and_eq_true] at hg
    unfold exec
    exact execT_sim hK x hg.1 none _ _ (seq_sim (execT_sim hK y hg.2 none) hk) t ds a H hs h
  | .seq x y, hg, some l, k, k', hk, t, ds, a, H, hs, h => by
    simp only [goodC, Bool.and_eq_true] at hg
    unfold exec
    have h' : cond (hasLabel l x) (execT P X K N x (some l) t ds H fun o t ds H => match o with | .norm => execT P X K N y none t ds H k | o => k o t ds H) (execT P X K N y (some l) t ds H k) = some r := h
    cases e : hasLabel l x with
    | true => rw [e] at h'; exact execT_sim hK x hg.1 (some l) _ _ (seq_sim (execT_sim hK y hg.2 none) hk) t ds a H hs h'
    | false => rw [e] at h'; exact execT_sim hK y hg.2 (some l) _ _ hk t ds a H hs h'
  | .cond c x y, hg, none, k, k', hk, t, ds, a, H, hs, h => by
    simp only [goodC, Bool.and_eq_true] at hg
    unfold exec
    have h' : (match evalT t c with | .bool b => cond b (execT P X K N x none t ds H k) (execT P X K N y none t ds H k) | _ => none) = some r := h
    rw [evalT_eq hs.tree] at h'
    split at h'
    · rename_i b e
      simp only [e]
      cases b with
      | true => exact execT_sim hK x hg.1 none _ _ hk t ds a H hs h'
      | false => exact execT_sim hK y hg.2 none _ _ hk t ds a H hs h'
    · cases h'
  | .cond .., hg, some _, k, k', hk, t, ds, a, H, hs, h => by cases h
  | .block id b, hg, none, k, k', hk, t, ds, a, H, hs, h => by
    unfold exec
    refine execT_sim hK b hg none _ _ (fun o t ds a H hs h => ?_) t ds a H hs h
    cases o with
    | exit i =>
      simp only at h ⊢
      cases e : (i == id) with
      | true => rw [e] at h; exact hk _ _ _ _ _ hs h
      | false => rw [e] at h; exact hk _ _ _ _ _ hs h
    | _ => exact hk _ _ _ _ _ hs h
  | .block .., hg, some _, k, k', hk, t, ds, a, H, hs, h => by cases h
  | .loop b, hg, none, k, k', hk, t, ds, a, H, hs, h => by
    unfold exec
    exact loopT_sim (execT_sim hK b hg none) N k k' hk t ds a H hs h
  | .loop _, hg, some _, k, k', hk, t, ds, a, H, hs, h => by cases h
  | .rangeFunc .., hg, s, k, k', hk, t, ds, a, H, hs, h => by cases h
  | .exit id, hg, none, k, k', hk, t, ds, a, H, hs, h => by unfold exec; exact hk _ _ _ _ _ hs h
  | .exit _, hg, some _, k, k', hk, t, ds, a, H, hs, h => by cases h
  | .scope b, hg, none, k, k', hk, t, ds, a, H, hs, h => by
    unfold exec
    exact scopeT_sim (fun s => execT_sim hK b hg s) N none k k' hk t ds a H hs h
  | .scope _, hg, some _, k, k', hk, t, ds, a, H, hs, h => by cases h
  | .label l', hg, none, k, k', hk, t, ds, a, H, hs, h => by unfold exec; exact hk _ _ _ _ _ hs h
  | .label l', hg, some l, k, k', hk, t, ds, a, H, hs, h => by
    unfold exec
    have h' : cond (l' == l) (k .norm t ds H) none = some r := h
    cases e : (l' == l) with
    | true => rw [e] at h'; exact hk _ _ _ _ _ hs h'
    | false => rw [e] at h'; cases h'
  | .goto l, hg, none, k, k', hk, t, ds, a, H, hs, h => by unfold exec; exact hk _ _ _ _ _ hs h
  | .goto _, hg, some _, k, k', hk, t, ds, a, H, hs, h => by cases h
  | .ret, hg, none, k, k', hk, t, ds, a, H, hs, h => by unfold exec; exact hk _ _ _ _ _ hs h
  | .ret, hg, some _, k, k', hk, t, ds, a, H, hs, h => by cases h
  | .refuse _, hg, s, k, k', hk, t, ds, a, H, hs, h => by cases h

noncomputable def resT (P : Program) (t : T) (H : Heap) : List ResultVar → Option (List Value)
  | [] => some []
  | .tmp i :: r => match resT P t H r with | some l => some ((rdP (path i) t).getD undef :: l) | none => none
  | .cell i ty :: r => match loadA P ty ((rdP (path i) t).getD undef) H with
    | some (v, _) => match resT P t H r with | some l => some (v :: l) | none => none
    | none => none
theorem resT_eq {P : Program} {t : T} {ts : Array Value} (h : Rep t ts) (H : Heap) : ∀ l, resT P t H l = resL P ts H l
  | [] => rfl
  | .tmp i :: r => by
    unfold resT resL
    have e : (ts[i]?).getD undef = ts.getD i undef := by simp
    rw [resT_eq h H r, rd_path, h i, e]
    cases resL P ts H r <;> rfl
  | .cell i ty :: r => by
    unfold resT resL
    have e : (ts[i]?).getD undef = ts.getD i undef := by simp
    rw [resT_eq h H r, rd_path, h i, e]
    cases loadA P ty (ts.getD i undef) H with
    | none => rfl
    | some x => cases resL P ts H r <;> rfl

noncomputable def finDT (P : Program) (fn : Func) (u : FrameMode) (kd : End → FrameMode → Heap → R) (o : Out) (t : T) (ds : List Deferred) (H : Heap) : R :=
  match o with
  | .norm | .ret => match ds with
    | [] => match resT P t H fn.results.toList with | some l => kd (.ret (oneOf l)) u H | none => none
    | _ => none
  | .pan c => match ds with | [] => kd (.pan c) u H | _ => none
  | _ => none
theorem finDT_sim {P : Program} {fn : Func} {u : FrameMode} {kd kd' : End → FrameMode → Heap → R} {r : End × Heap} (hk : ∀ e u H, kd e u H = some r → kd' e u H = some r) : KSo r (finDT P fn u kd) (finD P fn u kd') := by
  intro o t ds a H hs h
  unfold finDT at h
  unfold finD
  split at h
  · simp only [hs.ds]
    split at h
    · rw [resT_eq hs.tree] at h
      simp only
      split at h
      · rename_i e; rw [e]; exact hk _ _ _ h
      · cases h
    · cases h
  · simp only [hs.ds]
    split at h
    · rw [resT_eq hs.tree] at h
      simp only
      split at h
      · rename_i e; rw [e]; exact hk _ _ _ h
      · cases h
    · cases h
  · simp only [hs.ds]
    split at h
    · exact hk _ _ _ h
    · cases h
  · cases h

noncomputable def bodyDT (P : Program) (X : Xf) (K : Kf) (N : Nat) (fn : Func) (c : Code) (args : Array Value) (u : FrameMode) (H : Heap) (kd : End → FrameMode → Heap → R) : R :=
  startT fn.ntmps args fun t => match c with
  | .seq (.region _ ops false) rest => match ops.toList with
    | o :: os => cond (isRec o)
      (putT o.dst t (recM u).1 fun t => execOpsT P X K ops os t [] H (fun t ds H => execT P X K N rest none t ds H (finDT P fn (recM u).2 kd)) (fun c t ds H => finDT P fn (recM u).2 kd (.pan c) t ds H))
      (execT P X K N c none t [] H (finDT P fn u kd))
    | [] => execT P X K N c none t [] H (finDT P fn u kd)
  | c => execT P X K N c none t [] H (finDT P fn u kd)
theorem bodyDT_sim {P : Program} {X : Xf} {K K' : Kf} (hK : KLe K K') {N : Nat} {fn : Func} {c : Code} {args : Array Value} {u : FrameMode} {H : Heap} {kd kd' : End → FrameMode → Heap → R} {r : End × Heap}
    (hg : goodC P c = true) (hk : ∀ e u H, kd e u H = some r → kd' e u H = some r) (h : bodyDT P X K N fn c args u H kd = some r) : bodyD P X K' N fn c args u H kd' = some r := by
  unfold bodyDT at h
  obtain ⟨t, h1, h2⟩ := startT_some h
  have hs : Sim t [] (act0 fn args) := ⟨h2, rfl⟩
  unfold bodyD
  split at h1
  · rename_i id ops rest
    simp only
    split at h1
    · rename_i o os e
      simp only [e]
      cases hi : isRec o with
      | true =>
        rw [hi] at h1
        simp only [goodC, Bool.and_eq_true] at hg
        have hall := fun o h => List.all_eq_true.mp hg.1.1 o h
        rw [e] at hall
        simp only [cond_true] at h1 ⊢
        obtain ⟨t', q1, q2, q3⟩ := putT_some (a := act0 fn args) h1 h2
        exact execOpsT_sim hK (fun t ds a H hs h => execT_sim hK rest hg.2 none _ _ (finDT_sim hk) t ds a H hs h) (fun c t ds a H hs h => finDT_sim hk (.pan c) t ds a H hs h) os (fun o h => hall o (List.mem_cons_of_mem _ h)) t' [] _ H ⟨q2, q3⟩ q1
      | false =>
        rw [hi] at h1
        exact execT_sim hK _ hg none _ _ (finDT_sim hk) t [] _ H hs h1
    · rename_i e
      simp only [e]
      exact execT_sim hK _ hg none _ _ (finDT_sim hk) t [] _ H hs h1
  · rename_i hno
    split
    · rename_i ops rest
      exact absurd rfl (hno _ _ _)
    · exact execT_sim hK _ hg none _ _ (finDT_sim hk) t [] _ H hs h1

/-- The code of all functions is so, but for some that are told. -/
def GoodP (P : Program) (bad : List Nat) : Prop := ∀ (f : FuncId) fn c, bad.any (Nat.beq f) = false → P.funcs[f]? = some fn → fn.body = some c → goodC P c = true
def goodF (P : Program) (fn : Func) : Bool := match fn.body with | some c => goodC P c | none => true
def goodAt (P : Program) (bad : List Nat) (f : Nat) : Bool := cond (bad.any (Nat.beq f)) true (match P.funcs[f]? with | some fn => goodF P fn | none => true)
theorem goodP_of {P : Program} {bad : List Nat} {n : Nat} (hn : P.funcs.size = n) (h : ∀ f, f < n → goodAt P bad f = true) : GoodP P bad := by
  intro f fn c hb hf hc
  have hlt := (Array.getElem?_eq_some_iff.mp hf).1
  have := h f (by omega)
  simp only [goodAt, hb, hf, cond_false, goodF, hc] at this
  exact this

noncomputable def leaveT (P : Program) (bad : List Nat) (X : Xf) (K : Kf) (N : Nat) (fn : Func) (t : T) : List Deferred → FrameMode → Heap → R
  | [], .returning, H => match resT P t H fn.results.toList with | some l => some (.ret (oneOf l), H) | none => none
  | [], .panicking c, H => some (.pan c, H)
  | [], .run, _ => none
  | _ :: _, .run, _ => none
  | d :: ds, u, H => match d.target with
    | .fn (.func g) cap => match P.funcs[g]? with
      | some gn => if gn.name == "runtime.NumGoroutine" || bad.any (Nat.beq g) then none else match gn.body with
        | some c => bodyDT P X K N gn c (d.args ++ cap) u H fun e u' H' => match e with
          | .ret _ => match settleA u' with | some u2 => leaveT P bad X K N fn t ds u2 H' | none => none
          | .pan ch => leaveT P bad X K N fn t ds (raised u' ch) H'
        | none => none
      | none => none
    | _ => none
theorem leaveT_sim {P : Program} {X : Xf} {K K' : Kf} {bad : List Nat} (hgp : GoodP P bad) (hK : KLe K K') {N : Nat} {fn : Func} {t : T} {ts : Array Value} (ht : Rep t ts) {r : End × Heap} : ∀ (ds : List Deferred) (u : FrameMode) (H : Heap), leaveT P bad X K N fn t ds u H = some r → leave P X K' N fn ts ds u H = some r := by
  intro ds
  induction ds with
  | nil =>
    intro u H h
    cases u with
    | returning => unfold leaveT at h; unfold leave; rw [resT_eq ht] at h; exact h
    | panicking c => unfold leaveT at h; unfold leave; exact h
    | run => unfold leaveT at h; cases h
  | cons d ds ih =>
    intro u H h
    have go : ∀ u, (match d.target with
      | .fn (.func g) cap => match P.funcs[g]? with
        | some gn => if gn.name == "runtime.NumGoroutine" || bad.any (Nat.beq g) then none else match gn.body with
          | some c => bodyDT P X K N gn c (d.args ++ cap) u H fun e u' H' => match e with
            | .ret _ => match settleA u' with | some u2 => leaveT P bad X K N fn t ds u2 H' | none => none
            | .pan ch => leaveT P bad X K N fn t ds (raised u' ch) H'
          | none => none
        | none => none
      | _ => none) = some r → (match d.target with
      | .fn (.func g) cap => match P.funcs[g]? with
        | some gn => if gn.name == "runtime.NumGoroutine" then none else match gn.body with
          | some c => bodyD P X K' N gn c (d.args ++ cap) u H fun e u' H' => match e with
            | .ret _ => match settleA u' with | some u2 => leave P X K' N fn ts ds u2 H' | none => none
            | .pan ch => leave P X K' N fn ts ds (raised u' ch) H'
          | none => none
        | none => none
      | _ => none) = some r := by
      intro u h
      split at h
      · split at h
        · rename_i gn hf
          split at h
          · cases h
          · rename_i hn
            simp only [Bool.or_eq_true, not_or, Bool.not_eq_true] at hn
            rw [if_neg (by rw [hn.1]; decide)]
            split at h
            · rename_i c hb
              refine bodyDT_sim hK (hgp _ _ _ hn.2 hf hb) (fun e u' H' h => ?_) h
              cases e with
              | ret v =>
                simp only at h ⊢
                split at h
                · rename_i u2 e2; exact ih _ _ h
                · cases h
              | pan ch => exact ih _ _ h
            · cases h
        · cases h
      · cases h
    cases u with
    | run => unfold leaveT at h; cases h
    | returning => unfold leaveT at h; unfold leave; exact go _ h
    | panicking c => unfold leaveT at h; unfold leave; exact go _ h

noncomputable def finishT (P : Program) (bad : List Nat) (X : Xf) (K : Kf) (N : Nat) (fn : Func) (o : Out) (t : T) (ds : List Deferred) (H : Heap) : R :=
  match o with
  | .norm | .ret => leaveT P bad X K N fn t ds .returning H
  | .pan c => leaveT P bad X K N fn t ds (.panicking c) H
  | _ => none
theorem finishT_sim {P : Program} {X : Xf} {K K' : Kf} {bad : List Nat} (hgp : GoodP P bad) (hK : KLe K K') {N : Nat} {fn : Func} {r : End × Heap} : KSo r (finishT P bad X K N fn) (finishR P X K' N fn) := by
  intro o t ds a H hs h
  unfold finishR
  rw [hs.ds]
  cases o with
  | norm => exact leaveT_sim hgp hK hs.tree _ _ _ h
  | ret => exact leaveT_sim hgp hK hs.tree _ _ _ h
  | pan c => exact leaveT_sim hgp hK hs.tree _ _ _ h
  | _ => cases h

/-- Calls to a depth, over frames that are trees. -/
noncomputable def callT (P : Program) (bad : List Nat) (X : Xf) (N : Nat) (hk : Hook) : Nat → Kf
  | 0 => fun _ _ _ => none
  | d + 1 => fun f args H =>
    match hk f args H with
    | some r => r
    | none => cond (bad.any (Nat.beq f)) none
      (match P.funcs[f]? with
      | some fn => match fn.body with
        | some c => startT fn.ntmps args fun t => execT P X (callT P bad X N hk d) N c none t [] H (finishT P bad X (callT P bad X N hk d) N fn)
        | none => none
      | none => none)
theorem callT_le {P : Program} {X : Xf} {N : Nat} {hk : Hook} {bad : List Nat} (hgp : GoodP P bad) : ∀ d, KLe (callT P bad X N hk d) (callR P X N hk d)
  | 0 => fun f args H r h => by cases h
  | d + 1 => fun f args H r h => by
    unfold callT at h
    unfold callR
    split at h
    · rename_i q e; simp only [e]; exact h
    · rename_i e
      simp only [e]
      cases hb : bad.any (Nat.beq f) with
      | true => rw [hb] at h; cases h
      | false =>
      rw [hb] at h
      simp only [cond_false] at h
      split at h
      · rename_i fn hf
        simp only [hf]
        split at h
        · rename_i c hc
          simp only [hc]
          obtain ⟨t, h1, h2⟩ := startT_some h
          exact execT_sim (callT_le hgp d) c (hgp _ _ _ hb hf hc) none _ _ (finishT_sim hgp (callT_le hgp d)) t [] _ H ⟨h2, rfl⟩ h1
        · cases h
      · cases h
theorem callT_sound {P : Program} {X : Xf} {N : Nat} {hk : Hook} {bad : List Nat} (hgp : GoodP P bad) (hX : XSnd P X) (hH : HookSnd P hk) (hm : P.follows .mixedOrders = true) (d : Nat) : KSnd P (callT P bad X N hk d) :=
  fun f args H r H' he => callR_sound hX hH hm d f args H r H' (callT_le hgp d _ _ _ _ he)
end Go.Am
