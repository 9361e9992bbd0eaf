/- Stretches of operations over a frame that is a tree. -/
import Derived.Test.YtpfpfpeockbbpaaGreatDoorFaV
namespace Go.Am

structure Sim (t : T) (ds : List Deferred) (a : Act) : Prop where
  tree : Rep t a.tmps
  ds : a.defers = ds
abbrev KT := T → List Deferred → Heap → R

/-- Continuations alike. -/
def KS (r : End × Heap) (k : KT) (k' : Act → Heap → R) : Prop := ∀ t ds a H, Sim t ds a → k t ds H = some r → k' a H = some r

def binOf (o : Oper) : Option (BinOp × Operand × Operand) := match o.op with | .binOp op _ x y _ => some (op, x, y) | _ => none
def movOf (o : Oper) : Option Operand := match o.op with | .move x | .assign x => some x | _ => none
def callOf (o : Oper) : Option Call := match o.op with | .defer c => some c | _ => none
noncomputable def stT (P : Program) (o : Oper) (t : T) (ds : List Deferred) (k : KT) (v : Value) (H : Heap) : R :=
  typedF (P.underlying o.type) v fun v => forceV v fun v => putT o.dst t v fun t => k t ds H
def asNat (v : Value) (f : IntKind → Nat → R) (g : R) : R := match v with | .int k (.ofNat n) => f k n | _ => g
noncomputable def binT (op : BinOp) (x y : Value) (kv : Value → R) (gen : R) : R :=
  asNat x (fun ka a => asNat y (fun kb b => cond (Nat.beq (tagK ka) (tagK kb)) (fastI op ka a b kv gen) gen) gen) gen
noncomputable def opT (P : Program) (X : Xf) (K : Kf) (o : Oper) (t : T) (ds : List Deferred) (H : Heap) (k : KT) (kp : List PanicEntry → KT) : R :=
  match movOf o with
    | some x => stT P o t ds k (evalT t x) H
    | none => match binOf o with
      | some (op, x, y) => binT op (evalT t x) (evalT t y) (fun v => stT P o t ds k v H) (opK P X K (evalT t) o H (stT P o t ds k) fun c H => kp c t ds H)
      | none => match callOf o with
        | some c => (match deferOf (evalT t) c with | some d => putT o.dst t undef fun t => k t (d :: ds) H | none => none)
        | none => opK P X K (evalT t) o H (stT P o t ds k) fun c H => kp c t ds H

theorem stT_sim {P : Program} {o : Oper} {t : T} {ds : List Deferred} {a : Act} {r : End × Heap} {k : KT} {k' : Act → Heap → R} (hs : Sim t ds a) (hk : KS r k k') {v : Value} {H : Heap} (h : stT P o t ds k v H = some r) :
    typed (P.underlying o.type) v (fun v => k' (a.put o.dst v) H) = some r := by
  have h := typedF_some h
  rw [forceV_eq] at h
  obtain ⟨t', h1, h2, h3⟩ := putT_some h hs.tree
  exact hk _ _ _ _ ⟨h2, h3.trans hs.ds⟩ h1

theorem asNat_some {v : Value} {f : IntKind → Nat → R} {g : R} {r : End × Heap} (h : asNat v f g = some r) : (∃ k n, v = .int k (.ofNat n) ∧ f k n = some r) ∨ g = some r := by
  unfold asNat at h
  split at h
  · exact .inl ⟨_, _, rfl, h⟩
  · exact .inr h

theorem opT_sim {P : Program} {X : Xf} {K K' : Kf} (hK : KLe K K') {o : Oper} {t : T} {ds : List Deferred} {a : Act} {H : Heap} {r : End × Heap} {k : KT} {k' : Act → Heap → R} {kp : List PanicEntry → KT} {kp' : List PanicEntry → Act → Heap → R}
    (hok : opOk P o = true) (hs : Sim t ds a) (hk : KS r k k') (hp : ∀ c, KS r (kp c) (kp' c)) (h : opT P X K o t ds H k kp = some r) : execOp1 P X K' o a H k' kp' = some r := by
  unfold opT at h
  unfold execOp1
  rw [hok]
  simp only [cond_true]
  have gen : opK P X K (evalT t) o H (stT P o t ds k) (fun c H => kp c t ds H) = some r →
      opK P X K' a.eval o H (fun v H => typed (P.underlying o.type) v fun v => k' (a.put o.dst v) H) (fun c H => kp' c a H) = some r := by
    rw [evalT_eq hs.tree]
    exact opK_mono hK (fun v H => stT_sim hs hk) (fun c H => hp c _ _ _ _ hs)
  split at h
  · rename_i x hm
    unfold movOf at hm
    split at hm
    · rename_i y e
      obtain rfl := Option.some.inj hm
      rw [e]
      simp only [opK, e]
      rw [← evalT_eq hs.tree]
      exact stT_sim hs hk h
    · rename_i y e
      obtain rfl := Option.some.inj hm
      rw [e]
      simp only [opK, e]
      rw [← evalT_eq hs.tree]
      exact stT_sim hs hk h
    · cases hm
  · split at h
    · rename_i op x y hb
      unfold binOf at hb
      split at hb
      · rename_i op' ty x' y' q e
        obtain ⟨rfl, rfl, rfl⟩ : op' = op ∧ x' = x ∧ y' = y := by
          have := Option.some.inj hb
          simp only [Prod.mk.injEq] at this
          exact this
        have gen' := gen
        rw [e]
        simp only [opK, e] at gen' ⊢
        rcases asNat_some h with ⟨ka, m, e1, h⟩ | h
        · rcases asNat_some h with ⟨kb, n, e2, h⟩ | h
          · cases et : Nat.beq (tagK ka) (tagK kb) with
            | false => rw [et] at h; exact gen' (by simpa only [opK, e, cond_false] using h)
            | true =>
              rw [et] at h
              obtain rfl := tagK_inj (Nat.eq_of_beq_eq_true et)
              rw [evalT_eq hs.tree] at e1 e2
              simp only [cond_true] at h
              have big : fastI op' ka m n (fun v => stT P o t ds k v H) (opK P X K (evalT t) o H (stT P o t ds k) (fun c H => kp c t ds H)) = some r → _ :=
                fun h => fastI_some (P := P) (t := ty) (x := x') (y := y') h (fun h => by
                  rw [evalT_eq hs.tree] at h
                  simp only [opK, e, e1, e2] at h
                  exact h)
              have h2 := big h
              rw [e1, e2]
              exact bindO_mono (fun v => groundK_mono (stT_sim hs hk)) h2
          · exact gen' (by simpa only [opK, e] using h)
        · exact gen' (by simpa only [opK, e] using h)
      · cases hb
    · split at h
      · rename_i c hc
        unfold callOf at hc
        split at hc
        · rename_i c' e
          obtain rfl := Option.some.inj hc
          rw [e]
          simp only
          rw [evalT_eq hs.tree] at h
          split at h
          · rename_i d hd
            rw [hd]
            simp only
            obtain ⟨t', h1, h2, h3⟩ := putT_some (a := { a with defers := d :: a.defers }) h hs.tree
            exact hk _ _ _ _ ⟨h2, h3.trans (by simp [hs.ds])⟩ h1
          · cases h
        · cases hc
      · rename_i hc
        have := gen h
        split
        · rename_i c e
          simp [callOf, e] at hc
        · exact this

noncomputable def guardT (ops : Array Oper) (o : Oper) (t : T) (run skip : R) : R :=
  match o.guard with
  | none => run
  | some (j, want) =>
    match (ops[j]?).bind (·.dst) with
    | none => skip
    | some d => match rdP (path d) t with
      | some (.bool b) => cond b (cond want run skip) (cond want skip run)
      | some (.tuple _) => skip
      | _ => none
theorem guardT_sim {ops : Array Oper} {o : Oper} {t : T} {ds : List Deferred} {a : Act} {r : End × Heap} {run skip : R} {run' skip' : Act → R} (hs : Sim t ds a)
    (hr : ∀ a, Sim t ds a → run = some r → run' a = some r) (hk : ∀ a, Sim t ds a → skip = some r → skip' a = some r) (h : guardT ops o t run skip = some r) : guardK ops o a run' skip' = some r := by
  unfold guardT at h
  unfold guardK
  split at h
  · rename_i e; simp only [e]; exact hr a hs h
  · rename_i j want e
    simp only [e]
    split at h
    · rename_i e2; simp only [e2]; exact hk a hs h
    · rename_i d e2
      simp only [e2]
      rw [rd_path, hs.tree d] at h
      split at h
      · rename_i b e3
        simp only [e3, splitB_eq]
        have hs' : Sim t ds { a with tmps := a.tmps.setIfInBounds d (.bool b) } := by
          refine ⟨fun i => ?_, hs.ds⟩
          rw [hs.tree i, Array.getElem?_setIfInBounds]
          by_cases c : d = i
          · subst c
            have := (Array.getElem?_eq_some_iff.mp e3).1
            have e4 := (Array.getElem?_eq_some_iff.mp e3).2
            simp [this, e4]
          · simp [c]
        cases b <;> cases want <;> simp only [cond_true, cond_false] at h <;> first
          | exact hr _ hs' h
          | exact hk _ hs' h
      · rename_i e3; simp only [e3]; exact hk a hs h
      · cases h

noncomputable def execOpsT (P : Program) (X : Xf) (K : Kf) (ops : Array Oper) (l : List Oper) : T → List Deferred → Heap → KT → (List PanicEntry → KT) → R :=
  List.rec (motive := fun _ => T → List Deferred → Heap → KT → (List PanicEntry → KT) → R) (fun t ds H k _ => k t ds H)
    (fun o _ ih t ds H k kp => guardT ops o t (opT P X K o t ds H (fun t ds H => ih t ds H k kp) kp) (putT o.dst t undef fun t => ih t ds H k kp)) l
theorem execOpsT_sim {P : Program} {X : Xf} {K K' : Kf} (hK : KLe K K') {ops : Array Oper} {r : End × Heap} {k : KT} {k' : Act → Heap → R} {kp : List PanicEntry → KT} {kp' : List PanicEntry → Act → Heap → R}
    (hk : KS r k k') (hp : ∀ c, KS r (kp c) (kp' c)) : ∀ (l : List Oper) (_ : ∀ o ∈ l, opOk P o = true) (t : T) (ds : List Deferred) (a : Act) (H : Heap), Sim t ds a → execOpsT P X K ops l t ds H k kp = some r → execOps P X K' ops l a H k' kp' = some r
  | [], _, t, ds, a, H, hs, h => hk _ _ _ _ hs h
  | o :: rest, hall, t, ds, a, H, hs, h => by
    have ho := hall o (List.mem_cons_self ..)
    have hr := fun o h => hall o (List.mem_cons_of_mem _ h)
    have h' : guardT ops o t (opT P X K o t ds H (fun t ds H => execOpsT P X K ops rest t ds H k kp) kp) (putT o.dst t undef fun t => execOpsT P X K ops rest t ds H k kp) = some r := h
    show guardK ops o a _ _ = some r
    refine guardT_sim hs (fun a hs h => ?_) (fun a hs h => ?_) h'
    · exact opT_sim hK ho hs (fun t ds a H hs h => execOpsT_sim hK hk hp rest hr t ds a H hs h) hp h
    · obtain ⟨t', h1, h2, h3⟩ := putT_some h hs.tree
      exact execOpsT_sim hK hk hp rest hr _ _ _ _ ⟨h2, h3.trans hs.ds⟩ h1

/-- Traces alike. -/
def TrR (l : List (T × Heap)) (l' : List (Act × Heap)) : Prop := l.length = l'.length ∧ ∀ (i : Nat) x y, l[i]? = some x → l'[i]? = some y → Rep x.1 y.1.tmps ∧ x.2 = y.2
theorem TrR.push {l : List (T × Heap)} {l' : List (Act × Heap)} (h : TrR l l') {t : T} {a : Act} (ha : Rep t a.tmps) (H : Heap) : TrR (l ++ [(t, H)]) (l' ++ [(a, H)]) := by
  refine ⟨by simp [h.1], fun i x y hx hy => ?_⟩
  by_cases c : i < l.length
  · have c' : i < l'.length := h.1 ▸ c
    rw [List.getElem?_append_left c] at hx
    rw [List.getElem?_append_left c'] at hy
    exact h.2 i x y hx hy
  · have c' : ¬ i < l'.length := h.1 ▸ c
    rw [List.getElem?_append_right (by omega)] at hx
    rw [List.getElem?_append_right (by omega)] at hy
    have e : i - l.length = i - l'.length := by rw [h.1]
    rw [e] at hx
    cases hj : i - l'.length with
    | zero => rw [hj] at hx hy; simp at hx hy; subst hx hy; exact ⟨ha, rfl⟩
    | succ j => rw [hj] at hx; simp at hx

noncomputable def execTrT (P : Program) (X : Xf) (K : Kf) (ops : Array Oper) (l : List Oper) : T → List Deferred → Heap → List (T × Heap) → (List (T × Heap) → KT) → (List (T × Heap) → List PanicEntry → KT) → R :=
  List.rec (motive := fun _ => T → List Deferred → Heap → List (T × Heap) → (List (T × Heap) → KT) → (List (T × Heap) → List PanicEntry → KT) → R) (fun t ds H tr k _ => k (tr ++ [(t, H)]) t ds H)
    (fun o _ ih t ds H tr k kp => guardT ops o t (opT P X K o t ds H (fun t' ds' H' => ih t' ds' H' (tr ++ [(t, H)]) k kp) (kp (tr ++ [(t, H)]))) (putT o.dst t undef fun t' => ih t' ds H (tr ++ [(t, H)]) k kp)) l
theorem execTrT_sim {P : Program} {X : Xf} {K K' : Kf} (hK : KLe K K') {ops : Array Oper} {r : End × Heap} {k : List (T × Heap) → KT} {k' : List (Act × Heap) → Act → Heap → R} {kp : List (T × Heap) → List PanicEntry → KT} {kp' : List (Act × Heap) → List PanicEntry → Act → Heap → R} :
    ∀ (l : List Oper) (_ : ∀ o ∈ l, opOk P o = true) (n : Nat) (_ : ∀ tr tr', TrR tr tr' → n < tr'.length → tr'.length < n + l.length + 1 → ∀ c, KS r (kp tr c) (kp' tr' c)) (_ : ∀ tr tr', TrR tr tr' → tr'.length = n + l.length + 1 → KS r (k tr) (k' tr')) (t : T) (ds : List Deferred) (a : Act) (H : Heap) (tr : List (T × Heap)) (tr' : List (Act × Heap)), TrR tr tr' → tr'.length = n → Sim t ds a →
      execTrT P X K ops l t ds H tr k kp = some r → execTr P X K' ops l a H tr' k' kp' = some r
  | [], _, n, _, hk, t, ds, a, H, tr, tr', ht, hn, hs, h => hk _ _ (ht.push hs.tree H) (by simp [hn]) _ _ _ _ hs h
  | o :: rest, hall, n, hp, hk, t, ds, a, H, tr, tr', ht, hn, hs, h => by
    have ho := hall o (List.mem_cons_self ..)
    have hr := fun o h => hall o (List.mem_cons_of_mem _ h)
    have h' : guardT ops o t (opT P X K o t ds H (fun t' ds' H' => execTrT P X K ops rest t' ds' H' (tr ++ [(t, H)]) k kp) (kp (tr ++ [(t, H)]))) (putT o.dst t undef fun t' => execTrT P X K ops rest t' ds H (tr ++ [(t, H)]) k kp) = some r := h
    show guardK ops o a _ _ = some r
    have hp' : ∀ tr tr', TrR tr tr' → n + 1 < tr'.length → tr'.length < (n + 1) + rest.length + 1 → ∀ c, KS r (kp tr c) (kp' tr' c) := fun tr tr' h1 h2 h3 => hp tr tr' h1 (by omega) (by simp; omega)
    have hk' : ∀ tr tr', TrR tr tr' → tr'.length = (n + 1) + rest.length + 1 → KS r (k tr) (k' tr') := fun tr tr' h1 h2 => hk tr tr' h1 (by rw [h2]; simp; omega)
    refine guardT_sim hs (fun a hs h => ?_) (fun a hs h => ?_) h'
    · exact opT_sim hK ho hs (fun t2 ds2 a2 H2 hs2 h2 => execTrT_sim hK rest hr (n + 1) hp' hk' t2 ds2 a2 H2 _ _ (ht.push hs.tree H) (by simp [hn]) hs2 h2) (hp _ _ (ht.push hs.tree H) (by simp [hn]) (by simp [hn])) h
    · obtain ⟨t', h1, h2, h3⟩ := putT_some h hs.tree
      exact execTrT_sim hK rest hr (n + 1) hp' hk' _ _ _ _ _ _ (ht.push hs.tree H) (by simp [hn]) ⟨h2, h3.trans hs.ds⟩ h1

/-- Which values must be looked at again: told by the code alone. -/
def drawPairs (P : Program) (ops : List Oper) : List (Nat × Nat) :=
  let b := masks ops []
  let n := ops.length
  (List.range n).flatMap fun i => match ops[i]? with
    | some oi => cond (decide (cls P oi = 1)) ((List.range n).filter fun p => match ops[p]? with
        | some op => decide (cls P op = 2 ∧ (b.getD i 0).testBit p = false ∧ (b.getD p 0).testBit i = false)
        | none => false) [] |>.map fun p => (i, p)
    | none => []
noncomputable def guardBT (ops : Array Oper) (o : Oper) (t : T) : Option Bool :=
  match o.guard with
  | none => some true
  | some (j, want) =>
    match (ops[j]?).bind (·.dst) with
    | none => some false
    | some d =>
      match rdP (path d) t with
      | some (.bool b) => some (b == want)
      | some (.tuple _) => some false
      | _ => none
theorem guardBT_eq {ops : Array Oper} {o : Oper} {t : T} {a : Act} (h : Rep t a.tmps) : guardBT ops o t = guardB ops o a := by
  unfold guardBT guardB
  cases o.guard with
  | none => rfl
  | some q =>
    obtain ⟨j, want⟩ := q
    simp only
    cases (ops[j]?).bind (·.dst) with
    | none => rfl
    | some d =>
      simp only [rd_path, h d]
      cases a.tmps[d]? with
      | none => rfl
      | some v => cases v <;> rfl
noncomputable def pairChk (P : Program) (ops : Array Oper) (tr : List (T × Heap)) (i p : Nat) : Bool :=
  match ops.toList[i]?, tr[i]?, tr[i + 1]?, tr[p]?, tr[p + 1]? with
  | some oi, some ti, some tn, some tp, some tq =>
    match guardBT ops oi ti.1 with
    | some true => (match oi.dst with
      | some d =>
        (match qval P (evalT ti.1) oi tp.2 with | some v => veq v ((rdP (path d) tn.1).getD undef) | none => false) &&
        (match qval P (evalT ti.1) oi tq.2 with | some v => veq v ((rdP (path d) tn.1).getD undef) | none => false)
      | none => false)
    | _ => true
  | _, _, _, _, _ => false
noncomputable def drawChkT (P : Program) (ops : Array Oper) (tr : List (T × Heap)) : Bool := (drawPairs P ops.toList).all fun x => pairChk P ops tr x.1 x.2

theorem drawChk_of {P : Program} {ops : Array Oper} {tr : List (T × Heap)} {tr' : List (Act × Heap)} (h : TrR tr tr') (hn : tr'.length = ops.toList.length + 1) (hc : drawChkT P ops tr = true) : drawChk P ops tr' = true := by
  unfold drawChk
  simp only [List.all_eq_true, List.mem_range]
  intro i hi
  have g0 : ∃ oi, ops.toList[i]? = some oi := ⟨_, List.getElem?_eq_getElem hi⟩
  have gt : ∀ j, j ≤ ops.toList.length → ∃ x y, tr[j]? = some x ∧ tr'[j]? = some y ∧ Rep x.1 y.1.tmps ∧ x.2 = y.2 := fun j hj => by
    have c' : j < tr'.length := by omega
    have c : j < tr.length := by rw [h.1]; exact c'
    exact ⟨_, _, List.getElem?_eq_getElem c, List.getElem?_eq_getElem c', h.2 j _ _ (List.getElem?_eq_getElem c) (List.getElem?_eq_getElem c')⟩
  obtain ⟨oi, e0⟩ := g0
  obtain ⟨xi, yi, a1, a2, a3, a4⟩ := gt i (by omega)
  obtain ⟨xn, yn, b1, b2, b3, b4⟩ := gt (i + 1) (by omega)
  rw [e0, a2, b2]
  simp only
  split
  · rename_i hg
    simp only [List.all_eq_true, List.mem_range]
    intro p hp
    obtain ⟨op, e1⟩ : ∃ op, ops.toList[p]? = some op := ⟨_, List.getElem?_eq_getElem hp⟩
    rw [e1]
    simp only
    split
    · rename_i hq
      obtain ⟨xp, yp, c1, c2, c3, c4⟩ := gt p (by omega)
      obtain ⟨xq, yq, d1, d2, d3, d4⟩ := gt (p + 1) (by omega)
      have hmem : (i, p) ∈ drawPairs P ops.toList := by
        unfold drawPairs
        simp only [List.mem_flatMap, List.mem_range]
        refine ⟨i, hi, ?_⟩
        rw [e0]
        simp only [hg.1, decide_true, cond_true, List.mem_map, List.mem_filter, List.mem_range]
        refine ⟨p, ⟨hp, ?_⟩, rfl⟩
        rw [e1]
        exact decide_eq_true hq
      have hchk := List.all_eq_true.mp hc _ hmem
      unfold pairChk at hchk
      rw [e0, a1, b1, c1, d1] at hchk
      simp only [guardBT_eq a3, hg.2] at hchk
      rw [c2, d2]
      cases hd : oi.dst with
      | none => rw [hd] at hchk; cases hchk
      | some d =>
        rw [hd] at hchk
        simp only [evalT_eq a3, rd_path, b3 d, c4, d4] at hchk ⊢
        generalize qval P yi.1.eval oi yp.2 = q1 at hchk ⊢
        generalize qval P yi.1.eval oi yq.2 = q2 at hchk ⊢
        cases q1 <;> cases q2 <;> first
          | (simp at hchk; done)
          | simpa using hchk
    · rfl
  · rfl
end Go.Am
