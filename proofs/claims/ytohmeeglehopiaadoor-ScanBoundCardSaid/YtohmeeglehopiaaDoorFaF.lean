/- Code without rounds, over frames that are functions: regions of open order, where values are looked at again. -/
import Derived.Test.YtohmeeglehopiaaDoorFaE
namespace Go.Am

def TrE (n : Nat) (l : List (Env × Heap)) (l' : List (Act × Heap)) : Prop := l.length = l'.length ∧ ∀ (i : Nat) x y, l[i]? = some x → l'[i]? = some y → (∃ ds, SimE n x.1 ds y.1) ∧ x.2 = y.2
theorem TrE.push {n : Nat} {l : List (Env × Heap)} {l' : List (Act × Heap)} (h : TrE n l l') {E : Env} {ds : List Deferred} {a : Act} (ha : SimE n E ds a) (H : Heap) : TrE n (l ++ [(E, H)]) (l' ++ [(a, H)]) := by
  refine ⟨by simp [h.1], fun i x y hx hy => ?_⟩
  by_cases c : i < l.length
  · have c' : i < l'.length := h.1 ▸ c
    rw [List.getElem?_append_left c] at hx
    rw [List.getElem?_append_left c'] at hy
    exact h.2 i x y hx hy
  · have c' : ¬ i < l'.length := h.1 ▸ c
    rw [List.getElem?_append_right (by omega)] at hx
    rw [List.getElem?_append_right (by omega)] at hy
    have e : i - l.length = i - l'.length := by rw [h.1]
    rw [e] at hx
    cases hj : i - l'.length with
    | zero => rw [hj] at hx hy; simp at hx hy; subst hx hy; exact ⟨⟨ds, ha⟩, rfl⟩
    | succ j => rw [hj] at hx; simp at hx

def execTrF (P : Program) (X : Xf) (K : Kf) (ops : Array Oper) : List Oper → Env → List Deferred → Heap → List (Env × Heap) → (List (Env × Heap) → KE) → R
  | [], E, ds, H, tr, k => k (tr ++ [(E, H)]) E ds H
  | o :: rest, E, ds, H, tr, k => guardE ops o E (opE P X K o E ds H (fun E' ds' H' => execTrF P X K ops rest E' ds' H' (tr ++ [(E, H)]) k) (fun _ _ _ _ => none)) (execTrF P X K ops rest (upd E o.dst undef) ds H (tr ++ [(E, H)]) k)
theorem execTrF_sim {P : Program} {X : Xf} {K K' : Kf} (hK : KLe K K') {n : Nat} {ops : Array Oper} {r : End × Heap} {k : List (Env × Heap) → KE} {k' : List (Act × Heap) → Act → Heap → R} :
    ∀ (l : List Oper) (_ : ∀ o ∈ l, opsOk P n ops o = true) (z : Nat) (_ : ∀ tr tr', TrE n tr tr' → tr'.length = z + l.length + 1 → KSE n r (k tr) (k' tr')) (E : Env) (ds : List Deferred) (a : Act) (H : Heap) (tr : List (Env × Heap)) (tr' : List (Act × Heap)), TrE n tr tr' → tr'.length = z → SimE n E ds a →
      execTrF P X K ops l E ds H tr k = some r → execTr P X K' ops l a H tr' k' = some r
  | [], _, z, hk, E, ds, a, H, tr, tr', ht, hn, hs, h => hk _ _ (ht.push hs H) (by simp [hn]) _ _ _ _ hs h
  | o :: rest, hall, z, hk, E, ds, a, H, tr, tr', ht, hn, hs, h => by
    have ho := hall o (List.mem_cons_self ..)
    simp only [opsOk, Bool.and_eq_true] at ho
    have hr := fun o h => hall o (List.mem_cons_of_mem _ h)
    have hk' : ∀ tr tr', TrE n tr tr' → tr'.length = (z + 1) + rest.length + 1 → KSE n r (k tr) (k' tr') := fun tr tr' h1 h2 => hk tr tr' h1 (by rw [h2]; simp; omega)
    unfold execTrF at h
    show guardK ops o a _ _ = some r
    refine guardE_sim ho.2.2 hs (fun b hb h => ?_) (fun b hb h => ?_) h
    · exact opE_sim hK ho.1 ho.2.1 hb (fun E2 ds2 a2 H2 hs2 h2 => execTrF_sim hK rest hr (z + 1) hk' E2 ds2 a2 H2 _ _ (ht.push hb H) (by simp [hn]) hs2 h2) (fun _ _ _ _ _ _ h => by cases h) h
    · exact execTrF_sim hK rest hr (z + 1) hk' _ _ _ _ _ _ (ht.push hb H) (by simp [hn]) (hb.put ho.2.1 undef) h

def guardBE (ops : Array Oper) (o : Oper) (E : Env) : Option Bool :=
  match o.guard with
  | none => some true
  | some (j, want) =>
    match (ops[j]?).bind (·.dst) with
    | none => some false
    | some d => match E d with
      | .bool b => some (b == want)
      | .tuple _ => some false
      | _ => none
def pairChkE (P : Program) (ops : Array Oper) (tr : List (Env × Heap)) (i p : Nat) : Bool :=
  match ops.toList[i]?, tr[i]?, tr[i + 1]?, tr[p]?, tr[p + 1]? with
  | some oi, some ti, some tn, some tp, some tq =>
    match guardBE ops oi ti.1 with
    | some true => (match oi.dst with
      | some d =>
        (match qval P (evalE ti.1) oi tp.2 with | some v => veq v (tn.1 d) | none => false) &&
        (match qval P (evalE ti.1) oi tq.2 with | some v => veq v (tn.1 d) | none => false)
      | none => false)
    | _ => true
  | _, _, _, _, _ => false

theorem drawChk_ofE {P : Program} {n : Nat} {ops : Array Oper} {tr : List (Env × Heap)} {tr' : List (Act × Heap)} (hall : ∀ o ∈ ops.toList, opsOk P n ops o = true) (h : TrE n tr tr') (hn : tr'.length = ops.toList.length + 1) {l : List (Nat × Nat)} (hl : ∀ x ∈ drawPairs P ops.toList, x ∈ l) (hc : l.all (fun x => pairChkE P ops tr x.1 x.2) = true) : drawChk P ops tr' = true := by
  unfold drawChk
  simp only [List.all_eq_true, List.mem_range]
  intro i hi
  have gt : ∀ j, j ≤ ops.toList.length → ∃ x y, tr[j]? = some x ∧ tr'[j]? = some y ∧ (∃ ds, SimE n x.1 ds y.1) ∧ x.2 = y.2 := fun j hj => by
    have c' : j < tr'.length := by omega
    have c : j < tr.length := by rw [h.1]; exact c'
    exact ⟨_, _, List.getElem?_eq_getElem c, List.getElem?_eq_getElem c', h.2 j _ _ (List.getElem?_eq_getElem c) (List.getElem?_eq_getElem c')⟩
  obtain ⟨oi, e0⟩ : ∃ oi, ops.toList[i]? = some oi := ⟨_, List.getElem?_eq_getElem hi⟩
  obtain ⟨xi, yi, a1, a2, ⟨_, a3⟩, a4⟩ := gt i (by omega)
  obtain ⟨xn, yn, b1, b2, ⟨_, b3⟩, b4⟩ := gt (i + 1) (by omega)
  have hoi := hall oi (List.mem_of_getElem? e0)
  simp only [opsOk, Bool.and_eq_true] at hoi
  have hgB : guardB ops oi yi.1 = some true → guardBE ops oi xi.1 = some true := fun hg => by
    unfold guardB at hg
    unfold guardBE
    have hgo := hoi.2.2
    unfold guardOk at hgo
    cases hq : oi.guard with
    | none => rfl
    | some q =>
      obtain ⟨j, want⟩ := q
      simp only [hq] at hg hgo ⊢
      cases hd : (ops[j]?).bind (·.dst) with
      | none => rw [hd] at hg; cases hg
      | some d =>
        simp only [hd] at hg hgo ⊢
        have hlt : d < yi.1.tmps.size := by rw [a3.size]; simpa using hgo
        have e4 : yi.1.tmps[d]? = some (xi.1 d) := by rw [a3.env d]; simp [hlt]
        rw [e4] at hg
        cases hv : xi.1 d <;> rw [hv] at hg <;> first
          | exact hg
          | (simp at hg; done)
  rw [e0, a2, b2]
  simp only
  split
  · rename_i hg
    simp only [List.all_eq_true, List.mem_range]
    intro p hp
    obtain ⟨op, e1⟩ : ∃ op, ops.toList[p]? = some op := ⟨_, List.getElem?_eq_getElem hp⟩
    rw [e1]
    simp only
    split
    · rename_i hq
      obtain ⟨xp, yp, c1, c2, _, c4⟩ := gt p (by omega)
      obtain ⟨xq, yq, d1, d2, _, d4⟩ := gt (p + 1) (by omega)
      have hmem : (i, p) ∈ drawPairs P ops.toList := by
        unfold drawPairs
        simp only [List.mem_flatMap, List.mem_range]
        refine ⟨i, hi, ?_⟩
        rw [e0]
        simp only [hg.1, decide_true, cond_true, List.mem_map, List.mem_filter, List.mem_range]
        refine ⟨p, ⟨hp, ?_⟩, rfl⟩
        rw [e1]
        exact decide_eq_true hq
      have hchk := List.all_eq_true.mp hc _ (hl _ hmem)
      unfold pairChkE at hchk
      rw [e0, a1, b1, c1, d1] at hchk
      simp only [hgB hg.2] at hchk
      rw [c2, d2]
      cases hd : oi.dst with
      | none => rw [hd] at hchk; cases hchk
      | some d =>
        rw [hd] at hchk
        simp only [evalE_eq a3, b3.env d, c4, d4] at hchk ⊢
        generalize qval P yi.1.eval oi yp.2 = q1 at hchk ⊢
        generalize qval P yi.1.eval oi yq.2 = q2 at hchk ⊢
        cases q1 <;> cases q2 <;> first
          | (simp at hchk; done)
          | simpa using hchk
    · rfl
  · rfl

/-- Code without rounds; 'pr' tells, of each region, which values are looked at again. -/
def execF (P : Program) (X : Xf) (K : Kf) (pr : Nat → List (Nat × Nat)) : Code → Env → List Deferred → Heap → KOE → R
  | .seq x y, E, ds, H, k => execF P X K pr x E ds H (thenE (execF P X K pr y) k)
  | .skip, E, ds, H, k => k .norm E ds H
  | .ret, E, ds, H, k => k .ret E ds H
  | .region i ops draw, E, ds, H, k => cond draw
    (execTrF P X K ops ops.toList E ds H [] fun tr E ds H => cond ((pr i).all fun x => pairChkE P ops tr x.1 x.2) (k .norm E ds H) none)
    (execOpsE P X K ops ops.toList E ds H (fun E ds H => k .norm E ds H) (fun c E ds H => k (.pan c) E ds H))
  | .cond c x y, E, ds, H, k => condE (evalE E c) (execF P X K pr x E ds H k) (execF P X K pr y E ds H k)
  | _, _, _, _, _ => none
def goodFp (P : Program) (pr : Nat → List (Nat × Nat)) (n : Nat) : Code → Bool
  | .region i ops draw => ops.toList.all (opsOk P n ops) && (!draw || (drawOk P ops.toList && (drawPairs P ops.toList).all fun x => (pr i).any fun y => Nat.beq x.1 y.1 && Nat.beq x.2 y.2))
  | .seq a b => goodFp P pr n a && goodFp P pr n b
  | .cond _ a b => goodFp P pr n a && goodFp P pr n b
  | _ => true
theorem execF_sim {P : Program} {X : Xf} {K K' : Kf} (hK : KLe K K') {N n : Nat} {pr : Nat → List (Nat × Nat)} {r : End × Heap} : ∀ (c : Code) (_ : goodFp P pr n c = true), BSimE n r (execF P X K pr c) (exec P X K' N c none)
  | .skip, hg, k, k', hk, E, ds, a, H, hs, h => by unfold exec; unfold execF at h; exact hk _ _ _ _ _ hs h
  | .ret, hg, k, k', hk, E, ds, a, H, hs, h => by unfold exec; unfold execF at h; exact hk _ _ _ _ _ hs h
  | .seq x y, hg, k, k', hk, E, ds, a, H, hs, h => by
    unfold exec
    unfold execF at h
    simp only [goodFp, Bool.and_eq_true] at hg
    exact execF_sim hK x hg.1 _ _ (thenE_sim (execF_sim hK y hg.2) hk) E ds a H hs h
  | .cond c x y, hg, k, k', hk, E, ds, a, H, hs, h => by
    unfold exec
    unfold execF condE at h
    simp only [goodFp, Bool.and_eq_true] at hg
    rw [evalE_eq hs] at h
    split at h
    · rename_i b e
      simp only [e]
      cases b with
      | true => exact execF_sim hK x hg.1 _ _ hk E ds a H hs h
      | false => exact execF_sim hK y hg.2 _ _ hk E ds a H hs h
    · cases h
  | .region i ops draw, hg, k, k', hk, E, ds, a, H, hs, h => by
    unfold exec
    unfold execF at h
    simp only [goodFp, Bool.and_eq_true] at hg
    have ho := fun o h => List.all_eq_true.mp hg.1 o h
    cases draw with
    | false => exact execOpsE_sim (k' := fun a H => k' .norm a H) (kp' := fun c a H => k' (.pan c) a H) hK (fun E ds a H => hk .norm E ds a H) (fun c E ds a H => hk (.pan c) E ds a H) ops.toList ho E ds a H hs h
    | true =>
      have hq : drawOk P ops.toList = true ∧ ((drawPairs P ops.toList).all fun x => (pr i).any fun y => Nat.beq x.1 y.1 && Nat.beq x.2 y.2) = true := by simpa using hg.2
      rw [hq.1]
      simp only [cond_true] at h ⊢
      have hl : ∀ x ∈ drawPairs P ops.toList, x ∈ pr i := fun x hx => by
        have := List.all_eq_true.mp hq.2 x hx
        obtain ⟨y, hy, e⟩ := List.any_eq_true.mp this
        simp only [Bool.and_eq_true] at e
        have e1 := Nat.eq_of_beq_eq_true e.1
        have e2 := Nat.eq_of_beq_eq_true e.2
        have : x = y := by cases x; cases y; simp_all
        rw [this]; exact hy
      refine execTrF_sim (k' := fun tr af Hf => cond (drawChk P ops tr) (k' .norm af Hf) none) hK ops.toList ho 0 (fun tr tr' htr hn => ?_) E ds a H [] [] ⟨rfl, fun i x y hx => by simp at hx⟩ rfl hs h
      intro E ds a H hs h
      cases hc : ((pr i).all fun x => pairChkE P ops tr x.1 x.2) with
      | false => rw [hc] at h; cases h
      | true =>
        rw [hc] at h
        rw [drawChk_ofE ho htr (by rw [hn]; omega) hl hc]
        exact hk _ _ _ _ _ hs h
  | .block .., hg, k, k', hk, E, ds, a, H, hs, h => by unfold execF at h; cases h
  | .loop _, hg, k, k', hk, E, ds, a, H, hs, h => by unfold execF at h; cases h
  | .rangeFunc .., hg, k, k', hk, E, ds, a, H, hs, h => by unfold execF at h; cases h
  | .exit _, hg, k, k', hk, E, ds, a, H, hs, h => by unfold execF at h; cases h
  | .scope _, hg, k, k', hk, E, ds, a, H, hs, h => by unfold execF at h; cases h
  | .label _, hg, k, k', hk, E, ds, a, H, hs, h => by unfold execF at h; cases h
  | .goto _, hg, k, k', hk, E, ds, a, H, hs, h => by unfold execF at h; cases h
  | .refuse _, hg, k, k', hk, E, ds, a, H, hs, h => by unfold execF at h; cases h

/-- A statement's function: what it calls is run by the other machine. -/
def topF (P : Program) (okf : FuncId → Bool) (X : Xf) (N : Nat) (hk : Hook) (d : Nat) (g : FuncId) (pr : Nat → List (Nat × Nat)) : Kf := fun f args H =>
  cond (Nat.beq f g) (match P.funcs[f]? with
    | some fn => match fn.body with
      | some c => cond (goodFp P pr fn.ntmps c && Nat.ble args.size fn.ntmps) (execF P X (callE P okf X N hk d) pr c (startE args) [] H (finE P fn)) none
      | none => none
    | none => none) none
theorem topF_sound {P : Program} {okf : FuncId → Bool} (hg : GoodE P okf) {X : Xf} {N : Nat} {hk : Hook} (hX : XSnd P X) (hH : HookSnd P hk) (hm : P.follows .mixedOrders = true) (d : Nat) (g : FuncId) (hn : ∀ args H, hk g args H = none) (pr : Nat → List (Nat × Nat)) : KSnd P (topF P okf X N hk d g pr) := by
  intro f args H r H' he
  refine callR_sound (N := N) hX hH hm (d + 1) f args H r H' ?_
  unfold topF at he
  unfold callR
  cases hb : Nat.beq f g with
  | false => rw [hb] at he; cases he
  | true =>
    rw [hb] at he
    have := Nat.eq_of_beq_eq_true hb
    subst this
    simp only [hn]
    simp only [cond_true] at he
    split at he
    · rename_i fn hf
      simp only [hf]
      split at he
      · rename_i c hc
        simp only [hc]
        cases ho : (goodFp P pr fn.ntmps c && Nat.ble args.size fn.ntmps) with
        | false => rw [ho] at he; cases he
        | true =>
          rw [ho] at he
          simp only [Bool.and_eq_true] at ho
          exact execF_sim (callE_le hg d) c ho.1 _ _ finE_sim (startE args) [] _ H (start_sim (Nat.le_of_ble_eq_true ho.2)) he
      · cases he
    · cases he
end Go.Am
