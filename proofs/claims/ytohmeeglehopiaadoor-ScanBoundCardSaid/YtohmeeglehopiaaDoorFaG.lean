/- The machine over frames that are functions, all of it: rounds, and regions of open order where values are looked at again. -/
import Derived.Test.YtohmeeglehopiaaDoorFaF
namespace Go.Am

def execG (P : Program) (X : Xf) (K : Kf) (N : Nat) (pr : Nat → List (Nat × Nat)) : Code → Option Nat → Env → List Deferred → Heap → KOE → R
  | .seq x y, none, E, ds, H, k => execG P X K N pr x none E ds H (thenE (execG P X K N pr y none) k)
  | .seq x y, some l, E, ds, H, k => cond (hasLabel l x) (execG P X K N pr x (some l) E ds H (thenE (execG P X K N pr y none) k)) (execG P X K N pr y (some l) E ds H k)
  | .label l', some l, E, ds, H, k => cond (l' == l) (k .norm E ds H) none
  | .label _, none, E, ds, H, k => k .norm E ds H
  | .skip, none, E, ds, H, k => k .norm E ds H
  | .region i ops draw, none, E, ds, H, k => cond (draw && !(pr i).isEmpty)
    (execTrF P X K ops ops.toList E ds H [] fun tr E ds H => cond ((pr i).all fun x => pairChkE P ops tr x.1 x.2) (k .norm E ds H) none)
    (execOpsE P X K ops ops.toList E ds H (fun E ds H => k .norm E ds H) (fun c E ds H => cond draw none (k (.pan c) E ds H)))
  | .cond c x y, none, E, ds, H, k => condE (evalE E c) (execG P X K N pr x none E ds H k) (execG P X K N pr y none E ds H k)
  | .block id b, none, E, ds, H, k => execG P X K N pr b none E ds H (leaveB id k)
  | .loop b, none, E, ds, H, k => loopE (execG P X K N pr b none) N E ds H k
  | .exit id, none, E, ds, H, k => k (.exit id) E ds H
  | .scope b, none, E, ds, H, k => scopeE b (execG P X K N pr b) N none E ds H k
  | .goto l, none, E, ds, H, k => k (.goto l) E ds H
  | .ret, none, E, ds, H, k => k .ret E ds H
  | _, _, _, _, _, _ => none
def goodG (P : Program) (pr : Nat → List (Nat × Nat)) (n : Nat) : Code → Bool
  | .region i ops draw => ops.toList.all (opsOk P n ops) && (!draw || (drawOk P ops.toList && (drawPairs P ops.toList).all fun x => (pr i).any fun y => Nat.beq x.1 y.1 && Nat.beq x.2 y.2))
  | .seq a b => goodG P pr n a && goodG P pr n b
  | .cond _ a b => goodG P pr n a && goodG P pr n b
  | .block _ b => goodG P pr n b
  | .loop b => goodG P pr n b
  | .scope b => goodG P pr n b
  | _ => true
theorem execG_sim {P : Program} {X : Xf} {K K' : Kf} (hK : KLe K K') {N n : Nat} {pr : Nat → List (Nat × Nat)} {r : End × Heap} : ∀ (c : Code) (_ : goodG P pr n c = true) (s : Option Nat), BSimE n r (execG P X K N pr c s) (exec P X K' N c s)
  | .skip, hg, none, k, k', hk, E, ds, a, H, hs, h => by unfold exec; unfold execG at h; exact hk _ _ _ _ _ hs h
  | .skip, hg, some _, k, k', hk, E, ds, a, H, hs, h => by unfold execG at h; cases h
  | .region id ops draw, hg, none, k, k', hk, E, ds, a, H, hs, h => by
    unfold exec
    unfold execG at h
    simp only [goodG, Bool.and_eq_true] at hg
    have ho := fun o h => List.all_eq_true.mp hg.1 o h
    cases draw with
    | false => exact execOpsE_sim (k' := fun a H => k' .norm a H) (kp' := fun c a H => k' (.pan c) a H) hK (fun E ds a H => hk .norm E ds a H) (fun c E ds a H => hk (.pan c) E ds a H) ops.toList ho E ds a H hs h
    | true =>
      have hq : drawOk P ops.toList = true ∧ ((drawPairs P ops.toList).all fun x => (pr id).any fun y => Nat.beq x.1 y.1 && Nat.beq x.2 y.2) = true := by simpa using hg.2
      rw [hq.1]
      simp only [cond_true, Bool.true_and] at h ⊢
      cases he : (pr id).isEmpty with
      | true =>
        rw [he] at h
        have hp : (drawPairs P ops.toList).isEmpty = true := by
          have e0 : pr id = [] := List.isEmpty_iff.mp he
          have h2 := hq.2
          rw [e0] at h2
          cases hd : drawPairs P ops.toList with
          | nil => rfl
          | cons x l => rw [hd] at h2; simp at h2
        refine execTrE_sim (k' := fun tr af Hf => cond (drawChk P ops tr) (k' .norm af Hf) none) hK ops.toList ho 0 (fun tr' hn => ?_) E ds a H [] rfl hs h
        intro E ds a H hs h
        have hc : drawChk P ops tr' = true := drawChk_none (by rw [hn]; omega) hp
        rw [hc]
        exact hk _ _ _ _ _ hs h
      | false =>
        rw [he] at h
        have hl : ∀ x ∈ drawPairs P ops.toList, x ∈ pr id := fun x hx => by
          have := List.all_eq_true.mp hq.2 x hx
          obtain ⟨y, hy, e⟩ := List.any_eq_true.mp this
          simp only [Bool.and_eq_true] at e
          have e1 := Nat.eq_of_beq_eq_true e.1
          have e2 := Nat.eq_of_beq_eq_true e.2
          have : x = y := by cases x; cases y; simp_all
          rw [this]; exact hy
        refine execTrF_sim (k' := fun tr af Hf => cond (drawChk P ops tr) (k' .norm af Hf) none) hK ops.toList ho 0 (fun tr tr' htr hn => ?_) E ds a H [] [] ⟨rfl, fun i x y hx => by simp at hx⟩ rfl hs h
        intro E ds a H hs h
        cases hc : ((pr id).all fun x => pairChkE P ops tr x.1 x.2) with
        | false => rw [hc] at h; cases h
        | true =>
          rw [hc] at h
          rw [drawChk_ofE ho htr (by rw [hn]; omega) hl hc]
          exact hk _ _ _ _ _ hs h
  | .region .., hg, some _, k, k', hk, E, ds, a, H, hs, h => by unfold execG at h; cases h
  | .seq x y, hg, none, k, k', hk, E, ds, a, H, hs, h => by
    unfold exec
    unfold execG at h
    simp only [goodG, Bool.and_eq_true] at hg
    exact execG_sim hK x hg.1 none _ _ (thenE_sim (execG_sim hK y hg.2 none) hk) E ds a H hs h
  | .seq x y, hg, some l, k, k', hk, E, ds, a, H, hs, h => by
    unfold exec
    unfold execG at h
    simp only [goodG, Bool.and_eq_true] at hg
    cases e : hasLabel l x with
    | true => rw [e] at h; exact execG_sim hK x hg.1 (some l) _ _ (thenE_sim (execG_sim hK y hg.2 none) hk) E ds a H hs h
    | false => rw [e] at h; exact execG_sim hK y hg.2 (some l) _ _ hk E ds a H hs h
  | .cond c x y, hg, none, k, k', hk, E, ds, a, H, hs, h => by
    unfold exec
    unfold execG condE at h
    simp only [goodG, Bool.and_eq_true] at hg
    rw [evalE_eq hs] at h
    split at h
    · rename_i b e
      simp only [e]
      cases b with
      | true => exact execG_sim hK x hg.1 none _ _ hk E ds a H hs h
      | false => exact execG_sim hK y hg.2 none _ _ hk E ds a H hs h
    · cases h
  | .cond .., hg, some _, k, k', hk, E, ds, a, H, hs, h => by unfold execG at h; cases h
  | .block id b, hg, none, k, k', hk, E, ds, a, H, hs, h => by
    unfold exec
    unfold execG at h
    simp only [goodG] at hg
    refine execG_sim hK b hg none _ _ (fun o E ds a H hs h => ?_) E ds a H hs h
    cases o with
    | exit i =>
      simp only [leaveB] at h ⊢
      cases e : (i == id) with
      | true => rw [e] at h; exact hk _ _ _ _ _ hs h
      | false => rw [e] at h; exact hk _ _ _ _ _ hs h
    | _ => exact hk _ _ _ _ _ hs h
  | .block .., hg, some _, k, k', hk, E, ds, a, H, hs, h => by unfold execG at h; cases h
  | .loop b, hg, none, k, k', hk, E, ds, a, H, hs, h => by
    unfold exec
    unfold execG at h
    simp only [goodG] at hg
    exact loopE_sim (execG_sim hK b hg none) N k k' hk E ds a H hs h
  | .loop _, hg, some _, k, k', hk, E, ds, a, H, hs, h => by unfold execG at h; cases h
  | .rangeFunc .., hg, s, k, k', hk, E, ds, a, H, hs, h => by cases s <;> (unfold execG at h; cases h)
  | .exit id, hg, none, k, k', hk, E, ds, a, H, hs, h => by unfold exec; unfold execG at h; exact hk _ _ _ _ _ hs h
  | .exit _, hg, some _, k, k', hk, E, ds, a, H, hs, h => by unfold execG at h; cases h
  | .scope b, hg, none, k, k', hk, E, ds, a, H, hs, h => by
    unfold exec
    unfold execG at h
    simp only [goodG] at hg
    exact scopeE_sim (fun s => execG_sim hK b hg s) N none k k' hk E ds a H hs h
  | .scope _, hg, some _, k, k', hk, E, ds, a, H, hs, h => by unfold execG at h; cases h
  | .label l', hg, none, k, k', hk, E, ds, a, H, hs, h => by unfold exec; unfold execG at h; exact hk _ _ _ _ _ hs h
  | .label l', hg, some l, k, k', hk, E, ds, a, H, hs, h => by
    unfold exec
    unfold execG at h
    cases e : (l' == l) with
    | true => rw [e] at h; exact hk _ _ _ _ _ hs h
    | false => rw [e] at h; cases h
  | .goto l, hg, none, k, k', hk, E, ds, a, H, hs, h => by unfold exec; unfold execG at h; exact hk _ _ _ _ _ hs h
  | .goto _, hg, some _, k, k', hk, E, ds, a, H, hs, h => by unfold execG at h; cases h
  | .ret, hg, none, k, k', hk, E, ds, a, H, hs, h => by unfold exec; unfold execG at h; exact hk _ _ _ _ _ hs h
  | .ret, hg, some _, k, k', hk, E, ds, a, H, hs, h => by unfold execG at h; cases h
  | .refuse _, hg, s, k, k', hk, E, ds, a, H, hs, h => by cases s <;> (unfold execG at h; cases h)

def callG (P : Program) (okf : FuncId → Bool) (prf : FuncId → Nat → List (Nat × Nat)) (X : Xf) (N : Nat) (hk : Hook) : Nat → Kf
  | 0 => fun _ _ _ => none
  | d + 1 => fun f args H =>
    match hk f args H with
    | some r => r
    | none =>
      match P.funcs[f]? with
      | some fn => match fn.body with
        | some c => cond (okf f && Nat.ble args.size fn.ntmps) (execG P X (callG P okf prf X N hk d) N (prf f) c none (startE args) [] H (finE P fn)) none
        | none => none
      | none => none
def GoodG (P : Program) (okf : FuncId → Bool) (prf : FuncId → Nat → List (Nat × Nat)) : Prop := ∀ (f : FuncId) fn c, okf f = true → P.funcs[f]? = some fn → fn.body = some c → goodG P (prf f) fn.ntmps c = true
theorem callG_le {P : Program} {okf : FuncId → Bool} {prf : FuncId → Nat → List (Nat × Nat)} (hg : GoodG P okf prf) {X : Xf} {N : Nat} {hk : Hook} : ∀ d, KLe (callG P okf prf X N hk d) (callR P X N hk d)
  | 0 => fun f args H r h => by cases h
  | d + 1 => fun f args H r h => by
    unfold callG at h
    unfold callR
    split at h
    · rename_i q e; simp only [e]; exact h
    · rename_i e
      simp only [e]
      split at h
      · rename_i fn hf
        simp only [hf]
        split at h
        · rename_i c hc
          simp only [hc]
          cases ho : (okf f && Nat.ble args.size fn.ntmps) with
          | false => rw [ho] at h; cases h
          | true =>
            rw [ho] at h
            simp only [Bool.and_eq_true] at ho
            exact execG_sim (callG_le hg d) c (hg f fn c ho.1 hf hc) none _ _ finE_sim (startE args) [] _ H (start_sim (Nat.le_of_ble_eq_true ho.2)) h
        · cases h
      · cases h
theorem callG_sound {P : Program} {okf : FuncId → Bool} {prf : FuncId → Nat → List (Nat × Nat)} (hg : GoodG P okf prf) {X : Xf} {N : Nat} {hk : Hook} (hX : XSnd P X) (hH : HookSnd P hk) (hm : P.follows .mixedOrders = true) (d : Nat) : KSnd P (callG P okf prf X N hk d) :=
  fun f args H r H' he => callR_sound hX hH hm d f args H r H' (callG_le hg d _ _ _ _ he)
end Go.Am
