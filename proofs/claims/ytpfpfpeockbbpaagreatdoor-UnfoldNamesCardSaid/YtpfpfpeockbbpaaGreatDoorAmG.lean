/- Soundness of the operations, all of them, within a run. -/
import Derived.Test.YtpfpfpeockbbpaaGreatDoorAmF
namespace Go.Am

theorem mapK_sound {P : Program} {o : Oper} {a' : Act} {m : Mp} {H : Heap} {w : World} (h : Rel m H w)
    {ρ : Operand → Value} (hρ : ∀ x ∈ o.op.operands.toList, VR m (ρ x) (a'.eval x))
    {k : Value → Heap → R} {kp : List PanicEntry → Heap → R} {r : End × Heap} {next : Act → World → Prop} {Q : Exit → Act → World → Prop} (hg : Goes P o a' m H w k kp r next Q)
    (he : mapK P ρ o.op H k = some r) : o.upon P a' next Q ((execOp a'.eval o).run P w) := by
  unfold mapK at he
  split at he
  · rename_i t hint ho
    obtain ⟨v, H', hv, hk⟩ := bindV_some he
    refine upon_of_snd (s := Instr.makeMap t (hint.map a'.eval)) hg (by simp only [execOp, ho]) (makeMapA_sound h (fun e => ?_) (fun y e => ?_) hv) hk
    · cases hint with
      | none => rfl
      | some x => cases e
    · cases hint with
      | none => cases e
      | some x =>
        simp only [Option.map_some, Option.some.injEq] at e
        subst e
        exact ⟨_, rfl, hρ x (by simp [ho, Op.operands])⟩
  · rename_i t x i ok ho
    have hx := hρ x (by simp [ho, Op.operands])
    have hi := hρ i (by simp [ho, Op.operands])
    obtain ⟨v, hv, hk⟩ := bindO_some he
    exact upon_of_snd (s := Instr.lookup t (a'.eval x) (a'.eval i) ok) hg (by simp only [execOp, ho]) (lookupA_sound h hx hi hv) hk
  · rename_i t x i y ho
    have hx := hρ x (by simp [ho, Op.operands])
    have hi := hρ i (by simp [ho, Op.operands])
    have hy := hρ y (by simp [ho, Op.operands])
    obtain ⟨v, H', hv, hk⟩ := bindV_some he
    obtain ⟨rfl, m', w', h1, h2⟩ := mapUpdateA_sound h hx hi hy hv
    have hex : (execOp a'.eval o).run P w = .ok .skip w' := by simp only [execOp, ho, Sem.run_bind, h1, Result.andThen_ok, Sem.run_pure]
    rw [hex]
    exact hg.val m' _ _ H' w' (.undef m') h2 hk
  · cases he

theorem opK_sound {P : Program} {X : Xf} {K : Kf} (hX : XSnd P X) (hK : KSnd P K) {o : Oper} {a' : Act} {m : Mp} {H : Heap} {w : World} (h : Rel m H w) (hgl : Gl P m)
    {ρ : Operand → Value} (hρ : ∀ x ∈ o.op.operands.toList, VR m (ρ x) (a'.eval x))
    {k : Value → Heap → R} {kp : List PanicEntry → Heap → R} {r : End × Heap} {next : Act → World → Prop} {Q : Exit → Act → World → Prop} (hg : Goes P o a' m H w k kp r next Q)
    (he : opK P X K ρ o H k kp = some r) : o.upon P a' next Q ((execOp a'.eval o).run P w) := by
  unfold opK at he
  split at he
  · rename_i x ho
    have hx := hρ x (by simp [ho, Op.operands])
    rw [show execOp a'.eval o = Pure.pure (.value (a'.eval x)) by simp only [execOp, ho]]
    exact hg.val m _ _ H w hx (.refl h) he
  · rename_i x ho
    have hx := hρ x (by simp [ho, Op.operands])
    rw [show execOp a'.eval o = Pure.pure (.value (a'.eval x)) by simp only [execOp, ho]]
    exact hg.val m _ _ H w hx (.refl h) he
  · rename_i c x y ho
    have hc := hρ c (by simp [ho, Op.operands])
    have hx := hρ x (by simp [ho, Op.operands])
    have hy := hρ y (by simp [ho, Op.operands])
    split at he
    · rename_i t ht
      rw [ht] at hc
      have hc' := hc.bool_inv
      rw [show (execOp a'.eval o).run P w = .ok (.value (if t then a'.eval x else a'.eval y)) w by simp only [execOp, ho, Sem.run_bind, hc', asBool, Sem.run_pure, Result.andThen_ok]]
      refine hg.val m _ _ H w ?_ (.refl h) he
      rw [pickV_eq]; cases t <;> assumption
    · simp at he
  · rename_i e ho
    obtain ⟨v, H', hv, hk⟩ := bindV_some he
    exact upon_of_snd hg (by simp only [execOp, ho]) (allocA_sound h hv) hk
  · rename_i e x ho
    have hx := hρ x (by simp [ho, Op.operands])
    obtain ⟨v, H', hv, hk⟩ := bindV_some he
    exact upon_of_snd hg (by simp only [execOp, ho]) (boxA_sound h hx hv) hk
  · rename_i t parts ho
    obtain ⟨v, hv, hk⟩ := bindO_some he
    refine upon_of_snd hg (by simp only [execOp, ho]) (buildA_sound h (VRp_map (fun x hx => hρ x ?_)) hv) hk
    simp only [ho, Op.operands]; exact hx
  · rename_i t len parts ho
    obtain ⟨v, H', hv, hk⟩ := bindV_some he
    refine upon_of_snd hg (by simp only [execOp, ho]) (buildSliceA_sound h (VRp_map (fun x hx => hρ x ?_)) hv) hk
    simp only [ho, Op.operands]; exact hx
  · rename_i t x ho
    have hx := hρ x (by simp [ho, Op.operands])
    obtain ⟨v, H', hv, hk⟩ := bindV_some he
    exact upon_of_snd hg (by simp only [execOp, ho]) (loadA_sound h hx hv) hk
  · rename_i t x y ho
    have hx := hρ x (by simp [ho, Op.operands])
    have hy := hρ y (by simp [ho, Op.operands])
    obtain ⟨v, H', hv, hk⟩ := bindV_some he
    obtain ⟨rfl, m', w', h1, h2⟩ := storeA_sound h hx hy hv
    have hex : (execOp a'.eval o).run P w = .ok .skip w' := by simp only [execOp, ho, Sem.run_bind, h1, Result.andThen_ok, Sem.run_pure]
    rw [hex]
    exact hg.val m' _ _ H' w' (.undef m') h2 hk
  · rename_i x ho
    have hx := hρ x (by simp [ho, Op.operands])
    obtain ⟨v, hv, hk⟩ := bindO_some he
    obtain ⟨v', h1, h2⟩ := nilCheckA_sound (P := P) (w := w) ho hx hv
    rw [h1]
    exact hg.val m v v' H w h2 (.refl h) hk
  · rename_i op t x y yt ho
    have hx := hρ x (by simp [ho, Op.operands])
    have hy := hρ y (by simp [ho, Op.operands])
    obtain ⟨v, hv, hk⟩ := bindO_some he
    unfold groundK at hk
    by_cases hgr : ground v = true
    · rw [if_pos hgr] at hk
      exact upon_of_snd hg (by simp only [execOp, ho]) (binA_sound h hx hy hv hgr) hk
    · rw [if_neg hgr] at hk; simp at hk
  · rename_i op t x ho
    have hx := hρ x (by simp [ho, Op.operands])
    obtain ⟨v, hv, hk⟩ := bindO_some he
    unfold groundK at hk
    by_cases hgr : ground v = true
    · rw [if_pos hgr] at hk
      exact upon_of_snd hg (by simp only [execOp, ho]) (unA_sound h hx hv hgr) hk
    · rw [if_neg hgr] at hk; simp at hk
  · rename_i s d x ho
    have hx := hρ x (by simp [ho, Op.operands])
    obtain ⟨v, H', hv, hk⟩ := bindV_some he
    exact upon_of_snd hg (by simp only [execOp, ho]) (convertA_sound h hx hv) hk
  · rename_i t x ho
    have hx := hρ x (by simp [ho, Op.operands])
    split at he
    · simp at he
    · rename_i d hu hni
      have hrun : (Instr.makeInterface t (a'.eval x)).run P w = .ok (.iface t (a'.eval x)) w := by
        simp only [Instr.makeInterface, Sem.run_bind]
        first
          | (rw [run_und hu, Result.andThen_ok]; cases d <;> first | rfl | exact absurd rfl (hni _))
          | (rw [run_und hni, Result.andThen_ok]; cases d <;> first | rfl | exact absurd rfl (hu _))
      exact upon_of_snd hg (by simp only [execOp, ho]) (.pure h hrun (.iface t _ _ hx)) he
    · simp at he
  · rename_i fn first cap ho
    have h1 : VRa m (first.map ρ) (first.map a'.eval) := VRa_map (fun x hx => hρ x (by simp [ho, Op.operands]; exact .inl (by simpa using hx)))
    have h2 : VRa m (cap.map ρ) (cap.map a'.eval) := VRa_map (fun x hx => hρ x (by simp [ho, Op.operands]; exact .inr (by simpa using hx)))
    exact upon_of_snd hg (s := Instr.makeFunc fn (first.map a'.eval) (cap.map a'.eval)) (by simp only [execOp, ho]) (.pure h rfl (.func fn _ _ _ _ h1.1 h2.1 h1.2 h2.2)) he
  · rename_i t x y ho
    have hx := hρ x (by simp [ho, Op.operands])
    have hy := hρ y (by simp [ho, Op.operands])
    obtain ⟨v, H', hv, hk⟩ := bindV_some he
    exact upon_of_snd hg (by simp only [execOp, ho]) (makeSliceA_sound h hx hy hv) hk
  · rename_i t x lo hi mx ho
    have hx := hρ x (by simp [ho, Op.operands])
    obtain ⟨v, hv, hk⟩ := bindO_some he
    refine upon_of_snd hg (by simp only [execOp, ho]) (sliceOpA_sound h hx (VRo_map fun y hy => hρ y ?_) (VRo_map fun y hy => hρ y ?_) (VRo_map fun y hy => hρ y ?_) hv) hk
    · simp [ho, Op.operands] at hy ⊢; simp [hy]
    · simp [ho, Op.operands] at hy ⊢; simp [hy]
    · simp [ho, Op.operands] at hy ⊢; simp [hy]
  · rename_i s x f ho
    have hx := hρ x (by simp [ho, Op.operands])
    obtain ⟨v, hv, hk⟩ := bindO_some he
    exact upon_of_snd hg (by simp only [execOp, ho]) (fieldAddrA_sound h hx hv) hk
  · rename_i t x f ho
    have hx := hρ x (by simp [ho, Op.operands])
    obtain ⟨v, hv, hk⟩ := bindO_some he
    exact upon_of_snd hg (by simp only [execOp, ho]) (fieldA_sound h hx hv) hk
  · rename_i t x y ho
    have hx := hρ x (by simp [ho, Op.operands])
    have hy := hρ y (by simp [ho, Op.operands])
    obtain ⟨v, hv, hk⟩ := bindO_some he
    exact upon_of_snd hg (by simp only [execOp, ho]) (indexAddrA_sound h hx hy hv) hk
  · rename_i t x y ho
    have hx := hρ x (by simp [ho, Op.operands])
    have hy := hρ y (by simp [ho, Op.operands])
    obtain ⟨v, hv, hk⟩ := bindO_some he
    exact upon_of_snd hg (by simp only [execOp, ho]) (indexA_sound h hx hy hv) hk
  · rename_i x i ho
    have hx := hρ x (by simp [ho, Op.operands])
    obtain ⟨v, hv, hk⟩ := bindO_some he
    exact upon_of_snd hg (by simp only [execOp, ho]) (extractA_sound h hx hv) hk
  · rename_i t x ho
    have hx := hρ x (by simp [ho, Op.operands])
    obtain ⟨v, H', hv, hk⟩ := bindV_some he
    exact upon_of_snd hg (by simp only [execOp, ho]) (rangeA_sound h hx hv) hk
  · rename_i x str ho
    have hx := hρ x (by simp [ho, Op.operands])
    obtain ⟨v, H', hv, hk⟩ := bindV_some he
    exact upon_of_snd hg (by simp only [execOp, ho]) (nextA_sound (t := o.type) h hx hv) hk
  · rename_i x t u ok ho
    have hx := hρ x (by simp [ho, Op.operands])
    obtain ⟨v, hv, hk⟩ := bindO_some he
    exact upon_of_snd hg (by simp only [execOp, ho]) (assertA_sound h hx hv) hk
  · rename_i x ho
    have hx := hρ x (by simp [ho, Op.operands])
    split at he
    · rename_i t v hv
      rw [hv] at hx
      generalize hz : a'.eval x = z at hx
      cases hx with
      | atom _ hh => simp [atomic] at hh
      | iface _ _ v' hv' =>
        have hex : (execOp a'.eval o).run P w = .halt (.panic (.iface t v')) w := by
          simp only [execOp, ho, hz, Instr.panic, Sem.run_bind, run_goPanic, Result.andThen_halt]
        rw [hex]
        refine hg.pan m _ [{ v := .iface t v', recovered := false }] H w ?_ (.refl h) he
        refine ⟨rfl, fun i a b => ?_⟩
        have : i = 0 := by simp at a; omega
        subst this
        exact ⟨.iface t _ _ hv', rfl, rfl⟩
    · simp at he
  · rename_i c ho
    have hargs : VRa m (c.args.map ρ) (c.args.map a'.eval) := VRa_map (fun x hx => hρ x (by simp only [ho, Op.operands, Call.operands]; simp at hx ⊢; exact .inr hx))
    split at he
    · rename_i b hb
      have hex : execOp a'.eval o = builtin b c.argTypes o.type (c.args.map fun | .const _ => true | _ => false) (c.args.map a'.eval) := by
        simp only [execOp, ho, resolve, hb]
        rfl
      rw [hex]
      exact builtinK_sound h hg hargs he
    · rename_i f hf
      have hfv := hρ f (by simp [ho, Op.operands, Call.operands, hf])
      split at he
      · rename_i g first cap hgv
        rw [hgv] at hfv
        generalize hz : a'.eval f = z at hfv
        cases hfv with
        | atom _ hh => simp [atomic] at hh
        | func _ _ first' _ cap' q1 q2 q3 q4 =>
          have hex : execOp a'.eval o = callFunc g (first' ++ c.args.map a'.eval ++ cap') := by
            simp only [execOp, ho, resolve, hf, hz, Deferred.ofValue]
            rfl
          rw [hex]
          exact callK_sound hX hK h hgl hg ((VRa.append ⟨q1, q3⟩ hargs).append ⟨q2, q4⟩) he
      · simp at he
    · simp at he
  · exact mapK_sound h hρ hg he

end Go.Am
