/- Regions that draw their order are sound. -/
import Derived.Test.YtpfpfpeockbbpaaGreatDoorAmLI
namespace Go.Am
theorem draw_sound {P : Program} {X : Xf} {K : Kf} (hX : XSnd P X) (hK : KSnd P K) (hm : P.follows .mixedOrders = true) {ops : Array Oper} {r : End × Heap} {k : Act → Heap → R} {kp : List PanicEntry → Act → Heap → R} {Q : Exit → Act → World → Prop} (hD : drawOk P ops.toList = true)
    {a a' : Act} {m : Mp} {H : Heap} {w : World} (h : StR P m a H a' w) (he : execTr P X K ops ops.toList a H [] (fun tr af Hf => cond (drawChk P ops tr) (k af Hf) none) (fun tr c af Hf => cond (panOkTr P ops tr) (kp c (eraseA ops af) Hf) none) = some r)
    (hQ : ∀ b' w', After P m H w (fun b H' => k b H' = some r) b' w' → Q .normal b' w') (hP : ∀ c' b' w', AfterP P m H w c' (fun c b H' => kp c b H' = some r) b' w' → Q (.panic c') b' w') (id : Nat) : (Code.region id ops true).wp P Q a' w := by
  have hs := drawOk_spec hD
  rcases execTr_spec ops.toList hs.nd he with ⟨ts, k1, k2, k3, af, Hf, k4, k5⟩ | hpan
  case inr => exact draw_pans hX hK hm (sta_of hs) h hpan hP id
  simp only [List.nil_append] at k5
  cases hc : drawChk P ops ts with
  | false => rw [hc] at k5; simp at k5
  | true =>
    rw [hc] at k5
    simp only [cond_true] at k5
    have hchk := chk_spec (a0 := (a, H)) k1 hc
    let A : Nat → Act := fun i => (ts[i]?.getD (a, H)).1
    let Hs : Nat → Heap := fun i => (ts[i]?.getD (a, H)).2
    have A0 : A 0 = a := by simp only [A, k2, Option.getD_some]
    have H0 : Hs 0 = H := by simp only [Hs, k2, Option.getD_some]
    have An : A ops.toList.length = af := by simp only [A, k4, Option.getD_some]
    have Hn : Hs ops.toList.length = Hf := by simp only [Hs, k4, Option.getD_some]
    have ht : Tra P X K ops A Hs := by
      refine ⟨fun i o ho => ?_, fun i p oi op ho hp c1 hg c2 u1 u2 => ?_⟩
      · have hi := (List.getElem?_eq_some_iff.1 ho).1
        have t1 : ts[i]? = some ts[i] := List.getElem?_eq_getElem (by omega)
        have t2 : ts[i + 1]? = some ts[i + 1] := List.getElem?_eq_getElem (by omega)
        have := k3 i o _ _ ho t1 t2
        simpa only [A, Hs, t1, t2, Option.getD_some] using this
      · obtain ⟨v, q0, q1, q2⟩ := hchk i p oi op ho hp c1 hg c2 u1 u2
        exact ⟨v, fun _ v' _ _ hA => q0 v' hA, q1, q2⟩
    refine wp_region_any hm ?_
    have hst0 := step_drawn_heap h.rel
    have hlen : ops.toList.length = ops.size := by simp
    have nl : ∀ j, (Array.replicate ops.size false).getD j false = false := by
      intro j; simp [Array.getD]
    have pv : Pv P ops A Hs m w (fun _ => False) (fun i => (Array.replicate ops.size false).getD i false) (fun _ => 0) 0 m a' { w with drawn := w.drawn + 1 } := by
      refine ⟨?_, h.gl, ?_, ?_, ?_, ?_, ?_, Nat.zero_le _, ?_, ?_, ?_, ?_, ?_⟩
      · rw [H0]; exact hst0.rel
      · rw [H0]; exact hst0
      · rw [A0]; exact h.act.defers
      · rw [A0]; exact h.act.tmps.1
      · intro j o t v v' _ _ hL
        simp only [nl] at hL; simp at hL
      · intro t v v' _ hv hv'
        rw [A0] at hv
        obtain ⟨x1, e1⟩ := Array.getElem?_eq_some_iff.1 hv
        obtain ⟨x2, e2⟩ := Array.getElem?_eq_some_iff.1 hv'
        rw [← e1, ← e2]
        exact h.act.tmps.2 t x1 x2
      · intro j o hj; omega
      · intro j o _ _ _ _; exact nl j
      · intro j o t _ _ _ hL; simp only [nl] at hL; cases hL
      · intro j j' o o' _ _ _ _ _ _ _ hL; simp only [nl] at hL; cases hL
      · intro c hc; exact hc.elim
    obtain ⟨q, m2, pq, qe, _⟩ := pv.settle hs ht ops.toList.length 0 m (by omega)
    refine draw_allF hX hK hs ht (m0 := m) (w0 := w) (Q := Q) ?_ ops.size (Array.replicate ops.size false) (fun _ => 0) q m2 a' _ (by simp) ?_ ?_ pq qe
    · intro m2 b' w2 r1 r2 r3 r4
      rw [An, Hn] at *
      rw [H0] at r4
      exact hQ b' w2 ⟨m2, af, Hf, ⟨r3, r1, r2⟩, r4, k5⟩
    · intro i o ho hL
      have hi := (List.getElem?_eq_some_iff.1 ho).1
      simp [Array.getD] at hL
    · exact Nat.le_trans List.countP_le_length (by simp)
end Go.Am
