/- The operations are sound, sixth part: slicing, append, copy. -/
import Derived.Test.YtpfpfpeockbbpaaGreatDoorAmX
namespace Go.Am

theorem run_bound {P : Program} {w : World} {k : IntKind} {i : Int} {y : Nat} {code : BoundsCode} (h0 : 0 ≤ i) (h1 : i ≤ y) : (Instr.sliceBound (.int k i) y code).run P w = .ok i.toNat w := by
  simp [Instr.sliceBound, asIntOf, h0, h1]

/-- The bounds as numbers: what stands for a bound that is not given. -/
def loInt : Option Value → Option Int
  | none => some 0
  | some (.int _ l) => some l
  | _ => none
def hiInt (n : Nat) : Option Value → Option Int
  | none => some n
  | some (.int _ l) => some l
  | _ => none

def VRo (m : Mp) : Option Value → Option Value → Prop
  | none, none => True
  | some a, some b => VR m a b
  | _, _ => False

theorem bounds_run {P : Program} {m : Mp} {w : World} {lo lo' hi hi' : Option Value} (hlo : VRo m lo lo') (hhi : VRo m hi hi') {l h : Int} {len cap : Nat} {b : Bool} (el : loInt lo = some l) (eh : hiInt len hi = some h)
    (h0 : 0 ≤ l) (h1 : l ≤ h) (h2 : h ≤ cap) : (Instr.sliceBounds b len cap lo' hi' none).run P w = .ok (l.toNat, h.toNat, cap) w := by
  have rlo : lo' = lo := by
    cases lo with
    | none => cases lo' with
      | none => rfl
      | some _ => exact hlo.elim
    | some x => cases lo' with
      | none => exact hlo.elim
      | some y =>
        cases x <;> simp [loInt] at el
        rw [(VR.int_inv hlo)]
  have rhi : hi' = hi := by
    cases hi with
    | none => cases hi' with
      | none => rfl
      | some _ => exact hhi.elim
    | some x => cases hi' with
      | none => exact hhi.elim
      | some y =>
        cases x <;> simp [hiInt] at eh
        rw [(VR.int_inv hhi)]
  subst rlo; subst rhi
  cases lo' with
  | none =>
    simp only [loInt, Option.some.injEq] at el; subst el
    cases hi' with
    | none =>
      simp only [hiInt, Option.some.injEq] at eh; subst eh
      simp [Instr.sliceBounds]
    | some x =>
      cases x <;> simp [hiInt] at eh
      subst eh
      simp [Instr.sliceBounds, run_bound (show (0:Int) ≤ _ by omega) h2]
  | some x =>
    cases x <;> simp [loInt] at el
    subst el
    cases hi' with
    | none =>
      simp only [hiInt, Option.some.injEq] at eh; subst eh
      simp [Instr.sliceBounds, run_bound h0 h1]
    | some y =>
      cases y <;> simp [hiInt] at eh
      subst eh
      rename_i k1 l1 k2 l2
      simp [Instr.sliceBounds, run_bound (P := P) (w := w) (show (0:Int) ≤ l2 by omega) h2, run_bound (P := P) (w := w) h0 (show l1 ≤ ((l2.toNat : Nat) : Int) by omega)]

theorem sliceA_sound {P : Program} {m : Mp} {H : Heap} {w : World} (h : Rel m H w) {t e : TypeId} {es : Nat} (hu : P.underlying t = some (.slice e)) (hs : sizeT P e = some es)
    {a : Option Addr} {n c : Nat} {x' v : Value} {lo lo' hi hi' : Option Value} (hx : VR m (.slice a n c) x') (hlo : VRo m lo lo') (hhi : VRo m hi hi') {l k : Int} (el : loInt lo = some l) (eh : hiInt n hi = some k)
    (he : sliceA H es a c l k = some v) : Snd P (Instr.sliceAt t x' lo' hi' none) m H w v H := by
  unfold sliceA at he
  by_cases hb : 0 ≤ l ∧ l ≤ k ∧ k ≤ c
  · rw [if_pos hb] at he
    obtain ⟨b0, b1, b2⟩ := hb
    split at he
    · simp only [Option.some.injEq] at he; subst he
      cases hx with
      | atom _ hat =>
        simp only [atomic, Bool.and_eq_true, beq_iff_eq] at hat
        obtain ⟨rfl, rfl⟩ := hat
        have l0 : l = 0 := by omega
        have k0 : k = 0 := by omega
        subst l0; subst k0
        refine .pure h (v' := .slice none 0 0) ?_ (.atom _ rfl)
        have hbr := bounds_run (P := P) (w := w) (b := true) hlo hhi el eh (by omega) (by omega) b2
        simp [Instr.sliceAt, Instr.slice, run_und hu, hbr, run_size hs]
    · rename_i a
      cases hl : look H a with
      | none => simp [hl] at he
      | some y =>
        simp only [hl] at he
        by_cases hes : y.es = es
        · rw [if_pos hes] at he
          simp only [Option.some.injEq] at he; subst he
          obtain ⟨L, a', c', hsp, hm, hnc, hc, hb', hs', ha, rfl⟩ := hx.slice_inv
          obtain ⟨_, hg, ho, hLes, hfit, _⟩ := h.look' hm hl
          have hbr := bounds_run (P := P) (w := w) (b := true) (cap := c') hlo hhi el eh b0 b1 (by omega)
          obtain ⟨ab, aoff, asp⟩ := a
          simp only at hsp hm; subst hsp
          rw [Addr.add_eq]
          let a2 : Addr := if c' = l.toNat then a' else a'.add (l.toNat * es)
          refine .pure h (v' := .slice (some a2) (k.toNat - l.toNat) (c' - l.toNat)) ?_ ?_
          · simp only [Instr.sliceAt, Sem.run_bind, run_und hu, Result.andThen_ok, Instr.slice, hbr, run_size hs, Sem.run_pure, a2]
            by_cases hcl : c' = l.toNat
            · simp [hcl]
            · simp [hcl]
          · have hkl : (k - l).toNat = k.toNat - l.toNat := by omega
            rw [hkl]
            refine .slice ab _ L a2 _ _ _ hm (by omega) (by omega) ?_ ?_ ?_
            · simp only [a2]; split
              · exact hb'
              · unfold Addr.add; split <;> exact hb'
            · simp only [a2]; split
              · exact hs'
              · unfold Addr.add; split
                · exact hs'
                · rfl
            · by_cases hcl : c' = l.toNat
              · left; omega
              · right
                have hoff : a'.off = L.base + aoff ∧ a'.off + c' * L.es ≤ L.e := by
                  rcases ha with ha | ha
                  · omega
                  · exact ha
                have ha2 : a2.off = a'.off + l.toNat * es := by
                  simp only [a2, hcl, if_false]
                  unfold Addr.add; split
                  · rename_i h0; rw [h0]; rfl
                  · rfl
                refine ⟨by rw [ha2, hoff.1]; omega, ?_⟩
                rw [ha2]
                have h5 : L.es = es := by rw [hLes, hes]
                rw [h5] at hoff ⊢
                have h6 : l.toNat * es + (c' - l.toNat) * es = c' * es := by rw [← Nat.add_mul]; congr 1; omega
                omega
        · rw [if_neg hes] at he; simp at he
  · rw [if_neg hb] at he; simp at he

theorem sliceP_sound {P : Program} {m : Mp} {H : Heap} {w : World} (h : Rel m H w) {t e : TypeId} {n es : Nat} (hu : P.underlying t = some (.array n e)) (hs : sizeT P e = some es)
    {a : Addr} {x' v : Value} {lo lo' hi hi' : Option Value} (hx : VR m (.pointer (some a)) x') (hlo : VRo m lo lo') (hhi : VRo m hi hi') {l k : Int} (el : loInt lo = some l) (eh : hiInt n hi = some k)
    (he : sliceP H es n a l k = some v) : Snd P (Instr.sliceAt t x' lo' hi' none) m H w v H := by
  unfold sliceP at he
  by_cases hb : 0 ≤ l ∧ l ≤ k ∧ k ≤ n
  · rw [if_pos hb] at he
    obtain ⟨b0, b1, b2⟩ := hb
    cases hl : look H a with
    | none => simp [hl] at he
    | some y =>
      simp only [hl] at he
      by_cases hes : y.es = es ∧ a.off + n * es ≤ y.cells.length
      · rw [if_pos hes] at he
        simp only [Option.some.injEq] at he; subst he
        obtain ⟨L, hsp, hm, rfl⟩ := hx.ptr_inv
        obtain ⟨_, hg, ho, hLes, hfit, _⟩ := h.look' hm hl
        have hbr := bounds_run (P := P) (w := w) (b := false) (cap := n) hlo hhi el eh b0 b1 b2
        obtain ⟨ab, aoff, asp⟩ := a
        simp only at hsp hm; subst hsp
        rw [Addr.add_eq]
        let a2 : Addr := if n = l.toNat then ⟨L.c, L.base + aoff, none⟩ else ⟨L.c, L.base + aoff + l.toNat * es, none⟩
        refine .pure h (v' := .slice (some a2) (k.toNat - l.toNat) (n - l.toNat)) ?_ ?_
        · simp only [Instr.sliceAt, Sem.run_bind, run_und hu, Result.andThen_ok, Instr.sureAddr, Sem.run_pure, hbr, run_size hs, a2, Addr.add_eq]
        · have hkl : (k - l).toNat = k.toNat - l.toNat := by omega
          rw [hkl]
          refine .slice ab _ L a2 _ _ _ hm (by omega) (Nat.le_refl _) ?_ ?_ ?_
          · simp only [a2]; split <;> rfl
          · simp only [a2]; split <;> rfl
          · by_cases hcl : n = l.toNat
            · left; omega
            · right
              have ha2 : a2.off = L.base + aoff + l.toNat * es := by simp only [a2, hcl, if_false]
              refine ⟨by rw [ha2]; omega, ?_⟩
              rw [ha2]
              have h5 : L.es = es := by rw [hLes, hes.1]
              rw [h5]
              have h6 : l.toNat * es + (n - l.toNat) * es = n * es := by rw [← Nat.add_mul]; congr 1; omega
              have := hes.2
              simp only at this
              omega
      · rw [if_neg hes] at he; simp at he
  · rw [if_neg hb] at he; simp at he

theorem sliceS_sound {P : Program} {m : Mp} {H : Heap} {w : World} (h : Rel m H w) {t : TypeId} (hu : P.underlying t = some .string)
    {s r : ByteArray} {x' : Value} {lo lo' hi hi' : Option Value} (hx : VR m (.string s) x') (hlo : VRo m lo lo') (hhi : VRo m hi hi') {l k : Int} (el : loInt lo = some l) (eh : hiInt s.size hi = some k)
    (he : sliceS s l k = some r) : Snd P (Instr.sliceAt t x' lo' hi' none) m H w (.string r) H := by
  unfold sliceS at he
  by_cases hb : 0 ≤ l ∧ l ≤ k ∧ k ≤ s.size
  · rw [if_pos hb] at he
    simp only [Option.some.injEq] at he; subst he
    obtain ⟨b0, b1, b2⟩ := hb
    have := hx.str_inv; subst this
    have hbr := bounds_run (P := P) (w := w) (b := false) (cap := s.size) hlo hhi el eh b0 b1 b2
    refine .pure h ?_ (.str m _)
    simp [Instr.sliceAt, Instr.slice, run_und hu, hbr]
  · rw [if_neg hb] at he; simp at he

theorem sliceOpA_sound {P : Program} {m : Mp} {H : Heap} {w : World} (h : Rel m H w) {t : TypeId} {x x' v : Value} {lo lo' hi hi' mx mx' : Option Value} (hx : VR m x x') (hlo : VRo m lo lo') (hhi : VRo m hi hi')
    (hmx : VRo m mx mx') (he : sliceOpA P t x lo hi mx H = some v) : Snd P (Instr.sliceAt t x' lo' hi' mx') m H w v H := by
  unfold sliceOpA at he
  split at he
  · simp at he
  · have : mx' = none := by cases mx' with
      | none => rfl
      | some _ => exact hmx.elim
    subst this
    split at he
    · rename_i s hu
      have key : ∀ l k, loInt lo = some l → hiInt s.size hi = some k → (match sliceS s l k with | some r => some (Value.string r) | none => none) = some v → Snd P (Instr.sliceAt t x' lo' hi' none) m H w v H := by
        intro l k el eh he
        cases hr : sliceS s l k with
        | none => simp [hr] at he
        | some r =>
          simp only [hr, Option.some.injEq] at he; subst he
          exact sliceS_sound h hu hx hlo hhi el eh hr
      split at he
      · exact key _ _ rfl rfl he
      · exact key _ _ rfl rfl he
      · exact key _ _ rfl rfl he
      · exact key _ _ rfl rfl he
      · simp at he
    · rename_i e a n c hu
      cases hs : sizeT P e with
      | none => simp [hs] at he
      | some es =>
        simp only [hs] at he
        split at he
        · exact sliceA_sound h hu hs hx hlo hhi rfl rfl he
        · exact sliceA_sound h hu hs hx hlo hhi rfl rfl he
        · exact sliceA_sound h hu hs hx hlo hhi rfl rfl he
        · exact sliceA_sound h hu hs hx hlo hhi rfl rfl he
        · simp at he
    · rename_i n e a hu
      cases hs : sizeT P e with
      | none => simp [hs] at he
      | some es =>
        simp only [hs] at he
        split at he
        · exact sliceP_sound h hu hs hx hlo hhi rfl rfl he
        · exact sliceP_sound h hu hs hx hlo hhi rfl rfl he
        · exact sliceP_sound h hu hs hx hlo hhi rfl rfl he
        · exact sliceP_sound h hu hs hx hlo hhi rfl rfl he
        · simp at he
    · simp at he

end Go.Am
