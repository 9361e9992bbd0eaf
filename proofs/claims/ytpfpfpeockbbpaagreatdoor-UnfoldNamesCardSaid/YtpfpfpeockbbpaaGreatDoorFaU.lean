/- Operations continued: what goes on further with less goes on further with more. -/
import Derived.Test.YtpfpfpeockbbpaaGreatDoorFaT
namespace Go.Am

theorem bindV_mono {x : VH} {k k' : Value → Heap → R} {r : End × Heap} (hk : ∀ v H, k v H = some r → k' v H = some r) (h : bindV x k = some r) : bindV x k' = some r := by
  obtain ⟨v, H, e, h1⟩ := bindV_some h
  rw [e]; exact hk v H h1
theorem bindO_mono {x : Option Value} {k k' : Value → R} {r : End × Heap} (hk : ∀ v, k v = some r → k' v = some r) (h : bindO x k = some r) : bindO x k' = some r := by
  obtain ⟨v, e, h1⟩ := bindO_some h
  rw [e]; exact hk v h1
theorem groundK_mono {v : Value} {k k' : R} {r : End × Heap} (hk : k = some r → k' = some r) (h : groundK v k = some r) : groundK v k' = some r := by
  unfold groundK at h ⊢
  split at h
  · rename_i e; rw [if_pos e]; exact hk h
  · cases h
/-- What one answers the other answers. -/
def KLe (K K' : Kf) : Prop := ∀ f args H r, K f args H = some r → K' f args H = some r
theorem bindR_mono {x x' : R} {k k' : Value → Heap → R} {kp kp' : List PanicEntry → Heap → R} {r : End × Heap} (hx : ∀ q, x = some q → x' = some q) (hk : ∀ v H, k v H = some r → k' v H = some r) (hp : ∀ c H, kp c H = some r → kp' c H = some r)
    (h : bindR x k kp = some r) : bindR x' k' kp' = some r := by
  unfold bindR at h
  split at h
  · rw [hx _ rfl]; exact hk _ _ h
  · rw [hx _ rfl]; exact hp _ _ h
  · cases h
theorem callK_mono {P : Program} {X : Xf} {K K' : Kf} (hK : KLe K K') {f : FuncId} {args : Array Value} {H : Heap} {k k' : Value → Heap → R} {kp kp' : List PanicEntry → Heap → R} {r : End × Heap}
    (hk : ∀ v H, k v H = some r → k' v H = some r) (hp : ∀ c H, kp c H = some r → kp' c H = some r) (h : callK P X K f args H k kp = some r) : callK P X K' f args H k' kp' = some r := by
  unfold callK at h ⊢
  split at h
  · split at h
    · cases h
    · rename_i hn
      simp only [hn]
      split at h
      · rename_i hb; simp only [hb, if_true]; exact bindV_mono hk h
      · rename_i hb; simp only [hb]; exact bindR_mono (fun q => hK _ _ _ q) hk hp h
  · cases h
theorem builtinK_mono {P : Program} {b : Builtin} {ts : Array TypeId} {args : Array Value} {H : Heap} {k k' : Value → Heap → R} {r : End × Heap}
    (hk : ∀ v H, k v H = some r → k' v H = some r) (h : builtinK P b ts args H k = some r) : builtinK P b ts args H k' = some r := by
  unfold builtinK at h ⊢
  split at h
  · split at h
    · exact bindO_mono (fun v => hk v H) h
    · cases h
  · split at h
    · rename_i e; rw [if_pos e]; exact bindV_mono hk h
    · cases h
  · exact bindV_mono hk h
  · split at h
    · rename_i e; rw [if_pos e]; exact hk _ _ h
    · cases h
  · exact bindV_mono hk h
  · split at h
    · rename_i e; rw [if_pos e]; exact bindV_mono hk h
    · cases h
  · split at h
    · rename_i e; rw [if_pos e]; exact hk _ _ h
    · cases h
  · cases h
theorem mapK_mono {P : Program} {ρ : Operand → Value} {o : Op} {H : Heap} {k k' : Value → Heap → R} {r : End × Heap} (hk : ∀ v H, k v H = some r → k' v H = some r) (h : mapK P ρ o H k = some r) : mapK P ρ o H k' = some r := by
  unfold mapK at h ⊢
  split at h
  · exact bindV_mono hk h
  · exact bindO_mono (fun v => hk v _) h
  · exact bindV_mono hk h
  · cases h
theorem opK_mono {P : Program} {X : Xf} {K K' : Kf} (hK : KLe K K') {ρ : Operand → Value} {o : Oper} {H : Heap} {k k' : Value → Heap → R} {kp kp' : List PanicEntry → Heap → R} {r : End × Heap}
    (hk : ∀ v H, k v H = some r → k' v H = some r) (hp : ∀ c H, kp c H = some r → kp' c H = some r) (h : opK P X K ρ o H k kp = some r) : opK P X K' ρ o H k' kp' = some r := by
  unfold opK at h ⊢
  split at h
  all_goals first
    | exact hk _ _ h
    | exact bindV_mono hk h
    | exact mapK_mono hk h
    | exact bindO_mono (fun v => hk v H) h
    | exact bindO_mono (fun v => groundK_mono (hk v H)) h
    | (split at h
       all_goals first
         | exact hk _ _ h
         | exact hp _ _ h
         | exact builtinK_mono hk h
         | (cases h; done)
         | (split at h
            all_goals first
              | exact callK_mono hK hk hp h
              | (cases h; done)))
    | (cases h; done)
    | skip
end Go.Am
