/- Regions that draw their order: every order comes to the same. -/
import Derived.Test.YtpfpfpeockbbpaaGreatDoorAmD
namespace Go.Am

theorem count_lt {α : Type} {p q : α → Bool} : ∀ (l : List α), (∀ x ∈ l, q x = true → p x = true) → (∃ x ∈ l, p x = true ∧ q x = false) → l.countP q < l.countP p
  | [], _, ⟨x, hx, _⟩ => by simp at hx
  | y :: r, h, ⟨x, hx, h1, h2⟩ => by
    have hle : r.countP q ≤ r.countP p := List.countP_mono_left (fun z hz => h z (by simp [hz]))
    rw [List.countP_cons, List.countP_cons]
    rcases List.mem_cons.1 hx with rfl | hx
    · simp [h1, h2]; omega
    · have := count_lt r (fun z hz => h z (by simp [hz])) ⟨x, hx, h1, h2⟩
      have h3 := h y (by simp)
      cases hq : q y with
      | true => simp [h3 hq]; omega
      | false => cases p y <;> simp <;> omega

/-- What the run in the text's order has left. -/
structure Tra (P : Program) (X : Xf) (K : Kf) (ops : Array Oper) (A : Nat → Act) (Hs : Nat → Heap) : Prop where
  step : ∀ (i : Nat) (o : Oper), ops.toList[i]? = some o → StepC P X K ops o (A i) (Hs i) (A (i + 1)) (Hs (i + 1))
  chk : ∀ (i p : Nat) (oi op : Oper), ops.toList[i]? = some oi → ops.toList[p]? = some op → cls P oi = 1 → guardB ops oi (A i) = some true → cls P op = 2 →
    ((masks ops.toList []).getD i 0).testBit p = false → ((masks ops.toList []).getD p 0).testBit i = false →
    ∃ v, (∀ H v' H', Yl P X K (A i).eval oi H v' H' → A (i + 1) = (A i).put oi.dst v' → v' = v) ∧ qval P (A i).eval oi (Hs p) = some v ∧ qval P (A i).eval oi (Hs (p + 1)) = some v

theorem put_size (a : Act) (dst : Option Tmp) (v : Value) : (a.put dst v).tmps.size = a.tmps.size := by
  cases dst <;> simp [Act.put]
theorem put_defers (a : Act) (dst : Option Tmp) (v : Value) : (a.put dst v).defers = a.defers := by cases dst <;> rfl
theorem put_get (a : Act) (dst : Option Tmp) (v : Value) (t : Nat) (h : dst ≠ some t) : (a.put dst v).tmps[t]? = a.tmps[t]? := by
  cases dst with
  | none => rfl
  | some d =>
    have : d ≠ t := fun e => h (by rw [e])
    simp [Act.put, this]

theorem StepC.put {P : Program} {X : Xf} {K : Kf} {ops : Array Oper} {o : Oper} {a a' : Act} {H H' : Heap} (h : StepC P X K ops o a H a' H') : ∃ v, a' = a.put o.dst v := by
  rcases h with ⟨_, _, v, _, h⟩ | ⟨_, h, _⟩
  · exact ⟨v, h⟩
  · exact ⟨undef, h⟩

section
variable {P : Program} {X : Xf} {K : Kf} {ops : Array Oper} {A : Nat → Act} {Hs : Nat → Heap}

theorem Tra.size (h : Tra P X K ops A Hs) : ∀ i, i ≤ ops.toList.length → (A i).tmps.size = (A 0).tmps.size
  | 0, _ => rfl
  | i + 1, hi => by
    obtain ⟨v, hv⟩ := (h.step i ops.toList[i] (List.getElem?_eq_getElem (by omega))).put
    rw [hv, put_size, h.size i (by omega)]

theorem Tra.defers (h : Tra P X K ops A Hs) : ∀ i, i ≤ ops.toList.length → (A i).defers = (A 0).defers
  | 0, _ => rfl
  | i + 1, hi => by
    obtain ⟨v, hv⟩ := (h.step i ops.toList[i] (List.getElem?_eq_getElem (by omega))).put
    rw [hv, put_defers, h.defers i (by omega)]

/-- A slot that nobody writes between stays. -/
theorem Tra.slot (h : Tra P X K ops A Hs) (t : Nat) (i : Nat) : ∀ k, i + k ≤ ops.toList.length → (∀ j o, i ≤ j → j < i + k → ops.toList[j]? = some o → o.dst ≠ some t) → (A (i + k)).tmps[t]? = (A i).tmps[t]?
  | 0, _, _ => rfl
  | k + 1, hk, hn => by
    have hlt : i + k < ops.toList.length := by omega
    obtain ⟨v, hv⟩ := (h.step (i + k) ops.toList[i + k] (List.getElem?_eq_getElem hlt)).put
    rw [show i + (k + 1) = i + k + 1 by omega, hv, put_get _ _ _ _ (hn (i + k) _ (by omega) (by omega) (List.getElem?_eq_getElem hlt))]
    exact h.slot t i k (by omega) (fun j o h1 h2 h3 => hn j o h1 (by omega) h3)

/-- A heap that nobody turns between stays. -/
theorem Tra.heap (h : Tra P X K ops A Hs) (i : Nat) : ∀ k, i + k ≤ ops.toList.length → (∀ j o, i ≤ j → j < i + k → ops.toList[j]? = some o → cls P o ≠ 2) → Hs (i + k) = Hs i
  | 0, _, _ => rfl
  | k + 1, hk, hn => by
    have hlt : i + k < ops.toList.length := by omega
    have hc := hn (i + k) _ (by omega) (by omega) (List.getElem?_eq_getElem hlt)
    have hc2 : cls P ops.toList[i + k] < 2 := by
      have : ∀ o, cls P o ≤ 2 := by
        intro o
        unfold cls
        split
        all_goals first
          | omega
          | (split <;> omega)
      have := this ops.toList[i + k]
      omega
    have : Hs (i + k + 1) = Hs (i + k) := by
      rcases h.step (i + k) ops.toList[i + k] (List.getElem?_eq_getElem hlt) with ⟨_, _, v, hy, _⟩ | ⟨_, _, hh⟩
      · exact yl_same hc2 hy
      · exact hh
    rw [show i + (k + 1) = i + k + 1 by omega, this]
    exact h.heap i k (by omega) (fun j o h1 h2 h3 => hn j o h1 (by omega) h3)
end

theorem cls_le (P : Program) (o : Oper) : cls P o ≤ 2 := by
  unfold cls
  split
  all_goals first
    | omega
    | (split <;> omega)

/-- The first effect from a place on, or the end. -/
theorem next_eff (P : Program) (l : List Oper) : ∀ (k i : Nat), i + k = l.length → ∃ q, i ≤ q ∧ q ≤ l.length ∧ (∀ j o, i ≤ j → j < q → l[j]? = some o → cls P o ≠ 2) ∧ (∀ o, l[q]? = some o → cls P o = 2)
  | 0, i, h => ⟨i, Nat.le_refl _, by omega, fun j o h1 h2 => by omega, fun o ho => by rw [List.getElem?_eq_none (by omega)] at ho; simp at ho⟩
  | k + 1, i, h => by
    have hlt : i < l.length := by omega
    by_cases hc : cls P l[i] = 2
    · exact ⟨i, Nat.le_refl _, by omega, fun j o h1 h2 => by omega, fun o ho => by rw [List.getElem?_eq_getElem hlt] at ho; simp only [Option.some.injEq] at ho; rw [← ho]; exact hc⟩
    · obtain ⟨q, h1, h2, h3, h4⟩ := next_eff P l k (i + 1) (by omega)
      refine ⟨q, by omega, h2, fun j o a b c => ?_, h4⟩
      rcases Nat.eq_or_lt_of_le a with e | e
      · subst e; rw [List.getElem?_eq_getElem hlt] at c; simp only [Option.some.injEq] at c; rw [← c]; exact hc
      · exact h3 j o e b c

/-- The last effect before a place, or none. -/
theorem last_eff (P : Program) (l : List Oper) (i : Nat) : ∀ (k : Nat), i + k ≤ l.length → (∀ j o, i ≤ j → j < i + k → l[j]? = some o → cls P o ≠ 2) ∨
    ∃ e o, i ≤ e ∧ e < i + k ∧ l[e]? = some o ∧ cls P o = 2 ∧ ∀ j o, e < j → j < i + k → l[j]? = some o → cls P o ≠ 2
  | 0, _ => .inl fun j o h1 h2 => by omega
  | k + 1, h => by
    have hlt : i + k < l.length := by omega
    by_cases hc : cls P l[i + k] = 2
    · exact .inr ⟨i + k, l[i + k], by omega, by omega, List.getElem?_eq_getElem hlt, hc, fun j o h1 h2 => by omega⟩
    · rcases last_eff P l i k (by omega) with hn | ⟨e, o, h1, h2, h3, h4, h5⟩
      · refine .inl fun j o a b c => ?_
        rcases Nat.lt_or_ge j (i + k) with d | d
        · exact hn j o a d c
        · have : j = i + k := by omega
          subst this; rw [List.getElem?_eq_getElem hlt] at c; simp only [Option.some.injEq] at c; rw [← c]; exact hc
      · refine .inr ⟨e, o, h1, by omega, h3, h4, fun j o a b c => ?_⟩
        rcases Nat.lt_or_ge j (i + k) with d | d
        · exact h5 j o a d c
        · have : j = i + k := by omega
          subst this; rw [List.getElem?_eq_getElem hlt] at c; simp only [Option.some.injEq] at c; rw [← c]; exact hc

end Go.Am
