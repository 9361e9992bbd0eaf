/- Operations as steps of their own: what each yields, whatever comes behind it. -/
import Derived.Test.YtpfpfpeockbbpaaGreatDoorAmI
import Derived.Orders
namespace Go.Am

def Yl (P : Program) (X : Xf) (K : Kf) (ρ : Operand → Value) (o : Oper) (H : Heap) (v : Value) (H' : Heap) : Prop := ∀ k kp, opK P X K ρ o H k kp = k v H'
def Pn (P : Program) (X : Xf) (K : Kf) (ρ : Operand → Value) (o : Oper) (H : Heap) (c : List PanicEntry) (H' : Heap) : Prop := ∀ k kp, opK P X K ρ o H k kp = kp c H'

/-- A function of continuations that calls one of them once, or neither. -/
def Lin (f : (Value → Heap → R) → (List PanicEntry → Heap → R) → R) : Prop :=
  (∃ v H', ∀ k kp, f k kp = k v H') ∨ (∃ c H', ∀ k kp, f k kp = kp c H') ∨ (∀ k kp, f k kp = none)

theorem Lin.bindV (x : VH) : Lin fun k _ => bindV x k := by
  cases x with
  | none => exact .inr (.inr fun _ _ => rfl)
  | some y => exact .inl ⟨y.1, y.2, fun _ _ => rfl⟩
theorem Lin.bindO (x : Option Value) (H : Heap) : Lin fun k _ => bindO x fun v => k v H := by
  cases x with
  | none => exact .inr (.inr fun _ _ => rfl)
  | some y => exact .inl ⟨y, H, fun _ _ => rfl⟩
theorem Lin.none : Lin fun _ _ => none := .inr (.inr fun _ _ => rfl)
theorem Lin.val (v : Value) (H : Heap) : Lin fun k _ => k v H := .inl ⟨v, H, fun _ _ => rfl⟩
theorem Lin.pan (c : List PanicEntry) (H : Heap) : Lin fun _ kp => kp c H := .inr (.inl ⟨c, H, fun _ _ => rfl⟩)
theorem Lin.bindG (x : Option Value) (H : Heap) : Lin fun k _ => Am.bindO x fun v => groundK v (k v H) := by
  cases x with
  | none => exact .inr (.inr fun _ _ => rfl)
  | some y =>
    unfold groundK
    by_cases h : ground y = true
    · exact .inl ⟨y, H, fun _ _ => by simp [Am.bindO, h]⟩
    · exact .inr (.inr fun _ _ => by simp [Am.bindO, h])

theorem Lin.builtin (P : Program) (b : Builtin) (ts : Array TypeId) (args : Array Value) (H : Heap) : Lin fun k _ => builtinK P b ts args H k := by
  unfold builtinK
  split
  · cases ts[0]? with
    | none => exact Lin.none
    | some t => exact Lin.bindO _ H
  · by_cases h : ts.size = 2
    · simp only [h, if_true]; exact Lin.bindV _
    · simp only [h, if_false]; exact Lin.none
  · exact Lin.bindV _
  · rename_i ka a kb b _
    by_cases h : ka = kb
    · simp only [h, if_true]; exact Lin.val _ _
    · simp only [h, if_false]; exact Lin.none
  · exact Lin.bindV _
  · by_cases h : ts.size = 2
    · simp only [h, if_true]; exact Lin.bindV _
    · simp only [h, if_false]; exact Lin.none
  · rename_i ka a kb b _
    by_cases h : ka = kb
    · simp only [h, if_true]; exact Lin.val _ _
    · simp only [h, if_false]; exact Lin.none
  · exact Lin.none

theorem Lin.call (P : Program) (X : Xf) (K : Kf) (f : FuncId) (args : Array Value) (H : Heap) : Lin fun k kp => callK P X K f args H k kp := by
  unfold callK
  split
  · rename_i fn _
    by_cases h1 : (fn.name == "runtime.NumGoroutine") = true
    · simp only [h1, if_true]; exact Lin.none
    · by_cases h2 : fn.body.isNone = true
      · simp only [if_neg h1, if_pos h2]; exact Lin.bindV _
      · simp only [if_neg h1, if_neg h2]
        unfold bindR
        split
        · exact Lin.val _ _
        · exact Lin.pan _ _
        · exact Lin.none
  · exact Lin.none

theorem mapK_lin (P : Program) (ρ : Operand → Value) (o : Op) (H : Heap) : Lin fun k _ => mapK P ρ o H k := by
  unfold mapK
  split
  · exact Lin.bindV _
  · exact Lin.bindO _ H
  · exact Lin.bindV _
  · exact Lin.none

theorem opK_lin (P : Program) (X : Xf) (K : Kf) (ρ : Operand → Value) (o : Oper) (H : Heap) : Lin fun k kp => opK P X K ρ o H k kp := by
  unfold opK
  split
  all_goals first
    | exact Lin.val _ _
    | exact Lin.bindV _
    | exact Lin.bindO _ H
    | exact Lin.bindG _ H
    | exact Lin.none
    | skip
  · split
    · exact Lin.val _ _
    · exact Lin.none
  · split
    · exact Lin.none
    · exact Lin.val _ _
    · exact Lin.none
  · split
    · exact Lin.pan _ _
    · exact Lin.none
  · split
    · exact Lin.builtin _ _ _ _ _
    · split
      · exact Lin.call _ _ _ _ _ _
      · exact Lin.none
    · exact Lin.none
  · exact mapK_lin P ρ o.op H

theorem opK_split {P : Program} {X : Xf} {K : Kf} {ρ : Operand → Value} {o : Oper} {H : Heap} {k : Value → Heap → R} {kp : List PanicEntry → Heap → R} {r : End × Heap} (h : opK P X K ρ o H k kp = some r) :
    (∃ v H', Yl P X K ρ o H v H' ∧ k v H' = some r) ∨ (∃ c H', Pn P X K ρ o H c H' ∧ kp c H' = some r) := by
  rcases opK_lin P X K ρ o H with ⟨v, H', hh⟩ | ⟨c, H', hh⟩ | hh
  · exact .inl ⟨v, H', hh, by rw [← hh k kp]; exact h⟩
  · exact .inr ⟨c, H', hh, by rw [← hh k kp]; exact h⟩
  · have := hh k kp
    simp only at this
    rw [this] at h; simp at h

/-- Without other eyes: no call, and the heap stays. -/
def Quiet (f : Xf → Kf → Heap → (Value → Heap → R) → (List PanicEntry → Heap → R) → R) : Prop :=
  ∀ H, (∃ v, ∀ X K k kp, f X K H k kp = k v H) ∨ (∀ X K k kp, f X K H k kp = none)

theorem Quiet.bindO (x : Heap → Option Value) : Quiet fun _ _ H k _ => Am.bindO (x H) fun v => k v H := by
  intro H
  simp only
  cases x H with
  | none => exact .inr fun _ _ _ _ => rfl
  | some y => exact .inl ⟨y, fun _ _ _ _ => rfl⟩

theorem vh_same {x : VH} {H : Heap} (h : ∀ v H', x = some (v, H') → H' = H) : (∃ v, ∀ (_ : Xf) (_ : Kf) (k : Value → Heap → R) (_ : List PanicEntry → Heap → R), bindV x k = k v H) ∨ (∀ (_ : Xf) (_ : Kf) (k : Value → Heap → R) (_ : List PanicEntry → Heap → R), bindV x k = none) := by
  cases x with
  | none => exact .inr fun _ _ _ _ => rfl
  | some y =>
    obtain ⟨v, H'⟩ := y
    have := h v H' rfl
    subst this
    exact .inl ⟨v, fun _ _ _ _ => rfl⟩

theorem loadA_same {P : Program} {t : TypeId} {x : Value} {H : Heap} {v : Value} {H' : Heap} (h : loadA P t x H = some (v, H')) : H' = H := by
  unfold loadA at h
  split at h
  · split at h
    · split at h
      · unfold ldN at h
        split at h
        · split at h
          · simp only [Option.some.injEq, Prod.mk.injEq] at h; exact h.2.symm
          · simp at h
        · simp at h
      · simp at h
    · unfold ld1 at h
      split at h
      · split at h
        · simp only [Option.some.injEq, Prod.mk.injEq] at h; exact h.2.symm
        · simp at h
      · simp at h
    · simp at h
  · simp at h

theorem convertA_same {P : Program} {s d : TypeId} {x : Value} {H : Heap} {v : Value} {H' : Heap} (hd : ∀ e, P.underlying d ≠ some (.slice e)) (h : convertA P s d x H = some (v, H')) : H' = H := by
  unfold convertA at h
  split at h
  · simp only [Option.some.injEq, Prod.mk.injEq] at h; exact h.2.symm
  · simp only [Option.some.injEq, Prod.mk.injEq] at h; exact h.2.symm
  · simp only [Option.some.injEq, Prod.mk.injEq] at h; exact h.2.symm
  · rename_i h2; exact absurd h2 (hd _)
  · rename_i h2; exact absurd h2 (hd _)
  · split at h
    · split at h
      · simp only [Option.some.injEq, Prod.mk.injEq] at h; exact h.2.symm
      · simp at h
    · simp at h
  · split at h
    · split at h
      · split at h
        · simp only [Option.some.injEq, Prod.mk.injEq] at h; exact h.2.symm
        · cases h
      · cases h
    · cases h
  · split at h
    · split at h
      · split at h
        · simp only [Option.some.injEq, Prod.mk.injEq] at h; exact h.2.symm
        · cases h
      · cases h
    · cases h
  · simp at h

theorem builtin_quiet (P : Program) {b : Builtin} (hb : b = .len ∨ b = .min ∨ b = .max) (ts : Array TypeId) (args : Array Value) (H : Heap) :
    (∃ v, ∀ (_ : Xf) (_ : Kf) (k : Value → Heap → R) (_ : List PanicEntry → Heap → R), builtinK P b ts args H k = k v H) ∨ (∀ (_ : Xf) (_ : Kf) (k : Value → Heap → R) (_ : List PanicEntry → Heap → R), builtinK P b ts args H k = none) := by
  unfold builtinK
  split
  · cases ts[0]? with
    | none => exact .inr fun _ _ _ _ => rfl
    | some t =>
      simp only
      rcases Quiet.bindO (fun H => lenA P t _ H) H with ⟨v, hv⟩ | hv
      · exact .inl ⟨v, fun X K k kp => hv X K k kp⟩
      · exact .inr fun X K k kp => hv X K k kp
  · rcases hb with h | h | h <;> simp at h
  · rcases hb with h | h | h <;> simp at h
  · rename_i ka a kb b _
    by_cases h : ka = kb
    · exact .inl ⟨.int ka (if b < a then b else a), fun _ _ _ _ => by rw [if_pos h]⟩
    · exact .inr fun _ _ _ _ => by rw [if_neg h]
  · rcases hb with h | h | h <;> simp at h
  · rcases hb with h | h | h <;> simp at h
  · rename_i ka a kb b _
    by_cases h : ka = kb
    · exact .inl ⟨.int ka (if b > a then b else a), fun _ _ _ _ => by rw [if_pos h]⟩
    · exact .inr fun _ _ _ _ => by rw [if_neg h]
  · exact .inr fun _ _ _ _ => rfl

theorem cls_quiet {P : Program} {o : Oper} (hc : cls P o < 2) (ρ : Operand → Value) (H : Heap) :
    (∃ v, ∀ X K k kp, opK P X K ρ o H k kp = k v H) ∨ (∀ X K k kp, opK P X K ρ o H k kp = none) := by
  obtain ⟨dst, op, type, pos, after, guard⟩ := o
  simp only [cls] at hc
  simp only [opK]
  have bo : ∀ (x : Option Value), (∃ v, ∀ (_ : Xf) (_ : Kf) (k : Value → Heap → R) (_ : List PanicEntry → Heap → R), (bindO x fun v => k v H) = k v H) ∨ (∀ (_ : Xf) (_ : Kf) (k : Value → Heap → R) (_ : List PanicEntry → Heap → R), (bindO x fun v => k v H) = none) := by
    intro x; exact Quiet.bindO (fun _ => x) H
  have bg : ∀ (x : Option Value), (∃ v, ∀ (_ : Xf) (_ : Kf) (k : Value → Heap → R) (_ : List PanicEntry → Heap → R), (bindO x fun v => groundK v (k v H)) = k v H) ∨ (∀ (_ : Xf) (_ : Kf) (k : Value → Heap → R) (_ : List PanicEntry → Heap → R), (bindO x fun v => groundK v (k v H)) = none) := by
    intro x
    cases x with
    | none => exact .inr fun _ _ _ _ => rfl
    | some y =>
      by_cases h : ground y = true
      · exact .inl ⟨y, fun _ _ _ _ => by simp [bindO, groundK, h]⟩
      · exact .inr fun _ _ _ _ => by simp [bindO, groundK, h]
  cases op <;> simp only at hc ⊢ <;> first
    | exact bo _
    | exact bg _
    | exact .inl ⟨_, fun _ _ _ _ => rfl⟩
    | (exfalso; omega)
    | skip
  case pick c a b =>
    split
    · exact .inl ⟨_, fun _ _ _ _ => rfl⟩
    · exact .inr fun _ _ _ _ => rfl
  case load t a => exact vh_same (fun v H' h => loadA_same h)
  case convert s d x =>
    refine vh_same (fun v H' h => convertA_same ?_ h)
    intro e he
    rw [he] at hc
    simp at hc
  case makeInterface t x =>
    split
    · exact .inr fun _ _ _ _ => rfl
    · exact .inl ⟨_, fun _ _ _ _ => rfl⟩
    · exact .inr fun _ _ _ _ => rfl
  case call c =>
    obtain ⟨callee, args, ts⟩ := c
    cases callee with
    | value f => simp at hc
    | invoke x y => simp at hc
    | builtin b => cases b <;> simp at hc <;> exact builtin_quiet P (by simp) _ _ _

theorem qval_yl {P : Program} {o : Oper} (hc : cls P o < 2) {ρ : Operand → Value} {H : Heap} {v : Value} (h : qval P ρ o H = some v) (X : Xf) (K : Kf) : Yl P X K ρ o H v H := by
  unfold qval at h
  rcases cls_quiet hc ρ H with ⟨u, hu⟩ | hu
  · rw [hu] at h
    simp only [Option.some.injEq] at h
    subst h
    exact fun k kp => hu X K k kp
  · rw [hu] at h; simp at h

theorem yl_same {P : Program} {X : Xf} {K : Kf} {o : Oper} (hc : cls P o < 2) {ρ : Operand → Value} {H H' : Heap} {v : Value} (h : Yl P X K ρ o H v H') : H' = H := by
  rcases cls_quiet hc ρ H with ⟨u, hu⟩ | hu
  · have h1 := h (fun v H => some (.ret v, H)) (fun _ _ => none)
    rw [hu] at h1
    simp only [Option.some.injEq, Prod.mk.injEq] at h1
    exact h1.2.symm
  · have h1 := h (fun v H => some (.ret v, H)) (fun _ _ => none)
    rw [hu] at h1; simp at h1

theorem convertA_pure (P : Program) (s d : TypeId) (x : Value) {dd : TypeDesc} (hd : P.underlying d = some dd) (h1 : ∀ e, dd ≠ .slice e) (h2 : dd ≠ .string) (h3 : ∀ e, dd ≠ .pointer e) (h4 : dd ≠ .unsafePointer) :
    (∃ v, ∀ H, convertA P s d x H = some (v, H)) ∨ (∀ H, convertA P s d x H = none) := by
  unfold convertA
  cases hs : P.underlying s with
  | none => exact .inr fun _ => rfl
  | some ds =>
    rw [hd]
    cases dd with
    | int k => cases x <;> first | exact .inl ⟨_, fun _ => rfl⟩ | exact .inr fun _ => rfl
    | slice e => exact absurd rfl (h1 e)
    | string => exact absurd rfl h2
    | pointer e => exact absurd rfl (h3 e)
    | unsafePointer => exact absurd rfl h4
    | _ => cases x <;> first | exact .inr fun _ => rfl | (cases ds <;> exact .inr fun _ => rfl)

theorem cls_pure {P : Program} {o : Oper} (hc : cls P o = 0) (ρ : Operand → Value) :
    (∃ v, ∀ X K H k kp, opK P X K ρ o H k kp = k v H) ∨ (∀ X K H k kp, opK P X K ρ o H k kp = none) := by
  obtain ⟨dst, op, type, pos, after, guard⟩ := o
  simp only [cls] at hc
  simp only [opK]
  have bo : ∀ (x : Option Value), (∃ v, ∀ (_ : Xf) (_ : Kf) (H : Heap) (k : Value → Heap → R) (_ : List PanicEntry → Heap → R), (bindO x fun v => k v H) = k v H) ∨ (∀ (_ : Xf) (_ : Kf) (H : Heap) (k : Value → Heap → R) (_ : List PanicEntry → Heap → R), (bindO x fun v => k v H) = none) := by
    intro x
    cases x with
    | none => exact .inr fun _ _ _ _ _ => rfl
    | some y => exact .inl ⟨y, fun _ _ _ _ _ => rfl⟩
  have bg : ∀ (x : Option Value), (∃ v, ∀ (_ : Xf) (_ : Kf) (H : Heap) (k : Value → Heap → R) (_ : List PanicEntry → Heap → R), (bindO x fun v => groundK v (k v H)) = k v H) ∨ (∀ (_ : Xf) (_ : Kf) (H : Heap) (k : Value → Heap → R) (_ : List PanicEntry → Heap → R), (bindO x fun v => groundK v (k v H)) = none) := by
    intro x
    cases x with
    | none => exact .inr fun _ _ _ _ _ => rfl
    | some y =>
      by_cases h : ground y = true
      · exact .inl ⟨y, fun _ _ _ _ _ => by simp [bindO, groundK, h]⟩
      · exact .inr fun _ _ _ _ _ => by simp [bindO, groundK, h]
  cases op <;> simp only at hc ⊢ <;> first
    | exact bo _
    | exact bg _
    | exact .inl ⟨_, fun _ _ _ _ _ => rfl⟩
    | (exfalso; omega)
    | skip
  case pick c a b =>
    split
    · exact .inl ⟨_, fun _ _ _ _ _ => rfl⟩
    · exact .inr fun _ _ _ _ _ => rfl
  case convert s d x =>
    cases hd : P.underlying d with
    | none => rw [hd] at hc; simp at hc
    | some dd =>
      rw [hd] at hc
      have h1 : ∀ e, dd ≠ .slice e := by intro e he; subst he; simp at hc
      have h2 : dd ≠ .string := by intro he; subst he; simp at hc
      have h3 : ∀ e, dd ≠ .pointer e := by intro e he; subst he; simp at hc
      have h4 : dd ≠ .unsafePointer := by intro he; subst he; simp at hc
      rcases convertA_pure P s d (ρ x) hd h1 h2 h3 h4 with ⟨v, hv⟩ | hv
      · exact .inl ⟨v, fun _ _ H _ _ => by rw [hv H]; rfl⟩
      · exact .inr fun _ _ H _ _ => by rw [hv H]; rfl
  case makeInterface t x =>
    split
    · exact .inr fun _ _ _ _ _ => rfl
    · exact .inl ⟨_, fun _ _ _ _ _ => rfl⟩
    · exact .inr fun _ _ _ _ _ => rfl
  case call c =>
    obtain ⟨callee, args, ts⟩ := c
    cases callee with
    | value f => simp at hc
    | invoke x y => simp at hc
    | builtin b => cases b <;> simp at hc

theorem yl_any {P : Program} {X : Xf} {K : Kf} {o : Oper} (hc : cls P o = 0) {ρ : Operand → Value} {H H' : Heap} {v : Value} (h : Yl P X K ρ o H v H') (H2 : Heap) : Yl P X K ρ o H2 v H2 := by
  have h1 := h (fun v H => some (.ret v, H)) (fun _ _ => none)
  rcases cls_pure hc ρ with ⟨u, hu⟩ | hu
  · rw [hu] at h1
    simp only [Option.some.injEq, Prod.mk.injEq, End.ret.injEq] at h1
    obtain ⟨rfl, _⟩ := h1
    exact fun k kp => hu X K H2 k kp
  · rw [hu] at h1; simp at h1

end Go.Am
