/- Hooks out of closed runs. -/
import Derived.Test.YtpfpfpeockbbpaaGreatDoorAmN
namespace Go.Am

structure PureRow where
  f : FuncId
  args : List Value
  v : Value
structure SliceRow where
  f : FuncId
  args : List Value
  len : Nat
  cap : Nat
  es : Nat
  cells : List Value

def chkPure (r : R) (v : Value) : Bool := match r with | some (.ret v', _) => veq0 v' v | _ => false
def chkSlice (r : R) (x : SliceRow) : Bool :=
  match r with
  | some (.ret (.slice (some ⟨b, 0, none⟩) l c), H) => decide (l = x.len) && decide (c = x.cap) && match H.get b with | some y => y.rw && y.o.isNone && veqs y.cells x.cells && decide (y.es = x.es) | none => false
  | _ => false

def hookP (G : Heap) (gs : List Nat) (tab : List PureRow) : Hook := fun f args H =>
  match tab.find? (fun e => Nat.beq e.f f && veqs args.toList e.args) with
  | some e => cond (overB G gs H) (some (some (.ret e.v, H))) none
  | none => none
def hookS (G : Heap) (gs : List Nat) (tab : List SliceRow) : Hook := fun f args H =>
  match tab.find? (fun e => Nat.beq e.f f && veqs args.toList e.args) with
  | some e => cond (overB G gs H) (some (some (.ret (.slice (some ⟨H.next, 0, none⟩) e.len e.cap), H.alloc e.es e.cells))) none
  | none => none
def hookOr (a b : Hook) : Hook := fun f args H => match a f args H with | some r => some r | none => b f args H

theorem hookOr_sound {P : Program} {a b : Hook} (ha : HookSnd P a) (hb : HookSnd P b) : HookSnd P (hookOr a b) := by
  intro f args H r H' he
  unfold hookOr at he
  split at he
  · rename_i q hq
    rw [Option.some.injEq] at he
    subst he
    exact ha f args H r H' hq
  · exact hb f args H r H' he

theorem chkPure_run {r : R} {v : Value} (h : chkPure r v = true) : ∃ Hs, r = some (.ret v, Hs) := by
  unfold chkPure at h
  split at h
  · rename_i v' Hs
    rw [veq0_eq h]
    exact ⟨Hs, rfl⟩
  · simp at h

theorem chkSlice_run {r : R} {x : SliceRow} (h : chkSlice r x = true) : ∃ b Hs y, r = some (.ret (.slice (some ⟨b, 0, none⟩) x.len x.cap), Hs) ∧ Hs.get b = some y ∧ y.rw = true ∧ y.o = none ∧ y.cells = x.cells ∧ y.es = x.es := by
  unfold chkSlice at h
  split at h
  · rename_i b l c H
    simp only [Bool.and_eq_true, decide_eq_true_eq] at h
    obtain ⟨⟨rfl, rfl⟩, h⟩ := h
    split at h
    · rename_i y hy
      simp only [Bool.and_eq_true, decide_eq_true_eq, Option.isNone_iff_eq_none] at h
      exact ⟨b, H, y, rfl, hy, h.1.1.1, h.1.1.2, veqs_eq h.1.2, h.2⟩
    · simp at h
  · simp at h

theorem hookP_sound {P : Program} {K : Kf} (hK : KSnd P K) {G : Heap} (ht : Tabs P G) {gs : List Nat} (hd : ∀ b x, G.get b = some x → b ∈ gs) {tab : List PureRow}
    (hall : ∀ e ∈ tab, (e.args.all atomic && atomic e.v) = true ∧ chkPure (K e.f e.args.toArray G) e.v = true) : HookSnd P (hookP G gs tab) := by
  intro f args H r H' he m w args' h hg hargs
  unfold hookP at he
  split at he
  · rename_i e hf
    cases ho : overB G gs H with
    | false => rw [ho] at he; simp at he
    | true =>
    rw [ho] at he
    simp only [cond_true, Option.some.injEq, Prod.mk.injEq] at he
    obtain ⟨rfl, rfl⟩ := he
    have hp := List.find?_some hf
    simp only [Bool.and_eq_true] at hp
    obtain rfl := Nat.eq_of_beq_eq_true hp.1
    have ha := veqs_eq hp.2
    obtain ⟨h1, h2⟩ := hall e (List.mem_of_find?_eq_some hf)
    simp only [Bool.and_eq_true] at h1
    obtain ⟨Hs, hr⟩ := chkPure_run h2
    have ea : e.args.toArray = args := by rw [← ha]
    rw [ea] at hr
    exact local_pure hK ht hr (by rw [ha]; exact h1.1) h1.2 (overB_over hd ho) h hg hargs
  · simp at he

theorem hookS_sound {P : Program} {K : Kf} (hK : KSnd P K) {G : Heap} (ht : Tabs P G) {gs : List Nat} (hd : ∀ b x, G.get b = some x → b ∈ gs) {tab : List SliceRow}
    (hall : ∀ e ∈ tab, (e.args.all atomic && e.cells.all atomic) = true ∧ chkSlice (K e.f e.args.toArray G) e = true) : HookSnd P (hookS G gs tab) := by
  intro f args H r H' he m w args' h hg hargs
  unfold hookS at he
  split at he
  · rename_i e hf
    cases ho : overB G gs H with
    | false => rw [ho] at he; simp at he
    | true =>
    rw [ho] at he
    simp only [cond_true, Option.some.injEq, Prod.mk.injEq] at he
    obtain ⟨rfl, rfl⟩ := he
    have hp := List.find?_some hf
    simp only [Bool.and_eq_true] at hp
    obtain rfl := Nat.eq_of_beq_eq_true hp.1
    have ha := veqs_eq hp.2
    obtain ⟨h1, h2⟩ := hall e (List.mem_of_find?_eq_some hf)
    simp only [Bool.and_eq_true] at h1
    obtain ⟨b, Hs, y, hr, hy, y1, y2, y3, y4⟩ := chkSlice_run h2
    have ea : e.args.toArray = args := by rw [← ha]
    rw [ea] at hr
    have := local_row hK ht hr hy ⟨y1, y2, by rw [y3]; exact h1.2⟩ (by rw [ha]; exact h1.1) (overB_over hd ho) h hg hargs
    rw [y3, y4] at this
    exact this
  · simp at he
end Go.Am
