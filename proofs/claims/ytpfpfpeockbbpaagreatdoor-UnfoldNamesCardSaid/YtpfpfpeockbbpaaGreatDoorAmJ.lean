/- Hooks out of closed runs at one heap: asked again of the same row of values over the same heap, the same. -/
import Derived.Test.YtpfpfpeockbbpaaGreatDoorAmP
namespace Go.Am

def lq {α : Type} (e : α → α → Bool) : List α → List α → Bool
  | [], [] => true
  | a :: r, b :: s => cond (e a b) (lq e r s) false
  | _, _ => false
theorem lq_eq {α : Type} {e : α → α → Bool} (he : ∀ a b, e a b = true → a = b) : ∀ {l k : List α}, lq e l k = true → l = k
  | [], [], _ => rfl
  | [], _ :: _, h => by simp [lq] at h
  | _ :: _, [], h => by simp [lq] at h
  | x :: r, y :: s, h => by
    simp only [lq] at h
    cases hx : e x y with
    | false => rw [hx] at h; simp at h
    | true => rw [hx] at h; rw [he x y hx, lq_eq he (show lq e r s = true from h)]

def vq : Nat → Value → Value → Bool
  | 0, _, _ => false
  | n + 1, a, b => match a, b with
    | .agg xs, .agg ys => lq (vq n) xs.toList ys.toList
    | .tuple xs, .tuple ys => lq (vq n) xs.toList ys.toList
    | .iface t v, .iface u w => cond (Nat.beq t u) (vq n v w) false
    | .func (.func g) xs ys, .func (.func h) zs us => cond (Nat.beq g h) (cond (lq (vq n) xs.toList zs.toList) (lq (vq n) ys.toList us.toList) false) false
    | a, b => veq0 a b
theorem vq_eq : ∀ (n : Nat) (a b : Value), vq n a b = true → a = b := by
  intro n
  induction n with
  | zero => intro a b h; simp [vq] at h
  | succ n ih =>
    intro a b h
    unfold vq at h
    split at h
    · rename_i xs ys; rw [Array.toList_inj.mp (lq_eq ih h)]
    · rename_i xs ys; rw [Array.toList_inj.mp (lq_eq ih h)]
    · rename_i t v u w
      cases e : Nat.beq t u with
      | false => rw [e] at h; simp at h
      | true => rw [e] at h; rw [Nat.eq_of_beq_eq_true e, ih v w h]
    · rename_i g xs ys k zs us
      cases e : Nat.beq g k with
      | false => rw [e] at h; simp at h
      | true =>
        rw [e] at h
        simp only [cond_true] at h
        cases e2 : lq (vq n) xs.toList zs.toList with
        | false => rw [e2] at h; simp at h
        | true =>
          rw [e2] at h
          rw [Nat.eq_of_beq_eq_true e, Array.toList_inj.mp (lq_eq ih e2), Array.toList_inj.mp (lq_eq ih (show lq (vq n) ys.toList us.toList = true from h))]
    · exact veq0_eq h

def eq1 (x y : MapEntry) : Bool := cond (Nat.beq x.born y.born) (cond (vq 20 x.key y.key) (vq 20 x.val y.val) false) false
theorem eq1_eq (x y : MapEntry) (h : eq1 x y = true) : x = y := by
  obtain ⟨k, v, n⟩ := x
  obtain ⟨k', v', n'⟩ := y
  unfold eq1 at h
  cases e1 : Nat.beq n n' with
  | false => simp only [e1] at h; simp at h
  | true =>
    cases e2 : vq 20 k k' with
    | false => simp only [e1, e2] at h; simp at h
    | true =>
      simp only [e1, e2, cond_true] at h
      rw [Nat.eq_of_beq_eq_true e1, vq_eq 20 _ _ e2, vq_eq 20 _ _ h]
def obq : Option Obj → Option Obj → Bool
  | none, none => true
  | some (.map es n), some (.map es' n') => cond (Nat.beq n n') (lq eq1 es.toList es'.toList) false
  | some (.stringIter s n), some (.stringIter s' n') => cond (Nat.beq n n') (decide (s.data.toList = s'.data.toList)) false
  | _, _ => false
theorem obq_eq (x y : Option Obj) (h : obq x y = true) : x = y := by
  unfold obq at h
  split at h
  · rfl
  · rename_i es n es' n'
    cases e : Nat.beq n n' with
    | false => rw [e] at h; simp at h
    | true =>
      rw [e] at h
      simp only [cond_true] at h
      rw [Nat.eq_of_beq_eq_true e, Array.toList_inj.mp (lq_eq eq1_eq h)]
  · rename_i s n s' n'
    cases e : Nat.beq n n' with
    | false => rw [e] at h; simp at h
    | true =>
      rw [e] at h
      simp only [cond_true, decide_eq_true_eq] at h
      obtain ⟨d⟩ := s
      obtain ⟨d'⟩ := s'
      have h2 := Array.toList_inj.mp h
      simp only at h2
      rw [Nat.eq_of_beq_eq_true e, h2]
  · cases h
def tyq : Option (TypeId × Nat) → Option (TypeId × Nat) → Bool
  | none, none => true
  | some (a, b), some (c, d) => cond (Nat.beq a c) (Nat.beq b d) false
  | _, _ => false
theorem tyq_eq (x y : Option (TypeId × Nat)) (h : tyq x y = true) : x = y := by
  unfold tyq at h
  split at h
  · rfl
  · rename_i a b c d
    cases e : Nat.beq a c with
    | false => rw [e] at h; simp at h
    | true => rw [e] at h; rw [Nat.eq_of_beq_eq_true e, Nat.eq_of_beq_eq_true h]
  · cases h
def bq (x y : Blk) : Bool := cond (Nat.beq x.es y.es) (cond (Bool.xor x.rw y.rw) false (cond (tyq x.ty y.ty) (cond (obq x.o y.o) (lq (vq 20) x.cells y.cells) false) false)) false
theorem bq_eq (x y : Blk) (h : bq x y = true) : x = y := by
  obtain ⟨c, a, es, o, ty⟩ := x
  obtain ⟨c', a', es', o', ty'⟩ := y
  unfold bq at h
  simp only at h
  cases e : Nat.beq es es' with
  | false => rw [e] at h; simp at h
  | true =>
    cases e2 : Bool.xor a a' with
    | true => rw [e, e2] at h; simp at h
    | false =>
      cases e3 : tyq ty ty' with
      | false => rw [e, e2, e3] at h; simp at h
      | true =>
        cases e4 : obq o o' with
        | false => rw [e, e2, e3, e4] at h; simp at h
        | true =>
          rw [e, e2, e3, e4] at h
          simp only [cond_true, cond_false] at h
          rw [Nat.eq_of_beq_eq_true e, tyq_eq _ _ e3, obq_eq _ _ e4, lq_eq (vq_eq 20) h]
          cases a <;> cases a' <;> first
            | rfl
            | (exfalso; revert e2; decide)
def oq : Option Blk → Option Blk → Bool
  | none, none => true
  | some x, some y => bq x y
  | _, _ => false
theorem oq_eq : ∀ (x y : Option Blk), oq x y = true → x = y
  | none, none, _ => rfl
  | some x, some y, h => by rw [bq_eq x y h]
  | none, some _, h => by simp [oq] at h
  | some _, none, h => by simp [oq] at h
def tq : Tr Blk → Tr Blk → Bool
  | .nil, .nil => true
  | .node v l r, .node v' l' r' => cond (oq v v') (cond (tq l l') (tq r r') false) false
  | _, _ => false
theorem tq_eq : ∀ (a b : Tr Blk), tq a b = true → a = b
  | .nil, .nil, _ => rfl
  | .nil, .node .., h => by simp [tq] at h
  | .node .., .nil, h => by simp [tq] at h
  | .node v l r, .node v' l' r', h => by
    simp only [tq] at h
    cases e1 : oq v v' with
    | false => rw [e1] at h; simp at h
    | true =>
      rw [e1] at h
      simp only [cond_true] at h
      cases e2 : tq l l' with
      | false => rw [e2] at h; simp at h
      | true =>
        rw [e2] at h
        rw [oq_eq v v' e1, tq_eq l l' e2, tq_eq r r' h]
def hq (a b : Heap) : Bool := cond (Nat.beq a.next b.next) (tq a.m b.m) false
theorem hq_eq {a b : Heap} (h : hq a b = true) : a = b := by
  unfold hq at h
  cases e : Nat.beq a.next b.next with
  | false => rw [e] at h; simp at h
  | true =>
    rw [e] at h
    obtain ⟨m, n⟩ := a
    obtain ⟨m', n'⟩ := b
    simp only [cond_true] at h e
    rw [Nat.eq_of_beq_eq_true e, tq_eq _ _ h]

def pq (a b : PanicEntry) : Bool := cond (vq 20 a.v b.v) (cond (Bool.xor a.recovered b.recovered) false (! Bool.xor a.goexit b.goexit)) false
theorem pq_eq (a b : PanicEntry) (h : pq a b = true) : a = b := by
  obtain ⟨v, r, g⟩ := a
  obtain ⟨v', r', g'⟩ := b
  unfold pq at h
  cases e : vq 20 v v' with
  | false => simp only [e] at h; simp at h
  | true =>
    simp only [e, cond_true] at h
    rw [vq_eq 20 _ _ e]
    cases r <;> cases r' <;> cases g <;> cases g' <;> simp_all
def eqE : End → End → Bool
  | .ret a, .ret b => vq 20 a b
  | .pan c, .pan d => lq pq c d
  | _, _ => false
theorem eqE_eq : ∀ (a b : End), eqE a b = true → a = b
  | .ret a, .ret b, h => by rw [vq_eq 20 a b h]
  | .pan c, .pan d, h => by rw [lq_eq pq_eq h]
  | .ret _, .pan _, h => by simp [eqE] at h
  | .pan _, .ret _, h => by simp [eqE] at h

/-- A call at one heap, and what it answers. -/
structure XRow where
  f : FuncId
  args : List Value
  H : Heap
  e : End
  H' : Heap
def chkX (K : Kf) (x : XRow) : Bool := match K x.f x.args.toArray x.H with | some (e, H) => cond (eqE e x.e) (hq H x.H') false | none => false
def hookX (tab : List XRow) : Hook := fun f args H =>
  match tab.find? (fun x => cond (Nat.beq x.f f) (cond (lq (vq 20) x.args args.toList) (hq x.H H) false) false) with
  | some x => some (some (x.e, x.H'))
  | none => none
theorem hookX_sound {P : Program} {K : Kf} (hK : KSnd P K) {tab : List XRow} (hall : ∀ x ∈ tab, chkX K x = true) : HookSnd P (hookX tab) := by
  intro f args H r H' he m w args' h hg hargs
  unfold hookX at he
  split at he
  · rename_i x hf
    simp only [Option.some.injEq, Prod.mk.injEq] at he
    obtain ⟨rfl, rfl⟩ := he
    have hp := List.find?_some hf
    cases e1 : Nat.beq x.f f with
    | false => rw [e1] at hp; simp at hp
    | true =>
    cases e2 : lq (vq 20) x.args args.toList with
    | false => rw [e1, e2] at hp; simp at hp
    | true =>
    rw [e1, e2] at hp
    simp only [cond_true] at hp
    obtain rfl := Nat.eq_of_beq_eq_true e1
    have ea := lq_eq (vq_eq 20) e2
    have eh := hq_eq hp
    have hc := hall x (List.mem_of_find?_eq_some hf)
    unfold chkX at hc
    split at hc
    · rename_i e Hs hr
      cases e3 : eqE e x.e with
      | false => rw [e3] at hc; simp at hc
      | true =>
      rw [e3] at hc
      simp only [cond_true] at hc
      have e4 := eqE_eq _ _ e3
      have e5 := hq_eq hc
      have ea2 : x.args.toArray = args := by rw [ea]
      rw [ea2, e4, e5, eh] at hr
      exact hK x.f args _ _ _ hr m w args' h hg hargs
    · simp at hc
  · simp at he

/-- A heap with rows laid upon it. -/
def upd (base : Heap) (next : Nat) (l : List (Nat × Option Blk)) : Heap := ⟨l.foldl (fun t p => t.set p.1 p.2) base.m, next⟩
end Go.Am
