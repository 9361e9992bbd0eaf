/- The abstract heap: a finite map from numbers to rows of cells, as a tree on binary digits. -/
import Derived.Calls
namespace Go.Am

inductive Tr (α : Type) : Type where
  | nil : Tr α
  | node (v : Option α) (l r : Tr α) : Tr α

namespace Tr
variable {α : Type}

def get : Tr α → Nat → Option α
  | nil, _ => none
  | node v l r, n => if n = 0 then v else if n % 2 = 1 then l.get (n / 2) else r.get (n / 2 - 1)

def put : Nat → Tr α → Nat → Option α → Tr α
  | 0, t, _, _ => t
  | f + 1, t, n, x =>
    match t with
    | nil => if n = 0 then node x nil nil else if n % 2 = 1 then node none (put f nil (n / 2) x) nil else node none nil (put f nil (n / 2 - 1) x)
    | node v l r => if n = 0 then node x l r else if n % 2 = 1 then node v (put f l (n / 2) x) r else node v l (put f r (n / 2 - 1) x)

def set (t : Tr α) (n : Nat) (x : Option α) : Tr α := put (n + 1) t n x

theorem get_nil (n : Nat) : (nil : Tr α).get n = none := rfl

theorem get_put : ∀ (f : Nat) (t : Tr α) (n k : Nat) (x : Option α), n < f → (put f t n x).get k = if k = n then x else t.get k := by
  intro f
  induction f with
  | zero => intro t n k x h; omega
  | succ f ih =>
    intro t n k x h
    have e1 : ∀ a b : Nat, a % 2 = 1 → b % 2 = 1 → (a / 2 = b / 2 ↔ a = b) := by omega
    have e2 : ∀ a b : Nat, a ≠ 0 → b ≠ 0 → a % 2 = 0 → b % 2 = 0 → (a / 2 - 1 = b / 2 - 1 ↔ a = b) := by omega
    cases t with
    | nil =>
      simp only [put]
      by_cases hn : n = 0
      · subst hn; simp [get]
      · by_cases hp : n % 2 = 1
        · simp only [hn, hp, if_false, if_true, get]
          by_cases hk : k = 0
          · subst hk; first | (simp; done) | (simp; omega)
          · by_cases hq : k % 2 = 1
            · simp only [hk, hq, if_false, if_true]
              rw [ih _ _ _ _ (by omega)]
              simp only [e1 k n hq hp, get]
            · have : k ≠ n := by omega
              simp [hk, hq, this]
        · simp only [hn, hp, if_false, get]
          by_cases hk : k = 0
          · subst hk; first | (simp; done) | (simp; omega)
          · by_cases hq : k % 2 = 1
            · have : k ≠ n := by omega
              simp [hk, hq, this]
            · simp only [hk, hq, if_false]
              rw [ih _ _ _ _ (by omega)]
              simp only [e2 k n hk hn (by omega) (by omega), get]
    | node v l r =>
      simp only [put]
      by_cases hn : n = 0
      · subst hn; simp [get]
        by_cases hk : k = 0 <;> simp [hk]
      · by_cases hp : n % 2 = 1
        · simp only [hn, hp, if_false, if_true, get]
          by_cases hk : k = 0
          · subst hk; first | (simp; done) | (simp; omega)
          · by_cases hq : k % 2 = 1
            · simp only [hk, hq, if_false, if_true]
              rw [ih _ _ _ _ (by omega)]
              simp only [e1 k n hq hp]
            · have : k ≠ n := by omega
              simp [hk, hq, this]
        · simp only [hn, hp, if_false, get]
          by_cases hk : k = 0
          · subst hk; first | (simp; done) | (simp; omega)
          · by_cases hq : k % 2 = 1
            · have : k ≠ n := by omega
              simp [hk, hq, this]
            · simp only [hk, hq, if_false]
              rw [ih _ _ _ _ (by omega)]
              simp only [e2 k n hk hn (by omega) (by omega)]

theorem get_set (t : Tr α) (n k : Nat) (x : Option α) : (t.set n x).get k = if k = n then x else t.get k :=
  get_put (n + 1) t n k x (Nat.lt_succ_self n)

end Tr
end Go.Am
