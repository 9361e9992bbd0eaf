/- A text: its escapes. -/
import Derived.Test.YtohmeeglehopiaaDoorS6
open Go.Proofs
namespace Go.Am
section
end
end Go.Am
/- A text: all of it. -/
open Go.Proofs
namespace Go.Am
section jumps
variable {K : Kf} {N : Nat}
end jumps
def hexN (u : UInt8) : Nat := (hexT u.toNat).toNat
end Go.Am
/- A text: the contract. -/
open Go.Proofs
namespace Go.Am
/-- What a text's reading comes to. -/
inductive TR where
  | bad (e : Nat)
  | good (w : List UInt8) (e : Nat)
def textI (s : List UInt8) : Nat → Nat → List UInt8 → TR
  | 0, i, _ => .bad i
  | k + 1, i, o =>
    if i + 1 = s.length then .bad (i + 1)
    else if s.getD (i + 1) 0 = 34 then .good o (i + 2)
    else if s.getD (i + 1) 0 = 92 then
      (if i + 2 = s.length then .bad (i + 2)
       else if s.getD (i + 2) 0 = 110 then textI s k (i + 2) (o ++ [10])
       else if s.getD (i + 2) 0 = 116 then textI s k (i + 2) (o ++ [9])
       else if s.getD (i + 2) 0 = 34 then textI s k (i + 2) (o ++ [34])
       else if s.getD (i + 2) 0 = 92 then textI s k (i + 2) (o ++ [92])
       else if s.getD (i + 2) 0 = 120 then
         (if i + 3 = s.length ∨ hexT (s.getD (i + 3) 0).toNat = 16 then .bad (i + 3)
          else if i + 4 = s.length ∨ hexT (s.getD (i + 4) 0).toNat = 16 then .bad (i + 4)
          else textI s k (i + 4) (o ++ [UInt8.ofNat (hexN (s.getD (i + 3) 0) * 16 + hexN (s.getD (i + 4) 0))]))
       else .bad (i + 2))
    else if (s.getD (i + 1) 0).toNat < 32 ∨ 126 < (s.getD (i + 1) 0).toNat then .bad (i + 1)
    else textI s k (i + 1) (o ++ [s.getD (i + 1) 0])
def FinT (H0 : Heap) (a : Option Addr) (l c b t : Nat) (kd n0 f0 t0 : Int) (r : TR) (E' : Env) (H' : Heap) : Prop :=
  match r with
  | .bad e => E' 4 = .bool false ∧ ∃ v o, Txt H0 H' b a l c e v o
  | .good w e => E' 4 = .bool true ∧ Lexd H0 H' b (cur a l c e) t (tok kd n0 ⟨⟨w⟩⟩ f0 t0)
end Go.Am
