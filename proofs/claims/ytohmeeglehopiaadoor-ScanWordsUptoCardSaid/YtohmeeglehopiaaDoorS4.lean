/- A sign: all of them. -/
import Derived.Test.YtohmeeglehopiaaDoorS2
import Derived.Test.YtohmeeglehopiaaDoorD1
import Derived.Test.YtohmeeglehopiaaDoorS3
open Go.Proofs
namespace Go.Am

section
variable {N : Nat} {hk : Hook} {d : Nat} {H : Heap} {a : Option Addr} {c : Nat} {s : List UInt8} {b t i : Nat} {nn f0 t0 : Int}
end
/-- The kind of the sign at a place, by its byte and the next; and its length. Kind 0: it is none. -/
def signR (u v : Int) : Int × Nat :=
  if u = 46 then (if v = 46 then (12, 2) else (0, 1))
  else if u = 33 then (if v = 61 then (15, 2) else (0, 1))
  else if u = 61 then (if v = 61 then (14, 2) else (13, 1))
  else if u = 60 then (if v = 60 then (23, 2) else if v = 61 then (17, 2) else (16, 1))
  else if u = 62 then (if v = 62 then (24, 2) else if v = 61 then (19, 2) else (18, 1))
  else (singleT u.toNat, 1)
def nextB (s : List UInt8) (i : Nat) : Int := if i + 1 < s.length then ((s.getD (i + 1) 0).toNat : Int) else 0
end Go.Am
/- A word: all of them. -/
open Go.Proofs
namespace Go.Am
theorem Lexd.ext {A B C : Heap} {b t : Nat} {x y : Blk} (h : Lexd A B b x t y) (k : Ext B C) : Lexd A C b x t y :=
  ⟨Nat.le_trans h.next k.next, k.keep _ _ h.one, k.keep _ _ h.two, fun z w h1 h2 hz => k.keep _ _ (h.there z w h1 h2 hz), k.fresh⟩
/-- What a word is: its kind and its text. -/
def wordKT (w : List UInt8) : Int × List UInt8 := if resI w = 0 then (1, w) else (resI w, [])
end Go.Am
/- One digit more. -/
open Go.Proofs
namespace Go.Am
def m64 : Nat := 18446744073709551616
end Go.Am
