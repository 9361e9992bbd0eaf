/- Closed runs that are looked up: what each statement asks last, words of one letter, a sign. -/
import Derived.Test.YtohmeeglehopiaaDoorDX
namespace Go.Am
def kn : PureRow := ⟨10, [], .bool true⟩
def wA (n : Nat) : List UInt8 := List.replicate n 97
def rW (n : Nat) : PureRow := ⟨16, [strV (wA n)], .int .i64 0⟩
def rSemi : PureRow := ⟨57, [.int .u8 59], .int .i64 10⟩
theorem okKn : okRow (fast hook0) GG kn = true := by decide +kernel
theorem okW19 : okRow (fast hook0) GG (rW 19) = true := by decide +kernel
theorem okW14 : okRow (fast hook0) GG (rW 14) = true := by decide +kernel
theorem okW15 : okRow (fast hook0) GG (rW 15) = true := by decide +kernel
theorem okW16 : okRow (fast hook0) GG (rW 16) = true := by decide +kernel
theorem okSemi : okRow (fast hook0) GG rSemi = true := by decide +kernel
def rowsD : List PureRow := [kn, rW 19, rW 14, rW 15, rW 16, rSemi]
def hkD : Hook := hookP GG [1, 2] rowsD
theorem hkD_sound : HookSnd PP hkD := by
  refine hookP_sound (fast_sound hook0_sound) tabs_GG gs_GG fun e he => ?_
  have : okRow (fast hook0) GG e = true := by
    simp only [rowsD, List.mem_cons, List.not_mem_nil, or_false] at he
    rcases he with rfl | rfl | rfl | rfl | rfl | rfl
    · exact okKn
    · exact okW19
    · exact okW14
    · exact okW15
    · exact okW16
    · exact okSemi
  simp only [okRow, Bool.and_eq_true] at this
  simpa using this
end Go.Am
