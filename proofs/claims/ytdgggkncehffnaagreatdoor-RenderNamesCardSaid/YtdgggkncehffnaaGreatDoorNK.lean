/- The closed run of what each statement asks last. -/
import Derived.Test.YtdgggkncehffnaaGreatDoorNX
namespace Go.Am
def kn : PureRow := ⟨6, [], .bool true⟩
theorem okKn : okRow (fast hook0) GG kn = true := by decide +kernel
theorem hookKn_sound : HookSnd PP (hookP GG [0, 2, 3, 5] [kn]) := by
  refine hookP_sound (fast_sound hook0_sound) tabs_GG gs_GG fun e he => ?_
  have : okRow (fast hook0) GG e = true := by
    simp only [List.mem_cons, List.not_mem_nil, or_false] at he
    subst he
    exact okKn
  simp only [okRow, Bool.and_eq_true] at this
  simpa using this
end Go.Am
