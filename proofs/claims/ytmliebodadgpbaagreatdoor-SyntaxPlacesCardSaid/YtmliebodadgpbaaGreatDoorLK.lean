/- The closed run of what each statement asks last. -/
import Derived.Test.YtmliebodadgpbaaGreatDoorLG
namespace Go.Am
def kn : PureRow := ⟨9, [], .bool true⟩
theorem okKn : okRow (fast hook2) GG kn = true := by decide +kernel
theorem hookKn_sound : HookSnd PP (hookP GG [1, 2] [kn]) := by
  refine hookP_sound (fast_sound hook2_sound) tabs_GG gs_GG fun e he => ?_
  have : okRow (fast hook2) GG e = true := by
    simp only [List.mem_cons, List.not_mem_nil, or_false] at he
    subst he
    exact okKn
  simp only [okRow, Bool.and_eq_true] at this
  simpa using this
end Go.Am
