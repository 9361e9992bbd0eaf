/- The closed run of the first statement. -/
import Derived.Test.YtmliebodadgpbaaGreatDoorLK
namespace Go.Am
def hook3 : Hook := hookOr (hookP GG [1, 2] [kn]) hook2
theorem hook3_sound : HookSnd PP hook3 := hookOr_sound hookKn_sound hook2_sound
theorem names_run : chkPure (fast hook3 3 #[] GG) (.bool true) = true := by decide +kernel
theorem names_sound : KSnd PP (fast hook3) := fast_sound hook3_sound
end Go.Am
