/- The closed run of the first statement. -/
import Derived.Test.YtdgggkncehffnaaGreatDoorNK
namespace Go.Am
def hook3 : Hook := hookOr (hookP GG [0, 2, 3, 5] [kn]) hook0
theorem hook3_sound : HookSnd PP hook3 := hookOr_sound hookKn_sound hook0_sound
theorem names_run : chkPure (fast hook3 3 #[] GG) (.bool true) = true := by decide +kernel
theorem names_sound : KSnd PP (fast hook3) := fast_sound hook3_sound
end Go.Am
