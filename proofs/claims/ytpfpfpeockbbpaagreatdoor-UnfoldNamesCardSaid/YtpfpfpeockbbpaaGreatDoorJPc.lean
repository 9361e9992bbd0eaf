/- A piece of the closed run. -/
import Derived.Test.YtpfpfpeockbbpaaGreatDoorJPb
import Derived.Test.YtpfpfpeockbbpaaGreatDoorJD1
import Derived.Test.YtpfpfpeockbbpaaGreatDoorJPa
namespace Go.Am
noncomputable def hk4 : Hook := hookOr (hookX [x1]) (hookOr (hookX [x3]) (hook0))
theorem hks4 : HookSnd PP hk4 := hookOr_sound sx1 (hookOr_sound sx3 (hook0_sound))
theorem run4 : chkX (fast hk4) x4 = true := by decide +kernel
theorem sx4 : HookSnd PP (hookX [x4]) := hookX_sound (fast_sound hks4) fun x hx => by obtain rfl := List.mem_singleton.1 hx; exact run4
end Go.Am
namespace Go.Am
noncomputable def hk5 : Hook := hookOr (hookX [x4]) (hook0)
theorem hks5 : HookSnd PP hk5 := hookOr_sound sx4 (hook0_sound)
theorem run5 : chkX (fast hk5) x5 = true := by decide +kernel
theorem sx5 : HookSnd PP (hookX [x5]) := hookX_sound (fast_sound hks5) fun x hx => by obtain rfl := List.mem_singleton.1 hx; exact run5
end Go.Am
namespace Go.Am
noncomputable def hk0 : Hook := hook0
theorem hks0 : HookSnd PP hk0 := hook0_sound
theorem run0 : chkX (fast hk0) x0 = true := by decide +kernel
theorem sx0 : HookSnd PP (hookX [x0]) := hookX_sound (fast_sound hks0) fun x hx => by obtain rfl := List.mem_singleton.1 hx; exact run0
end Go.Am
namespace Go.Am
noncomputable def hk6 : Hook := hookOr (hookX [x0]) (hookOr (hookX [x5]) (hook0))
theorem hks6 : HookSnd PP hk6 := hookOr_sound sx0 (hookOr_sound sx5 (hook0_sound))
theorem run6 : chkX (fast hk6) x6 = true := by decide +kernel
theorem sx6 : HookSnd PP (hookX [x6]) := hookX_sound (fast_sound hks6) fun x hx => by obtain rfl := List.mem_singleton.1 hx; exact run6
end Go.Am
/- The closed run of the first statement. -/
namespace Go.Am
noncomputable def hook3 : Hook := hookOr (hookX [x6]) (hookOr (hookX [x8]) (hookOr (hookX [x14]) (hook0)))
theorem hook3_sound : HookSnd PP hook3 := hookOr_sound sx6 (hookOr_sound sx8 (hookOr_sound sx14 (hook0_sound)))
theorem names_run : chkPure (fast hook3 3 #[] GG) (.bool true) = true := by decide +kernel
theorem names_sound : KSnd PP (fast hook3) := fast_sound hook3_sound
end Go.Am
