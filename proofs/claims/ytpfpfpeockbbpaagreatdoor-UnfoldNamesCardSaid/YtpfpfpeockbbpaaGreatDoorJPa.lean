/- A piece of the closed run. -/
import Derived.Test.YtpfpfpeockbbpaaGreatDoorJD1
namespace Go.Am
noncomputable def hk11 : Hook := hook0
theorem hks11 : HookSnd PP hk11 := hook0_sound
theorem run11 : chkX (fast hk11) x11 = true := by decide +kernel
theorem sx11 : HookSnd PP (hookX [x11]) := hookX_sound (fast_sound hks11) fun x hx => by obtain rfl := List.mem_singleton.1 hx; exact run11
end Go.Am
namespace Go.Am
noncomputable def hk12 : Hook := hookOr (hookX [x11]) (hook0)
theorem hks12 : HookSnd PP hk12 := hookOr_sound sx11 (hook0_sound)
theorem run12 : chkX (fast hk12) x12 = true := by decide +kernel
theorem sx12 : HookSnd PP (hookX [x12]) := hookX_sound (fast_sound hks12) fun x hx => by obtain rfl := List.mem_singleton.1 hx; exact run12
end Go.Am
namespace Go.Am
noncomputable def hk13 : Hook := hookOr (hookX [x12]) (hook0)
theorem hks13 : HookSnd PP hk13 := hookOr_sound sx12 (hook0_sound)
theorem run13 : chkX (fast hk13) x13 = true := by decide +kernel
theorem sx13 : HookSnd PP (hookX [x13]) := hookX_sound (fast_sound hks13) fun x hx => by obtain rfl := List.mem_singleton.1 hx; exact run13
end Go.Am
namespace Go.Am
noncomputable def hk9 : Hook := hook0
theorem hks9 : HookSnd PP hk9 := hook0_sound
theorem run9 : chkX (fast hk9) x9 = true := by decide +kernel
theorem sx9 : HookSnd PP (hookX [x9]) := hookX_sound (fast_sound hks9) fun x hx => by obtain rfl := List.mem_singleton.1 hx; exact run9
end Go.Am
namespace Go.Am
noncomputable def hk10 : Hook := hookOr (hookX [x9]) (hook0)
theorem hks10 : HookSnd PP hk10 := hookOr_sound sx9 (hook0_sound)
theorem run10 : chkX (fast hk10) x10 = true := by decide +kernel
theorem sx10 : HookSnd PP (hookX [x10]) := hookX_sound (fast_sound hks10) fun x hx => by obtain rfl := List.mem_singleton.1 hx; exact run10
end Go.Am
namespace Go.Am
noncomputable def hk14 : Hook := hookOr (hookX [x10]) (hookOr (hookX [x13]) (hook0))
theorem hks14 : HookSnd PP hk14 := hookOr_sound sx10 (hookOr_sound sx13 (hook0_sound))
theorem run14 : chkX (fast hk14) x14 = true := by decide +kernel
theorem sx14 : HookSnd PP (hookX [x14]) := hookX_sound (fast_sound hks14) fun x hx => by obtain rfl := List.mem_singleton.1 hx; exact run14
end Go.Am
