/- A piece of the closed run. -/
import Derived.Test.YtpfpfpeockbbpaaGreatDoorJD1
namespace Go.Am
noncomputable def hk7 : Hook := hook0
theorem hks7 : HookSnd PP hk7 := hook0_sound
theorem run7 : chkX (fast hk7) x7 = true := by decide +kernel
theorem sx7 : HookSnd PP (hookX [x7]) := hookX_sound (fast_sound hks7) fun x hx => by obtain rfl := List.mem_singleton.1 hx; exact run7
end Go.Am
namespace Go.Am
noncomputable def hk8 : Hook := hookOr (hookX [x7]) (hook0)
theorem hks8 : HookSnd PP hk8 := hookOr_sound sx7 (hook0_sound)
theorem run8 : chkX (fast hk8) x8 = true := by decide +kernel
theorem sx8 : HookSnd PP (hookX [x8]) := hookX_sound (fast_sound hks8) fun x hx => by obtain rfl := List.mem_singleton.1 hx; exact run8
end Go.Am
namespace Go.Am
noncomputable def hk2 : Hook := hook0
theorem hks2 : HookSnd PP hk2 := hook0_sound
theorem run2 : chkX (fast hk2) x2 = true := by decide +kernel
theorem sx2 : HookSnd PP (hookX [x2]) := hookX_sound (fast_sound hks2) fun x hx => by obtain rfl := List.mem_singleton.1 hx; exact run2
end Go.Am
namespace Go.Am
noncomputable def hk3 : Hook := hookOr (hookX [x2]) (hook0)
theorem hks3 : HookSnd PP hk3 := hookOr_sound sx2 (hook0_sound)
theorem run3 : chkX (fast hk3) x3 = true := by decide +kernel
theorem sx3 : HookSnd PP (hookX [x3]) := hookX_sound (fast_sound hks3) fun x hx => by obtain rfl := List.mem_singleton.1 hx; exact run3
end Go.Am
namespace Go.Am
noncomputable def hk1 : Hook := hook0
theorem hks1 : HookSnd PP hk1 := hook0_sound
theorem run1 : chkX (fast hk1) x1 = true := by decide +kernel
theorem sx1 : HookSnd PP (hookX [x1]) := hookX_sound (fast_sound hks1) fun x hx => by obtain rfl := List.mem_singleton.1 hx; exact run1
end Go.Am
