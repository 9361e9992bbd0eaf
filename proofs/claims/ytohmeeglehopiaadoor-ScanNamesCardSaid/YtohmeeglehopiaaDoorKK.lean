/- The closed run of what each statement asks last. -/
import Derived.Test.YtohmeeglehopiaaDoorKY
namespace Go.Am
def kn : PureRow := ⟨10, [], .bool true⟩
noncomputable def ok3 (e : PureRow) : Bool := (e.args.all atomic && atomic e.v) && chkPure (K3 e.f e.args.toArray GG) e.v
theorem okKn : ok3 kn = true := by decide +kernel
theorem hookKn_sound : HookSnd PP (hookP GG [1, 2] [kn]) := by
  refine hookP_sound K3_sound tabs_GG gs_GG fun e he => ?_
  have : ok3 e = true := by
    simp only [List.mem_cons, List.not_mem_nil, or_false] at he
    subst he
    exact okKn
  simp only [ok3, Bool.and_eq_true] at this
  simpa using this
end Go.Am
