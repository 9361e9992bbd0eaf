/- Closed runs, second row. -/
import Derived.Test.YtohmeeglehopiaaDoorKX
namespace Go.Am
def lA1 : PureRow := ⟨12, [strV [97, 95, 49]], .bool true⟩
def lAt : PureRow := ⟨12, [strV [97, 116]], .bool false⟩
def lA : PureRow := ⟨12, [strV [97]], .bool true⟩
noncomputable def ok2 (e : PureRow) : Bool := (e.args.all atomic && atomic e.v) && chkPure (K2 e.f e.args.toArray GG) e.v
theorem okLA1 : ok2 lA1 = true := by decide +kernel
theorem okLAt : ok2 lAt = true := by decide +kernel
theorem okLA : ok2 lA = true := by decide +kernel
def n017 : PureRow := ⟨14, [strV [97, 46, 48, 46, 49, 55]], .bool true⟩
theorem okN017 : ok2 n017 = true := by decide +kernel
def q1 : SliceRow := ⟨21, [strV [97, 10]], 5, 5, 1, ([34, 97, 92, 110, 34] : List Int).map fun z => Value.int .u8 z⟩
def n40 : SliceRow := ⟨19, [.int .u64 40], 2, 2, 1, ([52, 48] : List Int).map fun z => Value.int .u8 z⟩
noncomputable def ok2s (e : SliceRow) : Bool := (e.args.all atomic && e.cells.all atomic) && chkSlice (K2 e.f e.args.toArray GG) e
theorem okQ1 : ok2s q1 = true := by decide +kernel
theorem okN40 : ok2s n40 = true := by decide +kernel
def rows2 : List PureRow := [lA1, lAt, lA, n017]
def srows2 : List SliceRow := [q1, n40]
theorem hookR2_sound : HookSnd PP (hookP GG [1, 2] rows2) := by
  refine hookP_sound K2_sound tabs_GG gs_GG fun e he => ?_
  have : ok2 e = true := by
    simp only [rows2, List.mem_cons, List.not_mem_nil, or_false] at he
    rcases he with rfl | rfl | rfl | rfl
    · exact okLA1
    · exact okLAt
    · exact okLA
    · exact okN017
  simp only [ok2, Bool.and_eq_true] at this
  simpa using this
theorem hookS2_sound : HookSnd PP (hookS GG [1, 2] srows2) := by
  refine hookS_sound K2_sound tabs_GG gs_GG fun e he => ?_
  have : ok2s e = true := by
    simp only [srows2, List.mem_cons, List.not_mem_nil, or_false] at he
    rcases he with rfl | rfl
    · exact okQ1
    · exact okN40
  simp only [ok2s, Bool.and_eq_true] at this
  simpa using this
def hook3 : Hook := hookOr (hookP GG [1, 2] rows2) (hookOr (hookS GG [1, 2] srows2) hook2)
theorem hook3_sound : HookSnd PP hook3 := hookOr_sound hookR2_sound (hookOr_sound hookS2_sound hook2_sound)
noncomputable def K3 : Kf := call PP (extX PP) 100000 hook3 60
theorem K3_sound : KSnd PP K3 := call_sound (extX_sound PP) hook3_sound mixed 60
end Go.Am
