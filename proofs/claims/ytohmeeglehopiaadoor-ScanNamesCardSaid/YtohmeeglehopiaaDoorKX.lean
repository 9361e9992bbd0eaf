/- Closed runs, first row: the reserved words. -/
import Derived.Test.YtohmeeglehopiaaDoorKH
import Derived.Test.YtohmeeglehopiaaDoorAmP
namespace Go.Am
theorem tabs_GG : Tabs PP GG := by
  have h1 : ∀ b x, GG.get b = some x → (b = 1 ∧ x = ⟨classesL.map fun z => .int .u8 z, false, 1, none⟩) ∨ (b = 2 ∧ x = ⟨asciiV, false, 1, none⟩) := by
    intro b x hb
    unfold GG at hb
    rw [Heap.get_set] at hb
    by_cases e2 : b = 2
    · rw [if_pos e2] at hb; exact .inr ⟨e2, (Option.some.inj hb).symm⟩
    · rw [if_neg e2, Heap.get_set] at hb
      by_cases e1 : b = 1
      · rw [if_pos e1] at hb; exact .inl ⟨e1, (Option.some.inj hb).symm⟩
      · rw [if_neg e1] at hb
        have : (⟨.nil, 13⟩ : Heap).get b = none := rfl
        rw [this] at hb; simp at hb
  refine ⟨fun b x hb => ?_, by rw [globals_size]; decide, fun b hb => ?_⟩
  · rcases h1 b x hb with ⟨_, rfl⟩ | ⟨_, rfl⟩
    · exact ⟨rfl, rfl, by decide +kernel⟩
    · exact ⟨rfl, rfl, by decide +kernel⟩
  · have hn : 13 ≤ b := hb
    cases hg : GG.get b with
    | none => rfl
    | some x => rcases h1 b x hg with ⟨rfl, _⟩ | ⟨rfl, _⟩ <;> omega
theorem gs_GG : ∀ b x, GG.get b = some x → b ∈ [1, 2] := by
  intro b x hb
  unfold GG at hb
  rw [Heap.get_set] at hb
  by_cases e2 : b = 2
  · simp [e2]
  · rw [if_neg e2, Heap.get_set] at hb
    by_cases e1 : b = 1
    · simp [e1]
    · rw [if_neg e1] at hb
      have : (⟨.nil, 13⟩ : Heap).get b = none := rfl
      rw [this] at hb; simp at hb

theorem mixed : PP.follows .mixedOrders = true := by kernel_rfl
noncomputable def K1 : Kf := call PP (extX PP) 100000 hookF 60
theorem K1_sound : KSnd PP K1 := call_sound (extX_sound PP) hookF_sound mixed 60
def rA : PureRow := ⟨16, [strV [97]], .int .i64 0⟩
def rA1 : PureRow := ⟨16, [strV [97, 95, 49]], .int .i64 0⟩
def rAt : PureRow := ⟨16, [strV [97, 116]], .int .i64 42⟩
def rRam : PureRow := ⟨16, [strV [114, 97, 109]], .int .i64 39⟩
def rSize : PureRow := ⟨16, [strV [115, 105, 122, 101]], .int .i64 40⟩
def rMaster : PureRow := ⟨16, [strV [109, 97, 115, 116, 101, 114]], .int .i64 73⟩
def rMonitor : PureRow := ⟨16, [strV [109, 111, 110, 105, 116, 111, 114]], .int .i64 78⟩
def rForbid : PureRow := ⟨16, [strV [102, 111, 114, 98, 105, 100]], .int .i64 79⟩
noncomputable def ok1 (e : PureRow) : Bool := (e.args.all atomic && atomic e.v) && chkPure (K1 e.f e.args.toArray GG) e.v
theorem okA : ok1 rA = true := by decide +kernel
theorem okA1 : ok1 rA1 = true := by decide +kernel
theorem okAt : ok1 rAt = true := by decide +kernel
theorem okRam : ok1 rRam = true := by decide +kernel
theorem okSize : ok1 rSize = true := by decide +kernel
theorem okMaster : ok1 rMaster = true := by decide +kernel
theorem okMonitor : ok1 rMonitor = true := by decide +kernel
theorem okForbid : ok1 rForbid = true := by decide +kernel
def rows1 : List PureRow := [rA, rA1, rAt, rRam, rSize, rMaster, rMonitor, rForbid]
theorem hook1_sound : HookSnd PP (hookP GG [1, 2] rows1) := by
  refine hookP_sound K1_sound tabs_GG gs_GG fun e he => ?_
  have : ok1 e = true := by
    simp only [rows1, List.mem_cons, List.not_mem_nil, or_false] at he
    rcases he with rfl | rfl | rfl | rfl | rfl | rfl | rfl | rfl
    · exact okA
    · exact okA1
    · exact okAt
    · exact okRam
    · exact okSize
    · exact okMaster
    · exact okMonitor
    · exact okForbid
  simp only [ok1, Bool.and_eq_true] at this
  simpa using this
def hook2 : Hook := hookOr (hookP GG [1, 2] rows1) hookF
theorem hook2_sound : HookSnd PP hook2 := hookOr_sound hook1_sound hookF_sound
noncomputable def K2 : Kf := call PP (extX PP) 100000 hook2 60
theorem K2_sound : KSnd PP K2 := call_sound (extX_sound PP) hook2_sound mixed 60
end Go.Am
