/- The seat's machine at its tables. -/
import Derived.Test.YtohmeeglehopiaaDoorKH
import Derived.Test.YtohmeeglehopiaaDoorAmP
import Derived.Test.YtohmeeglehopiaaDoorFaW
namespace Go.Am
theorem tabs_GG : Tabs PP GG := by
  have h1 : ∀ b x, GG.get b = some x → (b = 1 ∧ x = ⟨classesL.map fun z => .int .u8 z, false, 1, none⟩) ∨ (b = 2 ∧ x = ⟨asciiV, false, 1, none⟩) := by
    intro b x hb
    unfold GG at hb
    rw [Heap.get_set] at hb
    by_cases e2 : b = 2
    · rw [if_pos e2] at hb; exact .inr ⟨e2, (Option.some.inj hb).symm⟩
    · rw [if_neg e2, Heap.get_set] at hb
      by_cases e1 : b = 1
      · rw [if_pos e1] at hb; exact .inl ⟨e1, (Option.some.inj hb).symm⟩
      · rw [if_neg e1] at hb
        have : (⟨.nil, 13⟩ : Heap).get b = none := rfl
        rw [this] at hb; simp at hb
  refine ⟨fun b x hb => ?_, by rw [globals_size]; decide, fun b hb => ?_⟩
  · rcases h1 b x hb with ⟨_, rfl⟩ | ⟨_, rfl⟩
    · exact ⟨rfl, rfl, by decide +kernel⟩
    · exact ⟨rfl, rfl, by decide +kernel⟩
  · have hn : 13 ≤ b := hb
    cases hg : GG.get b with
    | none => rfl
    | some x => rcases h1 b x hg with ⟨rfl, _⟩ | ⟨rfl, _⟩ <;> omega
theorem gs_GG : ∀ b x, GG.get b = some x → b ∈ [1, 2] := by
  intro b x hb
  unfold GG at hb
  rw [Heap.get_set] at hb
  by_cases e2 : b = 2
  · simp [e2]
  · rw [if_neg e2, Heap.get_set] at hb
    by_cases e1 : b = 1
    · simp [e1]
    · rw [if_neg e1] at hb
      have : (⟨.nil, 13⟩ : Heap).get b = none := rfl
      rw [this] at hb; simp at hb

theorem mixed : PP.follows .mixedOrders = true := by kernel_rfl
noncomputable def XX : Xf := extX PP
theorem XX_sound : XSnd PP XX := extX_sound PP
noncomputable def okRow (K : Kf) (G : Heap) (e : PureRow) : Bool := (e.args.all atomic && atomic e.v) && chkPure (K e.f e.args.toArray G) e.v
def hook0 : Hook := hookOr hookC hookF
theorem hook0_sound : HookSnd PP hook0 := hookOr_sound hookC_sound hookF_sound
theorem goods0 : (List.range' 0 50).all (goodAt PP []) = true := by decide +kernel
theorem goods1 : (List.range' 50 50).all (goodAt PP []) = true := by decide +kernel
theorem goods2 : (List.range' 100 38).all (goodAt PP []) = true := by decide +kernel
theorem funcs_size : PP.funcs.size = 138 := by decide +kernel
theorem good : GoodP PP [] := goodP_of funcs_size fun f hf => by
  by_cases h0 : f < 50
  · exact List.all_eq_true.mp goods0 f (by rw [List.mem_range'_1]; omega)
  · by_cases h1 : f < 100
    · exact List.all_eq_true.mp goods1 f (by rw [List.mem_range'_1]; omega)
    · exact List.all_eq_true.mp goods2 f (by rw [List.mem_range'_1]; omega)
noncomputable def fast (h : Hook) : Kf := callT PP [] XX 100000 h 60
theorem fast_sound {h : Hook} (hh : HookSnd PP h) : KSnd PP (fast h) := callT_sound good XX_sound hh mixed 60
end Go.Am
