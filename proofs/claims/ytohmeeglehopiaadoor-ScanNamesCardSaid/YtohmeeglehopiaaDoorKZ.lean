/- The closed run of the first statement. -/
import Derived.Test.YtohmeeglehopiaaDoorKK
namespace Go.Am
def errV (b : Nat) : Value := .iface 122 (.pointer (some ⟨b, 0, none⟩))
def GE : Heap := { (GG.set 4 ⟨[errV 13], false, 1, none⟩).set 5 ⟨[errV 14], false, 1, none⟩ with next := 15 }
theorem GE_get : ∀ b x, GE.get b = some x → (b = 1 ∧ x = ⟨classesL.map fun z => .int .u8 z, false, 1, none⟩) ∨ (b = 2 ∧ x = ⟨asciiV, false, 1, none⟩) ∨ (b = 4 ∧ x = ⟨[errV 13], false, 1, none⟩) ∨ (b = 5 ∧ x = ⟨[errV 14], false, 1, none⟩) := by
  intro b x hb
  have e0 : GE.get b = ((GG.set 4 ⟨[errV 13], false, 1, none⟩).set 5 ⟨[errV 14], false, 1, none⟩).get b := rfl
  rw [e0, Heap.get_set] at hb
  by_cases e5 : b = 5
  · rw [if_pos e5] at hb; exact .inr (.inr (.inr ⟨e5, (Option.some.inj hb).symm⟩))
  rw [if_neg e5, Heap.get_set] at hb
  by_cases e4 : b = 4
  · rw [if_pos e4] at hb; exact .inr (.inr (.inl ⟨e4, (Option.some.inj hb).symm⟩))
  rw [if_neg e4] at hb
  unfold GG at hb
  rw [Heap.get_set] at hb
  by_cases e2 : b = 2
  · rw [if_pos e2] at hb; exact .inr (.inl ⟨e2, (Option.some.inj hb).symm⟩)
  rw [if_neg e2, Heap.get_set] at hb
  by_cases e1 : b = 1
  · rw [if_pos e1] at hb; exact .inl ⟨e1, (Option.some.inj hb).symm⟩
  rw [if_neg e1] at hb
  have : (⟨.nil, 13⟩ : Heap).get b = none := rfl
  rw [this] at hb; simp at hb
theorem tabs_GE : Tabs PP GE := by
  refine ⟨fun b x hb => ?_, by rw [globals_size]; decide, fun b hb => ?_⟩
  · rcases GE_get b x hb with ⟨_, rfl⟩ | ⟨_, rfl⟩ | ⟨_, rfl⟩ | ⟨_, rfl⟩
    · exact ⟨rfl, rfl, by decide +kernel⟩
    · exact ⟨rfl, rfl, by decide +kernel⟩
    · exact ⟨rfl, rfl, by decide +kernel⟩
    · exact ⟨rfl, rfl, by decide +kernel⟩
  · have hn : 15 ≤ b := hb
    cases hg : GE.get b with
    | none => rfl
    | some x => rcases GE_get b x hg with ⟨rfl, _⟩ | ⟨rfl, _⟩ | ⟨rfl, _⟩ | ⟨rfl, _⟩ <;> omega
theorem gs_GE : ∀ b x, GE.get b = some x → b ∈ [1, 2, 4, 5] := by
  intro b x hb
  rcases GE_get b x hb with ⟨rfl, _⟩ | ⟨rfl, _⟩ | ⟨rfl, _⟩ | ⟨rfl, _⟩ <;> decide
def hookH0 : Hook := hookOr hookC hook2
theorem hookH0_sound : HookSnd PP hookH0 := hookOr_sound hookC_sound hook2_sound
noncomputable def KH0 : Kf := call PP (extX PP) 100000 hookH0 60
theorem KH0_sound : KSnd PP KH0 := call_sound (extX_sound PP) hookH0_sound mixed 60
noncomputable def okH (e : PureRow) : Bool := (e.args.all atomic && atomic e.v) && chkPure (KH0 e.f e.args.toArray GE) e.v
def hexR (c v : Int) : PureRow := ⟨55, [.int .u8 c], .int .u64 v⟩
theorem hex48 : okH (hexR 48 0) = true := by decide +kernel
theorem hex49 : okH (hexR 49 1) = true := by decide +kernel
theorem hex32 : okH (hexR 32 16) = true := by decide +kernel
def rowsH : List PureRow := [hexR 48 0, hexR 49 1, hexR 32 16]
theorem hookHex_sound : HookSnd PP (hookP GE [1, 2, 4, 5] rowsH) := by
  refine hookP_sound KH0_sound tabs_GE gs_GE fun e he => ?_
  have : okH e = true := by
    simp only [rowsH, List.mem_cons, List.not_mem_nil, or_false] at he
    rcases he with rfl | rfl | rfl
    · exact hex48
    · exact hex49
    · exact hex32
  simp only [okH, Bool.and_eq_true] at this
  simpa using this
def hook4 : Hook := hookOr (hookP GG [1, 2] [kn]) (hookOr (hookP GE [1, 2, 4, 5] rowsH) hook3)
theorem hook4_sound : HookSnd PP hook4 := hookOr_sound hookKn_sound (hookOr_sound hookHex_sound hook3_sound)
noncomputable def K4 : Kf := call PP (extX PP) 100000 hook4 60
theorem K4_sound : KSnd PP K4 := call_sound (extX_sound PP) hook4_sound mixed 60
theorem names_run : chkPure (K4 3 #[] GE) (.bool true) = true := by decide +kernel
end Go.Am
