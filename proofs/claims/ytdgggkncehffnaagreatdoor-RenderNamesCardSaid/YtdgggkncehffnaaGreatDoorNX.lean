/- The seat's machine at its tables. -/
import Derived.Test.YtdgggkncehffnaaGreatDoorNH
import Derived.Test.YtdgggkncehffnaaGreatDoorFaX
namespace Go.Am
theorem GG_get : ∀ b x, GG.get b = some x → (b = 0 ∧ x = u8s ranksL) ∨ (b = 2 ∧ x = u8s asciiL) ∨ (b = 3 ∧ x = u8s classesL) ∨ (b = 5 ∧ x = u64s powL) := by
  intro b x hb
  unfold GG at hb
  rw [Heap.get_set] at hb
  by_cases e5 : b = 5
  · rw [if_pos e5] at hb; exact .inr (.inr (.inr ⟨e5, (Option.some.inj hb).symm⟩))
  rw [if_neg e5, Heap.get_set] at hb
  by_cases e3 : b = 3
  · rw [if_pos e3] at hb; exact .inr (.inr (.inl ⟨e3, (Option.some.inj hb).symm⟩))
  rw [if_neg e3, Heap.get_set] at hb
  by_cases e2 : b = 2
  · rw [if_pos e2] at hb; exact .inr (.inl ⟨e2, (Option.some.inj hb).symm⟩)
  rw [if_neg e2, Heap.get_set] at hb
  by_cases e0 : b = 0
  · rw [if_pos e0] at hb; exact .inl ⟨e0, (Option.some.inj hb).symm⟩
  rw [if_neg e0] at hb
  have : (⟨.nil, 11⟩ : Heap).get b = none := rfl
  rw [this] at hb; simp at hb
theorem ranks_plain : (u8s ranksL).cells.all atomic = true := by decide +kernel
theorem ascii_plain : (u8s asciiL).cells.all atomic = true := by decide +kernel
theorem classes_plain : (u8s classesL).cells.all atomic = true := by decide +kernel
theorem pow_plain : (u64s powL).cells.all atomic = true := by decide +kernel
theorem plain_within {n : Nat} {l : List Value} (h : l.all atomic = true) : l.all (within n) = true := by
  rw [List.all_eq_true] at h ⊢
  exact fun x hx => within_atomic (h x hx)
theorem tabs_GG : Tabs PP GG := by
  refine ⟨fun b x hb => ?_, by rw [globals_size]; decide, fun b hb => ?_⟩
  · rcases GG_get b x hb with ⟨_, rfl⟩ | ⟨_, rfl⟩ | ⟨_, rfl⟩ | ⟨_, rfl⟩
    · exact ⟨rfl, rfl, plain_within ranks_plain⟩
    · exact ⟨rfl, rfl, plain_within ascii_plain⟩
    · exact ⟨rfl, rfl, plain_within classes_plain⟩
    · exact ⟨rfl, rfl, plain_within pow_plain⟩
  · have hn : 11 ≤ b := hb
    cases hg : GG.get b with
    | none => rfl
    | some x => rcases GG_get b x hg with ⟨rfl, _⟩ | ⟨rfl, _⟩ | ⟨rfl, _⟩ | ⟨rfl, _⟩ <;> omega
theorem gs_GG : ∀ b x, GG.get b = some x → b ∈ [0, 2, 3, 5] := by
  intro b x hb
  rcases GG_get b x hb with ⟨rfl, _⟩ | ⟨rfl, _⟩ | ⟨rfl, _⟩ | ⟨rfl, _⟩ <;> decide
theorem mixed : PP.follows .mixedOrders = true := by kernel_rfl
theorem rowC : ByteRow PP 40 Extern.BytealgCount.count := byteRow_of Go.Proofs.Tryz.func40 (by decide) (by kernel_rfl) (by kernel_rfl) (by kernel_rfl)
theorem rowI : ByteRow PP 116 Extern.BytealgIndexByte.indexByte := byteRow_of Go.Proofs.Tryz.func116 (by decide) (by kernel_rfl) (by kernel_rfl) (by kernel_rfl)
noncomputable def XX : Xf := byteX PP 40 116
theorem XX_sound : XSnd PP XX := byteX_sound rowC rowI
noncomputable def okRow (K : Kf) (G : Heap) (e : PureRow) : Bool := (e.args.all atomic && atomic e.v) && chkPure (K e.f e.args.toArray G) e.v
def hook0 : Hook := hookOr hookC hookF
theorem hook0_sound : HookSnd PP hook0 := hookOr_sound hookC_sound hookF_sound
def bad : List Nat := [110]
theorem goods0 : (List.range' 0 60).all (goodAt PP bad) = true := by decide +kernel
theorem goods1 : (List.range' 60 70).all (goodAt PP bad) = true := by decide +kernel
theorem goods2 : (List.range' 130 90).all (goodAt PP bad) = true := by decide +kernel
theorem funcs_size : PP.funcs.size = 216 := by decide +kernel
theorem good : GoodP PP bad := goodP_of funcs_size fun f hf => by
  by_cases h0 : f < 60
  · exact List.all_eq_true.mp goods0 f (by rw [List.mem_range'_1]; omega)
  · by_cases h1 : f < 130
    · exact List.all_eq_true.mp goods1 f (by rw [List.mem_range'_1]; omega)
    · exact List.all_eq_true.mp goods2 f (by rw [List.mem_range'_1]; omega)
noncomputable def fast (h : Hook) : Kf := callT PP bad XX 100000 h 60
theorem fast_sound {h : Hook} (hh : HookSnd PP h) : KSnd PP (fast h) := callT_sound good XX_sound hh mixed 60
end Go.Am
