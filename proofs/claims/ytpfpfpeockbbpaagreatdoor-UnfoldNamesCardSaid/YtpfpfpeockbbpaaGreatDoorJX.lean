/- The seat's machine at its tables. -/
import Derived.Test.YtpfpfpeockbbpaaGreatDoorJH
import Derived.Test.YtpfpfpeockbbpaaGreatDoorFaX
namespace Go.Am
theorem GG_get : ∀ b x, GG.get b = some x → (b = 0 ∧ x = u8s classesL) ∨ (b = 2 ∧ x = u8s asciiL) ∨ (b = 4 ∧ x = u64s powL) ∨ (b = 5 ∧ x = u8s ranksL) := by
  intro b x hb
  unfold GG at hb
  rw [Heap.get_set] at hb
  by_cases e5 : b = 5
  · rw [if_pos e5] at hb; exact .inr (.inr (.inr ⟨e5, (Option.some.inj hb).symm⟩))
  rw [if_neg e5, Heap.get_set] at hb
  by_cases e4 : b = 4
  · rw [if_pos e4] at hb; exact .inr (.inr (.inl ⟨e4, (Option.some.inj hb).symm⟩))
  rw [if_neg e4, Heap.get_set] at hb
  by_cases e2 : b = 2
  · rw [if_pos e2] at hb; exact .inr (.inl ⟨e2, (Option.some.inj hb).symm⟩)
  rw [if_neg e2, Heap.get_set] at hb
  by_cases e0 : b = 0
  · rw [if_pos e0] at hb; exact .inl ⟨e0, (Option.some.inj hb).symm⟩
  rw [if_neg e0] at hb
  have : (⟨.nil, 13⟩ : Heap).get b = none := rfl
  rw [this] at hb; simp at hb
theorem ranks_plain : (u8s ranksL).cells.all atomic = true := by decide +kernel
theorem ascii_plain : (u8s asciiL).cells.all atomic = true := by decide +kernel
theorem classes_plain : (u8s classesL).cells.all atomic = true := by decide +kernel
theorem pow_plain : (u64s powL).cells.all atomic = true := by decide +kernel
theorem plain_within {n : Nat} {l : List Value} (h : l.all atomic = true) : l.all (within n) = true := by
  rw [List.all_eq_true] at h ⊢
  exact fun x hx => within_atomic (h x hx)
theorem tabs_GG : Tabs PP GG := by
  refine ⟨fun b x hb => ?_, by rw [globals_size]; decide, fun b hb => ?_⟩
  · rcases GG_get b x hb with ⟨_, rfl⟩ | ⟨_, rfl⟩ | ⟨_, rfl⟩ | ⟨_, rfl⟩
    · exact ⟨rfl, rfl, plain_within classes_plain, rfl⟩
    · exact ⟨rfl, rfl, plain_within ascii_plain, rfl⟩
    · exact ⟨rfl, rfl, plain_within pow_plain, rfl⟩
    · exact ⟨rfl, rfl, plain_within ranks_plain, rfl⟩
  · have hn : 13 ≤ b := hb
    cases hg : GG.get b with
    | none => rfl
    | some x => rcases GG_get b x hg with ⟨rfl, _⟩ | ⟨rfl, _⟩ | ⟨rfl, _⟩ | ⟨rfl, _⟩ <;> omega
theorem gs_GG : ∀ b x, GG.get b = some x → b ∈ [0, 2, 4, 5] := by
  intro b x hb
  rcases GG_get b x hb with ⟨rfl, _⟩ | ⟨rfl, _⟩ | ⟨rfl, _⟩ | ⟨rfl, _⟩ <;> decide
theorem mixed : PP.follows .mixedOrders = true := by kernel_rfl
theorem rowC : ByteRow PP 85 Extern.BytealgCount.count := byteRow_of Go.Proofs.Tryz.func85 (by decide) (by kernel_rfl) (by kernel_rfl) (by kernel_rfl)
theorem rowI : ByteRow PP 172 Extern.BytealgIndexByte.indexByte := byteRow_of Go.Proofs.Tryz.func172 (by decide) (by kernel_rfl) (by kernel_rfl) (by kernel_rfl)
theorem rowE : ByteRow PP 166 Extern.AbiNoEscape.same := byteRow_of Go.Proofs.Tryz.func166 (by decide) (by kernel_rfl) (by kernel_rfl) (by kernel_rfl)
noncomputable def XX : Xf := escX PP (byteX PP 85 172) 166
theorem XX_sound : XSnd PP XX := escX_sound (byteX_sound rowC rowI) rowE
noncomputable def okRow (K : Kf) (G : Heap) (e : PureRow) : Bool := (e.args.all atomic && atomic e.v) && chkPure (K e.f e.args.toArray G) e.v
def bad : List Nat := [19, 195]
theorem goods0 : (List.range' 0 60).all (goodAt PP bad) = true := by decide +kernel
theorem goods1 : (List.range' 60 70).all (goodAt PP bad) = true := by decide +kernel
theorem goods2 : (List.range' 130 70).all (goodAt PP bad) = true := by decide +kernel
theorem goods3 : (List.range' 200 100).all (goodAt PP bad) = true := by decide +kernel
theorem funcs_size : PP.funcs.size = 295 := by decide +kernel
theorem good : GoodP PP bad := goodP_of funcs_size fun f hf => by
  by_cases h0 : f < 60
  · exact List.all_eq_true.mp goods0 f (by rw [List.mem_range'_1]; omega)
  · by_cases h1 : f < 130
    · exact List.all_eq_true.mp goods1 f (by rw [List.mem_range'_1]; omega)
    · by_cases h2 : f < 200
      · exact List.all_eq_true.mp goods2 f (by rw [List.mem_range'_1]; omega)
      · exact List.all_eq_true.mp goods3 f (by rw [List.mem_range'_1]; omega)
/-- The operators' mapping, off the slow machine. -/
noncomputable def hookO : Hook := fun f args H => cond (Nat.beq f 19) (match callR PP XX 1000 noH 5 19 args H with | some x => some (some x) | none => none) none
theorem noH_sound : HookSnd PP noH := fun f args H r H' he => by cases he
theorem hookO_sound : HookSnd PP hookO := by
  intro f args H r H' he m w args' hrel hgl hargs
  unfold hookO at he
  cases hf : Nat.beq f 19 with
  | false => rw [hf] at he; cases he
  | true =>
    rw [hf] at he
    obtain rfl := Nat.eq_of_beq_eq_true hf
    simp only [cond_true] at he
    split at he
    · rename_i x hx
      simp only [Option.some.injEq] at he
      subst he
      exact callR_sound XX_sound noH_sound mixed 5 19 args H r H' hx m w args' hrel hgl hargs
    · cases he
noncomputable def ohook : Bool := match hookO 19 #[] GG with | some (some (.ret (.map (some b)), H)) => (match H.get b with | some y => !y.rw | none => false) | _ => false
theorem ohook_ok : ohook = true := by decide +kernel
noncomputable def hook0 : Hook := hookOr hookC (hookOr hookF hookO)
theorem hook0_sound : HookSnd PP hook0 := hookOr_sound hookC_sound (hookOr_sound hookF_sound hookO_sound)
noncomputable def fast (h : Hook) : Kf := callT PP bad XX 100000 h 60
theorem fast_sound {h : Hook} (hh : HookSnd PP h) : KSnd PP (fast h) := callT_sound good XX_sound hh mixed 60
end Go.Am
