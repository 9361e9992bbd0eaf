/- The seat's machine at its tables: bytes' classes, blanks, the document's words and signs, the two errors. -/
import Derived.Test.YtohmeeglehopiaaGreatDoorZH
import Derived.Test.YtohmeeglehopiaaGreatDoorAmP
import Derived.Test.YtohmeeglehopiaaGreatDoorFaW
namespace Go.Am
def signsL : List (List UInt8) := [[123], [125], [91], [93], [40], [41], [59], [44], [46, 46], [61], [61, 61], [33, 61], [60], [60, 61], [62], [62, 61], [124], [94], [38], [60, 60], [62, 62], [43], [45], [42], [47], [37]]
def signsV : List Value := signsL.map strV
def errV (b : Nat) : Value := .iface 151 (.pointer (some ⟨b, 0, none⟩))
def ro (l : List Value) : Blk := ⟨l, false, 1, none⟩
def GE : Heap := { ((((GG.set 2 (ro wordsV)).set 3 (ro signsV)).set 6 (ro [errV 14])).set 7 (ro [errV 15])) with next := 16 }
theorem GE_get : ∀ b x, GE.get b = some x → (b = 0 ∧ x = ro asciiV) ∨ (b = 1 ∧ x = ro (classesL.map fun z => .int .u8 z)) ∨ (b = 2 ∧ x = ro wordsV) ∨ (b = 3 ∧ x = ro signsV) ∨ (b = 6 ∧ x = ro [errV 14]) ∨ (b = 7 ∧ x = ro [errV 15]) := by
  intro b x hb
  have e0 : GE.get b = ((((GG.set 2 (ro wordsV)).set 3 (ro signsV)).set 6 (ro [errV 14])).set 7 (ro [errV 15])).get b := rfl
  rw [e0, Heap.get_set] at hb
  by_cases e7 : b = 7
  · rw [if_pos e7] at hb; exact .inr (.inr (.inr (.inr (.inr ⟨e7, (Option.some.inj hb).symm⟩))))
  rw [if_neg e7, Heap.get_set] at hb
  by_cases e6 : b = 6
  · rw [if_pos e6] at hb; exact .inr (.inr (.inr (.inr (.inl ⟨e6, (Option.some.inj hb).symm⟩))))
  rw [if_neg e6, Heap.get_set] at hb
  by_cases e3 : b = 3
  · rw [if_pos e3] at hb; exact .inr (.inr (.inr (.inl ⟨e3, (Option.some.inj hb).symm⟩)))
  rw [if_neg e3, Heap.get_set] at hb
  by_cases e2 : b = 2
  · rw [if_pos e2] at hb; exact .inr (.inr (.inl ⟨e2, (Option.some.inj hb).symm⟩))
  rw [if_neg e2] at hb
  unfold GG at hb
  rw [Heap.get_set] at hb
  by_cases e0 : b = 0
  · rw [if_pos e0] at hb; exact .inl ⟨e0, (Option.some.inj hb).symm⟩
  rw [if_neg e0, Heap.get_set] at hb
  by_cases e1 : b = 1
  · rw [if_pos e1] at hb; exact .inr (.inl ⟨e1, (Option.some.inj hb).symm⟩)
  rw [if_neg e1] at hb
  have : (⟨.nil, 14⟩ : Heap).get b = none := rfl
  rw [this] at hb; simp at hb
theorem tabs_GE : Tabs PP GE := by
  refine ⟨fun b x hb => ?_, by rw [globals_size]; decide, fun b hb => ?_⟩
  · rcases GE_get b x hb with ⟨_, rfl⟩ | ⟨_, rfl⟩ | ⟨_, rfl⟩ | ⟨_, rfl⟩ | ⟨_, rfl⟩ | ⟨_, rfl⟩ <;> exact ⟨rfl, rfl, by decide +kernel⟩
  · have hn : 16 ≤ b := hb
    cases hg : GE.get b with
    | none => rfl
    | some x => rcases GE_get b x hg with ⟨rfl, _⟩ | ⟨rfl, _⟩ | ⟨rfl, _⟩ | ⟨rfl, _⟩ | ⟨rfl, _⟩ | ⟨rfl, _⟩ <;> omega
theorem gs_GE : ∀ b x, GE.get b = some x → b ∈ [0, 1, 2, 3, 6, 7] := by
  intro b x hb
  rcases GE_get b x hb with ⟨rfl, _⟩ | ⟨rfl, _⟩ | ⟨rfl, _⟩ | ⟨rfl, _⟩ | ⟨rfl, _⟩ | ⟨rfl, _⟩ <;> decide
theorem mixed : PP.follows .mixedOrders = true := by kernel_rfl
noncomputable def XX : Xf := extX PP
theorem XX_sound : XSnd PP XX := extX_sound PP
noncomputable def okRow (K : Kf) (G : Heap) (e : PureRow) : Bool := (e.args.all atomic && atomic e.v) && chkPure (K e.f e.args.toArray G) e.v
def hook0 : Hook := hookOr hookC hookF
theorem hook0_sound : HookSnd PP hook0 := hookOr_sound hookC_sound hookF_sound
theorem goods0 : (List.range' 0 50).all (goodAt PP []) = true := by decide +kernel
theorem goods1 : (List.range' 50 50).all (goodAt PP []) = true := by decide +kernel
theorem goods2 : (List.range' 100 49).all (goodAt PP []) = true := by decide +kernel
theorem funcs_size : PP.funcs.size = 149 := by decide +kernel
theorem good : GoodP PP [] := goodP_of funcs_size fun f hf => by
  by_cases h0 : f < 50
  · exact List.all_eq_true.mp goods0 f (by rw [List.mem_range'_1]; omega)
  · by_cases h1 : f < 100
    · exact List.all_eq_true.mp goods1 f (by rw [List.mem_range'_1]; omega)
    · exact List.all_eq_true.mp goods2 f (by rw [List.mem_range'_1]; omega)
noncomputable def fast (h : Hook) : Kf := callT PP [] XX 100000 h 60
theorem fast_sound {h : Hook} (hh : HookSnd PP h) : KSnd PP (fast h) := callT_sound good XX_sound hh mixed 60
end Go.Am
