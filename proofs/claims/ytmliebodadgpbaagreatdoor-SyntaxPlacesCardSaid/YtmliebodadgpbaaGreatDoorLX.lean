/- Closed runs, first row: the reserved words. -/
import Derived.Test.YtmliebodadgpbaaGreatDoorLH
namespace Go.Am
theorem tabs_GG : Tabs PP GG := by
  have h1 : ∀ b x, GG.get b = some x → (b = 1 ∧ x = ⟨classesL.map fun z => .int .u8 z, false, 1, none⟩) ∨ (b = 2 ∧ x = ⟨asciiV, false, 1, none⟩) := by
    intro b x hb
    unfold GG at hb
    rw [Heap.get_set] at hb
    by_cases e2 : b = 2
    · rw [if_pos e2] at hb; exact .inr ⟨e2, (Option.some.inj hb).symm⟩
    · rw [if_neg e2, Heap.get_set] at hb
      by_cases e1 : b = 1
      · rw [if_pos e1] at hb; exact .inl ⟨e1, (Option.some.inj hb).symm⟩
      · rw [if_neg e1] at hb
        have : (⟨.nil, 10⟩ : Heap).get b = none := rfl
        rw [this] at hb; simp at hb
  refine ⟨fun b x hb => ?_, by rw [globals_size]; decide, fun b hb => ?_⟩
  · rcases h1 b x hb with ⟨_, rfl⟩ | ⟨_, rfl⟩
    · exact ⟨rfl, rfl, by decide +kernel⟩
    · exact ⟨rfl, rfl, by decide +kernel⟩
  · have hn : 10 ≤ b := hb
    cases hg : GG.get b with
    | none => rfl
    | some x => rcases h1 b x hg with ⟨rfl, _⟩ | ⟨rfl, _⟩ <;> omega
theorem gs_GG : ∀ b x, GG.get b = some x → b ∈ [1, 2] := by
  intro b x hb
  unfold GG at hb
  rw [Heap.get_set] at hb
  by_cases e2 : b = 2
  · simp [e2]
  · rw [if_neg e2, Heap.get_set] at hb
    by_cases e1 : b = 1
    · simp [e1]
    · rw [if_neg e1] at hb
      have : (⟨.nil, 10⟩ : Heap).get b = none := rfl
      rw [this] at hb; simp at hb

theorem mixed : PP.follows .mixedOrders = true := by kernel_rfl
theorem row44 : ByteRow PP 44 Extern.BytealgCount.count := byteRow_of Go.Proofs.Tryz.func44 (by decide) (by kernel_rfl) (by kernel_rfl) (by kernel_rfl)
theorem row92 : ByteRow PP 92 Extern.BytealgIndexByte.indexByte := byteRow_of Go.Proofs.Tryz.func92 (by decide) (by kernel_rfl) (by kernel_rfl) (by kernel_rfl)
noncomputable def XX : Xf := byteX PP 44 92
theorem XX_sound : XSnd PP XX := byteX_sound row44 row92
noncomputable def run (h : Hook) : Kf := callR PP XX 100000 h 60
theorem run_sound {h : Hook} (hh : HookSnd PP h) : KSnd PP (run h) := callR_sound XX_sound hh mixed 60
noncomputable def okRow (K : Kf) (G : Heap) (e : PureRow) : Bool := (e.args.all atomic && atomic e.v) && chkPure (K e.f e.args.toArray G) e.v
def hook0 : Hook := hookOr hookC hookF
theorem hook0_sound : HookSnd PP hook0 := hookOr_sound hookC_sound hookF_sound
def rS : PureRow := ⟨60, [strV [115]], .int .i64 0⟩
def rRx : PureRow := ⟨60, [strV [114, 120]], .int .i64 0⟩
def rA : PureRow := ⟨60, [strV [97]], .int .i64 0⟩
def rB : PureRow := ⟨60, [strV [98]], .int .i64 0⟩
def rSystem : PureRow := ⟨60, [strV [115, 121, 115, 116, 101, 109]], .int .i64 30⟩
def rConst : PureRow := ⟨60, [strV [99, 111, 110, 115, 116]], .int .i64 31⟩
theorem okS : okRow (run hook0) GG rS = true := by decide +kernel
theorem okRx : okRow (run hook0) GG rRx = true := by decide +kernel
theorem okA : okRow (run hook0) GG rA = true := by decide +kernel
theorem okB : okRow (run hook0) GG rB = true := by decide +kernel
theorem okSystem : okRow (run hook0) GG rSystem = true := by decide +kernel
theorem okConst : okRow (run hook0) GG rConst = true := by decide +kernel
def rows1 : List PureRow := [rS, rRx, rA, rB, rSystem, rConst]
theorem hook1_sound : HookSnd PP (hookP GG [1, 2] rows1) := by
  refine hookP_sound (run_sound hook0_sound) tabs_GG gs_GG fun e he => ?_
  have : okRow (run hook0) GG e = true := by
    simp only [rows1, List.mem_cons, List.not_mem_nil, or_false] at he
    rcases he with rfl | rfl | rfl | rfl | rfl | rfl
    · exact okS
    · exact okRx
    · exact okA
    · exact okB
    · exact okSystem
    · exact okConst
  simp only [okRow, Bool.and_eq_true] at this
  simpa using this
def hook2 : Hook := hookOr (hookP GG [1, 2] rows1) hook0
theorem hook2_sound : HookSnd PP hook2 := hookOr_sound hook1_sound hook0_sound
end Go.Am
