/- The tables, the document's words, the two errors, the powers of ten and the table of the lowest bits. -/
import Derived.Test.YtohmeeglehopiaaDoorDX
import Derived.Lib.ItoaNum
import Derived.Shelf.Bits.Mul64
namespace Go.Am
def errV (b : Nat) : Value := .iface 122 (.pointer (some ⟨b, 0, none⟩))
def powV : List Value := Lib.pow10Tab.map fun z => .int .u64 z
def bruL : List Int := [0, 1, 56, 2, 57, 49, 28, 3, 61, 58, 42, 50, 38, 29, 17, 4, 62, 47, 59, 36, 45, 43, 51, 22, 53, 39, 33, 30, 24, 18, 12, 5, 63, 55, 48, 27, 60, 41, 37, 16, 46, 35, 44, 21, 52, 32, 23, 11, 54, 26, 40, 15, 34, 20, 31, 10, 25, 14, 19, 9, 13, 8, 7, 6]
def bruV : List Value := bruL.map fun z => .int .u8 z
def GE : Heap := { (((((GG.set 0 ⟨wordsV, false, 1, none⟩).set 4 ⟨[errV 13], false, 1, none⟩).set 5 ⟨[errV 14], false, 1, none⟩).set 6 ⟨powV, false, 1, none⟩).set 11 ⟨bruV, false, 1, none⟩) with next := 15 }
theorem GE_get : ∀ b x, GE.get b = some x → (b = 0 ∧ x = ⟨wordsV, false, 1, none⟩) ∨ (b = 1 ∧ x = ⟨classesL.map fun z => .int .u8 z, false, 1, none⟩) ∨ (b = 2 ∧ x = ⟨asciiV, false, 1, none⟩) ∨ (b = 4 ∧ x = ⟨[errV 13], false, 1, none⟩) ∨ (b = 5 ∧ x = ⟨[errV 14], false, 1, none⟩) ∨ (b = 6 ∧ x = ⟨powV, false, 1, none⟩) ∨ (b = 11 ∧ x = ⟨bruV, false, 1, none⟩) := by
  intro b x hb
  have e0 : GE.get b = (((((GG.set 0 ⟨wordsV, false, 1, none⟩).set 4 ⟨[errV 13], false, 1, none⟩).set 5 ⟨[errV 14], false, 1, none⟩).set 6 ⟨powV, false, 1, none⟩).set 11 ⟨bruV, false, 1, none⟩).get b := rfl
  rw [e0, Heap.get_set] at hb
  by_cases e11 : b = 11
  · rw [if_pos e11] at hb; exact .inr (.inr (.inr (.inr (.inr (.inr ⟨e11, (Option.some.inj hb).symm⟩)))))
  rw [if_neg e11, Heap.get_set] at hb
  by_cases e6 : b = 6
  · rw [if_pos e6] at hb; exact .inr (.inr (.inr (.inr (.inr (.inl ⟨e6, (Option.some.inj hb).symm⟩)))))
  rw [if_neg e6, Heap.get_set] at hb
  by_cases e5 : b = 5
  · rw [if_pos e5] at hb; exact .inr (.inr (.inr (.inr (.inl ⟨e5, (Option.some.inj hb).symm⟩))))
  rw [if_neg e5, Heap.get_set] at hb
  by_cases e4 : b = 4
  · rw [if_pos e4] at hb; exact .inr (.inr (.inr (.inl ⟨e4, (Option.some.inj hb).symm⟩)))
  rw [if_neg e4, Heap.get_set] at hb
  by_cases e0' : b = 0
  · rw [if_pos e0'] at hb; exact .inl ⟨e0', (Option.some.inj hb).symm⟩
  rw [if_neg e0'] at hb
  unfold GG at hb
  rw [Heap.get_set] at hb
  by_cases e2 : b = 2
  · rw [if_pos e2] at hb; exact .inr (.inr (.inl ⟨e2, (Option.some.inj hb).symm⟩))
  rw [if_neg e2, Heap.get_set] at hb
  by_cases e1 : b = 1
  · rw [if_pos e1] at hb; exact .inr (.inl ⟨e1, (Option.some.inj hb).symm⟩)
  rw [if_neg e1] at hb
  have : (⟨.nil, 13⟩ : Heap).get b = none := rfl
  rw [this] at hb; simp at hb
theorem tabs_GE : Tabs PP GE := by
  refine ⟨fun b x hb => ?_, by rw [globals_size]; decide, fun b hb => ?_⟩
  · rcases GE_get b x hb with ⟨_, rfl⟩ | ⟨_, rfl⟩ | ⟨_, rfl⟩ | ⟨_, rfl⟩ | ⟨_, rfl⟩ | ⟨_, rfl⟩ | ⟨_, rfl⟩ <;> exact ⟨rfl, rfl, by decide +kernel⟩
  · have hn : 15 ≤ b := hb
    cases hg : GE.get b with
    | none => rfl
    | some x => rcases GE_get b x hg with ⟨rfl, _⟩ | ⟨rfl, _⟩ | ⟨rfl, _⟩ | ⟨rfl, _⟩ | ⟨rfl, _⟩ | ⟨rfl, _⟩ | ⟨rfl, _⟩ <;> omega
theorem gs_GE : ∀ b x, GE.get b = some x → b ∈ [0, 1, 2, 4, 5, 6, 11] := by
  intro b x hb
  rcases GE_get b x hb with ⟨rfl, _⟩ | ⟨rfl, _⟩ | ⟨rfl, _⟩ | ⟨rfl, _⟩ | ⟨rfl, _⟩ | ⟨rfl, _⟩ | ⟨rfl, _⟩ <;> decide
end Go.Am
/- Tables of small functions: a sign of one byte, a hex digit, for every byte. -/
namespace Go.Am

/-- What a function of one byte answers, by a table. -/
def tabH (G : Heap) (gs : List Nat) (f0 : FuncId) (T : Nat → Value) : Hook := fun f args H =>
  cond (Nat.beq f f0) (match args.toList with
    | [.int .u8 n] => cond (decide (0 ≤ n) && decide (n < 256)) (hookP G gs [⟨f0, [.int .u8 n], T n.toNat⟩] f args H) none
    | _ => none) none
theorem tabH_sound {K : Kf} (hK : KSnd PP K) {G : Heap} {gs : List Nat} (hT : Tabs PP G) (hg : ∀ b x, G.get b = some x → b ∈ gs) {f0 : FuncId} {T : Nat → Value}
    (h : (List.range 256).all (fun u => okRow K G ⟨f0, [.int .u8 (u : Int)], T u⟩) = true) : HookSnd PP (tabH G gs f0 T) := by
  intro f args H r H' he
  unfold tabH at he
  cases hf : Nat.beq f f0 with
  | false => rw [hf] at he; cases he
  | true =>
    rw [hf] at he
    simp only [cond_true] at he
    split at he
    · rename_i n hn
      cases hc : (decide (0 ≤ n) && decide (n < 256)) with
      | false => rw [hc] at he; cases he
      | true =>
        rw [hc] at he
        simp only [Bool.and_eq_true, decide_eq_true_eq] at hc
        simp only [cond_true] at he
        refine hookP_sound hK hT hg (fun e hm => ?_) f args H r H' he
        simp only [List.mem_cons, List.not_mem_nil, or_false] at hm
        subst hm
        have := List.all_eq_true.mp h n.toNat (List.mem_range.mpr (by omega))
        simp only [okRow, Bool.and_eq_true] at this
        have e : ((n.toNat : Nat) : Int) = n := by omega
        rw [e] at this
        simpa using this
    · cases he
def singleT (u : Nat) : Int :=
  match u with
  | 124 => 20 | 94 => 21 | 38 => 22 | 43 => 25 | 45 => 26 | 42 => 27 | 47 => 28 | 37 => 29
  | 123 => 4 | 125 => 5 | 91 => 6 | 93 => 7 | 40 => 8 | 41 => 9 | 59 => 10 | 44 => 11
  | _ => 3
def hexT (u : Nat) : Int :=
  if 48 ≤ u ∧ u ≤ 57 then (u : Int) - 48 else if 97 ≤ u ∧ u ≤ 102 then (u : Int) - 87 else if 65 ≤ u ∧ u ≤ 70 then (u : Int) - 55 else 16
theorem singles_ok : (List.range 256).all (fun u => okRow (fast hook0) GE ⟨57, [.int .u8 (u : Int)], .int .i64 (singleT u)⟩) = true := by decide +kernel
theorem hexes0 : (List.range' 0 100).all (fun u => okRow (fast hook0) GE ⟨55, [.int .u8 (u : Int)], .int .u64 (hexT u)⟩) = true := by decide +kernel
theorem hexes1 : (List.range' 100 100).all (fun u => okRow (fast hook0) GE ⟨55, [.int .u8 (u : Int)], .int .u64 (hexT u)⟩) = true := by decide +kernel
theorem hexes2 : (List.range' 200 56).all (fun u => okRow (fast hook0) GE ⟨55, [.int .u8 (u : Int)], .int .u64 (hexT u)⟩) = true := by decide +kernel
theorem hexes_ok : (List.range 256).all (fun u => okRow (fast hook0) GE ⟨55, [.int .u8 (u : Int)], .int .u64 (hexT u)⟩) = true := by
  rw [List.all_eq_true]
  intro u hu
  rw [List.mem_range] at hu
  by_cases h0 : u < 100
  · exact List.all_eq_true.mp hexes0 u (by rw [List.mem_range'_1]; omega)
  · by_cases h1 : u < 200
    · exact List.all_eq_true.mp hexes1 u (by rw [List.mem_range'_1]; omega)
    · exact List.all_eq_true.mp hexes2 u (by rw [List.mem_range'_1]; omega)
end Go.Am
/- The product of two numbers, off the library's contract. -/
namespace Go.Proofs
open Go.Shelf
def Tryd.lays264_ren : Go.Shelf.Ren := ⟨fun | 264 => 73 | n => n, fun | 46 => 73 | 53 => 27 | n => n, fun n => n⟩
theorem Tryd.lays264 : Go.Proofs.Lays.n264 Tryd.prog Tryd.lays264_ren := {
  mixed := by kernel_rfl
  f264 := Tryd.func73.trans (congrArg some (by kernel_rfl))
  t46 := Tryd.underlying73
  a46 := Tryd.isAgg73
  z46 := Tryd.sizeOf73
  v46 := Tryd.zeroValue73
  t53 := Tryd.underlying27
  a53 := Tryd.isAgg27
  z53 := Tryd.sizeOf27
  v53 := Tryd.zeroValue27 }
theorem Tryd.bits_Mul64 (x y : Nat) (hx : x < 18446744073709551616) (hy : y < 18446744073709551616) (w : World) :
    Calls Tryd.prog 73 #[.int .u64 x, .int .u64 y] w fun e w' => e = .returned (.tuple #[.int .u64 ((x * y / 18446744073709551616 : Nat) : Int), .int .u64 ((x * y % 18446744073709551616 : Nat) : Int)]) ∧ w' = w := Any.bits_Mul64 Tryd.lays264 x y hx hy w
end Go.Proofs
namespace Go.Am
def mulV (x y : Nat) : Value := .tuple #[.int .u64 ((x * y / 18446744073709551616 : Nat) : Int), .int .u64 ((x * y % 18446744073709551616 : Nat) : Int)]
def hookM : Hook := fun f args H =>
  cond (Nat.beq f 73) (match args.toList with
    | [.int .u64 x, .int .u64 y] => cond (decide (0 ≤ x) && decide (x < 18446744073709551616) && (decide (0 ≤ y) && decide (y < 18446744073709551616))) (some (some (.ret (mulV x.toNat y.toNat), H))) none
    | _ => none) none
theorem hookM_sound : HookSnd PP hookM := by
  intro f args H r H' he m w args' hrel hgl hargs
  unfold hookM at he
  cases hf : Nat.beq f 73 with
  | false => rw [hf] at he; simp at he
  | true =>
  rw [hf] at he
  obtain rfl := Nat.eq_of_beq_eq_true hf
  simp only [cond_true] at he
  split at he
  · rename_i x y hs
    cases h1 : (decide (0 ≤ x) && decide (x < 18446744073709551616) && (decide (0 ≤ y) && decide (y < 18446744073709551616))) with
    | false => rw [h1] at he; simp at he
    | true =>
    rw [h1] at he
    simp only [cond_true, Option.some.injEq, Prod.mk.injEq] at he
    obtain ⟨rfl, rfl⟩ := he
    simp only [Bool.and_eq_true, decide_eq_true_eq] at h1
    have e := hargs.eq_of_atomic (by rw [hs]; rfl)
    subst e
    have ea : args' = #[.int .u64 x, .int .u64 y] := by cases args'; simp_all
    subst ea
    have ex : ((x.toNat : Nat) : Int) = x := by omega
    have ey : ((y.toNat : Nat) : Int) = y := by omega
    have hc := Go.Proofs.Tryd.bits_Mul64 x.toNat y.toNat (by omega) (by omega) w
    rw [ex, ey] at hc
    refine hc.mono fun e w' ⟨he, hw⟩ => ?_
    subst he
    subst hw
    refine ⟨m, ?_, Step.still hrel rfl rfl rfl (Nat.le_refl _) (fun _ _ => rfl)⟩
    refine .tuple _ _ rfl fun i a b => ?_
    have : i = 0 ∨ i = 1 := by simp at a; omega
    rcases this with rfl | rfl <;> exact .atom _ rfl
  · simp at he
end Go.Am
/- The last thing that each statement asks, at the tables and the two errors. -/
namespace Go.Am
def kn : PureRow := ⟨10, [], .bool true⟩
theorem okKn : okRow (fast hook0) GE kn = true := by decide +kernel
end Go.Am
/- Closed runs: the powers of two that the spelling of numbers asks for. -/
namespace Go.Am
def kPw : PureRow := ⟨86, [.int .i64 16], .bool true⟩
def kTz : PureRow := ⟨87, [.int .u64 16], .int .i64 4⟩
theorem okPw : okRow (fast hook0) GE kPw = true := by decide +kernel
theorem okTz : okRow (fast hook0) GE kTz = true := by decide +kernel
end Go.Am
/- Tables of the reference's small functions of a byte. -/
namespace Go.Am
def digN (n : Nat) : Bool := decide (48 ≤ n) && decide (n ≤ 57)
def wbN (n : Nat) : Bool := digN n || (decide (97 ≤ n) && decide (n ≤ 122)) || (decide (65 ≤ n) && decide (n ≤ 90)) || decide (n = 95)
def rhN (n : Nat) : Int := if 48 ≤ n ∧ n ≤ 57 then (n : Int) - 48 else if 97 ≤ n ∧ n ≤ 102 then (n : Int) - 87 else if 65 ≤ n ∧ n ≤ 70 then (n : Int) - 55 else -1
theorem split256 {p : Nat → Bool} (h0 : (List.range' 0 100).all p = true) (h1 : (List.range' 100 100).all p = true) (h2 : (List.range' 200 56).all p = true) : (List.range 256).all p = true := by
  rw [List.all_eq_true]
  intro u hu
  rw [List.mem_range] at hu
  by_cases c0 : u < 100
  · exact List.all_eq_true.mp h0 u (by rw [List.mem_range'_1]; omega)
  · by_cases c1 : u < 200
    · exact List.all_eq_true.mp h1 u (by rw [List.mem_range'_1]; omega)
    · exact List.all_eq_true.mp h2 u (by rw [List.mem_range'_1]; omega)
theorem digs_ok : (List.range 256).all (fun u => okRow (fast hook0) GE ⟨44, [.int .u8 (u : Int)], .bool (digN u)⟩) = true := split256 (by decide +kernel) (by decide +kernel) (by decide +kernel)
theorem wbs_ok : (List.range 256).all (fun u => okRow (fast hook0) GE ⟨45, [.int .u8 (u : Int)], .bool (wbN u)⟩) = true := split256 (by decide +kernel) (by decide +kernel) (by decide +kernel)
theorem rhs_ok : (List.range 256).all (fun u => okRow (fast hook0) GE ⟨50, [.int .u8 (u : Int)], .int .i64 (rhN u)⟩) = true := split256 (by decide +kernel) (by decide +kernel) (by decide +kernel)
end Go.Am
