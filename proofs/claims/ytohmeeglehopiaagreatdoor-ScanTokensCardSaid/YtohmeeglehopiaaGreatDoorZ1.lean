/- Tables of small functions: a sign of one byte, a hex digit, for every byte. -/
import Derived.Test.YtohmeeglehopiaaGreatDoorZX
import Derived.Shelf.Bits.Mul64
namespace Go.Am

/-- What a function of one byte answers, by a table. -/
def tabH (G : Heap) (gs : List Nat) (f0 : FuncId) (T : Nat → Value) : Hook := fun f args H =>
  cond (Nat.beq f f0) (match args.toList with
    | [.int .u8 n] => cond (decide (0 ≤ n) && decide (n < 256)) (hookP G gs [⟨f0, [.int .u8 n], T n.toNat⟩] f args H) none
    | _ => none) none
theorem tabH_sound {K : Kf} (hK : KSnd PP K) {G : Heap} {gs : List Nat} (hT : Tabs PP G) (hg : ∀ b x, G.get b = some x → b ∈ gs) {f0 : FuncId} {T : Nat → Value}
    (h : (List.range 256).all (fun u => okRow K G ⟨f0, [.int .u8 (u : Int)], T u⟩) = true) : HookSnd PP (tabH G gs f0 T) := by
  intro f args H r H' he
  unfold tabH at he
  cases hf : Nat.beq f f0 with
  | false => rw [hf] at he; cases he
  | true =>
    rw [hf] at he
    simp only [cond_true] at he
    split at he
    · rename_i n hn
      cases hc : (decide (0 ≤ n) && decide (n < 256)) with
      | false => rw [hc] at he; cases he
      | true =>
        rw [hc] at he
        simp only [Bool.and_eq_true, decide_eq_true_eq] at hc
        simp only [cond_true] at he
        refine hookP_sound hK hT hg (fun e hm => ?_) f args H r H' he
        simp only [List.mem_cons, List.not_mem_nil, or_false] at hm
        subst hm
        have := List.all_eq_true.mp h n.toNat (List.mem_range.mpr (by omega))
        simp only [okRow, Bool.and_eq_true] at this
        have e : ((n.toNat : Nat) : Int) = n := by omega
        rw [e] at this
        simpa using this
    · cases he
def singleT (u : Nat) : Int :=
  match u with
  | 124 => 20 | 94 => 21 | 38 => 22 | 43 => 25 | 45 => 26 | 42 => 27 | 47 => 28 | 37 => 29
  | 123 => 4 | 125 => 5 | 91 => 6 | 93 => 7 | 40 => 8 | 41 => 9 | 59 => 10 | 44 => 11
  | _ => 3
def hexT (u : Nat) : Int :=
  if 48 ≤ u ∧ u ≤ 57 then (u : Int) - 48 else if 97 ≤ u ∧ u ≤ 102 then (u : Int) - 87 else if 65 ≤ u ∧ u ≤ 70 then (u : Int) - 55 else 16
theorem singles_ok : (List.range 256).all (fun u => okRow (fast hook0) GE ⟨66, [.int .u8 (u : Int)], .int .i64 (singleT u)⟩) = true := by decide +kernel
theorem hexes0 : (List.range' 0 100).all (fun u => okRow (fast hook0) GE ⟨64, [.int .u8 (u : Int)], .int .u64 (hexT u)⟩) = true := by decide +kernel
theorem hexes1 : (List.range' 100 100).all (fun u => okRow (fast hook0) GE ⟨64, [.int .u8 (u : Int)], .int .u64 (hexT u)⟩) = true := by decide +kernel
theorem hexes2 : (List.range' 200 56).all (fun u => okRow (fast hook0) GE ⟨64, [.int .u8 (u : Int)], .int .u64 (hexT u)⟩) = true := by decide +kernel
theorem hexes_ok : (List.range 256).all (fun u => okRow (fast hook0) GE ⟨64, [.int .u8 (u : Int)], .int .u64 (hexT u)⟩) = true := by
  rw [List.all_eq_true]
  intro u hu
  rw [List.mem_range] at hu
  by_cases h0 : u < 100
  · exact List.all_eq_true.mp hexes0 u (by rw [List.mem_range'_1]; omega)
  · by_cases h1 : u < 200
    · exact List.all_eq_true.mp hexes1 u (by rw [List.mem_range'_1]; omega)
    · exact List.all_eq_true.mp hexes2 u (by rw [List.mem_range'_1]; omega)
end Go.Am
/- The product of two numbers, off the library's contract. -/
namespace Go.Proofs
open Go.Shelf
def Tryz.lays264_ren : Go.Shelf.Ren := ⟨fun | 264 => 83 | n => n, fun | 53 => 40 | 46 => 68 | n => n, fun | n => n⟩
theorem Tryz.lays264 : Go.Proofs.Lays.n264 Tryz.prog Tryz.lays264_ren := {
  mixed := by kernel_rfl
  f264 := Tryz.func83.trans (congrArg some (by kernel_rfl))
  t46 := Tryz.underlying68
  a46 := Tryz.isAgg68
  z46 := Tryz.sizeOf68
  v46 := Tryz.zeroValue68
  t53 := Tryz.underlying40
  a53 := Tryz.isAgg40
  z53 := Tryz.sizeOf40
  v53 := Tryz.zeroValue40 }
theorem Tryz.bits_Mul64 (x y : Nat) (hx : x < 18446744073709551616) (hy : y < 18446744073709551616) (w : World) :
    Calls Tryz.prog 83 #[.int .u64 x, .int .u64 y] w fun e w' => e = .returned (.tuple #[.int .u64 ((x * y / 18446744073709551616 : Nat) : Int), .int .u64 ((x * y % 18446744073709551616 : Nat) : Int)]) ∧ w' = w := Any.bits_Mul64 Tryz.lays264 x y hx hy w
end Go.Proofs
namespace Go.Am
def mulV (x y : Nat) : Value := .tuple #[.int .u64 ((x * y / 18446744073709551616 : Nat) : Int), .int .u64 ((x * y % 18446744073709551616 : Nat) : Int)]
def hookM : Hook := fun f args H =>
  cond (Nat.beq f 83) (match args.toList with
    | [.int .u64 x, .int .u64 y] => cond (decide (0 ≤ x) && decide (x < 18446744073709551616) && (decide (0 ≤ y) && decide (y < 18446744073709551616))) (some (some (.ret (mulV x.toNat y.toNat), H))) none
    | _ => none) none
theorem hookM_sound : HookSnd PP hookM := by
  intro f args H r H' he m w args' hrel hgl hargs
  unfold hookM at he
  cases hf : Nat.beq f 83 with
  | false => rw [hf] at he; simp at he
  | true =>
  rw [hf] at he
  obtain rfl := Nat.eq_of_beq_eq_true hf
  simp only [cond_true] at he
  split at he
  · rename_i x y hs
    cases h1 : (decide (0 ≤ x) && decide (x < 18446744073709551616) && (decide (0 ≤ y) && decide (y < 18446744073709551616))) with
    | false => rw [h1] at he; simp at he
    | true =>
    rw [h1] at he
    simp only [cond_true, Option.some.injEq, Prod.mk.injEq] at he
    obtain ⟨rfl, rfl⟩ := he
    simp only [Bool.and_eq_true, decide_eq_true_eq] at h1
    have e := hargs.eq_of_atomic (by rw [hs]; rfl)
    subst e
    have ea : args' = #[.int .u64 x, .int .u64 y] := by cases args'; simp_all
    subst ea
    have ex : ((x.toNat : Nat) : Int) = x := by omega
    have ey : ((y.toNat : Nat) : Int) = y := by omega
    have hc := Go.Proofs.Tryz.bits_Mul64 x.toNat y.toNat (by omega) (by omega) w
    rw [ex, ey] at hc
    refine hc.mono fun e w' ⟨he, hw⟩ => ?_
    subst he
    subst hw
    refine ⟨m, ?_, Step.still hrel rfl rfl rfl (Nat.le_refl _) (fun _ _ => rfl)⟩
    refine .tuple _ _ rfl fun i a b => ?_
    have : i = 0 ∨ i = 1 := by simp at a; omega
    rcases this with rfl | rfl <;> exact .atom _ rfl
  · simp at he
end Go.Am
/- Tables of the reference's small functions of a byte; the known words. -/
namespace Go.Am
def digN (n : Nat) : Bool := decide (48 ≤ n) && decide (n ≤ 57)
def wbN (n : Nat) : Bool := digN n || (decide (97 ≤ n) && decide (n ≤ 122)) || (decide (65 ≤ n) && decide (n ≤ 90)) || decide (n = 95)
def rhN (n : Nat) : Int := if 48 ≤ n ∧ n ≤ 57 then (n : Int) - 48 else if 97 ≤ n ∧ n ≤ 102 then (n : Int) - 87 else if 65 ≤ n ∧ n ≤ 70 then (n : Int) - 55 else -1
theorem split256 {p : Nat → Bool} (h0 : (List.range' 0 100).all p = true) (h1 : (List.range' 100 100).all p = true) (h2 : (List.range' 200 56).all p = true) : (List.range 256).all p = true := by
  rw [List.all_eq_true]
  intro u hu
  rw [List.mem_range] at hu
  by_cases c0 : u < 100
  · exact List.all_eq_true.mp h0 u (by rw [List.mem_range'_1]; omega)
  · by_cases c1 : u < 200
    · exact List.all_eq_true.mp h1 u (by rw [List.mem_range'_1]; omega)
    · exact List.all_eq_true.mp h2 u (by rw [List.mem_range'_1]; omega)
theorem digs_ok : (List.range 256).all (fun u => okRow (fast hook0) GE ⟨48, [.int .u8 (u : Int)], .bool (digN u)⟩) = true := split256 (by decide +kernel) (by decide +kernel) (by decide +kernel)
theorem wbs_ok : (List.range 256).all (fun u => okRow (fast hook0) GE ⟨51, [.int .u8 (u : Int)], .bool (wbN u)⟩) = true := split256 (by decide +kernel) (by decide +kernel) (by decide +kernel)
theorem rhs_ok : (List.range 256).all (fun u => okRow (fast hook0) GE ⟨67, [.int .u8 (u : Int)], .int .i64 (rhN u)⟩) = true := split256 (by decide +kernel) (by decide +kernel) (by decide +kernel)
def kn : PureRow := ⟨7, [], .bool true⟩
theorem okKn : okRow (fast hook0) GE kn = true := by decide +kernel
end Go.Am
