/- The place of a byte, as the program tells it. -/
import Derived.Test.YtmliebodadgpbaaGreatDoorLD
open Go.Proofs
namespace Go.Am

def pl (x y w : Int) : Blk := ⟨[.int .i64 x, .int .i64 y, .int .i64 w], true, 1, none⟩
theorem zero30 : zeroT PP 30 = some [.int .i64 0, .int .i64 0, .int .i64 0] := by kernel_rfl
theorem es30 : esT PP 30 = 1 := by decide +kernel
theorem size30 : sizeT PP 30 = some 3 := by decide +kernel
theorem size3 : sizeT PP 3 = some 1 := by decide +kernel
theorem agg30 : aggT PP 30 = some true := by decide +kernel
theorem agg3 : aggT PP 3 = some false := by decide +kernel
theorem alloc30 (H : Heap) : allocA PP 30 H = some (.pointer (some ⟨H.next, 0, none⟩), H.alloc 1 [.int .i64 0, .int .i64 0, .int .i64 0]) := by simp only [allocA, zero30, es30, mk]
theorem bslice (H : Heap) : buildSliceA PP 34 1 #[(0, .int .u8 10)] H = some (.slice (some ⟨H.next, 0, none⟩) 1 1, H.alloc 1 [.int .u8 10]) := by
  have zero5 : zeroT PP 5 = some [.int .u8 0] := by kernel_rfl
  have hf : Instr.fill (fun i => some (i * 1, 1)) (zeroRow [.int .u8 0] (1 * 1)).toArray [(0, .int .u8 10)] = some #[.int .u8 10] := by rfl
  simp only [buildSliceA, und34, size5, zero5, mkRow, hf]
  simp
theorem build30 (x y w : Int) : buildA PP 30 #[(0, .int .i64 x), (1, .int .i64 y), (2, .int .i64 w)] = some (.agg #[.int .i64 x, .int .i64 y, .int .i64 w]) := by kernel_rfl
theorem store30 {H : Heap} {b : Nat} {x y w x' y' w' : Int} (h : H.get b = some (pl x y w)) : storeA PP 30 (.pointer (some ⟨b, 0, none⟩)) (.agg #[.int .i64 x', .int .i64 y', .int .i64 w']) H = some (undef, H.set b (pl x' y' w')) := by
  simp only [storeA, size30, stV]
  simp [Value.cells, st, look, h, pl, over, Value.oneCell']
theorem load30 {H : Heap} {b : Nat} {x y w : Int} (h : H.get b = some (pl x y w)) : loadA PP 30 (.pointer (some ⟨b, 0, none⟩)) H = some (.agg #[.int .i64 x, .int .i64 y, .int .i64 w], H) := by
  simp only [loadA, agg30, size30]
  simp [ldN, look, h, pl]
theorem parts_one (E : Env) (i : Nat) (x : Operand) : (#[(i, x)] : Array (Nat × Operand)).map (fun (i, x) => (i, evalE E x)) = #[(i, evalE E x)] := by simp
theorem parts_three (E : Env) (i j l : Nat) (x y z : Operand) : (#[(i, x), (j, y), (l, z)] : Array (Nat × Operand)).map (fun (i, x) => (i, evalE E x)) = #[(i, evalE E x), (j, evalE E y), (l, evalE E z)] := by simp

/-- The offset that is meant. -/
def atN (k : Int) (n : Nat) : Nat := if k < 0 then 0 else if k > n then n else k.toNat
theorem atN_le (k : Int) (n : Nat) : atN k n ≤ n := by
  unfold atN
  repeat' split
  all_goals omega
theorem atN_minmax (k : Int) (n : Nat) : (if (n : Int) < (if (0 : Int) > k then 0 else k) then (n : Int) else (if (0 : Int) > k then 0 else k)) = (atN k n : Int) := by
  unfold atN
  repeat' split
  all_goals omega

theorem cntB_bound (s : List UInt8) (z : UInt8) : 0 ≤ cntB s z ∧ cntB s z ≤ s.length := by
  have h : ∀ (l : List UInt8) (b : Int), b ≤ l.foldl (fun n x => if x == z then n + 1 else n) b ∧ l.foldl (fun n x => if x == z then n + 1 else n) b ≤ b + l.length := by
    intro l
    induction l with
    | nil => intro b; simp
    | cons x l ih =>
      intro b
      simp only [List.foldl_cons, List.length_cons]
      by_cases e : (x == z) = true
      · rw [if_pos e]; have := ih (b + 1); omega
      · rw [if_neg e]; have := ih b; omega
  have := h s 0
  unfold cntB
  omega
theorem lastB_bound (s : List UInt8) (z : UInt8) : ∀ j, -1 ≤ lastB s z j ∧ lastB s z j < j
  | 0 => by simp [lastB]
  | j + 1 => by
    unfold lastB
    have := lastB_bound s z j
    split <;> omega

theorem call10 {N : Nat} {hk : Hook} {d : Nat} {H : Heap} {a : Option Addr} {c : Nat} {s : List UInt8} (hb : Brow H a s) (hc : s.length ≤ c) (hn : a = none → c = 0) (hf : Fresh H) (k : Int) (hN : s.length < N) (hh : ∀ f args H, f ≠ 9 → hk f args H = none) :
    ∃ H', Ext H H' ∧ CE N hk (d + 3) 10 #[.slice a s.length c, .int .i64 k] H =
      some (.ret (.agg #[.int .i64 (atN k s.length), .int .i64 (IntKind.i64.wrap (1 + cntB (s.take (atN k s.length)) 10)), .int .i64 (IntKind.i64.wrap ((atN k s.length : Int) - lastB (s.take (atN k s.length)) 10 (atN k s.length)))]), H') := by
  have hle := atN_le k s.length
  have hmm := atN_minmax k s.length
  generalize atN k s.length = q at hle hmm ⊢
  have e1 : Ext H (H.alloc 1 [.int .i64 0, .int .i64 0, .int .i64 0]) := .alloc hf _ _
  have e2 : Ext H ((H.alloc 1 [.int .i64 0, .int .i64 0, .int .i64 0]).alloc 1 [.int .u8 10]) := e1.trans (.alloc e1.fresh _ _)
  have e3 := fun x => e2.set (b := H.next) (Nat.le_refl _) hf (by show H.next < H.next + 1 + 1; omega) x
  refine ⟨_, e3 (pl (q : Int) (IntKind.i64.wrap (1 + cntB (s.take q) 10)) (IntKind.i64.wrap ((q : Int) - lastB (s.take q) 10 q))), ?_⟩
  refine (callE_fn (hh _ _ _ (by decide)) Tryz.func10 (c := bodyOf Tryz.f10) rfl rfl rfl).trans ?_
  have hl : (s.take q).length = q := by simp; omega
  have b1 := hb.ext e1
  have b2 := (hb.ext e2).take hle
  have z2 : Brow ((H.alloc 1 [.int .i64 0, .int .i64 0, .int .i64 0]).alloc 1 [.int .u8 10]) (some ⟨H.next + 1, 0, none⟩) [10] := by
    refine ⟨fun b hb => ?_, (fun e => by cases e), by simp⟩
    obtain rfl := Option.some.inj hb
    refine ⟨⟨[.int .u8 10], true, 1, none⟩, ?_, rfl, by simp, by simp⟩
    have hg : (((H.alloc 1 [.int .i64 0, .int .i64 0, .int .i64 0]).alloc 1 [.int .u8 10])).get (H.next + 1) = some ⟨[.int .u8 10], true, 1, none⟩ := by
      rw [Heap.get_alloc]; exact if_pos rfl
    simp [look, hg]
  have c24 := call24 (N := N) (hk := hk) (d := d + 1) (c := c) b2.bts 10 z2.bts (c2 := 1) hh
  have c25 := call25 (N := N) (hk := hk) (d := d) (c := c) b2.bts 10 (by rw [hl]; omega) hh
  have h10 : (((10 : UInt8).toNat : Nat) : Int) = 10 := rfl
  rw [hl] at c24 c25
  rw [h10] at c25
  have hs := slice_row b1 hle hc hn
  have hg : ((H.alloc 1 [.int .i64 0, .int .i64 0, .int .i64 0]).alloc 1 [.int .u8 10]).get H.next = some (pl 0 0 0) := by
    rw [Heap.get_alloc, if_neg (by show ¬ H.next = H.next + 1; omega), Heap.get_alloc, if_pos rfl]; rfl
  have hl3 := load30 (H := (((H.alloc 1 [.int .i64 0, .int .i64 0, .int .i64 0]).alloc 1 [.int .u8 10]).set H.next (pl (q : Int) (IntKind.i64.wrap (1 + cntB (s.take q) 10)) (IntKind.i64.wrap ((q : Int) - lastB (s.take q) 10 q))))) (b := H.next) (by rw [Heap.get_set, if_pos rfl])
  have hnx : (H.alloc 1 [Value.int .i64 0, .int .i64 0, .int .i64 0]).next = H.next + 1 := rfl
  generalize hF : finE PP Tryz.f10 = F
  simp only [bodyOf, Tryz.f10, Option.getD_some]
  simp (decide := true) only [↓execE_seq, ↓execE_region, ↓execE_ret, thenE_norm, execOpsE_cons, execOpsE_nil, guardE_none, opE_move, opE_assign, opE_binOp, evalE_tmp, evalE_const, upd_some, bindO_ok, bindV_ok, reduceIte, cond_false, opE_alloc, opE_slice, opE_buildSlice, opE_build, opE_store, opE_callf, opE_builtin, alloc30, Option.map_some, Option.map_none, max_int, min_int, len_slice (ts := #[34]) rfl und34, map_one, map_two, parts_three, startE_0, startE_1, hmm, hs, bslice, hnx]
  simp (decide := true) only [bindO_ok, bindV_ok, groundK_int, callK_fn Tryz.func24 rfl rfl c24, callK_fn Tryz.func25 rfl rfl c25, binA_add, binA_sub, build30, store30 hg]
  have fin : ∀ E : Env, E 4 = .pointer (some ⟨H.next, 0, none⟩) → resE PP E (((H.alloc 1 [.int .i64 0, .int .i64 0, .int .i64 0]).alloc 1 [.int .u8 10]).set H.next (pl (q : Int) (IntKind.i64.wrap (1 + cntB (s.take q) 10)) (IntKind.i64.wrap ((q : Int) - lastB (s.take q) 10 q)))) Tryz.f10.results.toList = some [.agg #[.int .i64 q, .int .i64 (IntKind.i64.wrap (1 + cntB (s.take q) 10)), .int .i64 (IntKind.i64.wrap ((q : Int) - lastB (s.take q) 10 q))]] := fun E h => by
    have hr : Tryz.f10.results.toList = [.cell 4 30] := rfl
    rw [hr]
    unfold resE
    rw [h, hl3]
    unfold resE
    rfl
  rw [← hF]
  refine finE_ret (fin _ ?_)
  simp (decide := true) only [upd_none, upd_some, reduceIte]
end Go.Am
