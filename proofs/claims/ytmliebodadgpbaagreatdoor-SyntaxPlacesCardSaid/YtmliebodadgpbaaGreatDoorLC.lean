/- What the small functions around places answer. -/
import Derived.Test.YtmliebodadgpbaaGreatDoorLA
open Go.Proofs
namespace Go.Am
def okf (f : FuncId) : Bool := f == 10 || f == 11 || f == 24 || f == 25 || f == 46
noncomputable abbrev CE (N : Nat) (hk : Hook) (d : Nat) : Kf := callE PP okf XX N hk d

theorem call46 {N : Nat} {hk : Hook} {d : Nat} {H : Heap} {a : Option Addr} {c : Nat} {s : List UInt8} (hb : Bts H a s) (z : UInt8) (hN : s.length < N) (hh : ∀ args H, hk 46 args H = none) :
    CE N hk (d + 1) 46 #[.slice a s.length c, .int .u8 (z.toNat : Int)] H = some (.ret (.int .i64 (lastB s z s.length)), H) := by
  refine (callE_fn (hh _ _) Tryz.func46 (c := bodyOf Tryz.f46) rfl rfl rfl).trans ?_
  have hw : IntKind.i64.wrap ((s.length : Int) - 1) = (s.length : Int) - 1 := wrap_i64 (by omega) (by have := hb.small; omega)
  generalize hF : finE PP Tryz.f46 = F
  simp only [bodyOf, Tryz.f46, Option.getD_some]
  simp (decide := true) only [↓execE_seq, ↓execE_region, ↓execE_block, thenE_norm, execOpsE_cons, execOpsE_nil, guardE_none, opE_move, opE_assign, opE_binOp, evalE_tmp, evalE_const, upd_some, bindO_ok, groundK_int, reduceIte, cond_false, ↓execE_loop, opE_builtin, map_one, startE_0, len_slice (ts := #[34]) rfl und34, binA_sub, hw]
  refine loop46_then (c := c) hb z hN ?_ ?_ ?_ (fun e E' => ?_) (fun E' e => ?_)
  · simp (decide := true) only [upd_some, reduceIte, startE_0]
  · simp (decide := true) only [upd_some, reduceIte, startE_1]
  · simp (decide := true) only [upd_some, reduceIte]
  · simp (decide := true) only [↓execE_seq, ↓execE_region, ↓execE_ret, thenE_norm, thenE_exit, leaveB_exit, execOpsE_cons, execOpsE_nil, guardE_none, opE_assign, evalE_const, cond_false]
    rw [← hF, finE_ret (l := [.int .i64 (-1)]) (by simp (decide := true) [Tryz.f46, resE, upd_some]), e]
    rfl
  · simp (decide := true) only [thenE_ret, leaveB_ret]
    rw [← hF, finE_ret (l := [.int .i64 (lastB s z s.length)]) (by simp [Tryz.f46, resE, e])]
    rfl
theorem call25 {N : Nat} {hk : Hook} {d : Nat} {H : Heap} {a : Option Addr} {c : Nat} {s : List UInt8} (hb : Bts H a s) (z : UInt8) (hN : s.length < N) (hh : ∀ f args H, f ≠ 9 → hk f args H = none) :
    CE N hk (d + 2) 25 #[.slice a s.length c, .int .u8 (z.toNat : Int)] H = some (.ret (.int .i64 (lastB s z s.length)), H) := by
  refine (callE_fn (hh _ _ _ (by decide)) Tryz.func25 (c := bodyOf Tryz.f25) rfl rfl rfl).trans ?_
  have h46 := call46 (hk := hk) (d := d) (c := c) hb z hN (fun _ _ => hh _ _ _ (by decide))
  generalize hF : finE PP Tryz.f25 = F
  simp only [bodyOf, Tryz.f25, Option.getD_some]
  simp (decide := true) only [↓execE_seq, ↓execE_region, ↓execE_ret, thenE_norm, execOpsE_cons, execOpsE_nil, guardE_none, opE_move, opE_assign, evalE_tmp, evalE_const, upd_some, reduceIte, cond_false, opE_callf, map_two, startE_0, startE_1, callK_fn Tryz.func46 rfl rfl h46]
  rw [← hF, finE_ret (l := [.int .i64 (lastB s z s.length)]) (by simp (decide := true) [Tryz.f25, resE, upd_some])]
  rfl

theorem fold_loop {β : Type} (f : β → UInt8 → β) (l : List UInt8) (h : l.length ≤ (ByteArray.mk l.toArray).size) : ∀ (i j : Nat) (b : β), i + j = l.length →
    ByteArray.foldlM.loop (m := _root_.Id) f ⟨l.toArray⟩ l.length h i j b = (l.drop j).foldl f b
  | 0, j, b, e => by
    unfold ByteArray.foldlM.loop
    have : ¬ j < l.length := by omega
    rw [dif_neg this, List.drop_of_length_le (by omega)]
    rfl
  | i + 1, j, b, e => by
    unfold ByteArray.foldlM.loop
    have hj : j < l.length := by omega
    rw [dif_pos hj]
    have := fold_loop f l h i (j + 1) (f b l[j]) (by omega)
    rw [List.drop_eq_getElem_cons hj, List.foldl_cons, ← this]
    rfl
theorem fold_bytes {β : Type} (f : β → UInt8 → β) (l : List UInt8) (b : β) : (ByteArray.mk l.toArray).foldl f b = l.foldl f b := by
  have hs : (ByteArray.mk l.toArray).size = l.length := rfl
  show ByteArray.foldlM (m := _root_.Id) f b ⟨l.toArray⟩ 0 (ByteArray.mk l.toArray).size = _
  unfold ByteArray.foldlM
  rw [dif_pos (Nat.le_refl _)]
  exact fold_loop f l (Nat.le_refl _) l.length 0 b (by omega)

def cntB (s : List UInt8) (z : UInt8) : Int := s.foldl (fun n x => if x == z then n + 1 else n) 0
theorem count_run {H : Heap} {a : Option Addr} {c : Nat} {s : List UInt8} (hb : Bts H a s) (z : UInt8) : XX 44 #[.slice a s.length c, .int .u8 (z.toNat : Int)] H = some (.int .i64 (cntB s z), H) := by
  have e : countV ⟨s.toArray⟩ (z.toNat : Int) = .int .i64 (cntB s z) := by
    unfold countV cntB
    rw [fold_bytes]
    simp [goInt]
  simp only [XX, byteX, hb.str]
  simp [e]
theorem call24 {N : Nat} {hk : Hook} {d : Nat} {H : Heap} {a : Option Addr} {c : Nat} {s : List UInt8} (hb : Bts H a s) (z : UInt8) {b : Addr} {c2 : Nat} (hz : Bts H (some b) [z]) (hh : ∀ f args H, f ≠ 9 → hk f args H = none) :
    CE N hk (d + 1) 24 #[.slice a s.length c, .slice (some b) 1 c2] H = some (.ret (.int .i64 (cntB s z)), H) := by
  refine (callE_fn (hh _ _ _ (by decide)) Tryz.func24 (c := bodyOf Tryz.f24) rfl rfl rfl).trans ?_
  obtain ⟨b', hb', hl⟩ := hz.cell 0 (by simp)
  obtain rfl := Option.some.inj hb'
  have hx := count_run (c := c) hb z
  have hi : indexAddrA PP 34 (.slice (some b) 1 c2) (.int .i64 0) = some (.pointer (some (b.add 0))) := index_row (n := 1) (j := 0) (by omega)
  have e0 : ((((1 : Nat) : Int)) == 0) = false := by decide
  have e1 : ((((1 : Nat) : Int)) == 1) = true := by decide
  generalize hF : finE PP Tryz.f24 = F
  simp only [bodyOf, Tryz.f24, Option.getD_some]
  simp (decide := true) only [↓execE_seq, ↓execE_region, ↓execE_block, ↓execE_ret, ↓execE_skip, ↓execE_cond, thenE_norm, thenE_ret, execOpsE_cons, execOpsE_nil, guardE_none, opE_move, opE_assign, opE_binOp, opE_indexAddr, opE_load, evalE_tmp, evalE_const, upd_some, bindO_ok, bindV_ok, groundK_bool, condE_bool, reduceIte, cond_true, cond_false, opE_callf, opE_builtin, len_slice (ts := #[34]) rfl und34, map_one, map_two, startE_0, startE_1, binA_eql, e0, e1, hi, load_byte hl, List.getElem_cons_zero, callK_ext Tryz.func44 rfl rfl hx]
  rw [← hF, finE_ret (l := [.int .i64 (cntB s z)]) (by simp (decide := true) [Tryz.f24, resE, upd_some])]
  rfl
end Go.Am
