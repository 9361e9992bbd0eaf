/- The reference: numbers and texts as they are spelled; rows that are the same. -/
import Derived.Test.YtohmeeglehopiaaDoorU2
import Derived.Test.YtohmeeglehopiaaDoorW1
import Derived.Test.YtohmeeglehopiaaDoorD1
import Derived.Test.YtohmeeglehopiaaDoorP1
import Derived.Lib.SplitLaws
import Derived.Lib.ParseIntBCases
open Go.Proofs
namespace Go.Am
theorem code18 : codeOf Tryd.f18 = .seq (.region 0 (rgn Tryd.f18 0) false) (.seq (.seq (.region 1 (rgn Tryd.f18 1) false) (.cond (.tmp 10) (.seq (.region 2 (rgn Tryd.f18 2) false) (.ret)) (.skip))) (.seq (.seq (.region 3 (rgn Tryd.f18 3) false) (.block 0 (.loop (.seq (.seq (.region 4 (rgn Tryd.f18 4) false) (.cond (.tmp 14) (.skip) (.exit 0))) (.seq (.block 1 (.seq (.region 6 (rgn Tryd.f18 6) true) (.cond (.tmp 25) (.seq (.region 7 (rgn Tryd.f18 7) false) (.ret)) (.skip)))) (.region 5 (rgn Tryd.f18 5) false)))))) (.seq (.region 8 (rgn Tryd.f18 8) false) (.ret)))) := by kernel_rfl

section
variable {K : Kf} {N : Nat} {Q : R → Prop} {k : KOE} {H : Heap}
theorem sb_then {a b : Option Addr} {s : List UInt8} {c c' : Nat} (ha : Brow H a s) (hb : Brow H b s) (hs : s.length ≤ 140737488355328) : ∀ (n i m : Nat) (_ : i + n = s.length) (_ : n < m) {E : Env} (_ : E 0 = .slice a s.length c) (_ : E 1 = .slice b s.length c') (_ : E 5 = .int .i64 (i : Int))
    (_ : ∀ E', Q (k (.exit 0) E' [] H)), Q (loopE (execG PP XX K N noPr (.seq (.seq (.region 4 (rgn Tryd.f18 4) false) (.cond (.tmp 14) (.skip) (.exit 0))) (.seq (.block 1 (.seq (.region 6 (rgn Tryd.f18 6) true) (.cond (.tmp 25) (.seq (.region 7 (rgn Tryd.f18 7) false) (.ret)) (.skip)))) (.region 5 (rgn Tryd.f18 5) false))) none) m E [] H k)
  | 0, i, m + 1, hn, hm, E, e0, e1, e5, hx => by
    rw [loopE_succ]
    have hlt : decide ((i : Int) < (s.length : Int)) = false := decide_eq_false (by omega)
    have l4 := tl (rgn Tryd.f18 4)
    conv at l4 => rhs; simp only [rgn, opsAt, codeOf, Tryd.f18, gS, gN, reduceIte, Nat.reduceEqDiff, tA]
    simp (decide := true) only [↓execG_seq, ↓g_region, ↓execG_exit, ↓g_else, thenE_norm, thenE_exit, ↓r_nil, ↓r_cons, ↓o_move, ↓o_binOp, ↓o_builtin, nextE_app, putK_app, putG_bool, normK_app, evalE_tmp, upd_some, bindO_ok, reduceIte, map_one, ↓reg_lit l4, e0, e5, len_slice (ts := #[26]) rfl und34, binA_lss, hlt]
    exact hx _
  | n + 1, i, m + 1, hn, hm, E, e0, e1, e5, hx => by
    rw [loopE_succ]
    have hi : i < s.length := by omega
    have hlt : decide ((i : Int) < (s.length : Int)) = true := decide_eq_true (by omega)
    have w : IntKind.i64.wrap ((i : Int) + 1) = ((i + 1 : Nat) : Int) := by rw [wrap_i64 (by omega) (by omega)]; omega
    obtain ⟨y, rfl, hl⟩ := ha.bts.cell i hi
    obtain ⟨z, rfl, hl2⟩ := hb.bts.cell i hi
    have hix := index_row (n := s.length) (c := c) (a := y) hi
    have hix2 := index_row (n := s.length) (c := c') (a := z) hi
    have hne : ((s[i].toNat : Int) != (s[i].toNat : Int)) = false := by simp
    have l4 := tl (rgn Tryd.f18 4)
    conv at l4 => rhs; simp only [rgn, opsAt, codeOf, Tryd.f18, gS, gN, reduceIte, Nat.reduceEqDiff, tA]
    have l5 := tl (rgn Tryd.f18 5)
    conv at l5 => rhs; simp only [rgn, opsAt, codeOf, Tryd.f18, gS, gN, reduceIte, Nat.reduceEqDiff, tA]
    have l6 := tl (rgn Tryd.f18 6)
    conv at l6 => rhs; simp only [rgn, opsAt, codeOf, Tryd.f18, gS, gN, reduceIte, Nat.reduceEqDiff, tA]
    simp (decide := true) only [↓execG_seq, ↓g_region, ↓execG_block, ↓execG_skip, ↓g_if, ↓g_else, thenE_norm, leaveB_norm, ↓r_nil, ↓r_cons, ↓o_move, ↓o_assign, ↓o_load, ↓o_binOp, ↓o_indexAddr, ↓o_builtin, nextE_app, putK_app, putO_app, putG_bool, putG_int, normK_app, evalE_tmp, evalE_const, upd_some, bindO_ok, bindV_ok, reduceIte, map_one, ↓reg_lit l4, ↓reg_lit l5, ↓reg_lit l6, e0, e1, e5, len_slice (ts := #[26]) rfl und34, binA_lss, hlt, hix, load_byte hl, hix2, load_byte hl2, binA_neq, hne, binA_add, w]
    exact sb_then (c := c) (c' := c') ha hb hs n (i + 1) m (by omega) (by omega) (by simp (decide := true) only [upd_some, reduceIte, e0]) (by simp (decide := true) only [upd_some, reduceIte, e1]) (by simp (decide := true) only [upd_some, reduceIte]) hx
end
theorem call_sameb {N : Nat} {hk : Hook} {d : Nat} {H : Heap} {a b : Option Addr} {s : List UInt8} {c c' : Nat} (hh : ∀ f args H, okC f = true → hk f args H = none) (ha : Brow H a s) (hb : Brow H b s) (hs : s.length ≤ 140737488355328) (hN : s.length < N) :
    CG N hk (d + 1) 18 #[.slice a s.length c, .slice b s.length c'] H = some (.ret (.bool true), H) := by
  have main : ∃ R0 : R, CG N hk (d + 1) 18 #[.slice a s.length c, .slice b s.length c'] H = R0 ∧ R0 = some (.ret (.bool true), H) := by
    refine ⟨_, callG_fn (hh _ _ _ rfl) Tryd.func18 (c := codeOf Tryd.f18) rfl rfl rfl (pr := noPr) rfl, ?_⟩
    rw [code18]
    generalize hF : finE PP Tryd.f18 = F
    have hne : ((s.length : Int) != (s.length : Int)) = false := by simp
    have l0 := tl (rgn Tryd.f18 0)
    conv at l0 => rhs; simp only [rgn, opsAt, codeOf, Tryd.f18, gS, gN, reduceIte, Nat.reduceEqDiff, tA]
    have l1 := tl (rgn Tryd.f18 1)
    conv at l1 => rhs; simp only [rgn, opsAt, codeOf, Tryd.f18, gS, gN, reduceIte, Nat.reduceEqDiff, tA]
    have l3 := tl (rgn Tryd.f18 3)
    conv at l3 => rhs; simp only [rgn, opsAt, codeOf, Tryd.f18, gS, gN, reduceIte, Nat.reduceEqDiff, tA]
    have l8 := tl (rgn Tryd.f18 8)
    conv at l8 => rhs; simp only [rgn, opsAt, codeOf, Tryd.f18, gS, gN, reduceIte, Nat.reduceEqDiff, tA]
    simp (decide := true) only [↓execG_seq, ↓g_region, ↓execG_block, ↓execG_skip, ↓g_else, thenE_norm, ↓r_nil, ↓r_cons, ↓o_move, ↓o_assign, ↓o_binOp, ↓o_builtin, nextE_app, putK_app, putG_bool, normK_app, evalE_tmp, evalE_const, upd_some, bindO_ok, reduceIte, map_one, startE_0, startE_1, ↓reg_lit l0, ↓reg_lit l1, ↓reg_lit l3, ↓execG_loop, len_slice (ts := #[26]) rfl und34, binA_neq, hne]
    refine sb_then (Q := fun r => r = some (.ret (.bool true), H)) ha hb hs s.length 0 N (by omega) hN (c := c) (c' := c') ?_ ?_ ?_ fun E' => ?_
    · simp (decide := true) only [upd_some, reduceIte, startE_0]
    · simp (decide := true) only [upd_some, reduceIte, startE_1]
    · simp (decide := true) only [upd_some, reduceIte]; rfl
    · simp (decide := true) only [↓execG_seq, ↓g_region, ↓execG_ret, thenE_norm, g_leave, ↓r_nil, ↓r_cons, ↓o_assign, nextE_app, normK_app, evalE_const, ↓reg_lit l8]
      rw [← hF, finE_ret (l := [.bool true]) (by simp (decide := true) [Tryd.f18, resE, upd_some])]
      rfl
  obtain ⟨R0, m1, m2⟩ := main
  exact m1.trans m2
theorem parts_four (E : Env) (i j l m : Nat) (x y z u : Operand) : (#[(i, x), (j, y), (l, z), (m, u)] : Array (Nat × Operand)).map (fun (i, x) => (i, evalE E x)) = #[(i, evalE E x), (j, evalE E y), (l, evalE E z), (m, evalE E u)] := by simp
theorem bslice4 (H : Heap) (x y z u : Int) : buildSliceA PP 26 4 #[(0, .int .u8 x), (1, .int .u8 y), (2, .int .u8 z), (3, .int .u8 u)] H = some (.slice (some ⟨H.next, 0, none⟩) 4 4, H.alloc 1 [.int .u8 x, .int .u8 y, .int .u8 z, .int .u8 u]) := by
  have hf : Instr.fill (fun i => some (i * 1, 1)) (zeroRow [.int .u8 0] (4 * 1)).toArray [(0, .int .u8 x), (1, .int .u8 y), (2, .int .u8 z), (3, .int .u8 u)] = some #[.int .u8 x, .int .u8 y, .int .u8 z, .int .u8 u] := by rfl
  simp only [buildSliceA, und34, size5, zeroB, mkRow, hf]
  simp
theorem quo8 {u : Nat} (hu : u < 256) : binA PP .quo 5 (.tmp 53) (.const (.int .u8 16)) (.int .u8 (u : Int)) (.int .u8 16) = some (.int .u8 ((u / 16 : Nat) : Int)) := by
  have hall : (List.range 256).all (fun u => isB (binA PP .quo 5 (.tmp 53) (.const (.int .u8 16)) (.int .u8 (u : Int)) (.int .u8 16)) (u / 16)) = true := by decide +kernel
  exact isB_eq (List.all_eq_true.mp hall u (List.mem_range.mpr hu))
theorem rem8 {u : Nat} (hu : u < 256) : binA PP .rem 5 (.tmp 57) (.const (.int .u8 16)) (.int .u8 (u : Int)) (.int .u8 16) = some (.int .u8 ((u % 16 : Nat) : Int)) := by
  have hall : (List.range 256).all (fun u => isB (binA PP .rem 5 (.tmp 57) (.const (.int .u8 16)) (.int .u8 (u : Int)) (.int .u8 16)) (u % 16)) = true := by decide +kernel
  exact isB_eq (List.all_eq_true.mp hall u (List.mem_range.mpr hu))
def hexS : Value := .string ⟨#[48, 49, 50, 51, 52, 53, 54, 55, 56, 57, 97, 98, 99, 100, 101, 102]⟩
theorem dig16 {u : Nat} (hu : u < 16) : indexA PP 9 hexS (.int .u8 (u : Int)) = some (.int .u8 ((hexD u).toNat : Int)) := by
  have hall : (List.range 16).all (fun u => isB (indexA PP 9 hexS (.int .u8 (u : Int))) (hexD u).toNat) = true := by decide +kernel
  exact isB_eq (List.all_eq_true.mp hall u (List.mem_range.mpr hu))
theorem code22 : codeOf Tryd.f22 = .seq (.region 0 (rgn Tryd.f22 0) false) (.seq (.region 1 (rgn Tryd.f22 1) false) (.seq (.region 2 (rgn Tryd.f22 2) false) (.seq (.seq (.region 3 (rgn Tryd.f22 3) false) (.block 0 (.loop (.seq (.seq (.region 4 (rgn Tryd.f22 4) false) (.cond (.tmp 11) (.skip) (.exit 0))) (.seq (.block 1 (.seq (.region 6 (rgn Tryd.f22 6) false) (.block 2 (.seq (.region 8 (rgn Tryd.f22 8) false) (.cond (.tmp 21) (.region 9 (rgn Tryd.f22 9) false) (.seq (.region 10 (rgn Tryd.f22 10) false) (.cond (.tmp 27) (.region 11 (rgn Tryd.f22 11) false) (.seq (.region 12 (rgn Tryd.f22 12) false) (.cond (.tmp 33) (.region 13 (rgn Tryd.f22 13) false) (.seq (.region 14 (rgn Tryd.f22 14) false) (.cond (.tmp 44) (.region 15 (rgn Tryd.f22 15) true) (.region 7 (rgn Tryd.f22 7) false)))))))))))) (.region 5 (rgn Tryd.f22 5) false)))))) (.seq (.region 16 (rgn Tryd.f22 16) false) (.ret))))) := by kernel_rfl
theorem gd22_12_2 : ((rgn Tryd.f22 12)[2]?).bind (·.dst) = some 36 := by kernel_rfl
theorem gd22_14_2 : ((rgn Tryd.f22 14)[2]?).bind (·.dst) = some 47 := by kernel_rfl

section
variable {K : Kf} {N : Nat} {t : List UInt8} {G0 : Heap} {Q : R → Prop} {k : KOE}
set_option maxRecDepth 100000 in
set_option maxHeartbeats 4000000 in
theorem rq_then (hG0 : Fresh G0) (hsm : t.length ≤ 20000000) :
    ∀ (n i m : Nat) (_ : i + n = t.length) (_ : n < m) {E : Env} {H : Heap} {va : Value} (_ : E 0 = .string ⟨⟨t⟩⟩) (_ : E 3 = hexS) (_ : E 4 = va) (_ : E 5 = .int .i64 (i : Int)) (_ : Ext G0 H ∧ BRow H va (34 :: bodyB (t.take i)) G0.next)
      (_ : ∀ E' H' va', E' 4 = va' → Ext G0 H' → BRow H' va' (34 :: bodyB t) G0.next → Q (k (.exit 0) E' [] H')), Q (loopE (execG PP XX K N noPr (.seq (.seq (.region 4 (rgn Tryd.f22 4) false) (.cond (.tmp 11) (.skip) (.exit 0))) (.seq (.block 1 (.seq (.region 6 (rgn Tryd.f22 6) false) (.block 2 (.seq (.region 8 (rgn Tryd.f22 8) false) (.cond (.tmp 21) (.region 9 (rgn Tryd.f22 9) false) (.seq (.region 10 (rgn Tryd.f22 10) false) (.cond (.tmp 27) (.region 11 (rgn Tryd.f22 11) false) (.seq (.region 12 (rgn Tryd.f22 12) false) (.cond (.tmp 33) (.region 13 (rgn Tryd.f22 13) false) (.seq (.region 14 (rgn Tryd.f22 14) false) (.cond (.tmp 44) (.region 15 (rgn Tryd.f22 15) true) (.region 7 (rgn Tryd.f22 7) false)))))))))))) (.region 5 (rgn Tryd.f22 5) false))) none) m E [] H k)
  | 0, i, m + 1, hn, hm, E, H, va, e0, e3, e4, e5, hB, hx => by
    rw [loopE_succ]
    have hi : i = t.length := by omega
    subst hi
    have hlt : decide ((t.length : Int) < (t.length : Int)) = false := decide_eq_false (by omega)
    rw [List.take_length] at hB
    have l4 := tl (rgn Tryd.f22 4)
    conv at l4 => rhs; simp only [rgn, opsAt, codeOf, Tryd.f22, gS, gN, reduceIte, Nat.reduceEqDiff, tA]
    simp (decide := true) only [↓execG_seq, ↓g_region, ↓execG_exit, ↓g_else, thenE_norm, thenE_exit, ↓r_nil, ↓r_cons, ↓o_move, ↓o_binOp, ↓o_builtin, nextE_app, putK_app, putG_bool, normK_app, evalE_tmp, upd_some, bindO_ok, reduceIte, map_one, ↓reg_lit l4, e0, e5, len_str, binA_lss, hlt]
    exact hx _ _ va (by simp (decide := true) only [upd_some, reduceIte, e4]) hB.1 hB.2
  | n + 1, i, m + 1, hn, hm, E, H, va, e0, e3, e4, e5, hB, hx => by
    rw [loopE_succ]
    have hi : i < t.length := by omega
    have hlt : decide ((i : Int) < (t.length : Int)) = true := decide_eq_true (by omega)
    have w : IntKind.i64.wrap ((i : Int) + 1) = ((i + 1 : Nat) : Int) := by rw [wrap_i64 (by omega) (by omega)]; omega
    have hix := idx_str hi
    have hbt := body_take t hi
    have hbl := (body_len (t.take i)).2
    have htl : (t.take i).length ≤ 20000000 := by rw [List.length_take]; omega
    obtain ⟨hE, hB⟩ := hB
    generalize hc : t[i] = c at hix hbt
    have hel := (esc_len c).2
    obtain ⟨v1, H1, a1, x1, r1⟩ := app_new hG0 hE hB (escB c) (by rw [List.length_cons]; omega)
    rw [← hbt] at r1
    have l4 := tl (rgn Tryd.f22 4)
    conv at l4 => rhs; simp only [rgn, opsAt, codeOf, Tryd.f22, gS, gN, reduceIte, Nat.reduceEqDiff, tA]
    have l5 := tl (rgn Tryd.f22 5)
    conv at l5 => rhs; simp only [rgn, opsAt, codeOf, Tryd.f22, gS, gN, reduceIte, Nat.reduceEqDiff, tA]
    have l6 := tl (rgn Tryd.f22 6)
    conv at l6 => rhs; simp only [rgn, opsAt, codeOf, Tryd.f22, gS, gN, reduceIte, Nat.reduceEqDiff, tA]
    have l7 := tl (rgn Tryd.f22 7)
    conv at l7 => rhs; simp only [rgn, opsAt, codeOf, Tryd.f22, gS, gN, reduceIte, Nat.reduceEqDiff, tA]
    have l8 := tl (rgn Tryd.f22 8)
    conv at l8 => rhs; simp only [rgn, opsAt, codeOf, Tryd.f22, gS, gN, reduceIte, Nat.reduceEqDiff, tA]
    have l9 := tl (rgn Tryd.f22 9)
    conv at l9 => rhs; simp only [rgn, opsAt, codeOf, Tryd.f22, gS, gN, reduceIte, Nat.reduceEqDiff, tA]
    have l10 := tl (rgn Tryd.f22 10)
    conv at l10 => rhs; simp only [rgn, opsAt, codeOf, Tryd.f22, gS, gN, reduceIte, Nat.reduceEqDiff, tA]
    have l11 := tl (rgn Tryd.f22 11)
    conv at l11 => rhs; simp only [rgn, opsAt, codeOf, Tryd.f22, gS, gN, reduceIte, Nat.reduceEqDiff, tA]
    have l12 := tl (rgn Tryd.f22 12)
    conv at l12 => rhs; simp only [rgn, opsAt, codeOf, Tryd.f22, gS, gN, reduceIte, Nat.reduceEqDiff, tA]
    have l13 := tl (rgn Tryd.f22 13)
    conv at l13 => rhs; simp only [rgn, opsAt, codeOf, Tryd.f22, gS, gN, reduceIte, Nat.reduceEqDiff, tA]
    have l14 := tl (rgn Tryd.f22 14)
    conv at l14 => rhs; simp only [rgn, opsAt, codeOf, Tryd.f22, gS, gN, reduceIte, Nat.reduceEqDiff, tA]
    have l15 := tl (rgn Tryd.f22 15)
    conv at l15 => rhs; simp only [rgn, opsAt, codeOf, Tryd.f22, gS, gN, reduceIte, Nat.reduceEqDiff, tA]
    by_cases c10 : c = 10
    · have z10 : ((c.toNat : Int) == 10) = true := by rw [c10]; rfl
      have he : escB c = [92, 110] := by rw [c10]; rfl
      rw [he] at a1
      have a1 : appendA PP #[26, 26] va (.slice (some ⟨H.next, 0, none⟩) 2 2) (H.alloc 1 [.int .u8 92, .int .u8 110]) = some (v1, H1) := a1
      simp (decide := true) only [↓execG_seq, ↓g_region, ↓execG_block, ↓execG_skip, ↓g_if, thenE_norm, leaveB_norm, ↓r_nil, ↓r_cons, ↓o_move, ↓o_assign, ↓o_buildSlice, ↓o_binOp, ↓o_index, ↓o_builtin, nextE_app, putK_app, putO_app, putG_bool, putG_int, normK_app, evalE_tmp, evalE_const, upd_some, bindO_ok, bindV_ok, reduceIte, map_one, map_two, ↓reg_lit l4, ↓reg_lit l6, ↓reg_lit l8, ↓reg_lit l9, ↓reg_lit l5, e0, e4, e5, len_str, binA_lss, binA_eql, hlt, hix, app_builtin2, binA_add, w, z10, bslice2, a1]
      exact rq_then hG0 hsm n (i + 1) m (by omega) (by omega) (by simp (decide := true) only [upd_some, reduceIte, e0]) (by simp (decide := true) only [upd_some, reduceIte, e3]) (by simp (decide := true) only [upd_some, reduceIte, e4]) (by simp (decide := true) only [upd_some, reduceIte, e5]) ⟨x1, r1⟩ hx
    have z10 : ((c.toNat : Int) == 10) = false := (toNat_eq c 10).trans (decide_eq_false c10)
    by_cases c9 : c = 9
    · have z9 : ((c.toNat : Int) == 9) = true := by rw [c9]; rfl
      have he : escB c = [92, 116] := by rw [c9]; rfl
      rw [he] at a1
      have a1 : appendA PP #[26, 26] va (.slice (some ⟨H.next, 0, none⟩) 2 2) (H.alloc 1 [.int .u8 92, .int .u8 116]) = some (v1, H1) := a1
      simp (decide := true) only [↓execG_seq, ↓g_region, ↓execG_block, ↓execG_skip, ↓g_if, ↓g_else, thenE_norm, leaveB_norm, ↓r_nil, ↓r_cons, ↓o_move, ↓o_assign, ↓o_buildSlice, ↓o_binOp, ↓o_index, ↓o_builtin, nextE_app, putK_app, putO_app, putG_bool, putG_int, normK_app, evalE_tmp, evalE_const, upd_some, bindO_ok, bindV_ok, reduceIte, map_one, map_two, ↓reg_lit l4, ↓reg_lit l6, ↓reg_lit l8, ↓reg_lit l10, ↓reg_lit l11, ↓reg_lit l5, e0, e4, e5, len_str, binA_lss, binA_eql, hlt, hix, app_builtin2, binA_add, w, z10, z9, bslice2, a1]
      exact rq_then hG0 hsm n (i + 1) m (by omega) (by omega) (by simp (decide := true) only [upd_some, reduceIte, e0]) (by simp (decide := true) only [upd_some, reduceIte, e3]) (by simp (decide := true) only [upd_some, reduceIte, e4]) (by simp (decide := true) only [upd_some, reduceIte, e5]) ⟨x1, r1⟩ hx
    have z9 : ((c.toNat : Int) == 9) = false := (toNat_eq c 9).trans (decide_eq_false c9)
    by_cases c34 : c = 34
    · have z34 : ((c.toNat : Int) == 34) = true := by rw [c34]; rfl
      have he : escB c = [92, c] := by rw [c34]; rfl
      rw [he] at a1
      have a1 : appendA PP #[26, 26] va (.slice (some ⟨H.next, 0, none⟩) 2 2) (H.alloc 1 [.int .u8 92, .int .u8 (c.toNat : Int)]) = some (v1, H1) := a1
      simp (decide := true) only [↓execG_seq, ↓g_region, ↓execG_block, ↓execG_skip, ↓g_if, ↓g_else, thenE_norm, leaveB_norm, ↓r_nil, ↓r_cons, ↓o_move, ↓o_assign, ↓o_pickt, ↓o_buildSlice, ↓o_binOp, ↓o_index, ↓o_builtin, nextE_app, putK_app, putO_app, putG_bool, putG_int, normK_app, evalE_tmp, evalE_const, upd_some, bindO_ok, bindV_ok, reduceIte, map_one, map_two, Bool.not_false, ↓reg_lit l4, ↓reg_lit l6, ↓reg_lit l8, ↓reg_lit l10, ↓reg_lit l12, ↓reg_lit l13, ↓reg_lit l5, ↓r_no _ 2 false 36 _ gd22_12_2, e0, e4, e5, len_str, binA_lss, binA_eql, hlt, hix, app_builtin2, binA_add, w, z10, z9, z34, bslice2, a1]
      exact rq_then hG0 hsm n (i + 1) m (by omega) (by omega) (by simp (decide := true) only [upd_some, reduceIte, e0]) (by simp (decide := true) only [upd_some, reduceIte, e3]) (by simp (decide := true) only [upd_some, reduceIte, e4]) (by simp (decide := true) only [upd_some, reduceIte, e5]) ⟨x1, r1⟩ hx
    have z34 : ((c.toNat : Int) == 34) = false := (toNat_eq c 34).trans (decide_eq_false c34)
    by_cases c92 : c = 92
    · have z92 : ((c.toNat : Int) == 92) = true := by rw [c92]; rfl
      have he : escB c = [92, c] := by rw [c92]; rfl
      rw [he] at a1
      have a1 : appendA PP #[26, 26] va (.slice (some ⟨H.next, 0, none⟩) 2 2) (H.alloc 1 [.int .u8 92, .int .u8 (c.toNat : Int)]) = some (v1, H1) := a1
      simp (decide := true) only [↓execG_seq, ↓g_region, ↓execG_block, ↓execG_skip, ↓g_if, ↓g_else, thenE_norm, leaveB_norm, ↓r_nil, ↓r_cons, ↓o_move, ↓o_assign, ↓o_pickf, ↓o_buildSlice, ↓o_binOp, ↓o_index, ↓o_builtin, nextE_app, putK_app, putO_app, putG_bool, putG_int, normK_app, evalE_tmp, evalE_const, upd_some, bindO_ok, bindV_ok, reduceIte, map_one, map_two, ↓reg_lit l4, ↓reg_lit l6, ↓reg_lit l8, ↓reg_lit l10, ↓reg_lit l12, ↓reg_lit l13, ↓reg_lit l5, ↓r_yes _ 2 false 36 _ gd22_12_2, e0, e4, e5, len_str, binA_lss, binA_eql, hlt, hix, app_builtin2, binA_add, w, z10, z9, z34, z92, bslice2, a1]
      exact rq_then hG0 hsm n (i + 1) m (by omega) (by omega) (by simp (decide := true) only [upd_some, reduceIte, e0]) (by simp (decide := true) only [upd_some, reduceIte, e3]) (by simp (decide := true) only [upd_some, reduceIte, e4]) (by simp (decide := true) only [upd_some, reduceIte, e5]) ⟨x1, r1⟩ hx
    have z92 : ((c.toNat : Int) == 92) = false := (toNat_eq c 92).trans (decide_eq_false c92)
    by_cases cc : c.toNat < 32 ∨ 126 < c.toNat
    · have he : escB c = [92, 120, hexD (c.toNat / 16), hexD (c.toNat % 16)] := by unfold escB; rw [if_neg c10, if_neg c9, if_pos cc]
      rw [he] at a1
      have hu := c.toNat_lt
      have a1 : appendA PP #[26, 26] va (.slice (some ⟨H.next, 0, none⟩) 4 4) (H.alloc 1 [.int .u8 92, .int .u8 120, .int .u8 ((hexD (c.toNat / 16)).toNat : Int), .int .u8 ((hexD (c.toNat % 16)).toNat : Int)]) = some (v1, H1) := a1
      have q8 := quo8 (u := c.toNat) hu
      have m8 := rem8 (u := c.toNat) hu
      have d0 := dig16 (u := c.toNat / 16) (by omega)
      have d1 := dig16 (u := c.toNat % 16) (by omega)
      by_cases c32 : c.toNat < 32
      · have g32 : decide ((c.toNat : Int) < 32) = true := decide_eq_true (by omega)
        simp (decide := true) only [↓execG_seq, ↓g_region, ↓execG_block, ↓execG_skip, ↓g_if, ↓g_else, thenE_norm, leaveB_norm, ↓r_nil, ↓r_cons, ↓o_move, ↓o_assign, ↓o_pickt, ↓o_pickf, ↓o_buildSlice, ↓o_binOp, ↓o_index, ↓o_builtin, nextE_app, putK_app, putO_app, putG_bool, putG_int, normK_app, evalE_tmp, evalE_const, upd_some, bindO_ok, bindV_ok, reduceIte, map_one, map_two, Bool.not_false, ↓reg_lit l4, ↓reg_lit l6, ↓reg_lit l8, ↓reg_lit l10, ↓reg_lit l12, ↓reg_lit l14, ↓reg_lit l15, ↓reg_lit l5, ↓r_yes _ 2 false 36 _ gd22_12_2, ↓r_no _ 2 false 47 _ gd22_14_2, e0, e3, e4, e5, len_str, binA_lss, binA_eql, hlt, hix, app_builtin2, binA_add, w, z10, z9, z34, z92, g32, q8, m8, d0, d1, parts_four, bslice4, a1]
        exact rq_then hG0 hsm n (i + 1) m (by omega) (by omega) (by simp (decide := true) only [upd_some, reduceIte, e0]) (by simp (decide := true) only [upd_some, reduceIte, e3]) (by simp (decide := true) only [upd_some, reduceIte, e4]) (by simp (decide := true) only [upd_some, reduceIte, e5]) ⟨x1, r1⟩ hx
      · have g32 : decide ((c.toNat : Int) < 32) = false := decide_eq_false (by omega)
        have g126 : decide ((c.toNat : Int) > 126) = true := decide_eq_true (by omega)
        simp (decide := true) only [↓execG_seq, ↓g_region, ↓execG_block, ↓execG_skip, ↓g_if, ↓g_else, thenE_norm, leaveB_norm, ↓r_nil, ↓r_cons, ↓o_move, ↓o_assign, ↓o_pickf, ↓o_buildSlice, ↓o_binOp, ↓o_index, ↓o_builtin, nextE_app, putK_app, putO_app, putG_bool, putG_int, normK_app, evalE_tmp, evalE_const, upd_some, bindO_ok, bindV_ok, reduceIte, map_one, map_two, ↓reg_lit l4, ↓reg_lit l6, ↓reg_lit l8, ↓reg_lit l10, ↓reg_lit l12, ↓reg_lit l14, ↓reg_lit l15, ↓reg_lit l5, ↓r_yes _ 2 false 36 _ gd22_12_2, ↓r_yes _ 2 false 47 _ gd22_14_2, e0, e3, e4, e5, len_str, binA_lss, binA_gtr, binA_eql, hlt, hix, app_builtin2, binA_add, w, z10, z9, z34, z92, g32, g126, q8, m8, d0, d1, parts_four, bslice4, a1]
        exact rq_then hG0 hsm n (i + 1) m (by omega) (by omega) (by simp (decide := true) only [upd_some, reduceIte, e0]) (by simp (decide := true) only [upd_some, reduceIte, e3]) (by simp (decide := true) only [upd_some, reduceIte, e4]) (by simp (decide := true) only [upd_some, reduceIte, e5]) ⟨x1, r1⟩ hx
    · have he : escB c = [c] := by unfold escB; rw [if_neg c10, if_neg c9, if_neg cc, if_neg (fun q => by rcases q with q | q; exact c34 q; exact c92 q)]
      rw [he] at a1
      have a1 : appendA PP #[26, 26] va (.slice (some ⟨H.next, 0, none⟩) 1 1) (H.alloc 1 [.int .u8 (c.toNat : Int)]) = some (v1, H1) := a1
      have g32 : decide ((c.toNat : Int) < 32) = false := decide_eq_false (by omega)
      have g126 : decide ((c.toNat : Int) > 126) = false := decide_eq_false (by omega)
      simp (decide := true) only [↓execG_seq, ↓g_region, ↓execG_block, ↓execG_skip, ↓g_if, ↓g_else, thenE_norm, leaveB_norm, ↓r_nil, ↓r_cons, ↓o_move, ↓o_assign, ↓o_pickf, ↓o_buildSlice, ↓o_binOp, ↓o_index, ↓o_builtin, nextE_app, putK_app, putO_app, putG_bool, putG_int, normK_app, evalE_tmp, evalE_const, upd_some, bindO_ok, bindV_ok, reduceIte, map_one, map_two, ↓reg_lit l4, ↓reg_lit l6, ↓reg_lit l8, ↓reg_lit l10, ↓reg_lit l12, ↓reg_lit l14, ↓reg_lit l7, ↓reg_lit l5, ↓r_yes _ 2 false 36 _ gd22_12_2, ↓r_yes _ 2 false 47 _ gd22_14_2, e0, e4, e5, len_str, binA_lss, binA_gtr, binA_eql, hlt, hix, app_builtin2, binA_add, w, z10, z9, z34, z92, g32, g126, bslice1, a1]
      exact rq_then hG0 hsm n (i + 1) m (by omega) (by omega) (by simp (decide := true) only [upd_some, reduceIte, e0]) (by simp (decide := true) only [upd_some, reduceIte, e3]) (by simp (decide := true) only [upd_some, reduceIte, e4]) (by simp (decide := true) only [upd_some, reduceIte, e5]) ⟨x1, r1⟩ hx
end
theorem call_rquote {N : Nat} {hk : Hook} {d : Nat} {t : List UInt8} {H : Heap} (hh : ∀ f args H, okC f = true → hk f args H = none) (hG : Ext GE H) (hsm : t.length ≤ 20000000) (hN : t.length + 100 < N) :
    ∃ v H', Ext H H' ∧ BRow H' v (quoteB t) H.next ∧ CG N hk (d + 1) 22 #[.string ⟨⟨t⟩⟩] H = some (.ret v, H') := by
  have main : ∃ R0 : R, CG N hk (d + 1) 22 #[.string ⟨⟨t⟩⟩] H = R0 ∧ ∃ v H', (Ext H H' ∧ BRow H' v (quoteB t) H.next) ∧ R0 = some (.ret v, H') := by
    refine ⟨_, callG_fn (hh _ _ _ rfl) Tryd.func22 (c := codeOf Tryd.f22) rfl rfl rfl (pr := noPr) rfl, ?_⟩
    rw [code22]
    generalize hF : finE PP Tryd.f22 = F
    have x1 : Ext H (H.alloc 1 [.int .u8 34]) := Ext.alloc hG.fresh 1 _
    have r1 : BRow (H.alloc 1 [.int .u8 34]) (.slice (some ⟨H.next, 0, none⟩) 1 1) (34 :: bodyB (t.take 0)) H.next := .inr ⟨by simp, H.next, rfl, by rw [Heap.get_alloc, if_pos rfl]; rfl, Nat.le_refl _⟩
    have l0 := tl (rgn Tryd.f22 0)
    conv at l0 => rhs; simp only [rgn, opsAt, codeOf, Tryd.f22, gS, gN, reduceIte, Nat.reduceEqDiff, tA]
    have l1 := tl (rgn Tryd.f22 1)
    conv at l1 => rhs; simp only [rgn, opsAt, codeOf, Tryd.f22, gS, gN, reduceIte, Nat.reduceEqDiff, tA]
    have l2 := tl (rgn Tryd.f22 2)
    conv at l2 => rhs; simp only [rgn, opsAt, codeOf, Tryd.f22, gS, gN, reduceIte, Nat.reduceEqDiff, tA]
    have l3 := tl (rgn Tryd.f22 3)
    conv at l3 => rhs; simp only [rgn, opsAt, codeOf, Tryd.f22, gS, gN, reduceIte, Nat.reduceEqDiff, tA]
    have l16 := tl (rgn Tryd.f22 16)
    conv at l16 => rhs; simp only [rgn, opsAt, codeOf, Tryd.f22, gS, gN, reduceIte, Nat.reduceEqDiff, tA]
    simp (decide := true) only [↓execG_seq, ↓g_region, ↓execG_block, thenE_norm, ↓r_nil, ↓r_cons, ↓o_assign, ↓o_buildSlice, nextE_app, putK_app, normK_app, evalE_tmp, evalE_const, upd_some, bindV_ok, reduceIte, map_one, ↓reg_lit l0, ↓reg_lit l1, ↓reg_lit l2, ↓reg_lit l3, ↓execG_loop, bslice1]
    refine rq_then (G0 := H) (Q := fun r => ∃ v H', (Ext H H' ∧ BRow H' v (quoteB t) H.next) ∧ r = some (.ret v, H')) hG.fresh hsm t.length 0 N (by omega) (by omega) (va := .slice (some ⟨H.next, 0, none⟩) 1 1) ?_ ?_ ?_ ?_ ⟨x1, r1⟩ (fun E' H' va' e4 x2 r2 => ?_)
    · simp (decide := true) only [upd_some, reduceIte, startE_0]
    · simp (decide := true) only [upd_some, reduceIte]
      rfl
    · simp (decide := true) only [upd_some, reduceIte]
    · simp (decide := true) only [upd_some, reduceIte]; rfl
    have hl := (body_len t).2
    obtain ⟨v3, H3, a3, x3, r3⟩ := app_new hG.fresh x2 r2 [34] (by rw [List.length_cons]; simp only [List.length_cons, List.length_nil]; omega)
    have a3 : appendA PP #[26, 26] va' (.slice (some ⟨H'.next, 0, none⟩) 1 1) (H'.alloc 1 [.int .u8 34]) = some (v3, H3) := a3
    refine ⟨v3, H3, ⟨x3, r3⟩, ?_⟩
    simp (decide := true) only [↓execG_seq, ↓g_region, ↓execG_ret, thenE_norm, g_leave, ↓r_nil, ↓r_cons, ↓o_move, ↓o_assign, ↓o_buildSlice, ↓o_builtin, nextE_app, putK_app, normK_app, evalE_tmp, evalE_const, upd_some, bindV_ok, reduceIte, map_one, map_two, ↓reg_lit l16, e4, bslice1, app_builtin2, a3]
    rw [← hF, finE_ret (l := [v3]) (by simp (decide := true) [Tryd.f22, resE, upd_some])]
    rfl
  obtain ⟨R0, m1, v, H', ⟨m2, m3⟩, m4⟩ := main
  exact ⟨v, H', m2, m3, m1.trans m4⟩
end Go.Am
/- The reference: a number as it is spelled. -/
open Go.Proofs
namespace Go.Am
theorem binA_mul {P : Program} {t : TypeId} {x y : Operand} {i : IntKind} {a b : Int} : binA P .mul t x y (.int i a) (.int i b) = some (.int i (i.wrap (a * b))) := by simp [binA, ground, atomic, eqGuard, binOp, Op.intArith]; rfl
theorem binA_quo {P : Program} {t : TypeId} {x y : Operand} {i : IntKind} {a b : Int} (h : b ≠ 0) : binA P .quo t x y (.int i a) (.int i b) = some (.int i (i.wrap (a.tdiv b))) := by simp [binA, ground, atomic, eqGuard, binOp, Op.intDiv, h]; rfl
theorem binA_rem {P : Program} {t : TypeId} {x y : Operand} {i : IntKind} {a b : Int} (h : b ≠ 0) : binA P .rem t x y (.int i a) (.int i b) = some (.int i (a.tmod b)) := by simp [binA, ground, atomic, eqGuard, binOp, Op.intDiv, h]; rfl
theorem conv_b8 (x : Int) (H : Heap) : convertA PP 27 5 (.int .u64 x) H = some (.int .u8 (IntKind.u8.wrap x), H) := by kernel_rfl
def digU (n : Nat) : UInt8 := UInt8.ofNat (48 + n % 10)
theorem digU_nat (n : Nat) : (digU n).toNat = 48 + n % 10 := by
  have : 48 + n % 10 < 256 := by omega
  simp [digU]; omega
/-- What is still to be spelled, ahead of what is. -/
def numD (n : Nat) (w : List UInt8) : List UInt8 := if n = 0 ∧ w ≠ [] then w else Lib.decDigits n ++ w
theorem numD_step {n : Nat} {w : List UInt8} (h : 0 < n ∨ w = []) : numD (n / 10) (digU n :: w) = numD n w := by
  have hc : ¬ (n = 0 ∧ w ≠ []) := fun ⟨a, b⟩ => by rcases h with h | h; omega; exact b h
  unfold numD
  rw [if_neg hc]
  by_cases h10 : n < 10
  · rw [if_pos ⟨by omega, by simp⟩, Lib.decDigits_one h10]
    show UInt8.ofNat (48 + n % 10) :: w = UInt8.ofNat (48 + n) :: w
    rw [Nat.mod_eq_of_lt h10]
  · rw [if_neg (fun q => by omega)]
    have e : Lib.decDigits n = Lib.decDigits (n / 10) ++ [UInt8.ofNat (48 + n % 10)] := by rw [Lib.decDigits, dif_neg h10]
    rw [e, List.append_assoc]
    rfl
theorem code20 : codeOf Tryd.f20 = .seq (.region 0 (rgn Tryd.f20 0) false) (.seq (.region 1 (rgn Tryd.f20 1) false) (.seq (.block 0 (.loop (.seq (.seq (.region 2 (rgn Tryd.f20 2) false) (.cond (.tmp 10) (.skip) (.exit 0))) (.block 1 (.seq (.region 3 (rgn Tryd.f20 3) false) (.region 4 (rgn Tryd.f20 4) false)))))) (.seq (.region 5 (rgn Tryd.f20 5) false) (.ret)))) := by kernel_rfl
theorem gd20_2_2 : ((rgn Tryd.f20 2)[2]?).bind (·.dst) = some 6 := by kernel_rfl

section
variable {K : Kf} {N : Nat} {G0 : Heap} {Q : R → Prop} {k : KOE}
set_option maxRecDepth 100000 in
theorem n_then (hG0 : Fresh G0) :
    ∀ (f n m : Nat) (w : List UInt8) (_ : n < 10 ^ f) (_ : n < 18446744073709551616) (_ : w ≠ [] ∨ 0 < f) (_ : w.length + f ≤ 40) (_ : f < m) {E : Env} {H : Heap} {v : Value} (_ : E 0 = .int .u64 (n : Int)) (_ : E 3 = v) (_ : Ext G0 H ∧ BRow H v w G0.next)
      (_ : ∀ E' H' v', E' 3 = v' → Ext G0 H' → BRow H' v' (numD n w) G0.next → Q (k (.exit 0) E' [] H')), Q (loopE (execG PP XX K N noPr (.seq (.seq (.region 2 (rgn Tryd.f20 2) false) (.cond (.tmp 10) (.skip) (.exit 0))) (.block 1 (.seq (.region 3 (rgn Tryd.f20 3) false) (.region 4 (rgn Tryd.f20 4) false)))) none) m E [] H k)
  | f, n, m + 1, w, hn, h64, hw, hl, hm, E, H, v, e0, e3, hB, hx => by
    rw [loopE_succ]
    obtain ⟨hE, hB⟩ := hB
    obtain ⟨a, rfl, hb⟩ := hB.brow (by omega)
    by_cases go : 0 < n ∨ w = []
    · obtain ⟨g, rfl⟩ : ∃ g, f = g + 1 := by
        refine ⟨f - 1, ?_⟩
        rcases go with c | c
        · have : f ≠ 0 := fun e => by rw [e] at hn; simp at hn; omega
          omega
        · rcases hw with d | d
          · exact absurd c d
          · omega
      have x1 : Ext H (H.alloc 1 [.int .u8 ((digU n).toNat : Int)]) := Ext.alloc hE.fresh 1 _
      have r1 : BRow (H.alloc 1 [.int .u8 ((digU n).toNat : Int)]) (.slice (some ⟨H.next, 0, none⟩) 1 1) [digU n] G0.next := .inr ⟨by simp, H.next, rfl, by rw [Heap.get_alloc, if_pos rfl]; rfl, hE.next⟩
      have hsrc := src_row (c := w.length) (hb.ext x1)
      obtain ⟨v', H', q1, q2, q3, q4, q5⟩ := brow_app (u := 26) r1 x1.fresh (Nat.le_trans hE.next x1.next) (.inl ⟨_, und34⟩) hsrc (by simp only [List.length_cons, List.length_nil]; omega)
      have xR : Ext G0 H' := ⟨Nat.le_trans hE.next (Nat.le_trans x1.next q4), fun z y hy => q3 z y (lt_next hG0 hy) (x1.keep z y (hE.keep z y hy)), q5⟩
      have hw1 : IntKind.u64.wrap (48 + ((n % 10 : Nat) : Int)) = ((48 + n % 10 : Nat) : Int) := by rw [wrap_u64' (by omega) (by omega)]; omega
      have hr : Int.tmod (n : Int) 10 = ((n % 10 : Nat) : Int) := by rw [Int.tmod_eq_emod_of_nonneg (by omega)]; omega
      have hw2 : IntKind.u8.wrap ((48 + n % 10 : Nat) : Int) = ((digU n).toNat : Int) := by rw [digU_nat]; exact wrap_u8' (by omega) (by omega)
      have hq : IntKind.u64.wrap (Int.tdiv (n : Int) 10) = ((n / 10 : Nat) : Int) := by rw [Int.tdiv_eq_ediv_of_nonneg (by omega), wrap_u64' (by omega) (by omega)]; omega
      have hns := numD_step go
      have hd10 : n / 10 < 10 ^ g := by rw [Nat.pow_succ] at hn; omega
      have d10 : (10 : Int) ≠ 0 := by decide
      have l2 := tl (rgn Tryd.f20 2)
      conv at l2 => rhs; simp only [rgn, opsAt, codeOf, Tryd.f20, gS, gN, reduceIte, Nat.reduceEqDiff, tA]
      have l3 := tl (rgn Tryd.f20 3)
      conv at l3 => rhs; simp only [rgn, opsAt, codeOf, Tryd.f20, gS, gN, reduceIte, Nat.reduceEqDiff, tA]
      have l4 := tl (rgn Tryd.f20 4)
      conv at l4 => rhs; simp only [rgn, opsAt, codeOf, Tryd.f20, gS, gN, reduceIte, Nat.reduceEqDiff, tA]
      by_cases c0 : 0 < n
      · have g0 : decide ((n : Int) > 0) = true := decide_eq_true (by omega)
        simp (decide := true) only [↓execG_seq, ↓g_region, ↓execG_block, ↓execG_skip, ↓g_if, thenE_norm, leaveB_norm, ↓r_nil, ↓r_cons, ↓o_move, ↓o_assign, ↓o_pickt, ↓o_buildSlice, ↓o_binOp, ↓o_convert, ↓o_builtin, nextE_app, putK_app, putG_bool, putG_int, normK_app, evalE_tmp, evalE_const, upd_some, bindO_ok, bindV_ok, reduceIte, map_one, map_two, Bool.not_false, ↓reg_lit l2, ↓reg_lit l3, ↓reg_lit l4, ↓r_no _ 2 false 6 _ gd20_2_2, e0, e3, binA_gtr, g0, binA_rem d10, binA_quo d10, hr, binA_add, hw1, conv_b8, hw2, bslice1, app_builtin2, q1, hq]
        exact n_then hG0 g (n / 10) m (digU n :: w) hd10 (by omega) (.inl (by simp)) (by simp only [List.length_cons]; omega) (by omega) (by simp (decide := true) only [upd_some, reduceIte, e0]) (by simp (decide := true) only [upd_some, reduceIte, e3]) ⟨xR, q2⟩ fun E' H' v' a1 a2 a3 => hx E' H' v' a1 a2 (by rw [← hns]; exact a3)
      · have g0 : decide ((n : Int) > 0) = false := decide_eq_false (by omega)
        have hw0 : w = [] := by rcases go with c | c; exact absurd c c0; exact c
        have gl : (((w.length : Nat) : Int) == 0) = true := by rw [hw0]; rfl
        simp (decide := true) only [↓execG_seq, ↓g_region, ↓execG_block, ↓execG_skip, ↓g_if, thenE_norm, leaveB_norm, ↓r_nil, ↓r_cons, ↓o_move, ↓o_assign, ↓o_pickf, ↓o_buildSlice, ↓o_binOp, ↓o_convert, ↓o_builtin, nextE_app, putK_app, putG_bool, putG_int, normK_app, evalE_tmp, evalE_const, upd_some, bindO_ok, bindV_ok, reduceIte, map_one, map_two, ↓reg_lit l2, ↓reg_lit l3, ↓reg_lit l4, ↓r_yes _ 2 false 6 _ gd20_2_2, e0, e3, binA_gtr, g0, len_slice (ts := #[26]) rfl und34, binA_eql, gl, binA_rem d10, binA_quo d10, hr, binA_add, hw1, conv_b8, hw2, bslice1, app_builtin2, q1, hq]
        exact n_then hG0 g (n / 10) m (digU n :: w) hd10 (by omega) (.inl (by simp)) (by simp only [List.length_cons]; omega) (by omega) (by simp (decide := true) only [upd_some, reduceIte, e0]) (by simp (decide := true) only [upd_some, reduceIte, e3]) ⟨xR, q2⟩ fun E' H' v' a1 a2 a3 => hx E' H' v' a1 a2 (by rw [← hns]; exact a3)
    · have n0 : n = 0 := by omega
      have hne : w ≠ [] := fun e => go (.inr e)
      have g0 : decide ((n : Int) > 0) = false := decide_eq_false (by omega)
      have gl : (((w.length : Nat) : Int) == 0) = false := by
        rw [Bool.eq_false_iff]; intro c; rw [beq_iff_eq] at c
        exact hne (List.length_eq_zero_iff.mp (by omega))
      have hnd : numD n w = w := by unfold numD; rw [if_pos ⟨n0, hne⟩]
      have l2 := tl (rgn Tryd.f20 2)
      conv at l2 => rhs; simp only [rgn, opsAt, codeOf, Tryd.f20, gS, gN, reduceIte, Nat.reduceEqDiff, tA]
      simp (decide := true) only [↓execG_seq, ↓g_region, ↓execG_exit, ↓g_else, thenE_norm, thenE_exit, ↓r_nil, ↓r_cons, ↓o_move, ↓o_pickf, ↓o_binOp, ↓o_builtin, nextE_app, putK_app, putG_bool, normK_app, evalE_tmp, evalE_const, upd_some, bindO_ok, reduceIte, map_one, ↓reg_lit l2, ↓r_yes _ 2 false 6 _ gd20_2_2, e0, e3, binA_gtr, g0, len_slice (ts := #[26]) rfl und34, binA_eql, gl]
      exact hx _ _ (.slice a w.length w.length) (by simp (decide := true) only [upd_some, reduceIte, e3]) hE (by rw [hnd]; exact hB)
end
theorem call_rnum {N : Nat} {hk : Hook} {d : Nat} {n : Nat} {H : Heap} (hh : ∀ f args H, okC f = true → hk f args H = none) (hG : Ext GE H) (hn : n < 18446744073709551616) (hN : 100 < N) :
    ∃ v H', Ext H H' ∧ BRow H' v (Lib.decDigits n) H.next ∧ CG N hk (d + 1) 20 #[.int .u64 (n : Int)] H = some (.ret v, H') := by
  have main : ∃ R0 : R, CG N hk (d + 1) 20 #[.int .u64 (n : Int)] H = R0 ∧ ∃ v H', (Ext H H' ∧ BRow H' v (Lib.decDigits n) H.next) ∧ R0 = some (.ret v, H') := by
    refine ⟨_, callG_fn (hh _ _ _ rfl) Tryd.func20 (c := codeOf Tryd.f20) rfl rfl rfl (pr := noPr) rfl, ?_⟩
    rw [code20]
    generalize hF : finE PP Tryd.f20 = F
    have self : Ext H H := ⟨Nat.le_refl _, fun _ _ h => h, hG.fresh⟩
    have l0 := tl (rgn Tryd.f20 0)
    conv at l0 => rhs; simp only [rgn, opsAt, codeOf, Tryd.f20, gS, gN, reduceIte, Nat.reduceEqDiff, tA]
    have l1 := tl (rgn Tryd.f20 1)
    conv at l1 => rhs; simp only [rgn, opsAt, codeOf, Tryd.f20, gS, gN, reduceIte, Nat.reduceEqDiff, tA]
    have l5 := tl (rgn Tryd.f20 5)
    conv at l5 => rhs; simp only [rgn, opsAt, codeOf, Tryd.f20, gS, gN, reduceIte, Nat.reduceEqDiff, tA]
    simp (decide := true) only [↓execG_seq, ↓g_region, ↓execG_block, thenE_norm, ↓r_nil, ↓r_cons, ↓o_assign, nextE_app, normK_app, evalE_const, ↓reg_lit l0, ↓reg_lit l1, ↓execG_loop]
    refine n_then (G0 := H) (Q := fun r => ∃ v H', (Ext H H' ∧ BRow H' v (Lib.decDigits n) H.next) ∧ r = some (.ret v, H')) hG.fresh 20 n N [] (by omega) hn (.inr (by decide)) (by decide) (by omega) (v := .slice none 0 0) ?_ ?_ ⟨self, .inl ⟨rfl, rfl⟩⟩ (fun E' H' v' e3 x2 r2 => ?_)
    · simp (decide := true) only [upd_some, reduceIte, startE_0]
    · simp (decide := true) only [upd_some, reduceIte]
    have hnd : numD n [] = Lib.decDigits n := by unfold numD; rw [if_neg (fun q => q.2 rfl), List.append_nil]
    rw [hnd] at r2
    refine ⟨v', H', ⟨x2, r2⟩, ?_⟩
    simp (decide := true) only [↓execG_seq, ↓g_region, ↓execG_ret, thenE_norm, g_leave, ↓r_nil, ↓r_cons, ↓o_move, ↓o_assign, nextE_app, normK_app, evalE_tmp, upd_some, reduceIte, ↓reg_lit l5, e3]
    rw [← hF, finE_ret (l := [v']) (by simp (decide := true) [Tryd.f20, resE, upd_some])]
    rfl
  obtain ⟨R0, m1, v, H', ⟨m2, m3⟩, m4⟩ := main
  exact ⟨v, H', m2, m3, m1.trans m4⟩
end Go.Am
/- The reference: is a word a name; the reserved words. -/
open Go.Proofs
namespace Go.Am
/-- What is asked of the functions of a byte that are looked up. -/
structure HkR (hk : Hook) : Prop where
  nil : ∀ f args H, okC f = true → hk f args H = none
  dig : ∀ (u : UInt8) H, Ext GE H → hk 44 #[.int .u8 (u.toNat : Int)] H = some (some (.ret (.bool (digN u.toNat)), H))
  wb : ∀ (u : UInt8) H, Ext GE H → hk 45 #[.int .u8 (u.toNat : Int)] H = some (some (.ret (.bool (wbN u.toNat)), H))
  hex : ∀ (u : UInt8) H, Ext GE H → hk 50 #[.int .u8 (u.toNat : Int)] H = some (some (.ret (.int .i64 (rhN u.toNat)), H))
theorem cls_dig (u : UInt8) : (decide (clsI u = 3) == digN u.toNat) = true := each_byte (p := fun u => decide (clsI u = 3) == digN u.toNat) (by decide +kernel) u
theorem wb_wb (u : UInt8) : (wbB u == wbN u.toNat) = true := each_byte (p := fun u => wbB u == wbN u.toNat) (by decide +kernel) u
theorem wb_cls (u : UInt8) : (wbB u == (decide (clsI u = 3) || decide (clsI u = 4))) = true := each_byte (p := fun u => wbB u == (decide (clsI u = 3) || decide (clsI u = 4))) (by decide +kernel) u
def begunI (s : List UInt8) : Bool := decide (1 ≤ s.length) && decide (s.length ≤ 32) && !decide (clsI (s.headD 0) = 3) && s.all wbB
theorem begun_legal (s : List UInt8) : (begunI s && decide (resI s = 0)) = legalI s := by
  unfold begunI legalI
  cases s with
  | nil => rfl
  | cons u r =>
    have h := wb_cls u
    rw [beq_iff_eq] at h
    have hz : (u :: r).headD 0 = u := rfl
    generalize (u :: r).headD 0 = z at hz
    subst hz
    simp only [List.all_cons]
    by_cases c3 : clsI z = 3
    · have c4 : ¬ clsI z = 4 := by omega
      rw [decide_eq_true c3, decide_eq_false c4]
      simp
    · rw [decide_eq_false c3, Bool.false_or] at h
      rw [h, decide_eq_false c3]
      cases decide (clsI z = 4) <;> cases decide (resI (z :: r) = 0) <;> cases r.all wbB <;> simp
theorem code30 : codeOf Tryd.f30 = .seq (.region 0 (rgn Tryd.f30 0) false) (.seq (.seq (.region 1 (rgn Tryd.f30 1) false) (.cond (.tmp 16) (.seq (.region 2 (rgn Tryd.f30 2) false) (.ret)) (.skip))) (.seq (.seq (.region 3 (rgn Tryd.f30 3) false) (.block 0 (.loop (.seq (.seq (.region 4 (rgn Tryd.f30 4) false) (.cond (.tmp 20) (.skip) (.exit 0))) (.seq (.block 1 (.seq (.region 6 (rgn Tryd.f30 6) false) (.cond (.tmp 27) (.seq (.region 7 (rgn Tryd.f30 7) false) (.ret)) (.skip)))) (.region 5 (rgn Tryd.f30 5) false)))))) (.seq (.region 8 (rgn Tryd.f30 8) false) (.ret)))) := by kernel_rfl
theorem gd30_1_3 : ((rgn Tryd.f30 1)[3]?).bind (·.dst) = some 7 := by kernel_rfl
theorem gd30_1_8 : ((rgn Tryd.f30 1)[8]?).bind (·.dst) = some 12 := by kernel_rfl
theorem code13 : codeOf Tryd.f13 = .seq (.region 0 (rgn Tryd.f13 0) false) (.seq (.region 1 (rgn Tryd.f13 1) false) (.ret)) := by kernel_rfl
theorem gd13_1_2 : ((rgn Tryd.f13 1)[2]?).bind (·.dst) = some 5 := by kernel_rfl
theorem code17 : codeOf Tryd.f17 = .seq (.region 0 (rgn Tryd.f17 0) false) (.seq (.seq (.region 1 (rgn Tryd.f17 1) false) (.block 0 (.loop (.seq (.seq (.region 2 (rgn Tryd.f17 2) false) (.cond (.tmp 5) (.skip) (.exit 0))) (.seq (.block 1 (.seq (.region 4 (rgn Tryd.f17 4) false) (.cond (.tmp 12) (.seq (.region 5 (rgn Tryd.f17 5) false) (.ret)) (.skip)))) (.region 3 (rgn Tryd.f17 3) false)))))) (.seq (.region 6 (rgn Tryd.f17 6) false) (.ret))) := by kernel_rfl

theorem index_res {i : Nat} (h : i < 50) : indexAddrA PP 61 (.pointer (some ⟨0, 0, none⟩)) (.int .i64 (i : Int)) = some (.pointer (some ⟨0, i, none⟩)) := by
  have e : (⟨0, 0, none⟩ : Addr).add i = ⟨0, i, none⟩ := by rw [Addr.add_lit, Nat.zero_add]
  simp [indexAddrA, sizeS, at_, e]
  omega
theorem load_res {H : Heap} {i : Nat} (hG : Ext GE H) (hi : i < 50) : loadA PP 9 (.pointer (some ⟨0, i, none⟩)) H = some (.string ⟨⟨wordsL.getD i []⟩⟩, H) := by
  have h : H.get 0 = some ⟨wordsV, false, 1, none⟩ := hG.keep 0 _ rfl
  have hl : i < wordsL.length := by rw [wordsL_len]; exact hi
  simp only [loadA, aggS]
  simp only [ld1, look, h]
  simp [wordsV, strV, List.getD, hl]
section
variable {K : Kf} {N : Nat} {H : Heap} {w : List UInt8} {Q : R → Prop} {k : KOE}
theorem rr_then (hG : Ext GE H) : ∀ (n i m : Nat) (_ : i + n = 50) (_ : n < m) {E : Env} (_ : E 0 = .string ⟨⟨w⟩⟩) (_ : E 3 = .int .i64 (i : Int))
    (_ : findI w (wordsL.drop i) i = -1 → ∀ E', Q (k (.exit 0) E' [] H)) (_ : findI w (wordsL.drop i) i ≥ 0 → ∀ E', E' 2 = .int .i64 (30 + findI w (wordsL.drop i) i) → Q (k .ret E' [] H)), Q (loopE (execG PP XX K N noPr (.seq (.seq (.region 2 (rgn Tryd.f17 2) false) (.cond (.tmp 5) (.skip) (.exit 0))) (.seq (.block 1 (.seq (.region 4 (rgn Tryd.f17 4) false) (.cond (.tmp 12) (.seq (.region 5 (rgn Tryd.f17 5) false) (.ret)) (.skip)))) (.region 3 (rgn Tryd.f17 3) false))) none) m E [] H k)
  | 0, i, m + 1, hn, hm, E, e0, e3, h1, h2 => by
    rw [loopE_succ]
    have hi : i = 50 := by omega
    subst hi
    have hlt : decide (((50 : Nat) : Int) < 50) = false := by decide
    have l2 := tl (rgn Tryd.f17 2)
    conv at l2 => rhs; simp only [rgn, opsAt, codeOf, Tryd.f17, gS, gN, reduceIte, Nat.reduceEqDiff, tA]
    simp (decide := true) only [↓execG_seq, ↓g_region, thenE_norm, ↓r_nil, ↓r_cons, ↓o_move, ↓o_binOp, nextE_app, putG_bool, normK_app, evalE_tmp, evalE_const, upd_some, bindO_ok, reduceIte, ↓reg_lit l2, e3, binA_lss]
    exact h1 rfl _
  | n + 1, i, m + 1, hn, hm, E, e0, e3, h1, h2 => by
    rw [loopE_succ]
    have hi : i < 50 := by omega
    have hlt : decide ((i : Int) < 50) = true := decide_eq_true (by omega)
    have hix := index_res hi
    have hld := load_res hG hi
    have hl : i < wordsL.length := by rw [wordsL_len]; exact hi
    have hd : wordsL.drop i = wordsL.getD i [] :: wordsL.drop (i + 1) := by
      rw [List.drop_eq_getElem_cons hl]; simp [List.getD, hl]
    have wr : IntKind.i64.wrap ((i : Int) + 1) = ((i + 1 : Nat) : Int) := by rw [wrap_i64 (by omega) (by omega)]; omega
    have w30 : IntKind.i64.wrap (30 + (i : Int)) = 30 + (i : Int) := wrap_i64 (by omega) (by omega)
    rw [hd] at h1 h2
    unfold findI at h1 h2
    have l2 := tl (rgn Tryd.f17 2)
    conv at l2 => rhs; simp only [rgn, opsAt, codeOf, Tryd.f17, gS, gN, reduceIte, Nat.reduceEqDiff, tA]
    have l3 := tl (rgn Tryd.f17 3)
    conv at l3 => rhs; simp only [rgn, opsAt, codeOf, Tryd.f17, gS, gN, reduceIte, Nat.reduceEqDiff, tA]
    have l4 := tl (rgn Tryd.f17 4)
    conv at l4 => rhs; simp only [rgn, opsAt, codeOf, Tryd.f17, gS, gN, reduceIte, Nat.reduceEqDiff, tA]
    have l5 := tl (rgn Tryd.f17 5)
    conv at l5 => rhs; simp only [rgn, opsAt, codeOf, Tryd.f17, gS, gN, reduceIte, Nat.reduceEqDiff, tA]
    by_cases hw : w = wordsL.getD i []
    · have he : decide (wordsL.getD i [] = w) = true := decide_eq_true hw.symm
      rw [if_pos hw] at h2
      simp (decide := true) only [↓execG_seq, ↓g_region, ↓execG_block, ↓execG_ret, ↓execG_skip, ↓g_if, thenE_norm, thenE_ret, leaveB_ret, ↓r_nil, ↓r_cons, ↓o_move, ↓o_assign, ↓o_load, ↓o_binOp, ↓o_indexAddr, nextE_app, putK_app, putO_app, putG_bool, putG_int, normK_app, evalE_tmp, evalE_const, evalE_global, upd_some, bindO_ok, bindV_ok, reduceIte, ↓reg_lit l2, ↓reg_lit l4, ↓reg_lit l5, e0, e3, binA_lss, hlt, hix, hld, binA_eqs, he, binA_add, w30]
      exact h2 (by omega) _ (by simp (decide := true) only [upd_some, reduceIte])
    · have he : decide (wordsL.getD i [] = w) = false := decide_eq_false fun q => hw q.symm
      rw [if_neg hw] at h1 h2
      simp (decide := true) only [↓execG_seq, ↓g_region, ↓execG_block, ↓execG_skip, ↓g_if, ↓g_else, thenE_norm, leaveB_norm, ↓r_nil, ↓r_cons, ↓o_move, ↓o_assign, ↓o_load, ↓o_binOp, ↓o_indexAddr, nextE_app, putK_app, putO_app, putG_bool, putG_int, normK_app, evalE_tmp, evalE_const, evalE_global, upd_some, bindO_ok, bindV_ok, reduceIte, ↓reg_lit l2, ↓reg_lit l3, ↓reg_lit l4, e0, e3, binA_lss, hlt, hix, hld, binA_eqs, he, binA_add, wr]
      exact rr_then hG n (i + 1) m (by omega) (by omega) (by simp (decide := true) only [upd_some, reduceIte, e0]) (by simp (decide := true) only [upd_some, reduceIte]) h1 h2
end
theorem call_rres {N : Nat} {hk : Hook} {d : Nat} {H : Heap} (hG : Ext GE H) (w : List UInt8) (hN : 60 < N) (hh : ∀ f args H, okC f = true → hk f args H = none) :
    CG N hk (d + 1) 17 #[.string ⟨⟨w⟩⟩] H = some (.ret (.int .i64 (resI w)), H) := by
  have main : ∃ R0 : R, CG N hk (d + 1) 17 #[.string ⟨⟨w⟩⟩] H = R0 ∧ R0 = some (.ret (.int .i64 (resI w)), H) := by
    refine ⟨_, callG_fn (hh _ _ _ rfl) Tryd.func17 (c := codeOf Tryd.f17) rfl rfl rfl (pr := noPr) rfl, ?_⟩
    rw [code17]
    generalize hF : finE PP Tryd.f17 = F
    have l0 := tl (rgn Tryd.f17 0)
    conv at l0 => rhs; simp only [rgn, opsAt, codeOf, Tryd.f17, gS, gN, reduceIte, Nat.reduceEqDiff, tA]
    have l1 := tl (rgn Tryd.f17 1)
    conv at l1 => rhs; simp only [rgn, opsAt, codeOf, Tryd.f17, gS, gN, reduceIte, Nat.reduceEqDiff, tA]
    have l6 := tl (rgn Tryd.f17 6)
    conv at l6 => rhs; simp only [rgn, opsAt, codeOf, Tryd.f17, gS, gN, reduceIte, Nat.reduceEqDiff, tA]
    simp (decide := true) only [↓execG_seq, ↓g_region, ↓execG_block, thenE_norm, ↓r_nil, ↓r_cons, ↓o_assign, nextE_app, normK_app, evalE_const, ↓reg_lit l0, ↓reg_lit l1, ↓execG_loop]
    refine rr_then (w := w) (Q := fun r => r = some (.ret (.int .i64 (resI w)), H)) hG 50 0 N rfl (by omega) ?_ ?_ (fun hf E' => ?_) (fun hf E' e2 => ?_)
    · simp (decide := true) only [upd_some, reduceIte, startE_0]
    · simp (decide := true) only [upd_some, reduceIte]; rfl
    · rw [List.drop_zero] at hf
      simp (decide := true) only [↓execG_seq, ↓g_region, ↓execG_ret, thenE_norm, g_leave, ↓r_nil, ↓r_cons, ↓o_assign, nextE_app, normK_app, evalE_const, ↓reg_lit l6]
      rw [← hF, finE_ret (l := [.int .i64 0]) (by simp (decide := true) [Tryd.f17, resE, upd_some])]
      simp [resI, hf, oneOf]
    · rw [List.drop_zero] at e2 hf
      simp (decide := true) only [thenE_ret, leaveB_ret]
      rw [← hF, finE_ret (l := [.int .i64 (30 + findI w wordsL 0)]) (by simp (decide := true) [Tryd.f17, resE, e2])]
      simp only [resI, if_pos hf, oneOf]
  obtain ⟨R0, m1, m2⟩ := main
  exact m1.trans m2
section
variable {N : Nat} {hk : Hook} {d : Nat} {H : Heap} {s : List UInt8} {Q : R → Prop} {k : KOE}
theorem bg_then (K : HkR hk) (hG : Ext GE H) (hsm : s.length < 9223372036854775807) :
    ∀ (n i m : Nat) (_ : i + n = s.length) (_ : n < m) {E : Env} (_ : E 0 = .string ⟨⟨s⟩⟩) (_ : E 3 = .int .i64 (i : Int))
      (_ : (s.drop i).all wbB = true → ∀ E', Q (k (.exit 0) E' [] H)) (_ : (s.drop i).all wbB = false → ∀ E', E' 2 = .bool false → Q (k .ret E' [] H)), Q (loopE (execG PP XX (CG N hk (d + 1)) N noPr (.seq (.seq (.region 4 (rgn Tryd.f30 4) false) (.cond (.tmp 20) (.skip) (.exit 0))) (.seq (.block 1 (.seq (.region 6 (rgn Tryd.f30 6) false) (.cond (.tmp 27) (.seq (.region 7 (rgn Tryd.f30 7) false) (.ret)) (.skip)))) (.region 5 (rgn Tryd.f30 5) false))) none) m E [] H k)
  | 0, i, m + 1, hn, hm, E, e0, e3, h1, h2 => by
    rw [loopE_succ]
    have hlt : decide ((i : Int) < (s.length : Int)) = false := decide_eq_false (by omega)
    have l4 := tl (rgn Tryd.f30 4)
    conv at l4 => rhs; simp only [rgn, opsAt, codeOf, Tryd.f30, gS, gN, reduceIte, Nat.reduceEqDiff, tA]
    simp (decide := true) only [↓execG_seq, ↓g_region, ↓execG_exit, ↓g_else, thenE_norm, thenE_exit, ↓r_nil, ↓r_cons, ↓o_move, ↓o_binOp, ↓o_builtin, nextE_app, putK_app, putG_bool, normK_app, evalE_tmp, upd_some, bindO_ok, reduceIte, map_one, ↓reg_lit l4, e0, e3, len_str, binA_lss, hlt]
    exact h1 (by rw [List.drop_eq_nil_of_le (by omega)]; rfl) _
  | n + 1, i, m + 1, hn, hm, E, e0, e3, h1, h2 => by
    rw [loopE_succ]
    have hi : i < s.length := by omega
    have hlt : decide ((i : Int) < (s.length : Int)) = true := decide_eq_true (by omega)
    have hix := idx_str (s := s) hi
    have w : IntKind.i64.wrap ((i : Int) + 1) = ((i + 1 : Nat) : Int) := by rw [wrap_i64 (by omega) (by omega)]; omega
    have hw : CG N hk (d + 1) 45 #[.int .u8 (s[i].toNat : Int)] H = some (.ret (.bool (wbN s[i].toNat)), H) := callG_hook (K.wb s[i] H hG)
    have he := wb_wb s[i]
    rw [beq_iff_eq] at he
    rw [← he] at hw
    rw [List.drop_eq_getElem_cons hi, List.all_cons] at h1 h2
    have l4 := tl (rgn Tryd.f30 4)
    conv at l4 => rhs; simp only [rgn, opsAt, codeOf, Tryd.f30, gS, gN, reduceIte, Nat.reduceEqDiff, tA]
    have l5 := tl (rgn Tryd.f30 5)
    conv at l5 => rhs; simp only [rgn, opsAt, codeOf, Tryd.f30, gS, gN, reduceIte, Nat.reduceEqDiff, tA]
    have l6 := tl (rgn Tryd.f30 6)
    conv at l6 => rhs; simp only [rgn, opsAt, codeOf, Tryd.f30, gS, gN, reduceIte, Nat.reduceEqDiff, tA]
    have l7 := tl (rgn Tryd.f30 7)
    conv at l7 => rhs; simp only [rgn, opsAt, codeOf, Tryd.f30, gS, gN, reduceIte, Nat.reduceEqDiff, tA]
    cases hb : wbB s[i] with
    | true =>
      rw [hb] at hw
      rw [hb, Bool.true_and] at h1 h2
      simp (decide := true) only [↓execG_seq, ↓g_region, ↓execG_block, ↓execG_skip, ↓g_if, ↓g_else, thenE_norm, leaveB_norm, ↓r_nil, ↓r_cons, ↓o_move, ↓o_assign, ↓o_binOp, ↓o_unOp, ↓o_index, ↓o_builtin, ↓o_callf, nextE_app, putK_app, putO_app, putG_bool, putG_int, normK_app, evalE_tmp, evalE_const, upd_some, bindO_ok, reduceIte, map_one, ↓reg_lit l4, ↓reg_lit l5, ↓reg_lit l6, e0, e3, len_str, binA_lss, hlt, hix, callK_fn Tryd.func45 rfl rfl hw, not_t, binA_add, w]
      exact bg_then K hG hsm n (i + 1) m (by omega) (by omega) (by simp (decide := true) only [upd_some, reduceIte, e0]) (by simp (decide := true) only [upd_some, reduceIte, e3]) h1 h2
    | false =>
      rw [hb] at hw
      rw [hb, Bool.false_and] at h2
      simp (decide := true) only [↓execG_seq, ↓g_region, ↓execG_block, ↓execG_ret, ↓execG_skip, ↓g_if, thenE_norm, thenE_ret, leaveB_ret, ↓r_nil, ↓r_cons, ↓o_move, ↓o_assign, ↓o_binOp, ↓o_unOp, ↓o_index, ↓o_builtin, ↓o_callf, nextE_app, putK_app, putO_app, putG_bool, normK_app, evalE_tmp, evalE_const, upd_some, bindO_ok, reduceIte, map_one, ↓reg_lit l4, ↓reg_lit l6, ↓reg_lit l7, e0, e3, len_str, binA_lss, hlt, hix, callK_fn Tryd.func45 rfl rfl hw, not_f]
      exact h2 rfl _ (by simp (decide := true) only [upd_some, reduceIte])
end
theorem call_begun {N : Nat} {hk : Hook} {d : Nat} {H : Heap} {s : List UInt8} (K : HkR hk) (hG : Ext GE H) (hsm : s.length < 9223372036854775807) (hN : 100 < N) :
    CG N hk (d + 2) 30 #[.string ⟨⟨s⟩⟩] H = some (.ret (.bool (begunI s)), H) := by
  have main : ∃ R0 : R, CG N hk (d + 2) 30 #[.string ⟨⟨s⟩⟩] H = R0 ∧ R0 = some (.ret (.bool (begunI s)), H) := by
    refine ⟨_, callG_fn (K.nil _ _ _ rfl) Tryd.func30 (c := codeOf Tryd.f30) rfl rfl rfl (pr := noPr) rfl, ?_⟩
    rw [code30]
    generalize hF : finE PP Tryd.f30 = F
    have l0 := tl (rgn Tryd.f30 0)
    conv at l0 => rhs; simp only [rgn, opsAt, codeOf, Tryd.f30, gS, gN, reduceIte, Nat.reduceEqDiff, tA]
    have l1 := tl (rgn Tryd.f30 1)
    conv at l1 => rhs; simp only [rgn, opsAt, codeOf, Tryd.f30, gS, gN, reduceIte, Nat.reduceEqDiff, tA]
    have l2 := tl (rgn Tryd.f30 2)
    conv at l2 => rhs; simp only [rgn, opsAt, codeOf, Tryd.f30, gS, gN, reduceIte, Nat.reduceEqDiff, tA]
    have l3 := tl (rgn Tryd.f30 3)
    conv at l3 => rhs; simp only [rgn, opsAt, codeOf, Tryd.f30, gS, gN, reduceIte, Nat.reduceEqDiff, tA]
    have l8 := tl (rgn Tryd.f30 8)
    conv at l8 => rhs; simp only [rgn, opsAt, codeOf, Tryd.f30, gS, gN, reduceIte, Nat.reduceEqDiff, tA]
    by_cases h1 : s.length < 1
    · have g1 : decide ((s.length : Int) < 1) = true := decide_eq_true (by omega)
      have hb : begunI s = false := by unfold begunI; rw [decide_eq_false (show ¬ 1 ≤ s.length by omega)]; rfl
      simp (decide := true) only [↓execG_seq, ↓g_region, ↓execG_ret, ↓g_if, thenE_norm, thenE_ret, ↓r_nil, ↓r_cons, ↓o_move, ↓o_assign, ↓o_pickt, ↓o_binOp, ↓o_builtin, nextE_app, putK_app, putG_bool, normK_app, evalE_tmp, evalE_const, upd_some, bindO_ok, reduceIte, map_one, startE_0, Bool.not_false, ↓reg_lit l0, ↓reg_lit l1, ↓reg_lit l2, ↓r_no _ 3 false 7 _ gd30_1_3, ↓r_no _ 8 false 12 _ gd30_1_8, len_str, binA_lss, g1]
      rw [← hF, finE_ret (l := [.bool false]) (by simp (decide := true) [Tryd.f30, resE, upd_some])]
      rw [hb]; rfl
    have g1 : decide ((s.length : Int) < 1) = false := decide_eq_false (by omega)
    by_cases h2 : 32 < s.length
    · have g2 : decide ((s.length : Int) > 32) = true := decide_eq_true (by omega)
      have hb : begunI s = false := by unfold begunI; rw [decide_eq_false (show ¬ s.length ≤ 32 by omega), Bool.and_false]; rfl
      simp (decide := true) only [↓execG_seq, ↓g_region, ↓execG_ret, ↓g_if, thenE_norm, thenE_ret, ↓r_nil, ↓r_cons, ↓o_move, ↓o_assign, ↓o_pickt, ↓o_pickf, ↓o_binOp, ↓o_builtin, nextE_app, putK_app, putG_bool, normK_app, evalE_tmp, evalE_const, upd_some, bindO_ok, reduceIte, map_one, startE_0, Bool.not_false, ↓reg_lit l0, ↓reg_lit l1, ↓reg_lit l2, ↓r_yes _ 3 false 7 _ gd30_1_3, ↓r_no _ 8 false 12 _ gd30_1_8, len_str, binA_lss, binA_gtr, g1, g2]
      rw [← hF, finE_ret (l := [.bool false]) (by simp (decide := true) [Tryd.f30, resE, upd_some])]
      rw [hb]; rfl
    have g2 : decide ((s.length : Int) > 32) = false := decide_eq_false (by omega)
    have h0 : 0 < s.length := by omega
    have hix : indexA PP 9 (.string ⟨⟨s⟩⟩) (.int .i64 0) = some (.int .u8 (s[0].toNat : Int)) := idx_str (i := 0) h0
    have hhd : s.headD 0 = s[0] := by
      cases s with
      | nil => simp at h0
      | cons u r => rfl
    have hd : CG N hk (d + 1) 44 #[.int .u8 (s[0].toNat : Int)] H = some (.ret (.bool (digN s[0].toNat)), H) := callG_hook (K.dig s[0] H hG)
    have he := cls_dig s[0]
    rw [beq_iff_eq] at he
    rw [← he] at hd
    by_cases c3 : clsI s[0] = 3
    · have hb : begunI s = false := by unfold begunI; rw [hhd, decide_eq_true c3, Bool.not_true, Bool.and_false]; rfl
      rw [decide_eq_true c3] at hd
      simp (decide := true) only [↓execG_seq, ↓g_region, ↓execG_ret, ↓g_if, thenE_norm, thenE_ret, ↓r_nil, ↓r_cons, ↓o_move, ↓o_assign, ↓o_pickf, ↓o_binOp, ↓o_index, ↓o_builtin, ↓o_callf, nextE_app, putK_app, putO_app, putG_bool, normK_app, evalE_tmp, evalE_const, upd_some, bindO_ok, reduceIte, map_one, startE_0, ↓reg_lit l0, ↓reg_lit l1, ↓reg_lit l2, ↓r_yes _ 3 false 7 _ gd30_1_3, ↓r_yes _ 8 false 12 _ gd30_1_8, len_str, binA_lss, binA_gtr, g1, g2, hix, callK_fn Tryd.func44 rfl rfl hd]
      rw [← hF, finE_ret (l := [.bool false]) (by simp (decide := true) [Tryd.f30, resE, upd_some])]
      rw [hb]; rfl
    · have hb : begunI s = s.all wbB := by
        unfold begunI
        rw [decide_eq_true (show 1 ≤ s.length by omega), decide_eq_true (show s.length ≤ 32 by omega), hhd, decide_eq_false c3]; rfl
      rw [decide_eq_false c3] at hd
      simp (decide := true) only [↓execG_seq, ↓g_region, ↓execG_block, ↓execG_skip, ↓g_else, thenE_norm, ↓r_nil, ↓r_cons, ↓o_move, ↓o_assign, ↓o_pickf, ↓o_binOp, ↓o_index, ↓o_builtin, ↓o_callf, nextE_app, putK_app, putO_app, putG_bool, normK_app, evalE_tmp, evalE_const, upd_some, bindO_ok, reduceIte, map_one, startE_0, ↓reg_lit l0, ↓reg_lit l1, ↓reg_lit l3, ↓r_yes _ 3 false 7 _ gd30_1_3, ↓r_yes _ 8 false 12 _ gd30_1_8, len_str, binA_lss, binA_gtr, g1, g2, hix, callK_fn Tryd.func44 rfl rfl hd, ↓execG_loop]
      refine bg_then (s := s) (Q := fun r => r = some (.ret (.bool (begunI s)), H)) K hG hsm s.length 0 N (by omega) (by omega) ?_ ?_ (fun hf E' => ?_) (fun hf E' e2 => ?_)
      · simp (decide := true) only [upd_some, reduceIte, startE_0]
      · simp (decide := true) only [upd_some, reduceIte]; rfl
      · rw [List.drop_zero] at hf
        simp (decide := true) only [↓execG_seq, ↓g_region, ↓execG_ret, thenE_norm, g_leave, ↓r_nil, ↓r_cons, ↓o_assign, nextE_app, normK_app, evalE_const, ↓reg_lit l8]
        rw [← hF, finE_ret (l := [.bool true]) (by simp (decide := true) [Tryd.f30, resE, upd_some])]
        rw [hb, hf]; rfl
      · rw [List.drop_zero] at hf
        simp (decide := true) only [thenE_ret, leaveB_ret]
        rw [← hF, finE_ret (l := [.bool false]) (by simp (decide := true) [Tryd.f30, resE, e2])]
        rw [hb, hf]; rfl
  obtain ⟨R0, m1, m2⟩ := main
  exact m1.trans m2
theorem call_rlegal {N : Nat} {hk : Hook} {d : Nat} {H : Heap} {s : List UInt8} (K : HkR hk) (hG : Ext GE H) (hsm : s.length < 9223372036854775807) (hN : 100 < N) :
    CG N hk (d + 3) 13 #[.string ⟨⟨s⟩⟩] H = some (.ret (.bool (legalI s)), H) := by
  have main : ∃ R0 : R, CG N hk (d + 3) 13 #[.string ⟨⟨s⟩⟩] H = R0 ∧ R0 = some (.ret (.bool (legalI s)), H) := by
    refine ⟨_, callG_fn (K.nil _ _ _ rfl) Tryd.func13 (c := codeOf Tryd.f13) rfl rfl rfl (pr := noPr) rfl, ?_⟩
    rw [code13]
    generalize hF : finE PP Tryd.f13 = F
    have hb := call_begun (N := N) (hk := hk) (d := d) (H := H) (s := s) K hG hsm hN
    have hr := call_rres (N := N) (hk := hk) (d := d + 1) (H := H) hG s (by omega) K.nil
    have hr : CG N hk (d + 2) 17 #[.string ⟨⟨s⟩⟩] H = some (.ret (.int .i64 (resI s)), H) := hr
    have hl := begun_legal s
    have l0 := tl (rgn Tryd.f13 0)
    conv at l0 => rhs; simp only [rgn, opsAt, codeOf, Tryd.f13, gS, gN, reduceIte, Nat.reduceEqDiff, tA]
    have l1 := tl (rgn Tryd.f13 1)
    conv at l1 => rhs; simp only [rgn, opsAt, codeOf, Tryd.f13, gS, gN, reduceIte, Nat.reduceEqDiff, tA]
    cases hq : begunI s with
    | false =>
      rw [hq] at hb hl
      simp (decide := true) only [↓execG_seq, ↓g_region, ↓execG_ret, thenE_norm, ↓r_nil, ↓r_cons, ↓o_move, ↓o_assign, ↓o_pickf, ↓o_callf, nextE_app, putK_app, normK_app, evalE_tmp, evalE_const, upd_some, reduceIte, map_one, startE_0, Bool.not_true, ↓reg_lit l0, ↓reg_lit l1, ↓r_no _ 2 true 5 _ gd13_1_2, callK_fn Tryd.func30 rfl rfl hb]
      rw [← hF, finE_ret (l := [.bool false]) (by simp (decide := true) [Tryd.f13, resE, upd_some])]
      rw [← hl]; rfl
    | true =>
      rw [hq, Bool.true_and] at hl
      rw [hq] at hb
      have he : (resI s == 0) = decide (resI s = 0) := by rw [Bool.eq_iff_iff]; simp
      simp (decide := true) only [↓execG_seq, ↓g_region, ↓execG_ret, thenE_norm, ↓r_nil, ↓r_cons, ↓o_move, ↓o_assign, ↓o_pickt, ↓o_binOp, ↓o_callf, nextE_app, putK_app, putG_bool, normK_app, evalE_tmp, evalE_const, upd_some, bindO_ok, reduceIte, map_one, startE_0, ↓reg_lit l0, ↓reg_lit l1, ↓r_yes _ 2 true 5 _ gd13_1_2, callK_fn Tryd.func30 rfl rfl hb, callK_fn Tryd.func17 rfl rfl hr, binA_eql, he]
      rw [← hF, finE_ret (l := [.bool (decide (resI s = 0))]) (by simp (decide := true) [Tryd.f13, resE, upd_some])]
      rw [← hl]; rfl
  obtain ⟨R0, m1, m2⟩ := main
  exact m1.trans m2
end Go.Am
/- Plain law: a word with dots, cut at its dots; numbers as they are spelled. -/
namespace Go.Am
open Go.Proofs
theorem cls_nat (u : UInt8) : (decide (clsI u = 3) == (decide (48 ≤ u.toNat) && decide (u.toNat ≤ 57))) = true := each_byte (p := fun u => decide (clsI u = 3) == (decide (48 ≤ u.toNat) && decide (u.toNat ≤ 57))) (by decide +kernel) u
theorem digit_nat {u : UInt8} (h : clsI u = 3) : 48 ≤ u.toNat ∧ u.toNat ≤ 57 := by
  have := cls_nat u
  rw [beq_iff_eq, decide_eq_true h] at this
  simpa using this.symm
theorem parse_digits : ∀ (l : List UInt8) (n : Nat), (∀ d ∈ l, clsI d = 3) → accD n l < m64 → Lib.parseUint10 n l = .ok (accD n l)
  | [], _, _, _ => rfl
  | u :: l, n, hd, ha => by
    have hc := digit_nat (hd u (List.mem_cons_self ..))
    have hg : dg u = u.toNat - 48 := rfl
    have ha' : accD (n * 10 + dg u) l < m64 := ha
    have hge := accD_ge l (n * 10 + dg u)
    have hm : m64 = 18446744073709551616 := by decide
    rw [Lib.parseUint10, if_pos hc, if_neg (by omega), if_neg (by omega), ← hg]
    exact parse_digits l _ (fun d h => hd d (List.mem_cons_of_mem _ h)) ha'
/-- Is it a number as it is spelled? -/
def canonB (p : List UInt8) : Bool := match Lib.parseUintB 64 p with | .ok n => decide (Lib.decDigits n = p) | _ => false
theorem parse_dec {u : Nat} (h : u < m64) : Lib.parseUintB 64 (Lib.decDigits u) = .ok u := by
  obtain ⟨h1, h2⟩ := dec_digits (u + 1) u (Nat.lt_succ_self u)
  have hp := parse_digits (Lib.decDigits u) 0 (fun d hd => (h1 d hd).1) (by rw [h2]; exact h)
  rw [h2] at hp
  rw [Lib.parseUintB_64, Lib.parseMag, if_neg (decDigits_ne u), hp]
theorem canon_dec {u : Nat} (h : u < m64) : canonB (Lib.decDigits u) = true := by
  unfold canonB
  rw [parse_dec h]
  simp
theorem parse_lt {p : List UInt8} {u : Nat} (h : Lib.parseUintB 64 p = .ok u) : u < 18446744073709551616 := by
  rw [Lib.parseUintB_64] at h
  exact Lib.parseMag_lt h
theorem canon_of {p : List UInt8} (h : canonB p = true) : ∃ u, u < 18446744073709551616 ∧ p = Lib.decDigits u := by
  unfold canonB at h
  split at h
  · rename_i u hu
    exact ⟨u, parse_lt hu, (of_decide_eq_true h).symm⟩
  · cases h
/-- What no number spells is not spelled by the number that it is read as. -/
theorem canon_not {p : List UInt8} (h : canonB p = false) {u : Nat} (hu : u < 18446744073709551616) : Lib.decDigits u ≠ p := fun e => by
  have := canon_dec (u := u) hu
  rw [e, h] at this
  cases this
/-- No dot. -/
def nd (c : UInt8) : Bool := decide (c ≠ 46)
/-- What stands ahead of the first dot, and behind it. -/
def hd1 (s : List UInt8) : List UInt8 := s.takeWhile nd
def tl1 (s : List UInt8) : List UInt8 := s.dropWhile nd
def pcs : Nat → List UInt8 → List (List UInt8)
  | 0, s => [hd1 s]
  | f + 1, s => hd1 s :: match tl1 s with | [] => [] | _ :: r => pcs f r
/-- The pieces behind the first. -/
def rest (s : List UInt8) : List (List UInt8) := match tl1 s with | [] => [] | _ :: r => pcs (r.count 46) r
theorem hd1_split (t r : List UInt8) (h : 46 ∉ t) : hd1 (t ++ 46 :: r) = t ∧ tl1 (t ++ 46 :: r) = 46 :: r := by
  have hall : ∀ c ∈ t, nd c = true := fun c hc => decide_eq_true fun e => h (e ▸ hc)
  have h46 : nd 46 = false := rfl
  constructor
  · unfold hd1
    rw [List.takeWhile_append_of_pos hall, List.takeWhile_cons, h46]
    simp
  · unfold tl1
    rw [List.dropWhile_append_of_pos hall, List.dropWhile_cons, h46]
    simp
theorem hd1_none (s : List UInt8) (h : 46 ∉ s) : hd1 s = s ∧ tl1 s = [] := by
  have hall : ∀ c ∈ s, nd c = true := fun c hc => decide_eq_true fun e => h (e ▸ hc)
  have e1 := List.takeWhile_append_of_pos (l₁ := s) (l₂ := []) hall
  have e2 := List.dropWhile_append_of_pos (l₁ := s) (l₂ := []) hall
  rw [List.append_nil] at e1 e2
  exact ⟨by unfold hd1; rw [e1]; simp, by unfold tl1; rw [e2]; simp⟩
theorem pcs_rest (s : List UInt8) : pcs (s.count 46) s = hd1 s :: rest s := by
  by_cases h : (46 : UInt8) ∈ s
  · obtain ⟨t, r, rfl, hn⟩ := List.eq_append_cons_of_mem h
    obtain ⟨e1, e2⟩ := hd1_split t r hn
    have hc : (t ++ 46 :: r).count 46 = r.count 46 + 1 := by
      rw [List.count_append, List.count_eq_zero.mpr hn, List.count_cons_self]; omega
    rw [hc, pcs, rest, e1, e2]
  · obtain ⟨e1, e2⟩ := hd1_none s h
    rw [List.count_eq_zero.mpr h, pcs, rest, e1, e2]
theorem index_at46 : ∀ (t r : List UInt8), 46 ∉ t → Lib.index (t ++ 46 :: r) [46] = (t.length : Int)
  | [], r, _ => by rw [List.nil_append, Lib.index]; simp [List.isPrefixOf]
  | b :: l, r, h => by
    have hb : b ≠ 46 := fun e => h (e ▸ List.mem_cons_self ..)
    have hp : ([46] : List UInt8).isPrefixOf (b :: (l ++ 46 :: r)) = false := by simp [List.isPrefixOf, Ne.symm hb]
    have ih := index_at46 l r fun q => h (List.mem_cons_of_mem _ q)
    have hne : ((l.length : Int) == -1) = false := by rw [beq_eq_false_iff_ne]; omega
    rw [List.cons_append, Lib.index, hp, ih, hne, List.length_cons]
    simp
theorem split_pcs : ∀ (k : Nat) (s : List UInt8), s.count 46 = k → Lib.splitK [46] 0 k s = pcs k s
  | 0, s, h => by
    rw [Lib.splitK, pcs, (hd1_none s (List.count_eq_zero.mp h)).1]
  | k + 1, s, h => by
    have hm : (46 : UInt8) ∈ s := by
      rw [← List.count_pos_iff, h]; omega
    obtain ⟨t, r, rfl, hn⟩ := List.eq_append_cons_of_mem hm
    obtain ⟨e1, e2⟩ := hd1_split t r hn
    have hc : (t ++ 46 :: r).count 46 = r.count 46 + 1 := by
      rw [List.count_append, List.count_eq_zero.mpr hn, List.count_cons_self]; omega
    have hr : r.count 46 = k := by omega
    have hix := index_at46 t r hn
    have hne : ((t.length : Int) == -1) = false := by rw [beq_eq_false_iff_ne]; omega
    have ht : (t ++ 46 :: r).take (t.length + 0) = t := by simp
    have hd : (t ++ 46 :: r).drop (t.length + 1) = r := by
      rw [← List.drop_drop, List.drop_left]; rfl
    rw [Lib.splitK, hix, hne, pcs, e1, e2]
    simp only [Int.toNat_natCast, ht, List.length_cons, List.length_nil, Nat.zero_add, hd]
    rw [split_pcs k r hr]
    simp
/-- Is it a flat name? -/
def namedI (s : List UInt8) : Bool := decide (s.length ≤ 64) && legalI (hd1 s) && (rest s).all canonB
theorem rest_dot (r : List UInt8) : rest (46 :: r) = hd1 r :: rest r := by
  have h46 : nd 46 = false := rfl
  have e : tl1 (46 :: r) = 46 :: r := by unfold tl1; rw [List.dropWhile_cons, h46]; simp
  rw [rest, e]
  exact pcs_rest r
theorem tl1_cases (s : List UInt8) : tl1 s = [] ∨ ∃ r, tl1 s = 46 :: r := by
  by_cases h : (46 : UInt8) ∈ s
  · obtain ⟨t, r, rfl, hn⟩ := List.eq_append_cons_of_mem h
    exact .inr ⟨r, (hd1_split t r hn).2⟩
  · exact .inl (hd1_none s h).2
theorem rest_tl (s : List UInt8) : rest (tl1 s) = rest s := by
  rcases tl1_cases s with h | ⟨r, h⟩
  · rw [h, rest, rest, h]; rfl
  · have h46 : nd 46 = false := rfl
    have e : tl1 (46 :: r) = 46 :: r := by unfold tl1; rw [List.dropWhile_cons, h46]; simp
    rw [h, rest, rest, h, e]
theorem hd_tl (s : List UInt8) : s = hd1 s ++ tl1 s := (List.takeWhile_append_dropWhile).symm
theorem tl_drop (s : List UInt8) : tl1 s = s.drop (hd1 s).length := by
  have h := congrArg (List.drop (hd1 s).length) (hd_tl s)
  rw [List.drop_left] at h
  exact h.symm
theorem hd_take (s : List UInt8) : hd1 s = s.take (hd1 s).length := by
  have h := congrArg (List.take (hd1 s).length) (hd_tl s)
  rw [List.take_left] at h
  exact h.symm
theorem hd_le (s : List UInt8) : (hd1 s).length ≤ s.length := by
  have h := congrArg List.length (hd_tl s)
  rw [List.length_append] at h
  omega
theorem hd_cons (c : UInt8) (s : List UInt8) : (hd1 (c :: s)).length = if c = 46 then 0 else (hd1 s).length + 1 := by
  unfold hd1
  rw [List.takeWhile_cons]
  by_cases h : c = 46
  · subst h; rfl
  · have : nd c = true := decide_eq_true h
    rw [this, if_neg h]
    rfl
theorem dec_int {u : Nat} (hu : u < m64) : intI (Lib.decDigits u) 0 = .good u (Lib.decDigits u).length ∧ (∀ j, j < (Lib.decDigits u).length → isW (Lib.decDigits u) j = true) ∧ isI (Lib.decDigits u) 0 3 = true := by
  obtain ⟨h1, h2⟩ := dec_digits (u + 1) u (Nat.lt_succ_self _)
  have hne := decDigits_ne u
  generalize Lib.decDigits u = l at h1 h2 hne
  have hdec : decL l 0 = .good u l.length := by
    have := decL_digits l 0 (fun d hd => (h1 d hd).1) (by omega)
    rw [h2] at this; exact this
  have hint : intL l = .good u l.length := by
    match l, h1, hdec with
    | [], _, hdec => exact hdec
    | [a], _, hdec => exact hdec
    | a :: b :: r, h1, hdec =>
      have hb := (h1 b (by simp)).2
      rw [intL_two, if_neg (fun q => hb q.2)]; exact hdec
  refine ⟨?_, fun j hj => ?_, ?_⟩
  · rw [intI_L, List.drop_zero, hint]
    show IR.good u (0 + l.length) = _
    rw [Nat.zero_add]
  · have h3 := (h1 l[j] (List.getElem_mem hj)).1
    rw [isW_L, List.drop_eq_getElem_cons hj]
    show (clsI l[j] == 4 || clsI l[j] == 3) = true
    rw [h3]; rfl
  · cases l with
    | nil => exact absurd rfl hne
    | cons a r =>
      have ha := (h1 a (List.mem_cons_self ..)).1
      rw [isI_L, List.drop_zero]
      show (clsI a == 3) = true
      rw [ha]; rfl
end Go.Am
