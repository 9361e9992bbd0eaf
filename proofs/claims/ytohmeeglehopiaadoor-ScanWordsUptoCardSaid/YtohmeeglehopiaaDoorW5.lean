/- The reference: is a text a flat name? -/
import Derived.Test.YtohmeeglehopiaaDoorW4
import Derived.Test.YtohmeeglehopiaaDoorW3
open Go.Proofs
namespace Go.Am
section tr
variable {P : Program} {X : Xf} {K : Kf} {A : Array Oper} {d : Option Tmp} {t : TypeId} {p : String} {af : Array Edge} {E : Env} {ds : List Deferred} {H : Heap} {tr : List (Env × Heap)} {k : List (Env × Heap) → KE}
theorem t_yes (op : Op) (j : Nat) (w : Bool) (e : Tmp) (rest : List Oper) (hd : (A[j]?).bind (·.dst) = some e) (h : E e = .bool w) :
    execTrF P X K A (⟨d, op, t, p, af, some (j, w)⟩ :: rest) E ds H tr k = opE P X K ⟨d, op, t, p, af, none⟩ E ds H (nextT P X K A rest (tr ++ [(E, H)]) k) noKp := by
  show guardE A _ E _ _ = _
  rw [guardE_at A d op t p af j w e w E _ _ hd h]
  cases w <;> rfl
theorem t_no (op : Op) (j : Nat) (w : Bool) (e : Tmp) (rest : List Oper) (hd : (A[j]?).bind (·.dst) = some e) (h : E e = .bool (!w)) :
    execTrF P X K A (⟨d, op, t, p, af, some (j, w)⟩ :: rest) E ds H tr k = execTrF P X K A rest (upd E d undef) ds H (tr ++ [(E, H)]) k := by
  show guardE A _ E _ _ = _
  rw [guardE_at A d op t p af j w e (!w) E _ _ hd h]
  cases w <;> rfl
end tr
theorem binA_neqL (o1 o2 : Operand) (a b : List UInt8) : binA PP .neq 9 o1 o2 (.string ⟨⟨a⟩⟩) (.string ⟨⟨b⟩⟩) = some (.bool (!decide (a = b))) := by
  unfold binA
  rw [if_pos (by simp [ground, atomic])]
  simp only [eqGuard, binOp, pureRun_bind, Op.stringOp]
  simp [pureRun_pure]
  rw [Bool.eq_iff_iff]; simp
theorem sl_to {s : List UInt8} {j : Nat} (h2 : j ≤ s.length) (H : Heap) : sliceOpA PP 9 (.string ⟨⟨s⟩⟩) none (some (.int .i64 (j : Int))) none H = some (.string ⟨⟨s.take j⟩⟩) := by
  have e : (⟨⟨s⟩⟩ : ByteArray).size = s.length := rfl
  simp only [sliceOpA, undStr, sliceS, e]
  rw [if_pos (by omega)]
  simp only [Int.toNat_natCast]
  congr 2
  apply ByteArray.ext
  apply Array.ext'
  simp [ByteArray.data_extract]
theorem dF {i : Decidable False} : @decide False i = false := decide_eq_false id
theorem dT {i : Decidable True} : @decide True i = true := decide_eq_true trivial
theorem veq_string (s : ByteArray) : veq (.string s) (.string s) = true := by simp [veq, veq0]
theorem code15 : codeOf Tryd.f15 = .seq (.region 0 (rgn Tryd.f15 0) false) (.seq (.seq (.region 1 (rgn Tryd.f15 1) false) (.cond (.tmp 9) (.seq (.region 2 (rgn Tryd.f15 2) false) (.ret)) (.skip))) (.seq (.region 3 (rgn Tryd.f15 3) false) (.seq (.block 0 (.loop (.seq (.seq (.region 4 (rgn Tryd.f15 4) false) (.cond (.tmp 19) (.skip) (.exit 0))) (.block 1 (.region 5 (rgn Tryd.f15 5) false))))) (.seq (.seq (.region 6 (rgn Tryd.f15 6) false) (.cond (.tmp 26) (.seq (.region 7 (rgn Tryd.f15 7) false) (.ret)) (.skip))) (.seq (.block 2 (.loop (.seq (.seq (.region 8 (rgn Tryd.f15 8) false) (.cond (.tmp 30) (.skip) (.exit 2))) (.block 3 (.seq (.region 9 (rgn Tryd.f15 9) false) (.seq (.block 4 (.loop (.seq (.seq (.region 10 (rgn Tryd.f15 10) false) (.cond (.tmp 42) (.skip) (.exit 4))) (.block 5 (.region 11 (rgn Tryd.f15 11) false))))) (.seq (.region 12 (rgn Tryd.f15 12) false) (.seq (.seq (.region 13 (rgn Tryd.f15 13) true) (.cond (.tmp 66) (.seq (.region 14 (rgn Tryd.f15 14) false) (.ret)) (.skip))) (.region 15 (rgn Tryd.f15 15) false))))))))) (.seq (.region 16 (rgn Tryd.f15 16) false) (.ret))))))) := by kernel_rfl
theorem gd15_4_4 : ((rgn Tryd.f15 4)[4]?).bind (·.dst) = some 14 := by kernel_rfl
theorem gd15_10_4 : ((rgn Tryd.f15 10)[4]?).bind (·.dst) = some 37 := by kernel_rfl
theorem gd15_13_2 : ((rgn Tryd.f15 13)[2]?).bind (·.dst) = some 56 := by kernel_rfl

section
variable {K : Kf} {N : Nat} {s : List UInt8} {H : Heap} {Q : R → Prop} {k : KOE}
theorem nm_dot (hsm : s.length < 9223372036854775807) : ∀ (n i m : Nat) (_ : i + n = s.length) (_ : n < m) {E : Env} (_ : E 0 = .string ⟨⟨s⟩⟩) (_ : E 3 = .int .i64 (i : Int))
    (_ : ∀ E', E' 0 = .string ⟨⟨s⟩⟩ → E' 3 = .int .i64 ((i + (hd1 (s.drop i)).length : Nat) : Int) → Q (k (.exit 0) E' [] H)), Q (loopE (execG PP XX K N prN (.seq (.seq (.region 4 (rgn Tryd.f15 4) false) (.cond (.tmp 19) (.skip) (.exit 0))) (.block 1 (.region 5 (rgn Tryd.f15 5) false))) none) m E [] H k)
  | 0, i, m + 1, hn, hm, E, e0, e3, hx => by
    rw [loopE_succ]
    have hlt : decide ((i : Int) < (s.length : Int)) = false := decide_eq_false (by omega)
    have hz : (hd1 (s.drop i)).length = 0 := by rw [List.drop_eq_nil_of_le (by omega)]; rfl
    rw [hz] at hx
    have l4 := tl (rgn Tryd.f15 4)
    conv at l4 => rhs; simp only [rgn, opsAt, codeOf, Tryd.f15, gS, gN, reduceIte, Nat.reduceEqDiff, tA]
    simp (decide := true) only [↓execG_seq, ↓g_plain, ↓execG_exit, ↓g_else, thenE_norm, thenE_exit, ↓r_nil, ↓r_cons, ↓o_move, ↓o_pickf, ↓o_binOp, ↓o_builtin, nextE_app, putK_app, putG_bool, normK_app, evalE_tmp, evalE_const, upd_some, bindO_ok, reduceIte, map_one, Bool.not_true, ↓reg_lit l4, ↓r_no _ 4 true 14 _ gd15_4_4, e0, e3, len_str, binA_lss, hlt]
    exact hx _ (by simp (decide := true) only [upd_some, reduceIte, e0]) (by simp (decide := true) only [upd_some, reduceIte, e3]; rfl)
  | n + 1, i, m + 1, hn, hm, E, e0, e3, hx => by
    rw [loopE_succ]
    have hi : i < s.length := by omega
    have hlt : decide ((i : Int) < (s.length : Int)) = true := decide_eq_true (by omega)
    have hix := idx_str (s := s) hi
    have w : IntKind.i64.wrap ((i : Int) + 1) = ((i + 1 : Nat) : Int) := by rw [wrap_i64 (by omega) (by omega)]; omega
    rw [List.drop_eq_getElem_cons hi, hd_cons] at hx
    have l4 := tl (rgn Tryd.f15 4)
    conv at l4 => rhs; simp only [rgn, opsAt, codeOf, Tryd.f15, gS, gN, reduceIte, Nat.reduceEqDiff, tA]
    have l5 := tl (rgn Tryd.f15 5)
    conv at l5 => rhs; simp only [rgn, opsAt, codeOf, Tryd.f15, gS, gN, reduceIte, Nat.reduceEqDiff, tA]
    by_cases c : s[i] = 46
    · have z : ((s[i].toNat : Int) != 46) = false := by rw [c]; rfl
      rw [if_pos c] at hx
      simp (decide := true) only [↓execG_seq, ↓g_plain, ↓execG_exit, ↓g_else, thenE_norm, thenE_exit, ↓r_nil, ↓r_cons, ↓o_move, ↓o_pickt, ↓o_binOp, ↓o_index, ↓o_builtin, nextE_app, putK_app, putO_app, putG_bool, normK_app, evalE_tmp, evalE_const, upd_some, bindO_ok, reduceIte, map_one, ↓reg_lit l4, ↓r_yes _ 4 true 14 _ gd15_4_4, e0, e3, len_str, binA_lss, hlt, hix, binA_neq, z]
      exact hx _ (by simp (decide := true) only [upd_some, reduceIte, e0]) (by simp (decide := true) only [upd_some, reduceIte, e3]; rfl)
    · have z : ((s[i].toNat : Int) != 46) = true := by
        have := toNat_eq s[i] 46
        have e : ((46 : UInt8).toNat : Int) = 46 := rfl
        rw [e] at this
        simp only [bne, this, decide_eq_false c, Bool.not_false]
      rw [if_neg c] at hx
      simp (decide := true) only [↓execG_seq, ↓g_plain, ↓execG_block, ↓execG_skip, ↓g_if, thenE_norm, leaveB_norm, ↓r_nil, ↓r_cons, ↓o_move, ↓o_assign, ↓o_pickt, ↓o_binOp, ↓o_index, ↓o_builtin, nextE_app, putK_app, putO_app, putG_bool, putG_int, normK_app, evalE_tmp, evalE_const, upd_some, bindO_ok, reduceIte, map_one, ↓reg_lit l4, ↓reg_lit l5, ↓r_yes _ 4 true 14 _ gd15_4_4, e0, e3, len_str, binA_lss, hlt, hix, binA_neq, z, binA_add, w]
      exact nm_dot hsm n (i + 1) m (by omega) (by omega) (by simp (decide := true) only [upd_some, reduceIte, e0]) (by simp (decide := true) only [upd_some, reduceIte, e3]) fun E' q0 q3 => hx E' q0 (by rw [q3, show i + 1 + (hd1 (s.drop (i + 1))).length = i + ((hd1 (s.drop (i + 1))).length + 1) by omega])
theorem nm_in {v3 : Value} (hsm : s.length < 9223372036854775807) : ∀ (n i m : Nat) (_ : i + n = s.length) (_ : n < m) {E : Env} (_ : E 0 = .string ⟨⟨s⟩⟩) (_ : E 3 = v3) (_ : E 4 = .int .i64 (i : Int))
    (_ : ∀ E', E' 0 = .string ⟨⟨s⟩⟩ → E' 3 = v3 → E' 4 = .int .i64 ((i + (hd1 (s.drop i)).length : Nat) : Int) → Q (k (.exit 4) E' [] H)), Q (loopE (execG PP XX K N prN (.seq (.seq (.region 10 (rgn Tryd.f15 10) false) (.cond (.tmp 42) (.skip) (.exit 4))) (.block 5 (.region 11 (rgn Tryd.f15 11) false))) none) m E [] H k)
  | 0, i, m + 1, hn, hm, E, e0, e3, e4, hx => by
    rw [loopE_succ]
    have hlt : decide ((i : Int) < (s.length : Int)) = false := decide_eq_false (by omega)
    have hz : (hd1 (s.drop i)).length = 0 := by rw [List.drop_eq_nil_of_le (by omega)]; rfl
    rw [hz] at hx
    have l10 := tl (rgn Tryd.f15 10)
    conv at l10 => rhs; simp only [rgn, opsAt, codeOf, Tryd.f15, gS, gN, reduceIte, Nat.reduceEqDiff, tA]
    simp (decide := true) only [↓execG_seq, ↓g_plain, ↓execG_exit, ↓g_else, thenE_norm, thenE_exit, ↓r_nil, ↓r_cons, ↓o_move, ↓o_pickf, ↓o_binOp, ↓o_builtin, nextE_app, putK_app, putG_bool, normK_app, evalE_tmp, evalE_const, upd_some, bindO_ok, reduceIte, map_one, Bool.not_true, ↓reg_lit l10, ↓r_no _ 4 true 37 _ gd15_10_4, e0, e4, len_str, binA_lss, hlt]
    exact hx _ (by simp (decide := true) only [upd_some, reduceIte, e0]) (by simp (decide := true) only [upd_some, reduceIte, e3]) (by simp (decide := true) only [upd_some, reduceIte, e4]; rfl)
  | n + 1, i, m + 1, hn, hm, E, e0, e3, e4, hx => by
    rw [loopE_succ]
    have hi : i < s.length := by omega
    have hlt : decide ((i : Int) < (s.length : Int)) = true := decide_eq_true (by omega)
    have hix := idx_str (s := s) hi
    have w : IntKind.i64.wrap ((i : Int) + 1) = ((i + 1 : Nat) : Int) := by rw [wrap_i64 (by omega) (by omega)]; omega
    rw [List.drop_eq_getElem_cons hi, hd_cons] at hx
    have l10 := tl (rgn Tryd.f15 10)
    conv at l10 => rhs; simp only [rgn, opsAt, codeOf, Tryd.f15, gS, gN, reduceIte, Nat.reduceEqDiff, tA]
    have l11 := tl (rgn Tryd.f15 11)
    conv at l11 => rhs; simp only [rgn, opsAt, codeOf, Tryd.f15, gS, gN, reduceIte, Nat.reduceEqDiff, tA]
    by_cases c : s[i] = 46
    · have z : ((s[i].toNat : Int) != 46) = false := by rw [c]; rfl
      rw [if_pos c] at hx
      simp (decide := true) only [↓execG_seq, ↓g_plain, ↓execG_exit, ↓g_else, thenE_norm, thenE_exit, ↓r_nil, ↓r_cons, ↓o_move, ↓o_pickt, ↓o_binOp, ↓o_index, ↓o_builtin, nextE_app, putK_app, putO_app, putG_bool, normK_app, evalE_tmp, evalE_const, upd_some, bindO_ok, reduceIte, map_one, ↓reg_lit l10, ↓r_yes _ 4 true 37 _ gd15_10_4, e0, e4, len_str, binA_lss, hlt, hix, binA_neq, z]
      exact hx _ (by simp (decide := true) only [upd_some, reduceIte, e0]) (by simp (decide := true) only [upd_some, reduceIte, e3]) (by simp (decide := true) only [upd_some, reduceIte, e4]; rfl)
    · have z : ((s[i].toNat : Int) != 46) = true := by
        have := toNat_eq s[i] 46
        have e : ((46 : UInt8).toNat : Int) = 46 := rfl
        rw [e] at this
        simp only [bne, this, decide_eq_false c, Bool.not_false]
      rw [if_neg c] at hx
      simp (decide := true) only [↓execG_seq, ↓g_plain, ↓execG_block, ↓execG_skip, ↓g_if, thenE_norm, leaveB_norm, ↓r_nil, ↓r_cons, ↓o_move, ↓o_assign, ↓o_pickt, ↓o_binOp, ↓o_index, ↓o_builtin, nextE_app, putK_app, putO_app, putG_bool, putG_int, normK_app, evalE_tmp, evalE_const, upd_some, bindO_ok, reduceIte, map_one, ↓reg_lit l10, ↓reg_lit l11, ↓r_yes _ 4 true 37 _ gd15_10_4, e0, e4, len_str, binA_lss, hlt, hix, binA_neq, z, binA_add, w]
      exact nm_in hsm n (i + 1) m (by omega) (by omega) (by simp (decide := true) only [upd_some, reduceIte, e0]) (by simp (decide := true) only [upd_some, reduceIte, e3]) (by simp (decide := true) only [upd_some, reduceIte, e4]) fun E' q0 q3 q4 => hx E' q0 q3 (by rw [q4, show i + 1 + (hd1 (s.drop (i + 1))).length = i + ((hd1 (s.drop (i + 1))).length + 1) by omega])
end
section
variable {N : Nat} {hk : Hook} {d : Nat} {s : List UInt8} {H0 : Heap} {Q : R → Prop} {k : KOE}
set_option maxRecDepth 100000 in
set_option maxHeartbeats 4000000 in
theorem nm_out (K : HkR hk) (hG : Ext GE H0) (hsm : s.length ≤ 64) (hN : 200 < N) : ∀ (n i m : Nat) (_ : i ≤ s.length) (_ : s.length ≤ i + n) (_ : n < m) (_ : s.drop i = [] ∨ ∃ r, s.drop i = 46 :: r) {E : Env} {H : Heap} (_ : E 0 = .string ⟨⟨s⟩⟩) (_ : E 3 = .int .i64 (i : Int)) (_ : Ext H0 H)
    (_ : (rest (s.drop i)).all canonB = true → ∀ E' H', Ext H0 H' → Q (k (.exit 2) E' [] H')) (_ : (rest (s.drop i)).all canonB = false → ∀ E' H', E' 2 = .bool false → Ext H0 H' → Q (k .ret E' [] H')), Q (loopE (execG PP XX (CG N hk (d + 3)) N prN (.seq (.seq (.region 8 (rgn Tryd.f15 8) false) (.cond (.tmp 30) (.skip) (.exit 2))) (.block 3 (.seq (.region 9 (rgn Tryd.f15 9) false) (.seq (.block 4 (.loop (.seq (.seq (.region 10 (rgn Tryd.f15 10) false) (.cond (.tmp 42) (.skip) (.exit 4))) (.block 5 (.region 11 (rgn Tryd.f15 11) false))))) (.seq (.region 12 (rgn Tryd.f15 12) false) (.seq (.seq (.region 13 (rgn Tryd.f15 13) true) (.cond (.tmp 66) (.seq (.region 14 (rgn Tryd.f15 14) false) (.ret)) (.skip))) (.region 15 (rgn Tryd.f15 15) false))))))) none) m E [] H k)
  | n, i, m + 1, hi, hn, hm, hdr, E, H, e0, e3, hE, h1, h2 => by
    rw [loopE_succ]
    by_cases hlt' : i < s.length
    · obtain ⟨g, rfl⟩ : ∃ g, n = g + 1 := ⟨n - 1, by omega⟩
      have hlt : decide ((i : Int) < (s.length : Int)) = true := decide_eq_true (by omega)
      have hd : s.drop i = 46 :: s.drop (i + 1) := by
        have hc := List.drop_eq_getElem_cons hlt'
        rcases hdr with q | ⟨r, q⟩
        · rw [q] at hc; cases hc
        · rw [q] at hc
          simp only [List.cons.injEq] at hc
          rw [q, hc.2]
      rw [hd, rest_dot, List.all_cons] at h1 h2
      generalize hr : s.drop (i + 1) = r at h1 h2
      have hrl : r.length = s.length - (i + 1) := by rw [← hr, List.length_drop]
      have hle := hd_le r
      have w : IntKind.i64.wrap ((i : Int) + 1) = ((i + 1 : Nat) : Int) := by rw [wrap_i64 (by omega) (by omega)]; omega
      have hsl := sl_str (s := s) (i := i + 1) (j := i + 1 + (hd1 r).length) (by omega) (by omega) H
      have hp : (s.take (i + 1 + (hd1 r).length)).drop (i + 1) = hd1 r := by
        rw [List.drop_take, hr, Nat.add_sub_cancel_left]; exact (hd_take r).symm
      rw [hp] at hsl
      have hdn : s.drop (i + 1 + (hd1 r).length) = tl1 r := by rw [← List.drop_drop, hr]; exact (tl_drop r).symm
      have hinv : s.drop (i + 1 + (hd1 r).length) = [] ∨ ∃ r', s.drop (i + 1 + (hd1 r).length) = 46 :: r' := by rw [hdn]; exact tl1_cases r
      have hrest : rest (s.drop (i + 1 + (hd1 r).length)) = rest r := by rw [hdn]; exact rest_tl r
      have l8 := tl (rgn Tryd.f15 8)
      conv at l8 => rhs; simp only [rgn, opsAt, codeOf, Tryd.f15, gS, gN, reduceIte, Nat.reduceEqDiff, tA]
      have l9 := tl (rgn Tryd.f15 9)
      conv at l9 => rhs; simp only [rgn, opsAt, codeOf, Tryd.f15, gS, gN, reduceIte, Nat.reduceEqDiff, tA]
      have l12 := tl (rgn Tryd.f15 12)
      conv at l12 => rhs; simp only [rgn, opsAt, codeOf, Tryd.f15, gS, gN, reduceIte, Nat.reduceEqDiff, tA]
      have l13 := tl (rgn Tryd.f15 13)
      conv at l13 => rhs; simp only [rgn, opsAt, codeOf, Tryd.f15, gS, gN, reduceIte, Nat.reduceEqDiff, tA]
      have l14 := tl (rgn Tryd.f15 14)
      conv at l14 => rhs; simp only [rgn, opsAt, codeOf, Tryd.f15, gS, gN, reduceIte, Nat.reduceEqDiff, tA]
      have l15 := tl (rgn Tryd.f15 15)
      conv at l15 => rhs; simp only [rgn, opsAt, codeOf, Tryd.f15, gS, gN, reduceIte, Nat.reduceEqDiff, tA]
      simp (decide := true) only [↓execG_seq, ↓g_plain, ↓execG_block, ↓execG_skip, ↓g_if, thenE_norm, ↓r_nil, ↓r_cons, ↓o_move, ↓o_assign, ↓o_binOp, ↓o_builtin, nextE_app, putK_app, putG_bool, putG_int, normK_app, evalE_tmp, evalE_const, upd_some, bindO_ok, reduceIte, map_one, ↓reg_lit l8, ↓reg_lit l9, e0, e3, len_str, binA_lss, hlt, binA_add, w, ↓execG_loop]
      refine nm_in (s := s) (v3 := .int .i64 (i : Int)) (by omega) (s.length - (i + 1)) (i + 1) N (by omega) (by omega) (by simp (decide := true) only [upd_some, reduceIte, e0]) (by simp (decide := true) only [upd_some, reduceIte, e3]) (by simp (decide := true) only [upd_some, reduceIte]) fun E1 a0 a3 a4 => ?_
      rw [hr] at a4
      cases hc : canonB (hd1 r) with
      | true =>
        obtain ⟨u, hu, hpu⟩ := canon_of hc
        rw [hc, Bool.true_and] at h1 h2
        have hm64 : m64 = 18446744073709551616 := by decide
        obtain ⟨ii, iw, i3⟩ := dec_int (u := u) (by omega)
        rw [← hpu] at ii iw i3
        have hcall := call_rint (N := N) (hk := hk) (d := d + 1) (H := H) (r := hd1 r) K (hG.trans hE) (by omega) (by omega) iw i3
        rw [ii] at hcall
        have hcall : CG N hk (d + 3) 34 #[.string ⟨⟨hd1 r⟩⟩] H = some (.ret (.tuple #[.int .u64 (u : Int), .int .i64 (-1)]), H) := hcall
        obtain ⟨v, H2, x2, br, hnum⟩ := call_rnum (N := N) (hk := hk) (d := d + 2) (n := u) (H := H) K.nil (hG.trans hE) hu (by omega)
        rw [← hpu] at br
        have hnum : CG N hk (d + 3) 20 #[.int .u64 (u : Int)] H = some (.ret v, H2) := hnum
        have hcv := conv_row br
        have hsl2 := sl_str (s := s) (i := i + 1) (j := i + 1 + (hd1 r).length) (by omega) (by omega) H2
        rw [hp] at hsl2
        have q0 : ∀ (x y : Value), extractA (.tuple #[x, y]) 0 = some x := fun _ _ => rfl
        have q1 : ∀ (x y : Value), extractA (.tuple #[x, y]) 1 = some y := fun _ _ => rfl
        have he : decide (hd1 r = hd1 r) = true := decide_eq_true rfl
        simp (decide := true) only [↓g_plain, chkK_open, ↓trg_lit l13, ↓t_nil, ↓t_cons, nextT_app, prN, ↓execG_seq, thenE_norm, g_leave, ↓r_nil, ↓r_cons, ↓o_move, ↓o_assign, ↓o_pickf, ↓o_binOp, ↓o_convert, ↓o_slice, ↓o_extract, ↓o_callf, nextE_app, putK_app, putO_app, putG_bool, putG_int, normK_app, evalE_tmp, evalE_const, upd_some, bindO_ok, bindV_ok, reduceIte, map_one, Bool.not_true, ↓reg_lit l12, ↓t_yes _ 2 false 56 _ gd15_13_2, q0, q1, a0, a3, a4, binA_add, w, ↓Option.map_some, ↓Option.map_none, hsl, hsl2, callK_fn Tryd.func34 rfl rfl hcall, binA_geq, dF, callK_fn Tryd.func20 rfl rfl hnum, ↓hcv, binA_neqL, dT]
        rw [chkK_ok (by simp (decide := true) only [List.nil_append, List.cons_append, List.all_cons, List.all_nil, pairChkE, l13, List.getElem?_cons_zero, List.getElem?_cons_succ, guardBE, qval, opK, evalE_tmp, upd_some, reduceIte, bindO_ok, Bool.and_true, Bool.and_self, gd15_13_2, hsl, hsl2, ↓Option.map_some, ↓Option.map_none, veq_string])]
        simp (decide := true) only [↓g_plain, ↓execG_skip, ↓g_else, thenE_norm, leaveB_norm, ↓r_nil, ↓r_cons, ↓o_move, ↓o_assign, nextE_app, normK_app, evalE_tmp, upd_some, reduceIte, ↓reg_lit l15, a4]
        refine nm_out K hG hsm hN g (i + 1 + (hd1 r).length) m (by omega) (by omega) (by omega) hinv (by simp (decide := true) only [upd_some, reduceIte, a0]) (by simp (decide := true) only [upd_some, reduceIte]) (hE.trans x2) ?_ ?_
        · rw [hrest]; exact h1
        · rw [hrest]; exact h2
      | false =>
        rw [hc, Bool.false_and] at h2
        obtain ⟨z, b, hz0, hz1, hcall⟩ := call_rintw (N := N) (hk := hk) (d := d + 1) (H := H) (r := hd1 r) K (hG.trans hE) (by omega) (by omega)
        obtain ⟨u, rfl⟩ : ∃ u : Nat, z = (u : Int) := ⟨z.toNat, by omega⟩
        have hcall : CG N hk (d + 3) 34 #[.string ⟨⟨hd1 r⟩⟩] H = some (.ret (.tuple #[.int .u64 (u : Int), .int .i64 b]), H) := hcall
        have q0 : ∀ (x y : Value), extractA (.tuple #[x, y]) 0 = some x := fun _ _ => rfl
        have q1 : ∀ (x y : Value), extractA (.tuple #[x, y]) 1 = some y := fun _ _ => rfl
        by_cases hb : b ≥ 0
        · have gb : decide (b ≥ 0) = true := decide_eq_true hb
          simp (decide := true) only [↓g_plain, chkK_open, ↓trg_lit l13, ↓t_nil, ↓t_cons, nextT_app, prN, ↓execG_seq, thenE_norm, g_leave, ↓r_nil, ↓r_cons, ↓o_move, ↓o_assign, ↓o_pickt, ↓o_binOp, ↓o_slice, ↓o_extract, ↓o_callf, nextE_app, putK_app, putO_app, putG_bool, putG_int, normK_app, evalE_tmp, evalE_const, upd_some, bindO_ok, reduceIte, map_one, Bool.not_false, ↓reg_lit l12, ↓t_no _ 2 false 56 _ gd15_13_2, q0, q1, a0, a3, a4, binA_add, w, ↓Option.map_some, ↓Option.map_none, hsl, callK_fn Tryd.func34 rfl rfl hcall, binA_geq, gb]
          rw [chkK_ok (by simp (decide := true) only [List.nil_append, List.cons_append, List.all_cons, List.all_nil, pairChkE, l13, List.getElem?_cons_zero, List.getElem?_cons_succ, guardBE, qval, opK, upd_some, reduceIte, Bool.and_self, gd15_13_2])]
          simp (decide := true) only [↓g_plain, ↓execG_seq, ↓execG_ret, ↓g_if, thenE_norm, thenE_ret, leaveB_ret, ↓r_nil, ↓r_cons, ↓o_assign, nextE_app, normK_app, evalE_tmp, evalE_const, upd_some, reduceIte, ↓reg_lit l14]
          exact h2 rfl _ _ (by simp (decide := true) only [upd_some, reduceIte]) hE
        · have gb : decide (b ≥ 0) = false := decide_eq_false hb
          obtain ⟨v, H2, x2, br, hnum⟩ := call_rnum (N := N) (hk := hk) (d := d + 2) (n := u) (H := H) K.nil (hG.trans hE) (by omega) (by omega)
          have hnum : CG N hk (d + 3) 20 #[.int .u64 (u : Int)] H = some (.ret v, H2) := hnum
          have hcv := conv_row br
          have hsl2 := sl_str (s := s) (i := i + 1) (j := i + 1 + (hd1 r).length) (by omega) (by omega) H2
          rw [hp] at hsl2
          have he : decide (Lib.decDigits u = hd1 r) = false := decide_eq_false (canon_not hc (by omega))
          simp (decide := true) only [↓g_plain, chkK_open, ↓trg_lit l13, ↓t_nil, ↓t_cons, nextT_app, prN, ↓execG_seq, thenE_norm, g_leave, ↓r_nil, ↓r_cons, ↓o_move, ↓o_assign, ↓o_pickf, ↓o_binOp, ↓o_convert, ↓o_slice, ↓o_extract, ↓o_callf, nextE_app, putK_app, putO_app, putG_bool, putG_int, normK_app, evalE_tmp, evalE_const, upd_some, bindO_ok, bindV_ok, reduceIte, map_one, Bool.not_false, ↓reg_lit l12, ↓t_yes _ 2 false 56 _ gd15_13_2, q0, q1, a0, a3, a4, binA_add, w, ↓Option.map_some, ↓Option.map_none, hsl, hsl2, callK_fn Tryd.func34 rfl rfl hcall, binA_geq, gb, callK_fn Tryd.func20 rfl rfl hnum, ↓hcv, binA_neqL, he]
          rw [chkK_ok (by simp (decide := true) only [List.nil_append, List.cons_append, List.all_cons, List.all_nil, pairChkE, l13, List.getElem?_cons_zero, List.getElem?_cons_succ, guardBE, qval, opK, evalE_tmp, upd_some, reduceIte, bindO_ok, Bool.and_true, Bool.and_self, gd15_13_2, hsl, hsl2, ↓Option.map_some, ↓Option.map_none, veq_string])]
          simp (decide := true) only [↓g_plain, ↓execG_seq, ↓execG_ret, ↓g_if, thenE_norm, thenE_ret, leaveB_ret, ↓r_nil, ↓r_cons, ↓o_assign, nextE_app, normK_app, evalE_tmp, evalE_const, upd_some, reduceIte, ↓reg_lit l14]
          exact h2 rfl _ _ (by simp (decide := true) only [upd_some, reduceIte]) (hE.trans x2)
    · have hlt : decide ((i : Int) < (s.length : Int)) = false := decide_eq_false (by omega)
      have l8 := tl (rgn Tryd.f15 8)
      conv at l8 => rhs; simp only [rgn, opsAt, codeOf, Tryd.f15, gS, gN, reduceIte, Nat.reduceEqDiff, tA]
      simp (decide := true) only [↓execG_seq, ↓g_plain, ↓execG_exit, ↓g_else, thenE_norm, thenE_exit, ↓r_nil, ↓r_cons, ↓o_move, ↓o_binOp, ↓o_builtin, nextE_app, putK_app, putG_bool, normK_app, evalE_tmp, upd_some, bindO_ok, reduceIte, map_one, ↓reg_lit l8, e0, e3, len_str, binA_lss, hlt]
      exact h1 (by rw [List.drop_eq_nil_of_le (by omega)]; rfl) _ _ hE
end
theorem call_rnamed {N : Nat} {hk : Hook} {d : Nat} {s : List UInt8} {H : Heap} (K : HkR hk) (hG : Ext GE H) (hsm : s.length < 9223372036854775807) (hN : 200 < N) :
    ∃ H', Ext H H' ∧ CG N hk (d + 4) 15 #[.string ⟨⟨s⟩⟩] H = some (.ret (.bool (namedI s)), H') := by
  have main : ∃ R0 : R, CG N hk (d + 4) 15 #[.string ⟨⟨s⟩⟩] H = R0 ∧ ∃ H', Ext H H' ∧ R0 = some (.ret (.bool (namedI s)), H') := by
    refine ⟨_, callG_fn (K.nil _ _ _ rfl) Tryd.func15 (c := codeOf Tryd.f15) rfl rfl rfl (pr := prN) rfl, ?_⟩
    rw [code15]
    generalize hF : finE PP Tryd.f15 = F
    have self : Ext H H := ⟨Nat.le_refl _, fun _ _ h => h, hG.fresh⟩
    have l0 := tl (rgn Tryd.f15 0)
    conv at l0 => rhs; simp only [rgn, opsAt, codeOf, Tryd.f15, gS, gN, reduceIte, Nat.reduceEqDiff, tA]
    have l1 := tl (rgn Tryd.f15 1)
    conv at l1 => rhs; simp only [rgn, opsAt, codeOf, Tryd.f15, gS, gN, reduceIte, Nat.reduceEqDiff, tA]
    have l2 := tl (rgn Tryd.f15 2)
    conv at l2 => rhs; simp only [rgn, opsAt, codeOf, Tryd.f15, gS, gN, reduceIte, Nat.reduceEqDiff, tA]
    have l3 := tl (rgn Tryd.f15 3)
    conv at l3 => rhs; simp only [rgn, opsAt, codeOf, Tryd.f15, gS, gN, reduceIte, Nat.reduceEqDiff, tA]
    have l6 := tl (rgn Tryd.f15 6)
    conv at l6 => rhs; simp only [rgn, opsAt, codeOf, Tryd.f15, gS, gN, reduceIte, Nat.reduceEqDiff, tA]
    have l7 := tl (rgn Tryd.f15 7)
    conv at l7 => rhs; simp only [rgn, opsAt, codeOf, Tryd.f15, gS, gN, reduceIte, Nat.reduceEqDiff, tA]
    have l16 := tl (rgn Tryd.f15 16)
    conv at l16 => rhs; simp only [rgn, opsAt, codeOf, Tryd.f15, gS, gN, reduceIte, Nat.reduceEqDiff, tA]
    by_cases h64 : s.length ≤ 64
    · have g : decide ((s.length : Int) > 64) = false := decide_eq_false (by omega)
      simp (decide := true) only [↓execG_seq, ↓g_plain, ↓execG_block, ↓execG_skip, ↓g_else, thenE_norm, ↓r_nil, ↓r_cons, ↓o_move, ↓o_assign, ↓o_binOp, ↓o_builtin, nextE_app, putK_app, putG_bool, normK_app, evalE_tmp, evalE_const, upd_some, bindO_ok, reduceIte, map_one, startE_0, ↓reg_lit l0, ↓reg_lit l1, ↓reg_lit l3, len_str, binA_gtr, g, ↓execG_loop]
      refine nm_dot (s := s) (Q := fun r => ∃ H', Ext H H' ∧ r = some (.ret (.bool (namedI s)), H')) hsm s.length 0 N (by omega) (by omega) ?_ ?_ fun E1 a0 a3 => ?_
      · simp (decide := true) only [upd_some, reduceIte, startE_0]
      · simp (decide := true) only [upd_some, reduceIte]; rfl
      rw [List.drop_zero, Nat.zero_add] at a3
      have hl := hd_le s
      have hsl := sl_to (s := s) (j := (hd1 s).length) hl H
      rw [← hd_take] at hsl
      have hleg := call_rlegal (N := N) (hk := hk) (d := d) (H := H) (s := hd1 s) K hG (by omega) (by omega)
      cases hc : legalI (hd1 s) with
      | false =>
        rw [hc] at hleg
        have hn : namedI s = false := by unfold namedI; rw [hc, Bool.and_false]; rfl
        refine ⟨H, self, ?_⟩
        simp (decide := true) only [↓execG_seq, ↓g_plain, ↓execG_ret, ↓g_if, thenE_norm, thenE_ret, g_leave, ↓r_nil, ↓r_cons, ↓o_move, ↓o_assign, ↓o_unOp, ↓o_slice, ↓o_callf, nextE_app, putK_app, putO_app, putG_bool, normK_app, evalE_tmp, evalE_const, upd_some, bindO_ok, reduceIte, map_one, ↓reg_lit l6, ↓reg_lit l7, a0, a3, ↓Option.map_some, ↓Option.map_none, hsl, callK_fn Tryd.func13 rfl rfl hleg, not_f]
        rw [← hF, finE_ret (l := [.bool false]) (by simp (decide := true) [Tryd.f15, resE, upd_some])]
        rw [hn]; rfl
      | true =>
        rw [hc] at hleg
        have hn : namedI s = (rest s).all canonB := by unfold namedI; rw [hc, decide_eq_true h64]; rfl
        have hd0 : s.drop (hd1 s).length = tl1 s := (tl_drop s).symm
        simp (decide := true) only [↓execG_seq, ↓g_plain, ↓execG_block, ↓execG_skip, ↓g_else, thenE_norm, g_leave, ↓r_nil, ↓r_cons, ↓o_move, ↓o_unOp, ↓o_slice, ↓o_callf, nextE_app, putK_app, putO_app, putG_bool, normK_app, evalE_tmp, upd_some, bindO_ok, reduceIte, map_one, ↓reg_lit l6, a0, a3, ↓Option.map_some, ↓Option.map_none, hsl, callK_fn Tryd.func13 rfl rfl hleg, not_t, ↓execG_loop]
        refine nm_out (s := s) (H0 := H) (Q := fun r => ∃ H', Ext H H' ∧ r = some (.ret (.bool (namedI s)), H')) K hG h64 hN s.length (hd1 s).length N hl (by omega) (by omega) (by rw [hd0]; exact tl1_cases s) ?_ ?_ self (fun hf E' H' hE => ?_) (fun hf E' H' e2 hE => ?_)
        · simp (decide := true) only [upd_some, reduceIte, a0]
        · simp (decide := true) only [upd_some, reduceIte, a3]
        · rw [hd0, rest_tl] at hf
          refine ⟨H', hE, ?_⟩
          simp (decide := true) only [↓execG_seq, ↓g_plain, ↓execG_ret, thenE_norm, g_leave, ↓r_nil, ↓r_cons, ↓o_assign, nextE_app, normK_app, evalE_const, ↓reg_lit l16]
          rw [← hF, finE_ret (l := [.bool true]) (by simp (decide := true) [Tryd.f15, resE, upd_some])]
          rw [hn, hf]; rfl
        · rw [hd0, rest_tl] at hf
          refine ⟨H', hE, ?_⟩
          simp (decide := true) only [thenE_ret, leaveB_ret]
          rw [← hF, finE_ret (l := [.bool false]) (by simp (decide := true) [Tryd.f15, resE, e2])]
          rw [hn, hf]; rfl
    · have g : decide ((s.length : Int) > 64) = true := decide_eq_true (by omega)
      have hn : namedI s = false := by unfold namedI; rw [decide_eq_false h64]; rfl
      refine ⟨H, self, ?_⟩
      simp (decide := true) only [↓execG_seq, ↓g_plain, ↓execG_ret, ↓g_if, thenE_norm, thenE_ret, ↓r_nil, ↓r_cons, ↓o_move, ↓o_assign, ↓o_binOp, ↓o_builtin, nextE_app, putK_app, putG_bool, normK_app, evalE_tmp, evalE_const, upd_some, bindO_ok, reduceIte, map_one, startE_0, ↓reg_lit l0, ↓reg_lit l1, ↓reg_lit l2, len_str, binA_gtr, g]
      rw [← hF, finE_ret (l := [.bool false]) (by simp (decide := true) [Tryd.f15, resE, upd_some])]
      rw [hn]; rfl
  obtain ⟨R0, m1, H', m2, m3⟩ := main
  exact ⟨H', m2, m1.trans m3⟩
end Go.Am
