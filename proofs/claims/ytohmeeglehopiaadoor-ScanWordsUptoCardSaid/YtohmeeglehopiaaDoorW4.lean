/- The reference: an integer. -/
import Derived.Test.YtohmeeglehopiaaDoorW3
open Go.Proofs
namespace Go.Am
theorem r_un {P : Program} {X : Xf} {K : Kf} {A : Array Oper} {d : Option Tmp} {t : TypeId} {p : String} {af : Array Edge} {E : Env} {ds : List Deferred} {H : Heap} {k : KE} {kp : List PanicEntry → KE} (op : Op) (j : Nat) (w : Bool) (e : Tmp) (rest : List Oper) (hd : (A[j]?).bind (·.dst) = some e) (h : E e = undef) :
    execOpsE P X K A (⟨d, op, t, p, af, some (j, w)⟩ :: rest) E ds H k kp = execOpsE P X K A rest (upd E d undef) ds H k kp := by
  show guardE A _ E _ _ = _
  simp [guardE, hd, h, undef]
theorem sl_str {s : List UInt8} {i j : Nat} (h1 : i ≤ j) (h2 : j ≤ s.length) (H : Heap) : sliceOpA PP 9 (.string ⟨⟨s⟩⟩) (some (.int .i64 (i : Int))) (some (.int .i64 (j : Int))) none H = some (.string ⟨⟨(s.take j).drop i⟩⟩) := by
  have e : (⟨⟨s⟩⟩ : ByteArray).size = s.length := rfl
  simp only [sliceOpA, undStr, sliceS, e]
  rw [if_pos (by omega)]
  simp only [Int.toNat_natCast]
  congr 2
  apply ByteArray.ext
  apply Array.ext'
  simp [ByteArray.data_extract]
  rw [List.drop_take]
theorem idx_zero {s : List UInt8} (h : 0 < s.length) : indexA PP 9 (.string ⟨⟨s⟩⟩) (.int .i64 0) = some (.int .u8 ((s.getD 0 0).toNat : Int)) := by
  have := idx_str (s := s) (i := 0) h
  rw [show s.getD 0 0 = s[0] by simp [List.getD, h]]
  exact this
theorem isI_dig {s : List UInt8} {i : Nat} (hi : i < s.length) : isI s i 3 = digN s[i].toNat := by
  have := cls_dig s[i]
  rw [beq_iff_eq] at this
  rw [isI, clsI_of s hi, decide_eq_true hi, Bool.true_and, ← this]
  rw [Bool.eq_iff_iff]; simp
theorem quo1024 : IntKind.u64.wrap (Int.tdiv 18446744073709551615 1024) = 18014398509481983 := by decide
theorem quo1048576 : IntKind.u64.wrap (Int.tdiv 18446744073709551615 1048576) = 17592186044415 := by decide
theorem conv_iu (x : Int) (H : Heap) : convertA PP 3 27 (.int .i64 x) H = some (.int .u64 (IntKind.u64.wrap x), H) := by kernel_rfl
theorem idx_one {s : List UInt8} (h : 1 < s.length) : indexA PP 9 (.string ⟨⟨s⟩⟩) (.int .i64 1) = some (.int .u8 ((s.getD 1 0).toNat : Int)) := by
  have := idx_str (s := s) (i := 1) h
  rw [show s.getD 1 0 = s[1] by simp [List.getD, h]]
  exact this
def OutI (r : IR) (E' : Env) : Prop := match r with
  | .bad e => E' 2 = .int .u64 0 ∧ E' 3 = .int .i64 (e : Int)
  | .good n _ => E' 2 = .int .u64 (n : Int) ∧ E' 3 = .int .i64 (-1)
theorem endI_lt {r : List UInt8} {i n : Nat} (hw : ∀ j, j < r.length → isW r j = true) (hi : i < r.length) : endI r i n = .bad i := by rw [endI, hw i hi]; rfl
theorem isI_out {r : List UInt8} {i : Nat} {q : Int} (hi : ¬ i < r.length) : isI r i q = false := by simp [isI]; omega
theorem endI_ge {r : List UInt8} {i n : Nat} (hi : ¬ i < r.length) : endI r i n = .good n i := by rw [endI, isW, isI_out hi, isI_out hi]; rfl
theorem code34 : codeOf Tryd.f34 = .seq (.region 0 (rgn Tryd.f34 0) false) (.seq (.region 1 (rgn Tryd.f34 1) false) (.seq (.region 2 (rgn Tryd.f34 2) false) (.seq (.seq (.region 3 (rgn Tryd.f34 3) false) (.cond (.tmp 20) (.seq (.region 4 (rgn Tryd.f34 4) false) (.seq (.block 0 (.loop (.seq (.seq (.region 5 (rgn Tryd.f34 5) false) (.cond (.tmp 31) (.skip) (.exit 0))) (.block 1 (.seq (.seq (.region 6 (rgn Tryd.f34 6) false) (.cond (.tmp 33) (.seq (.region 7 (rgn Tryd.f34 7) false) (.ret)) (.skip))) (.seq (.region 8 (rgn Tryd.f34 8) false) (.region 9 (rgn Tryd.f34 9) false))))))) (.seq (.region 10 (rgn Tryd.f34 10) false) (.cond (.tmp 46) (.seq (.region 11 (rgn Tryd.f34 11) false) (.ret)) (.skip))))) (.seq (.block 2 (.loop (.seq (.seq (.region 12 (rgn Tryd.f34 12) false) (.cond (.tmp 56) (.skip) (.exit 2))) (.block 3 (.seq (.region 13 (rgn Tryd.f34 13) false) (.seq (.seq (.region 14 (rgn Tryd.f34 14) false) (.cond (.tmp 66) (.seq (.region 15 (rgn Tryd.f34 15) false) (.ret)) (.skip))) (.seq (.region 16 (rgn Tryd.f34 16) false) (.region 17 (rgn Tryd.f34 17) false)))))))) (.seq (.region 18 (rgn Tryd.f34 18) false) (.cond (.tmp 75) (.seq (.region 19 (rgn Tryd.f34 19) false) (.ret)) (.skip)))))) (.seq (.seq (.region 20 (rgn Tryd.f34 20) false) (.cond (.tmp 91) (.seq (.region 21 (rgn Tryd.f34 21) false) (.seq (.seq (.region 22 (rgn Tryd.f34 22) false) (.cond (.tmp 95) (.region 23 (rgn Tryd.f34 23) false) (.skip))) (.seq (.seq (.region 24 (rgn Tryd.f34 24) false) (.cond (.tmp 99) (.seq (.region 25 (rgn Tryd.f34 25) false) (.ret)) (.skip))) (.seq (.region 26 (rgn Tryd.f34 26) false) (.region 27 (rgn Tryd.f34 27) false))))) (.skip))) (.seq (.seq (.region 28 (rgn Tryd.f34 28) false) (.cond (.tmp 109) (.seq (.region 29 (rgn Tryd.f34 29) false) (.ret)) (.skip))) (.seq (.region 30 (rgn Tryd.f34 30) false) (.ret))))))) := by kernel_rfl
theorem gd34_3_3 : ((rgn Tryd.f34 3)[3]?).bind (·.dst) = some 11 := by kernel_rfl
theorem gd34_3_8 : ((rgn Tryd.f34 3)[8]?).bind (·.dst) = some 16 := by kernel_rfl
theorem gd34_5_4 : ((rgn Tryd.f34 5)[4]?).bind (·.dst) = some 25 := by kernel_rfl
theorem gd34_12_4 : ((rgn Tryd.f34 12)[4]?).bind (·.dst) = some 51 := by kernel_rfl
theorem gd34_20_4 : ((rgn Tryd.f34 20)[4]?).bind (·.dst) = some 80 := by kernel_rfl
theorem gd34_20_9 : ((rgn Tryd.f34 20)[9]?).bind (·.dst) = some 85 := by kernel_rfl

section
theorem ri_end {K : Kf} {N : Nat} {H : Heap} {r : List UInt8} {i n : Nat} {E : Env} {Q : R → Prop} {k : KOE} (e0 : E 0 = .string ⟨⟨r⟩⟩) (e4 : E 4 = .int .u64 (n : Int)) (e5 : E 5 = .int .i64 (i : Int)) (hsm : r.length < 9223372036854775000) (hi : i ≤ r.length) (hn : n < m64) (hw : ∀ j, j < r.length → isW r j = true) (hx : ∀ E', OutI (endI r i n) E' → Q (k .ret E' [] H)) : Q (execG PP XX K N noPr (.seq (.seq (.region 28 (rgn Tryd.f34 28) false) (.cond (.tmp 109) (.seq (.region 29 (rgn Tryd.f34 29) false) (.ret)) (.skip))) (.seq (.region 30 (rgn Tryd.f34 30) false) (.ret))) none E [] H k) := by
  have l28 := tl (rgn Tryd.f34 28)
  conv at l28 => rhs; simp only [rgn, opsAt, codeOf, Tryd.f34, gS, gN, reduceIte, Nat.reduceEqDiff, tA]
  have l29 := tl (rgn Tryd.f34 29)
  conv at l29 => rhs; simp only [rgn, opsAt, codeOf, Tryd.f34, gS, gN, reduceIte, Nat.reduceEqDiff, tA]
  have l30 := tl (rgn Tryd.f34 30)
  conv at l30 => rhs; simp only [rgn, opsAt, codeOf, Tryd.f34, gS, gN, reduceIte, Nat.reduceEqDiff, tA]
  by_cases h : i < r.length
  · have hlt : decide ((i : Int) < (r.length : Int)) = true := decide_eq_true (by omega)
    rw [endI_lt hw h] at hx
    simp (decide := true) only [↓execG_seq, ↓g_region, ↓execG_ret, ↓g_if, thenE_norm, thenE_ret, ↓r_nil, ↓r_cons, ↓o_move, ↓o_assign, ↓o_binOp, ↓o_builtin, nextE_app, putK_app, putG_bool, normK_app, evalE_tmp, evalE_const, upd_some, bindO_ok, reduceIte, map_one, ↓reg_lit l28, ↓reg_lit l29, e0, e5, len_str, binA_lss, hlt]
    exact hx _ ⟨by simp (decide := true) only [upd_some, reduceIte], by simp (decide := true) only [upd_some, reduceIte]⟩
  · have hlt : decide ((i : Int) < (r.length : Int)) = false := decide_eq_false (by omega)
    rw [endI_ge h] at hx
    simp (decide := true) only [↓execG_seq, ↓g_region, ↓execG_ret, ↓execG_skip, ↓g_else, thenE_norm, ↓r_nil, ↓r_cons, ↓o_move, ↓o_assign, ↓o_binOp, ↓o_builtin, nextE_app, putK_app, putG_bool, normK_app, evalE_tmp, evalE_const, upd_some, bindO_ok, reduceIte, map_one, ↓reg_lit l28, ↓reg_lit l30, e0, e4, e5, len_str, binA_lss, hlt]
    exact hx _ ⟨by simp (decide := true) only [upd_some, reduceIte], by simp (decide := true) only [upd_some, reduceIte]⟩
theorem ri_suf {K : Kf} {N : Nat} {H : Heap} {r : List UInt8} {i n : Nat} {E : Env} {Q : R → Prop} {k : KOE} (e0 : E 0 = .string ⟨⟨r⟩⟩) (e4 : E 4 = .int .u64 (n : Int)) (e5 : E 5 = .int .i64 (i : Int)) (hsm : r.length < 9223372036854775000) (hi : i ≤ r.length) (hn : n < m64) (hw : ∀ j, j < r.length → isW r j = true) (hx : ∀ E', OutI (sufI r i n) E' → Q (k .ret E' [] H)) : Q (execG PP XX K N noPr (.seq (.seq (.region 20 (rgn Tryd.f34 20) false) (.cond (.tmp 91) (.seq (.region 21 (rgn Tryd.f34 21) false) (.seq (.seq (.region 22 (rgn Tryd.f34 22) false) (.cond (.tmp 95) (.region 23 (rgn Tryd.f34 23) false) (.skip))) (.seq (.seq (.region 24 (rgn Tryd.f34 24) false) (.cond (.tmp 99) (.seq (.region 25 (rgn Tryd.f34 25) false) (.ret)) (.skip))) (.seq (.region 26 (rgn Tryd.f34 26) false) (.region 27 (rgn Tryd.f34 27) false))))) (.skip))) (.seq (.seq (.region 28 (rgn Tryd.f34 28) false) (.cond (.tmp 109) (.seq (.region 29 (rgn Tryd.f34 29) false) (.ret)) (.skip))) (.seq (.region 30 (rgn Tryd.f34 30) false) (.ret)))) none E [] H k) := by
  have hm : m64 = 18446744073709551616 := by decide
  have w : IntKind.i64.wrap ((i : Int) + 1) = ((i + 1 : Nat) : Int) := by rw [wrap_i64 (by omega) (by omega)]; omega
  have l20 := tl (rgn Tryd.f34 20)
  conv at l20 => rhs; simp only [rgn, opsAt, codeOf, Tryd.f34, gS, gN, reduceIte, Nat.reduceEqDiff, tA]
  have l21 := tl (rgn Tryd.f34 21)
  conv at l21 => rhs; simp only [rgn, opsAt, codeOf, Tryd.f34, gS, gN, reduceIte, Nat.reduceEqDiff, tA]
  have l22 := tl (rgn Tryd.f34 22)
  conv at l22 => rhs; simp only [rgn, opsAt, codeOf, Tryd.f34, gS, gN, reduceIte, Nat.reduceEqDiff, tA]
  have l23 := tl (rgn Tryd.f34 23)
  conv at l23 => rhs; simp only [rgn, opsAt, codeOf, Tryd.f34, gS, gN, reduceIte, Nat.reduceEqDiff, tA]
  have l24 := tl (rgn Tryd.f34 24)
  conv at l24 => rhs; simp only [rgn, opsAt, codeOf, Tryd.f34, gS, gN, reduceIte, Nat.reduceEqDiff, tA]
  have l25 := tl (rgn Tryd.f34 25)
  conv at l25 => rhs; simp only [rgn, opsAt, codeOf, Tryd.f34, gS, gN, reduceIte, Nat.reduceEqDiff, tA]
  have l26 := tl (rgn Tryd.f34 26)
  conv at l26 => rhs; simp only [rgn, opsAt, codeOf, Tryd.f34, gS, gN, reduceIte, Nat.reduceEqDiff, tA]
  have l27 := tl (rgn Tryd.f34 27)
  conv at l27 => rhs; simp only [rgn, opsAt, codeOf, Tryd.f34, gS, gN, reduceIte, Nat.reduceEqDiff, tA]
  by_cases h : i < r.length
  · have hlt : decide ((i : Int) < (r.length : Int)) = true := decide_eq_true (by omega)
    have hix := idx_str (s := r) h
    have hgd := clsI_of r h
    by_cases c75 : r[i] = 75
    · have h4 : isI r i 4 = true := by rw [isI, hgd, c75, decide_eq_true h]; decide +kernel
      rw [sufI, h4, if_pos rfl, hgd, if_neg (by rw [c75]; decide), if_pos c75] at hx
      have z75 : ((r[i].toNat : Int) == 75) = true := (toNat_eq r[i] 75).trans (by rw [c75]; rfl)
      have z77 : ((r[i].toNat : Int) == 77) = false := (toNat_eq r[i] 77).trans (by rw [c75]; rfl)
      rw [mulI] at hx
      by_cases ov : n * 1024 < m64
      · have hgt : decide ((n : Int) > 18014398509481983) = false := decide_eq_false (by omega)
        have wm : IntKind.u64.wrap ((n : Int) * 1024) = ((n * 1024 : Nat) : Int) := by rw [wrap_u64' (by omega) (by omega)]; omega
        rw [if_pos ov] at hx
        simp (decide := true) only [↓execG_seq, ↓g_region, ↓execG_skip, ↓g_if, ↓g_else, thenE_norm, ↓r_nil, ↓r_cons, ↓o_move, ↓o_assign, ↓o_pickt, ↓o_binOp, ↓o_index, ↓o_builtin, nextE_app, putK_app, putO_app, putG_bool, putG_int, normK_app, evalE_tmp, evalE_const, upd_some, bindO_ok, reduceIte, map_one, Bool.not_false, ↓reg_lit l20, ↓reg_lit l21, ↓reg_lit l22, ↓reg_lit l24, ↓reg_lit l26, ↓reg_lit l27, ↓r_yes _ 4 true 80 _ gd34_20_4, ↓r_no _ 9 false 85 _ gd34_20_9, e0, e4, e5, len_str, binA_lss, hlt, hix, binA_eql, z75, z77, binA_quo, quo1024, binA_gtr, hgt, binA_mul, wm, binA_add, w]
        refine ri_end (n := n * 1024) (i := i + 1) (by simp (decide := true) only [upd_some, reduceIte, e0]) (by simp (decide := true) only [upd_some, reduceIte, e4]) (by simp (decide := true) only [upd_some, reduceIte, e5]) hsm (by omega) ov hw hx
      · have hgt : decide ((n : Int) > 18014398509481983) = true := decide_eq_true (by omega)
        rw [if_neg ov] at hx
        simp (decide := true) only [↓execG_seq, ↓g_region, ↓execG_ret, ↓execG_skip, ↓g_if, ↓g_else, thenE_norm, thenE_ret, ↓r_nil, ↓r_cons, ↓o_move, ↓o_assign, ↓o_pickt, ↓o_binOp, ↓o_index, ↓o_builtin, nextE_app, putK_app, putO_app, putG_bool, putG_int, normK_app, evalE_tmp, evalE_const, upd_some, bindO_ok, reduceIte, map_one, Bool.not_false, ↓reg_lit l20, ↓reg_lit l21, ↓reg_lit l22, ↓reg_lit l24, ↓reg_lit l25, ↓r_yes _ 4 true 80 _ gd34_20_4, ↓r_no _ 9 false 85 _ gd34_20_9, e0, e4, e5, len_str, binA_lss, hlt, hix, binA_eql, z75, z77, binA_quo, quo1024, binA_gtr, hgt]
        exact hx _ ⟨by simp (decide := true) only [upd_some, reduceIte], by simp (decide := true) only [upd_some, reduceIte]⟩
    by_cases c77 : r[i] = 77
    · have h4 : isI r i 4 = true := by rw [isI, hgd, c77, decide_eq_true h]; decide +kernel
      rw [sufI, h4, if_pos rfl, hgd, if_pos c77] at hx
      have z75 : ((r[i].toNat : Int) == 75) = false := (toNat_eq r[i] 75).trans (by rw [c77]; rfl)
      have z77 : ((r[i].toNat : Int) == 77) = true := (toNat_eq r[i] 77).trans (by rw [c77]; rfl)
      rw [mulI] at hx
      by_cases ov : n * 1048576 < m64
      · have hgt : decide ((n : Int) > 17592186044415) = false := decide_eq_false (by omega)
        have wm : IntKind.u64.wrap ((n : Int) * 1048576) = ((n * 1048576 : Nat) : Int) := by rw [wrap_u64' (by omega) (by omega)]; omega
        rw [if_pos ov] at hx
        simp (decide := true) only [↓execG_seq, ↓g_region, ↓execG_skip, ↓g_if, ↓g_else, thenE_norm, ↓r_nil, ↓r_cons, ↓o_move, ↓o_assign, ↓o_pickt, ↓o_pickf, ↓o_binOp, ↓o_index, ↓o_builtin, nextE_app, putK_app, putO_app, putG_bool, putG_int, normK_app, evalE_tmp, evalE_const, upd_some, bindO_ok, reduceIte, map_one, ↓reg_lit l20, ↓reg_lit l21, ↓reg_lit l22, ↓reg_lit l23, ↓reg_lit l24, ↓reg_lit l26, ↓reg_lit l27, ↓r_yes _ 4 true 80 _ gd34_20_4, ↓r_yes _ 9 false 85 _ gd34_20_9, e0, e4, e5, len_str, binA_lss, hlt, hix, binA_eql, z75, z77, binA_quo, quo1048576, binA_gtr, hgt, binA_mul, wm, binA_add, w]
        refine ri_end (n := n * 1048576) (i := i + 1) (by simp (decide := true) only [upd_some, reduceIte, e0]) (by simp (decide := true) only [upd_some, reduceIte, e4]) (by simp (decide := true) only [upd_some, reduceIte, e5]) hsm (by omega) ov hw hx
      · have hgt : decide ((n : Int) > 17592186044415) = true := decide_eq_true (by omega)
        rw [if_neg ov] at hx
        simp (decide := true) only [↓execG_seq, ↓g_region, ↓execG_ret, ↓g_if, thenE_norm, thenE_ret, ↓r_nil, ↓r_cons, ↓o_move, ↓o_assign, ↓o_pickt, ↓o_pickf, ↓o_binOp, ↓o_index, ↓o_builtin, nextE_app, putK_app, putO_app, putG_bool, putG_int, normK_app, evalE_tmp, evalE_const, upd_some, bindO_ok, reduceIte, map_one, ↓reg_lit l20, ↓reg_lit l21, ↓reg_lit l22, ↓reg_lit l23, ↓reg_lit l24, ↓reg_lit l25, ↓r_yes _ 4 true 80 _ gd34_20_4, ↓r_yes _ 9 false 85 _ gd34_20_9, e0, e4, e5, len_str, binA_lss, hlt, hix, binA_eql, z75, z77, binA_quo, quo1048576, binA_gtr, hgt]
        exact hx _ ⟨by simp (decide := true) only [upd_some, reduceIte], by simp (decide := true) only [upd_some, reduceIte]⟩
    have hs : sufI r i n = .bad i := by
      rw [sufI, hgd, if_neg c77, if_neg c75, endI_lt hw h]; split <;> rfl
    have he : endI r i n = .bad i := endI_lt hw h
    rw [hs, ← he] at hx
    have z75 : ((r[i].toNat : Int) == 75) = false := (toNat_eq r[i] 75).trans (decide_eq_false c75)
    have z77 : ((r[i].toNat : Int) == 77) = false := (toNat_eq r[i] 77).trans (decide_eq_false c77)
    simp (decide := true) only [↓execG_seq, ↓g_region, ↓execG_skip, ↓g_else, thenE_norm, ↓r_nil, ↓r_cons, ↓o_move, ↓o_pickt, ↓o_pickf, ↓o_binOp, ↓o_index, ↓o_builtin, nextE_app, putK_app, putO_app, putG_bool, normK_app, evalE_tmp, evalE_const, upd_some, bindO_ok, reduceIte, map_one, ↓reg_lit l20, ↓r_yes _ 4 true 80 _ gd34_20_4, ↓r_yes _ 9 false 85 _ gd34_20_9, e0, e5, len_str, binA_lss, hlt, hix, binA_eql, z75, z77]
    refine ri_end (n := n) (i := i) (by simp (decide := true) only [upd_some, reduceIte, e0]) (by simp (decide := true) only [upd_some, reduceIte, e4]) (by simp (decide := true) only [upd_some, reduceIte, e5]) hsm (by omega) hn hw hx
  · have hlt : decide ((i : Int) < (r.length : Int)) = false := decide_eq_false (by omega)
    have hs : sufI r i n = endI r i n := by rw [sufI, isI_out h]; rfl
    rw [hs] at hx
    simp (decide := true) only [↓execG_seq, ↓g_region, ↓execG_skip, ↓g_else, thenE_norm, ↓r_nil, ↓r_cons, ↓o_move, ↓o_pickf, ↓o_binOp, ↓o_builtin, nextE_app, putK_app, putG_bool, normK_app, evalE_tmp, evalE_const, upd_some, bindO_ok, reduceIte, map_one, Bool.not_true, ↓reg_lit l20, ↓r_no _ 4 true 80 _ gd34_20_4, ↓r_un _ 9 false 85 _ gd34_20_9, e0, e5, len_str, binA_lss, hlt]
    refine ri_end (n := n) (i := i) (by simp (decide := true) only [upd_some, reduceIte, e0]) (by simp (decide := true) only [upd_some, reduceIte, e4]) (by simp (decide := true) only [upd_some, reduceIte, e5]) hsm (by omega) hn hw hx
end
section
variable {N : Nat} {hk : Hook} {d : Nat} {H : Heap} {r : List UInt8} {Q : R → Prop} {k : KOE}
theorem ri_dec (K : HkR hk) (hG : Ext GE H) (hsm : r.length < 9223372036854775000) :
    ∀ (f i n m : Nat) (_ : i + f = r.length) (_ : f < m) (_ : n < m64) {E : Env} (_ : E 0 = .string ⟨⟨r⟩⟩) (_ : E 4 = .int .u64 (n : Int)) (_ : E 5 = .int .i64 (i : Int))
      (_ : ∀ e E', decI r f i n = .bad e → E' 2 = .int .u64 0 → E' 3 = .int .i64 (e : Int) → Q (k .ret E' [] H))
      (_ : ∀ i' n' E', decI r f i n = sufI r i' n' → i ≤ i' → i' ≤ r.length → n' < m64 → (isI r i 3 = true → i < i') → E' 0 = .string ⟨⟨r⟩⟩ → E' 4 = .int .u64 (n' : Int) → E' 5 = .int .i64 (i' : Int) → Q (k (.exit 2) E' [] H)),
      Q (loopE (execG PP XX (CG N hk (d + 1)) N noPr (.seq (.seq (.region 12 (rgn Tryd.f34 12) false) (.cond (.tmp 56) (.skip) (.exit 2))) (.block 3 (.seq (.region 13 (rgn Tryd.f34 13) false) (.seq (.seq (.region 14 (rgn Tryd.f34 14) false) (.cond (.tmp 66) (.seq (.region 15 (rgn Tryd.f34 15) false) (.ret)) (.skip))) (.seq (.region 16 (rgn Tryd.f34 16) false) (.region 17 (rgn Tryd.f34 17) false)))))) none) m E [] H k)
  | 0, i, n, m + 1, hf, hm, hn, E, e0, e4, e5, hx, hy => by
    rw [loopE_succ]
    have hi : ¬ i < r.length := by omega
    have hlt : decide ((i : Int) < (r.length : Int)) = false := decide_eq_false (by omega)
    have l12 := tl (rgn Tryd.f34 12)
    conv at l12 => rhs; simp only [rgn, opsAt, codeOf, Tryd.f34, gS, gN, reduceIte, Nat.reduceEqDiff, tA]
    simp (decide := true) only [↓execG_seq, ↓g_region, ↓execG_exit, ↓g_else, thenE_norm, thenE_exit, ↓r_nil, ↓r_cons, ↓o_move, ↓o_pickf, ↓o_binOp, ↓o_builtin, nextE_app, putK_app, putG_bool, normK_app, evalE_tmp, evalE_const, upd_some, bindO_ok, reduceIte, map_one, Bool.not_true, ↓reg_lit l12, ↓r_no _ 4 true 51 _ gd34_12_4, e0, e5, len_str, binA_lss, hlt]
    exact hy i n _ rfl (Nat.le_refl _) (by omega) hn (fun h => by rw [isI_out hi] at h; cases h) (by simp (decide := true) only [upd_some, reduceIte, e0]) (by simp (decide := true) only [upd_some, reduceIte, e4]) (by simp (decide := true) only [upd_some, reduceIte, e5])
  | f + 1, i, n, m + 1, hf, hm, hn, E, e0, e4, e5, hx, hy => by
    rw [loopE_succ]
    have hi : i < r.length := by omega
    have hlt : decide ((i : Int) < (r.length : Int)) = true := decide_eq_true (by omega)
    have hix := idx_str (s := r) hi
    have hgd := clsI_of r hi
    have w : IntKind.i64.wrap ((i : Int) + 1) = ((i + 1 : Nat) : Int) := by rw [wrap_i64 (by omega) (by omega)]; omega
    have hd : CG N hk (d + 1) 44 #[.int .u8 (r[i].toNat : Int)] H = some (.ret (.bool (digN r[i].toNat)), H) := callG_hook (K.dig r[i] H hG)
    rw [← isI_dig hi] at hd
    have h64 : m64 = 18446744073709551616 := by decide
    have l12 := tl (rgn Tryd.f34 12)
    conv at l12 => rhs; simp only [rgn, opsAt, codeOf, Tryd.f34, gS, gN, reduceIte, Nat.reduceEqDiff, tA]
    have l13 := tl (rgn Tryd.f34 13)
    conv at l13 => rhs; simp only [rgn, opsAt, codeOf, Tryd.f34, gS, gN, reduceIte, Nat.reduceEqDiff, tA]
    have l14 := tl (rgn Tryd.f34 14)
    conv at l14 => rhs; simp only [rgn, opsAt, codeOf, Tryd.f34, gS, gN, reduceIte, Nat.reduceEqDiff, tA]
    have l15 := tl (rgn Tryd.f34 15)
    conv at l15 => rhs; simp only [rgn, opsAt, codeOf, Tryd.f34, gS, gN, reduceIte, Nat.reduceEqDiff, tA]
    have l16 := tl (rgn Tryd.f34 16)
    conv at l16 => rhs; simp only [rgn, opsAt, codeOf, Tryd.f34, gS, gN, reduceIte, Nat.reduceEqDiff, tA]
    have l17 := tl (rgn Tryd.f34 17)
    conv at l17 => rhs; simp only [rgn, opsAt, codeOf, Tryd.f34, gS, gN, reduceIte, Nat.reduceEqDiff, tA]
    cases h3 : isI r i 3 with
    | true =>
      rw [h3] at hd
      have hc : 48 ≤ r[i].toNat ∧ r[i].toNat ≤ 57 := by
        have := isI_dig hi
        rw [h3] at this
        simpa [digN] using this.symm
      have hdg : dg r[i] = r[i].toNat - 48 := rfl
      have wd : IntKind.u8.wrap ((r[i].toNat : Int) - 48) = ((dg r[i] : Nat) : Int) := by rw [wrap_u8' (by omega) (by omega)]; omega
      have wu : IntKind.u64.wrap ((dg r[i] : Nat) : Int) = ((dg r[i] : Nat) : Int) := wrap_u64' (by omega) (by omega)
      have ws : IntKind.u64.wrap (18446744073709551615 - ((dg r[i] : Nat) : Int)) = 18446744073709551615 - ((dg r[i] : Nat) : Int) := wrap_u64' (by omega) (by omega)
      have wq : IntKind.u64.wrap (Int.tdiv (18446744073709551615 - ((dg r[i] : Nat) : Int)) 10) = (18446744073709551615 - ((dg r[i] : Nat) : Int)) / 10 := by
        rw [Int.tdiv_eq_ediv_of_nonneg (by omega)]; exact wrap_u64' (by omega) (by omega)
      by_cases ov : n * 10 + dg r[i] < m64
      · have hgt : decide ((n : Int) > (18446744073709551615 - ((dg r[i] : Nat) : Int)) / 10) = false := decide_eq_false (by omega)
        have w1 : IntKind.u64.wrap (10 * (n : Int)) = ((n * 10 : Nat) : Int) := by rw [wrap_u64' (by omega) (by omega)]; omega
        have w2 : IntKind.u64.wrap (((n * 10 : Nat) : Int) + ((dg r[i] : Nat) : Int)) = ((n * 10 + dg r[i] : Nat) : Int) := by rw [wrap_u64' (by omega) (by omega)]; omega
        have e : decI r (f + 1) i n = decI r f (i + 1) (n * 10 + dg r[i]) := dec_ok h3 hgd ov
        rw [e] at hx hy
        simp (decide := true) only [↓execG_seq, ↓g_region, ↓execG_block, ↓execG_skip, ↓g_if, ↓g_else, thenE_norm, leaveB_norm, ↓r_nil, ↓r_cons, ↓o_move, ↓o_assign, ↓o_pickt, ↓o_binOp, ↓o_convert, ↓o_index, ↓o_builtin, ↓o_callf, nextE_app, putK_app, putO_app, putG_bool, putG_int, normK_app, evalE_tmp, evalE_const, upd_some, bindO_ok, bindV_ok, reduceIte, map_one, ↓reg_lit l12, ↓reg_lit l13, ↓reg_lit l14, ↓reg_lit l16, ↓reg_lit l17, ↓r_yes _ 4 true 51 _ gd34_12_4, e0, e4, e5, len_str, binA_lss, hlt, hix, callK_fn Tryd.func44 rfl rfl hd, binA_sub, wd, conv_u64, wu, ws, binA_quo, wq, binA_gtr, hgt, binA_mul, w1, binA_add, w2, w]
        refine ri_dec K hG hsm f (i + 1) (n * 10 + dg r[i]) m (by omega) (by omega) ov (by simp (decide := true) only [upd_some, reduceIte, e0]) (by simp (decide := true) only [upd_some, reduceIte, e4]) (by simp (decide := true) only [upd_some, reduceIte, e5]) hx fun i' n' E' q1 q2 q3 q4 _ => hy i' n' E' q1 (by omega) q3 q4 (fun _ => by omega)
      · have hgt : decide ((n : Int) > (18446744073709551615 - ((dg r[i] : Nat) : Int)) / 10) = true := decide_eq_true (by omega)
        have e : decI r (f + 1) i n = .bad i := dec_no h3 hgd ov
        simp (decide := true) only [↓execG_seq, ↓g_region, ↓execG_block, ↓execG_ret, ↓execG_skip, ↓g_if, thenE_norm, thenE_ret, leaveB_ret, ↓r_nil, ↓r_cons, ↓o_move, ↓o_assign, ↓o_pickt, ↓o_binOp, ↓o_convert, ↓o_index, ↓o_builtin, ↓o_callf, nextE_app, putK_app, putO_app, putG_bool, putG_int, normK_app, evalE_tmp, evalE_const, upd_some, bindO_ok, bindV_ok, reduceIte, map_one, ↓reg_lit l12, ↓reg_lit l13, ↓reg_lit l14, ↓reg_lit l15, ↓r_yes _ 4 true 51 _ gd34_12_4, e0, e4, e5, len_str, binA_lss, hlt, hix, callK_fn Tryd.func44 rfl rfl hd, binA_sub, wd, conv_u64, wu, ws, binA_quo, wq, binA_gtr, hgt]
        exact hx i _ e (by simp (decide := true) only [upd_some, reduceIte]) (by simp (decide := true) only [upd_some, reduceIte])
    | false =>
      rw [h3] at hd
      have e : decI r (f + 1) i n = sufI r i n := by rw [decI, h3]; rfl
      simp (decide := true) only [↓execG_seq, ↓g_region, ↓execG_exit, ↓g_else, thenE_norm, thenE_exit, ↓r_nil, ↓r_cons, ↓o_move, ↓o_pickt, ↓o_binOp, ↓o_index, ↓o_builtin, ↓o_callf, nextE_app, putK_app, putO_app, putG_bool, normK_app, evalE_tmp, upd_some, bindO_ok, reduceIte, map_one, ↓reg_lit l12, ↓r_yes _ 4 true 51 _ gd34_12_4, e0, e5, len_str, binA_lss, hlt, hix, callK_fn Tryd.func44 rfl rfl hd]
      exact hy i n _ e (Nat.le_refl _) (by omega) hn (fun h => by rw [h3] at h; cases h) (by simp (decide := true) only [upd_some, reduceIte, e0]) (by simp (decide := true) only [upd_some, reduceIte, e4]) (by simp (decide := true) only [upd_some, reduceIte, e5])
theorem rhN_hexT (u : UInt8) : (decide (hexT u.toNat < 16) == decide (rhN u.toNat ≥ 0) && (decide (rhN u.toNat < 0) || decide (hexT u.toNat = rhN u.toNat))) = true := each_byte (p := fun u => (decide (hexT u.toNat < 16) == decide (rhN u.toNat ≥ 0) && (decide (rhN u.toNat < 0) || decide (hexT u.toNat = rhN u.toNat)))) (by decide +kernel) u
theorem rhN_of {u : UInt8} (h : hexT u.toNat < 16) : rhN u.toNat = hexT u.toNat := by
  have := rhN_hexT u
  simp only [Bool.and_eq_true, beq_iff_eq, Bool.or_eq_true, decide_eq_true_eq] at this
  have h1 : rhN u.toNat ≥ 0 := by have := this.1; rw [decide_eq_true h] at this; exact of_decide_eq_true this.symm
  rcases this.2 with q | q
  · omega
  · exact q.symm
theorem rhN_no {u : UInt8} (h : ¬ hexT u.toNat < 16) : rhN u.toNat < 0 := by
  have := rhN_hexT u
  simp only [Bool.and_eq_true, beq_iff_eq] at this
  have h1 := this.1
  rw [decide_eq_false h] at h1
  have := of_decide_eq_false h1.symm
  omega
theorem ri_hex (K : HkR hk) (hG : Ext GE H) (hsm : r.length < 9223372036854775000) :
    ∀ (f i n m : Nat) (_ : i + f = r.length) (_ : f < m) (_ : n < m64) {E : Env} (_ : E 0 = .string ⟨⟨r⟩⟩) (_ : E 4 = .int .u64 (n : Int)) (_ : E 5 = .int .i64 (i : Int))
      (_ : ∀ e E', hexI r 2 f i n = .bad e → E' 2 = .int .u64 0 → E' 3 = .int .i64 (e : Int) → Q (k .ret E' [] H))
      (_ : ∀ i' n' E', hexI r 2 f i n = endH r 2 i' n' → i ≤ i' → i' ≤ r.length → n' < m64 → E' 0 = .string ⟨⟨r⟩⟩ → E' 4 = .int .u64 (n' : Int) → E' 5 = .int .i64 (i' : Int) → Q (k (.exit 0) E' [] H)),
      Q (loopE (execG PP XX (CG N hk (d + 1)) N noPr (.seq (.seq (.region 5 (rgn Tryd.f34 5) false) (.cond (.tmp 31) (.skip) (.exit 0))) (.block 1 (.seq (.seq (.region 6 (rgn Tryd.f34 6) false) (.cond (.tmp 33) (.seq (.region 7 (rgn Tryd.f34 7) false) (.ret)) (.skip))) (.seq (.region 8 (rgn Tryd.f34 8) false) (.region 9 (rgn Tryd.f34 9) false))))) none) m E [] H k)
  | 0, i, n, m + 1, hf, hm, hn, E, e0, e4, e5, hx, hy => by
    rw [loopE_succ]
    have hlt : decide ((i : Int) < (r.length : Int)) = false := decide_eq_false (by omega)
    have l5 := tl (rgn Tryd.f34 5)
    conv at l5 => rhs; simp only [rgn, opsAt, codeOf, Tryd.f34, gS, gN, reduceIte, Nat.reduceEqDiff, tA]
    simp (decide := true) only [↓execG_seq, ↓g_region, ↓execG_exit, ↓g_else, thenE_norm, thenE_exit, ↓r_nil, ↓r_cons, ↓o_move, ↓o_pickf, ↓o_binOp, ↓o_builtin, nextE_app, putK_app, putG_bool, normK_app, evalE_tmp, evalE_const, upd_some, bindO_ok, reduceIte, map_one, Bool.not_true, ↓reg_lit l5, ↓r_no _ 4 true 25 _ gd34_5_4, e0, e5, len_str, binA_lss, hlt]
    exact hy i n _ rfl (Nat.le_refl _) (by omega) hn (by simp (decide := true) only [upd_some, reduceIte, e0]) (by simp (decide := true) only [upd_some, reduceIte, e4]) (by simp (decide := true) only [upd_some, reduceIte, e5])
  | f + 1, i, n, m + 1, hf, hm, hn, E, e0, e4, e5, hx, hy => by
    rw [loopE_succ]
    have hi : i < r.length := by omega
    have hlt : decide ((i : Int) < (r.length : Int)) = true := decide_eq_true (by omega)
    have hix := idx_str (s := r) hi
    have hgd := clsI_of r hi
    have w : IntKind.i64.wrap ((i : Int) + 1) = ((i + 1 : Nat) : Int) := by rw [wrap_i64 (by omega) (by omega)]; omega
    have hd : CG N hk (d + 1) 50 #[.int .u8 (r[i].toNat : Int)] H = some (.ret (.int .i64 (rhN r[i].toNat)), H) := callG_hook (K.hex r[i] H hG)
    have h64 : m64 = 18446744073709551616 := by decide
    have l5 := tl (rgn Tryd.f34 5)
    conv at l5 => rhs; simp only [rgn, opsAt, codeOf, Tryd.f34, gS, gN, reduceIte, Nat.reduceEqDiff, tA]
    have l6 := tl (rgn Tryd.f34 6)
    conv at l6 => rhs; simp only [rgn, opsAt, codeOf, Tryd.f34, gS, gN, reduceIte, Nat.reduceEqDiff, tA]
    have l7 := tl (rgn Tryd.f34 7)
    conv at l7 => rhs; simp only [rgn, opsAt, codeOf, Tryd.f34, gS, gN, reduceIte, Nat.reduceEqDiff, tA]
    have l8 := tl (rgn Tryd.f34 8)
    conv at l8 => rhs; simp only [rgn, opsAt, codeOf, Tryd.f34, gS, gN, reduceIte, Nat.reduceEqDiff, tA]
    have l9 := tl (rgn Tryd.f34 9)
    conv at l9 => rhs; simp only [rgn, opsAt, codeOf, Tryd.f34, gS, gN, reduceIte, Nat.reduceEqDiff, tA]
    by_cases h16 : hexT r[i].toNat < 16
    · have hnn := hexT_nn r[i].toNat
      rw [rhN_of h16] at hd
      have hge : decide (hexT r[i].toNat ≥ 0) = true := decide_eq_true hnn
      have e : hexI r 2 (f + 1) i n = if n * 16 + (hexT r[i].toNat).toNat < m64 then hexI r 2 f (i + 1) (n * 16 + (hexT r[i].toNat).toNat) else .bad i := by rw [hexI, hgd, if_pos h16]
      rw [e] at hx hy
      generalize hexT r[i].toNat = g at *
      obtain ⟨g, rfl⟩ : ∃ q : Nat, g = (q : Int) := ⟨g.toNat, by omega⟩
      rw [Int.toNat_natCast] at hx hy
      by_cases ov : n * 16 + g < m64
      · have hgt : decide ((n : Int) > 1152921504606846975) = false := decide_eq_false (by omega)
        have w1 : IntKind.u64.wrap (16 * (n : Int)) = ((n * 16 : Nat) : Int) := by rw [wrap_u64' (by omega) (by omega)]; omega
        have wu : IntKind.u64.wrap ((g : Nat) : Int) = ((g : Nat) : Int) := wrap_u64' (by omega) (by omega)
        have w2 : IntKind.u64.wrap (((n * 16 : Nat) : Int) + ((g : Nat) : Int)) = ((n * 16 + g : Nat) : Int) := by rw [wrap_u64' (by omega) (by omega)]; omega
        rw [if_pos ov] at hx hy
        simp (decide := true) only [↓execG_seq, ↓g_region, ↓execG_block, ↓execG_skip, ↓g_if, ↓g_else, thenE_norm, leaveB_norm, ↓r_nil, ↓r_cons, ↓o_move, ↓o_assign, ↓o_pickt, ↓o_binOp, ↓o_convert, ↓o_index, ↓o_builtin, ↓o_callf, nextE_app, putK_app, putO_app, putG_bool, putG_int, normK_app, evalE_tmp, evalE_const, upd_some, bindO_ok, bindV_ok, reduceIte, map_one, ↓reg_lit l5, ↓reg_lit l6, ↓reg_lit l8, ↓reg_lit l9, ↓r_yes _ 4 true 25 _ gd34_5_4, e0, e4, e5, len_str, binA_lss, hlt, hix, callK_fn Tryd.func50 rfl rfl hd, binA_geq, hge, binA_gtr, hgt, conv_iu, wu, binA_mul, w1, binA_add, w2, w]
        refine ri_hex K hG hsm f (i + 1) (n * 16 + g) m (by omega) (by omega) ov (by simp (decide := true) only [upd_some, reduceIte, e0]) (by simp (decide := true) only [upd_some, reduceIte, e4]) (by simp (decide := true) only [upd_some, reduceIte, e5]) hx fun i' n' E' q1 q2 q3 q4 => hy i' n' E' q1 (by omega) q3 q4
      · have hgt : decide ((n : Int) > 1152921504606846975) = true := decide_eq_true (by omega)
        rw [if_neg ov] at hx
        simp (decide := true) only [↓execG_seq, ↓g_region, ↓execG_block, ↓execG_ret, ↓execG_skip, ↓g_if, thenE_norm, thenE_ret, leaveB_ret, ↓r_nil, ↓r_cons, ↓o_move, ↓o_assign, ↓o_pickt, ↓o_binOp, ↓o_index, ↓o_builtin, ↓o_callf, nextE_app, putK_app, putO_app, putG_bool, normK_app, evalE_tmp, evalE_const, upd_some, bindO_ok, reduceIte, map_one, ↓reg_lit l5, ↓reg_lit l6, ↓reg_lit l7, ↓r_yes _ 4 true 25 _ gd34_5_4, e0, e4, e5, len_str, binA_lss, hlt, hix, callK_fn Tryd.func50 rfl rfl hd, binA_geq, hge, binA_gtr, hgt]
        exact hx i _ rfl (by simp (decide := true) only [upd_some, reduceIte]) (by simp (decide := true) only [upd_some, reduceIte])
    · have e : hexI r 2 (f + 1) i n = endH r 2 i n := by rw [hexI, hgd, if_neg h16]
      have hge : decide (rhN r[i].toNat ≥ 0) = false := decide_eq_false (by have := rhN_no h16; omega)
      simp (decide := true) only [↓execG_seq, ↓g_region, ↓execG_exit, ↓g_else, thenE_norm, thenE_exit, ↓r_nil, ↓r_cons, ↓o_move, ↓o_pickt, ↓o_binOp, ↓o_index, ↓o_builtin, ↓o_callf, nextE_app, putK_app, putO_app, putG_bool, normK_app, evalE_tmp, evalE_const, upd_some, bindO_ok, reduceIte, map_one, ↓reg_lit l5, ↓r_yes _ 4 true 25 _ gd34_5_4, e0, e5, len_str, binA_lss, hlt, hix, callK_fn Tryd.func50 rfl rfl hd, binA_geq, hge]
      exact hy i n _ e (Nat.le_refl _) (by omega) hn (by simp (decide := true) only [upd_some, reduceIte, e0]) (by simp (decide := true) only [upd_some, reduceIte, e4]) (by simp (decide := true) only [upd_some, reduceIte, e5])
end
def intV : IR → Value
  | .bad e => .tuple #[.int .u64 0, .int .i64 (e : Int)]
  | .good n _ => .tuple #[.int .u64 (n : Int), .int .i64 (-1)]
/-- What the reference's 'Integer' answers of a run of word bytes that begins with a digit. -/
theorem call_rint {N : Nat} {hk : Hook} {d : Nat} {H : Heap} {r : List UInt8} (K : HkR hk) (hG : Ext GE H) (hsm : r.length < 9223372036854775000) (hN : r.length < N) (hw : ∀ j, j < r.length → isW r j = true) (h3 : isI r 0 3 = true) :
    CG N hk (d + 2) 34 #[.string ⟨⟨r⟩⟩] H = some (.ret (intV (intI r 0)), H) := by
  have h0 : 0 < r.length := isI_lt h3
  have fin : ∀ (R : IR) (E' : Env), OutI R E' → finE PP Tryd.f34 .ret E' [] H = some (.ret (intV R), H) := fun R E' h => by
    cases R with
    | bad e =>
      obtain ⟨a, b⟩ := h
      rw [finE_ret (l := [.int .u64 0, .int .i64 (e : Int)]) (by simp (decide := true) [Tryd.f34, resE, a, b])]; rfl
    | good n e =>
      obtain ⟨a, b⟩ := h
      rw [finE_ret (l := [.int .u64 (n : Int), .int .i64 (-1)]) (by simp (decide := true) [Tryd.f34, resE, a, b])]; rfl
  have main : ∃ R0 : R, CG N hk (d + 2) 34 #[.string ⟨⟨r⟩⟩] H = R0 ∧ R0 = some (.ret (intV (intI r 0)), H) := by
    refine ⟨_, callG_fn (K.nil _ _ _ rfl) Tryd.func34 (c := codeOf Tryd.f34) rfl rfl rfl (pr := noPr) rfl, ?_⟩
    rw [code34]
    generalize hF : finE PP Tryd.f34 = F
    rw [hF] at fin
    have hix0 := idx_zero h0
    have z48 : (((r.getD 0 0).toNat : Int) == 48) = decide (r.getD 0 0 = 48) := toNat_eq _ 48
    have z120 : (((r.getD 1 0).toNat : Int) == 120) = decide (r.getD 1 0 = 120) := toNat_eq _ 120
    have ndec : ¬ (r.getD 0 0 = 48 ∧ 1 < r.length ∧ r.getD 1 0 = 120) → intI r 0 = decI r r.length 0 0 := fun h => by
      rw [intI]; exact if_neg h
    generalize hsf : (.seq (.seq (.region 20 (rgn Tryd.f34 20) false) (.cond (.tmp 91) (.seq (.region 21 (rgn Tryd.f34 21) false) (.seq (.seq (.region 22 (rgn Tryd.f34 22) false) (.cond (.tmp 95) (.region 23 (rgn Tryd.f34 23) false) (.skip))) (.seq (.seq (.region 24 (rgn Tryd.f34 24) false) (.cond (.tmp 99) (.seq (.region 25 (rgn Tryd.f34 25) false) (.ret)) (.skip))) (.seq (.region 26 (rgn Tryd.f34 26) false) (.region 27 (rgn Tryd.f34 27) false))))) (.skip))) (.seq (.seq (.region 28 (rgn Tryd.f34 28) false) (.cond (.tmp 109) (.seq (.region 29 (rgn Tryd.f34 29) false) (.ret)) (.skip))) (.seq (.region 30 (rgn Tryd.f34 30) false) (.ret))) : Code) = sf
    have hdec : ∀ (E : Env), ¬ (r.getD 0 0 = 48 ∧ 1 < r.length ∧ r.getD 1 0 = 120) → E 0 = .string ⟨⟨r⟩⟩ → E 4 = .int .u64 ((0 : Nat) : Int) → E 5 = .int .i64 ((0 : Nat) : Int) →
        execG PP XX (CG N hk (d + 1)) N noPr (.seq (.block 2 (.loop (.seq (.seq (.region 12 (rgn Tryd.f34 12) false) (.cond (.tmp 56) (.skip) (.exit 2))) (.block 3 (.seq (.region 13 (rgn Tryd.f34 13) false) (.seq (.seq (.region 14 (rgn Tryd.f34 14) false) (.cond (.tmp 66) (.seq (.region 15 (rgn Tryd.f34 15) false) (.ret)) (.skip))) (.seq (.region 16 (rgn Tryd.f34 16) false) (.region 17 (rgn Tryd.f34 17) false)))))))) (.seq (.region 18 (rgn Tryd.f34 18) false) (.cond (.tmp 75) (.seq (.region 19 (rgn Tryd.f34 19) false) (.ret)) (.skip)))) none E [] H (thenE (execG PP XX (CG N hk (d + 1)) N noPr sf none) F) = some (.ret (intV (intI r 0)), H) := fun E hno q0 q4 q5 => by
      have l18 := tl (rgn Tryd.f34 18)
      conv at l18 => rhs; simp only [rgn, opsAt, codeOf, Tryd.f34, gS, gN, reduceIte, Nat.reduceEqDiff, tA]
      simp (decide := true) only [↓execG_seq, ↓execG_block, ↓execG_loop]
      rw [ndec hno]
      refine ri_dec (d := d) (Q := fun x => x = some (.ret (intV (decI r r.length 0 0)), H)) K hG hsm r.length 0 0 N (by omega) hN (by decide) q0 q4 q5 (fun e E' he a b => ?_) fun i' n' E' he l1 l2 l3 l4 e0 e4 e5 => ?_
      · simp (decide := true) only [thenE_ret, leaveB_ret]
        rw [he]
        exact fin (.bad e) E' ⟨a, b⟩
      · have hne : ((i' : Int) == 0) = false := by have := l4 h3; simp; omega
        simp (decide := true) only [↓execG_seq, ↓g_region, ↓execG_skip, ↓g_else, thenE_norm, g_leave, ↓r_nil, ↓r_cons, ↓o_move, ↓o_binOp, nextE_app, putG_bool, normK_app, evalE_tmp, evalE_const, upd_some, bindO_ok, reduceIte, ↓reg_lit l18, e5, binA_eql, hne]
        subst hsf
        rw [he]
        exact ri_suf (Q := fun x => x = some (.ret (intV (sufI r i' n')), H)) (by simp (decide := true) only [upd_some, reduceIte, e0]) (by simp (decide := true) only [upd_some, reduceIte, e4]) (by simp (decide := true) only [upd_some, reduceIte, e5]) hsm l2 l3 hw fun E2 h => fin _ E2 h
    have l0 := tl (rgn Tryd.f34 0)
    conv at l0 => rhs; simp only [rgn, opsAt, codeOf, Tryd.f34, gS, gN, reduceIte, Nat.reduceEqDiff, tA]
    have l1 := tl (rgn Tryd.f34 1)
    conv at l1 => rhs; simp only [rgn, opsAt, codeOf, Tryd.f34, gS, gN, reduceIte, Nat.reduceEqDiff, tA]
    have l2 := tl (rgn Tryd.f34 2)
    conv at l2 => rhs; simp only [rgn, opsAt, codeOf, Tryd.f34, gS, gN, reduceIte, Nat.reduceEqDiff, tA]
    have l3 := tl (rgn Tryd.f34 3)
    conv at l3 => rhs; simp only [rgn, opsAt, codeOf, Tryd.f34, gS, gN, reduceIte, Nat.reduceEqDiff, tA]
    have l4 := tl (rgn Tryd.f34 4)
    conv at l4 => rhs; simp only [rgn, opsAt, codeOf, Tryd.f34, gS, gN, reduceIte, Nat.reduceEqDiff, tA]
    have l10 := tl (rgn Tryd.f34 10)
    conv at l10 => rhs; simp only [rgn, opsAt, codeOf, Tryd.f34, gS, gN, reduceIte, Nat.reduceEqDiff, tA]
    have l11 := tl (rgn Tryd.f34 11)
    conv at l11 => rhs; simp only [rgn, opsAt, codeOf, Tryd.f34, gS, gN, reduceIte, Nat.reduceEqDiff, tA]
    generalize hdc : (.seq (.block 2 (.loop (.seq (.seq (.region 12 (rgn Tryd.f34 12) false) (.cond (.tmp 56) (.skip) (.exit 2))) (.block 3 (.seq (.region 13 (rgn Tryd.f34 13) false) (.seq (.seq (.region 14 (rgn Tryd.f34 14) false) (.cond (.tmp 66) (.seq (.region 15 (rgn Tryd.f34 15) false) (.ret)) (.skip))) (.seq (.region 16 (rgn Tryd.f34 16) false) (.region 17 (rgn Tryd.f34 17) false)))))))) (.seq (.region 18 (rgn Tryd.f34 18) false) (.cond (.tmp 75) (.seq (.region 19 (rgn Tryd.f34 19) false) (.ret)) (.skip))) : Code) = dc at *
    by_cases hl : 1 < r.length
    · have hgt : decide ((r.length : Int) > 1) = true := decide_eq_true (by omega)
      have hix1 := idx_one hl
      by_cases c48 : r.getD 0 0 = 48
      · rw [decide_eq_true c48] at z48
        by_cases c120 : r.getD 1 0 = 120
        · rw [decide_eq_true c120] at z120
          simp (decide := true) only [↓execG_seq, ↓g_region, ↓execG_block, ↓g_if, thenE_norm, ↓r_nil, ↓r_cons, ↓o_move, ↓o_assign, ↓o_pickt, ↓o_binOp, ↓o_index, ↓o_builtin, nextE_app, putK_app, putO_app, putG_bool, normK_app, evalE_tmp, evalE_const, upd_some, bindO_ok, reduceIte, map_one, startE_0, ↓reg_lit l0, ↓reg_lit l1, ↓reg_lit l2, ↓reg_lit l3, ↓reg_lit l4, ↓r_yes _ 3 true 11 _ gd34_3_3, ↓r_yes _ 8 true 16 _ gd34_3_8, len_str, binA_gtr, hgt, hix0, hix1, binA_eql, z48, z120, ↓execG_loop]
          have hhex : intI r 0 = hexI r 2 (r.length - 2) 2 0 := by rw [intI]; exact if_pos ⟨c48, hl, c120⟩
          rw [hhex]
          refine ri_hex (d := d) (Q := fun x => x = some (.ret (intV (hexI r 2 (r.length - 2) 2 0)), H)) K hG hsm (r.length - 2) 2 0 N (by omega) (by omega) (by decide) ?_ ?_ ?_ (fun e E' he a b => ?_) fun i' n' E' he l1 l2 l3 e0 e4 e5 => ?_
          · simp (decide := true) only [upd_some, reduceIte, startE_0]
          · simp (decide := true) only [upd_some, reduceIte]; rfl
          · simp (decide := true) only [upd_some, reduceIte]; rfl
          · simp (decide := true) only [thenE_ret, leaveB_ret]
            rw [he]
            exact fin (.bad e) E' ⟨a, b⟩
          · by_cases h2 : i' = 2
            · have hq : ((i' : Int) == 2) = true := by simp; omega
              simp (decide := true) only [↓execG_seq, ↓g_region, ↓execG_ret, ↓g_if, thenE_norm, thenE_ret, g_leave, ↓r_nil, ↓r_cons, ↓o_move, ↓o_assign, ↓o_binOp, nextE_app, putG_bool, normK_app, evalE_tmp, evalE_const, upd_some, bindO_ok, reduceIte, ↓reg_lit l10, ↓reg_lit l11, e5, binA_eql, hq]
              rw [he, endH, if_pos h2, h2]
              refine fin (.bad 2) _ ⟨?_, ?_⟩
              · simp (decide := true) only [upd_some, reduceIte]
              · simp (decide := true) only [upd_some, reduceIte]; rfl
            · have hq : ((i' : Int) == 2) = false := by simp; omega
              simp (decide := true) only [↓execG_seq, ↓g_region, ↓execG_skip, ↓g_else, thenE_norm, g_leave, ↓r_nil, ↓r_cons, ↓o_move, ↓o_binOp, nextE_app, putG_bool, normK_app, evalE_tmp, evalE_const, upd_some, bindO_ok, reduceIte, ↓reg_lit l10, e5, binA_eql, hq]
              subst hsf
              rw [he, endH, if_neg h2]
              exact ri_suf (Q := fun x => x = some (.ret (intV (sufI r i' n')), H)) (by simp (decide := true) only [upd_some, reduceIte, e0]) (by simp (decide := true) only [upd_some, reduceIte, e4]) (by simp (decide := true) only [upd_some, reduceIte, e5]) hsm l2 l3 hw fun E2 h => fin _ E2 h
        · rw [decide_eq_false c120] at z120
          simp (decide := true) only [↓execG_seq, ↓g_region, ↓g_else, thenE_norm, ↓r_nil, ↓r_cons, ↓o_move, ↓o_assign, ↓o_pickt, ↓o_binOp, ↓o_index, ↓o_builtin, nextE_app, putK_app, putO_app, putG_bool, normK_app, evalE_tmp, evalE_const, upd_some, bindO_ok, reduceIte, map_one, startE_0, ↓reg_lit l0, ↓reg_lit l1, ↓reg_lit l2, ↓reg_lit l3, ↓r_yes _ 3 true 11 _ gd34_3_3, ↓r_yes _ 8 true 16 _ gd34_3_8, len_str, binA_gtr, hgt, hix0, hix1, binA_eql, z48, z120]
          refine hdec _ (fun h => c120 h.2.2) ?_ ?_ ?_
          · simp (decide := true) only [upd_some, reduceIte, startE_0]
          · simp (decide := true) only [upd_some, reduceIte]; rfl
          · simp (decide := true) only [upd_some, reduceIte]; rfl
      · rw [decide_eq_false c48] at z48
        simp (decide := true) only [↓execG_seq, ↓g_region, ↓g_else, thenE_norm, ↓r_nil, ↓r_cons, ↓o_move, ↓o_assign, ↓o_pickt, ↓o_pickf, ↓o_binOp, ↓o_index, ↓o_builtin, nextE_app, putK_app, putO_app, putG_bool, normK_app, evalE_tmp, evalE_const, upd_some, bindO_ok, reduceIte, map_one, startE_0, Bool.not_true, ↓reg_lit l0, ↓reg_lit l1, ↓reg_lit l2, ↓reg_lit l3, ↓r_yes _ 3 true 11 _ gd34_3_3, ↓r_no _ 8 true 16 _ gd34_3_8, len_str, binA_gtr, hgt, hix0, binA_eql, z48]
        refine hdec _ (fun h => c48 h.1) ?_ ?_ ?_
        · simp (decide := true) only [upd_some, reduceIte, startE_0]
        · simp (decide := true) only [upd_some, reduceIte]; rfl
        · simp (decide := true) only [upd_some, reduceIte]; rfl
    · have hgt : decide ((r.length : Int) > 1) = false := decide_eq_false (by omega)
      simp (decide := true) only [↓execG_seq, ↓g_region, ↓g_else, thenE_norm, ↓r_nil, ↓r_cons, ↓o_move, ↓o_assign, ↓o_pickf, ↓o_binOp, ↓o_builtin, nextE_app, putK_app, putG_bool, normK_app, evalE_tmp, evalE_const, upd_some, bindO_ok, reduceIte, map_one, startE_0, Bool.not_true, ↓reg_lit l0, ↓reg_lit l1, ↓reg_lit l2, ↓reg_lit l3, ↓r_no _ 3 true 11 _ gd34_3_3, ↓r_no _ 8 true 16 _ gd34_3_8, len_str, binA_gtr, hgt]
      refine hdec _ (fun h => hl h.2.1) ?_ ?_ ?_
      · simp (decide := true) only [upd_some, reduceIte, startE_0]
      · simp (decide := true) only [upd_some, reduceIte]; rfl
      · simp (decide := true) only [upd_some, reduceIte]; rfl
  obtain ⟨R0, m1, m2⟩ := main
  exact m1.trans m2
/-- What any run of bytes is answered with: some number, some place. -/
def Wk (E' : Env) : Prop := ∃ z b : Int, 0 ≤ z ∧ z < 18446744073709551616 ∧ E' 2 = .int .u64 z ∧ E' 3 = .int .i64 b
theorem wrap_in (x : Int) : 0 ≤ IntKind.u64.wrap x ∧ IntKind.u64.wrap x < 18446744073709551616 := by
  rw [IntKind.wrap_u64]; omega
section
variable {K : Kf} {N : Nat} {hk : Hook} {d : Nat} {H : Heap} {r : List UInt8} {i : Nat} {z : Int} {E : Env} {Q : R → Prop} {k : KOE}
theorem wi_end (e0 : E 0 = .string ⟨⟨r⟩⟩) (e4 : E 4 = .int .u64 z) (e5 : E 5 = .int .i64 (i : Int)) (h0 : 0 ≤ z) (h1 : z < 18446744073709551616) (hx : ∀ E', Wk E' → Q (k .ret E' [] H)) : Q (execG PP XX K N noPr (.seq (.seq (.region 28 (rgn Tryd.f34 28) false) (.cond (.tmp 109) (.seq (.region 29 (rgn Tryd.f34 29) false) (.ret)) (.skip))) (.seq (.region 30 (rgn Tryd.f34 30) false) (.ret))) none E [] H k) := by
  have l28 := tl (rgn Tryd.f34 28)
  conv at l28 => rhs; simp only [rgn, opsAt, codeOf, Tryd.f34, gS, gN, reduceIte, Nat.reduceEqDiff, tA]
  have l29 := tl (rgn Tryd.f34 29)
  conv at l29 => rhs; simp only [rgn, opsAt, codeOf, Tryd.f34, gS, gN, reduceIte, Nat.reduceEqDiff, tA]
  have l30 := tl (rgn Tryd.f34 30)
  conv at l30 => rhs; simp only [rgn, opsAt, codeOf, Tryd.f34, gS, gN, reduceIte, Nat.reduceEqDiff, tA]
  cases hlt : decide ((i : Int) < (r.length : Int)) with
  | true =>
    simp (decide := true) only [↓execG_seq, ↓g_region, ↓execG_ret, ↓g_if, thenE_norm, thenE_ret, ↓r_nil, ↓r_cons, ↓o_move, ↓o_assign, ↓o_binOp, ↓o_builtin, nextE_app, putK_app, putG_bool, normK_app, evalE_tmp, evalE_const, upd_some, bindO_ok, reduceIte, map_one, ↓reg_lit l28, ↓reg_lit l29, e0, e5, len_str, binA_lss, hlt]
    exact hx _ ⟨0, i, by decide, by decide, by simp (decide := true) only [upd_some, reduceIte], by simp (decide := true) only [upd_some, reduceIte]⟩
  | false =>
    simp (decide := true) only [↓execG_seq, ↓g_region, ↓execG_ret, ↓execG_skip, ↓g_else, thenE_norm, ↓r_nil, ↓r_cons, ↓o_move, ↓o_assign, ↓o_binOp, ↓o_builtin, nextE_app, putK_app, putG_bool, normK_app, evalE_tmp, evalE_const, upd_some, bindO_ok, reduceIte, map_one, ↓reg_lit l28, ↓reg_lit l30, e0, e4, e5, len_str, binA_lss, hlt]
    exact hx _ ⟨z, -1, h0, h1, by simp (decide := true) only [upd_some, reduceIte], by simp (decide := true) only [upd_some, reduceIte]⟩
theorem wi_suf (e0 : E 0 = .string ⟨⟨r⟩⟩) (e4 : E 4 = .int .u64 z) (e5 : E 5 = .int .i64 (i : Int)) (h0 : 0 ≤ z) (h1 : z < 18446744073709551616) (hsm : r.length < 9223372036854775000) (hx : ∀ E', Wk E' → Q (k .ret E' [] H)) : Q (execG PP XX K N noPr (.seq (.seq (.region 20 (rgn Tryd.f34 20) false) (.cond (.tmp 91) (.seq (.region 21 (rgn Tryd.f34 21) false) (.seq (.seq (.region 22 (rgn Tryd.f34 22) false) (.cond (.tmp 95) (.region 23 (rgn Tryd.f34 23) false) (.skip))) (.seq (.seq (.region 24 (rgn Tryd.f34 24) false) (.cond (.tmp 99) (.seq (.region 25 (rgn Tryd.f34 25) false) (.ret)) (.skip))) (.seq (.region 26 (rgn Tryd.f34 26) false) (.region 27 (rgn Tryd.f34 27) false))))) (.skip))) (.seq (.seq (.region 28 (rgn Tryd.f34 28) false) (.cond (.tmp 109) (.seq (.region 29 (rgn Tryd.f34 29) false) (.ret)) (.skip))) (.seq (.region 30 (rgn Tryd.f34 30) false) (.ret)))) none E [] H k) := by
  have l20 := tl (rgn Tryd.f34 20)
  conv at l20 => rhs; simp only [rgn, opsAt, codeOf, Tryd.f34, gS, gN, reduceIte, Nat.reduceEqDiff, tA]
  have l21 := tl (rgn Tryd.f34 21)
  conv at l21 => rhs; simp only [rgn, opsAt, codeOf, Tryd.f34, gS, gN, reduceIte, Nat.reduceEqDiff, tA]
  have l22 := tl (rgn Tryd.f34 22)
  conv at l22 => rhs; simp only [rgn, opsAt, codeOf, Tryd.f34, gS, gN, reduceIte, Nat.reduceEqDiff, tA]
  have l23 := tl (rgn Tryd.f34 23)
  conv at l23 => rhs; simp only [rgn, opsAt, codeOf, Tryd.f34, gS, gN, reduceIte, Nat.reduceEqDiff, tA]
  have l24 := tl (rgn Tryd.f34 24)
  conv at l24 => rhs; simp only [rgn, opsAt, codeOf, Tryd.f34, gS, gN, reduceIte, Nat.reduceEqDiff, tA]
  have l25 := tl (rgn Tryd.f34 25)
  conv at l25 => rhs; simp only [rgn, opsAt, codeOf, Tryd.f34, gS, gN, reduceIte, Nat.reduceEqDiff, tA]
  have l26 := tl (rgn Tryd.f34 26)
  conv at l26 => rhs; simp only [rgn, opsAt, codeOf, Tryd.f34, gS, gN, reduceIte, Nat.reduceEqDiff, tA]
  have l27 := tl (rgn Tryd.f34 27)
  conv at l27 => rhs; simp only [rgn, opsAt, codeOf, Tryd.f34, gS, gN, reduceIte, Nat.reduceEqDiff, tA]
  by_cases h : i < r.length
  · have hlt : decide ((i : Int) < (r.length : Int)) = true := decide_eq_true (by omega)
    have w : IntKind.i64.wrap ((i : Int) + 1) = ((i + 1 : Nat) : Int) := by rw [wrap_i64 (by omega) (by omega)]; omega
    have hix := idx_str (s := r) h
    cases z75 : ((r[i].toNat : Int) == 75) with
    | true =>
      have z77 : ((r[i].toNat : Int) == 77) = false := by
        rw [beq_iff_eq] at z75
        rw [z75]; rfl
      cases hgt : decide (z > 18014398509481983) with
      | true =>
        simp (decide := true) only [↓execG_seq, ↓g_region, ↓execG_ret, ↓execG_skip, ↓g_if, ↓g_else, thenE_norm, thenE_ret, ↓r_nil, ↓r_cons, ↓o_move, ↓o_assign, ↓o_pickt, ↓o_binOp, ↓o_index, ↓o_builtin, nextE_app, putK_app, putO_app, putG_bool, putG_int, normK_app, evalE_tmp, evalE_const, upd_some, bindO_ok, reduceIte, map_one, Bool.not_false, ↓reg_lit l20, ↓reg_lit l21, ↓reg_lit l22, ↓reg_lit l24, ↓reg_lit l25, ↓r_yes _ 4 true 80 _ gd34_20_4, ↓r_no _ 9 false 85 _ gd34_20_9, e0, e4, e5, len_str, binA_lss, hlt, hix, binA_eql, z75, z77, binA_quo, quo1024, binA_gtr, hgt]
        exact hx _ ⟨0, i, by decide, by decide, by simp (decide := true) only [upd_some, reduceIte], by simp (decide := true) only [upd_some, reduceIte]⟩
      | false =>
        have wm := wrap_in (z * 1024)
        simp (decide := true) only [↓execG_seq, ↓g_region, ↓execG_skip, ↓g_if, ↓g_else, thenE_norm, ↓r_nil, ↓r_cons, ↓o_move, ↓o_assign, ↓o_pickt, ↓o_binOp, ↓o_index, ↓o_builtin, nextE_app, putK_app, putO_app, putG_bool, putG_int, normK_app, evalE_tmp, evalE_const, upd_some, bindO_ok, reduceIte, map_one, Bool.not_false, ↓reg_lit l20, ↓reg_lit l21, ↓reg_lit l22, ↓reg_lit l24, ↓reg_lit l26, ↓reg_lit l27, ↓r_yes _ 4 true 80 _ gd34_20_4, ↓r_no _ 9 false 85 _ gd34_20_9, e0, e4, e5, len_str, binA_lss, hlt, hix, binA_eql, z75, z77, binA_quo, quo1024, binA_gtr, hgt, binA_mul, binA_add, w]
        exact wi_end (r := r) (i := i + 1) (by simp (decide := true) only [upd_some, reduceIte, e0]) (by simp (decide := true) only [upd_some, reduceIte, e4]) (by simp (decide := true) only [upd_some, reduceIte, e5]) wm.1 wm.2 hx
    | false =>
      cases z77 : ((r[i].toNat : Int) == 77) with
      | true =>
        cases hgt : decide (z > 17592186044415) with
        | true =>
          simp (decide := true) only [↓execG_seq, ↓g_region, ↓execG_ret, ↓g_if, thenE_norm, thenE_ret, ↓r_nil, ↓r_cons, ↓o_move, ↓o_assign, ↓o_pickt, ↓o_pickf, ↓o_binOp, ↓o_index, ↓o_builtin, nextE_app, putK_app, putO_app, putG_bool, putG_int, normK_app, evalE_tmp, evalE_const, upd_some, bindO_ok, reduceIte, map_one, ↓reg_lit l20, ↓reg_lit l21, ↓reg_lit l22, ↓reg_lit l23, ↓reg_lit l24, ↓reg_lit l25, ↓r_yes _ 4 true 80 _ gd34_20_4, ↓r_yes _ 9 false 85 _ gd34_20_9, e0, e4, e5, len_str, binA_lss, hlt, hix, binA_eql, z75, z77, binA_quo, quo1048576, binA_gtr, hgt]
          exact hx _ ⟨0, i, by decide, by decide, by simp (decide := true) only [upd_some, reduceIte], by simp (decide := true) only [upd_some, reduceIte]⟩
        | false =>
          have wm := wrap_in (z * 1048576)
          simp (decide := true) only [↓execG_seq, ↓g_region, ↓execG_skip, ↓g_if, ↓g_else, thenE_norm, ↓r_nil, ↓r_cons, ↓o_move, ↓o_assign, ↓o_pickt, ↓o_pickf, ↓o_binOp, ↓o_index, ↓o_builtin, nextE_app, putK_app, putO_app, putG_bool, putG_int, normK_app, evalE_tmp, evalE_const, upd_some, bindO_ok, reduceIte, map_one, ↓reg_lit l20, ↓reg_lit l21, ↓reg_lit l22, ↓reg_lit l23, ↓reg_lit l24, ↓reg_lit l26, ↓reg_lit l27, ↓r_yes _ 4 true 80 _ gd34_20_4, ↓r_yes _ 9 false 85 _ gd34_20_9, e0, e4, e5, len_str, binA_lss, hlt, hix, binA_eql, z75, z77, binA_quo, quo1048576, binA_gtr, hgt, binA_mul, binA_add, w]
          exact wi_end (r := r) (i := i + 1) (by simp (decide := true) only [upd_some, reduceIte, e0]) (by simp (decide := true) only [upd_some, reduceIte, e4]) (by simp (decide := true) only [upd_some, reduceIte, e5]) wm.1 wm.2 hx
      | false =>
        simp (decide := true) only [↓execG_seq, ↓g_region, ↓execG_skip, ↓g_else, thenE_norm, ↓r_nil, ↓r_cons, ↓o_move, ↓o_pickt, ↓o_pickf, ↓o_binOp, ↓o_index, ↓o_builtin, nextE_app, putK_app, putO_app, putG_bool, normK_app, evalE_tmp, evalE_const, upd_some, bindO_ok, reduceIte, map_one, ↓reg_lit l20, ↓r_yes _ 4 true 80 _ gd34_20_4, ↓r_yes _ 9 false 85 _ gd34_20_9, e0, e5, len_str, binA_lss, hlt, hix, binA_eql, z75, z77]
        exact wi_end (r := r) (i := i) (by simp (decide := true) only [upd_some, reduceIte, e0]) (by simp (decide := true) only [upd_some, reduceIte, e4]) (by simp (decide := true) only [upd_some, reduceIte, e5]) h0 h1 hx
  · have hlt : decide ((i : Int) < (r.length : Int)) = false := decide_eq_false (by omega)
    simp (decide := true) only [↓execG_seq, ↓g_region, ↓execG_skip, ↓g_else, thenE_norm, ↓r_nil, ↓r_cons, ↓o_move, ↓o_pickf, ↓o_binOp, ↓o_builtin, nextE_app, putK_app, putG_bool, normK_app, evalE_tmp, evalE_const, upd_some, bindO_ok, reduceIte, map_one, Bool.not_true, ↓reg_lit l20, ↓r_no _ 4 true 80 _ gd34_20_4, ↓r_un _ 9 false 85 _ gd34_20_9, e0, e5, len_str, binA_lss, hlt]
    exact wi_end (r := r) (i := i) (by simp (decide := true) only [upd_some, reduceIte, e0]) (by simp (decide := true) only [upd_some, reduceIte, e4]) (by simp (decide := true) only [upd_some, reduceIte, e5]) h0 h1 hx
end
section
variable {N : Nat} {hk : Hook} {d : Nat} {H : Heap} {r : List UInt8} {Q : R → Prop} {k : KOE}
theorem wi_dec (K : HkR hk) (hG : Ext GE H) (hsm : r.length < 9223372036854775000) :
    ∀ (f i m : Nat) (_ : i + f = r.length) (_ : f < m) {z : Int} (_ : 0 ≤ z) (_ : z < 18446744073709551616) {E : Env} (_ : E 0 = .string ⟨⟨r⟩⟩) (_ : E 4 = .int .u64 z) (_ : E 5 = .int .i64 (i : Int))
      (_ : ∀ E', Wk E' → Q (k .ret E' [] H))
      (_ : ∀ (i' : Nat) (z' : Int) E', i' ≤ r.length → 0 ≤ z' → z' < 18446744073709551616 → E' 0 = .string ⟨⟨r⟩⟩ → E' 4 = .int .u64 z' → E' 5 = .int .i64 (i' : Int) → Q (k (.exit 2) E' [] H)),
      Q (loopE (execG PP XX (CG N hk (d + 1)) N noPr (.seq (.seq (.region 12 (rgn Tryd.f34 12) false) (.cond (.tmp 56) (.skip) (.exit 2))) (.block 3 (.seq (.region 13 (rgn Tryd.f34 13) false) (.seq (.seq (.region 14 (rgn Tryd.f34 14) false) (.cond (.tmp 66) (.seq (.region 15 (rgn Tryd.f34 15) false) (.ret)) (.skip))) (.seq (.region 16 (rgn Tryd.f34 16) false) (.region 17 (rgn Tryd.f34 17) false)))))) none) m E [] H k)
  | 0, i, m + 1, hf, hm, z, h0, h1, E, e0, e4, e5, hx, hy => by
    rw [loopE_succ]
    have hlt : decide ((i : Int) < (r.length : Int)) = false := decide_eq_false (by omega)
    have l12 := tl (rgn Tryd.f34 12)
    conv at l12 => rhs; simp only [rgn, opsAt, codeOf, Tryd.f34, gS, gN, reduceIte, Nat.reduceEqDiff, tA]
    simp (decide := true) only [↓execG_seq, ↓g_region, ↓execG_exit, ↓g_else, thenE_norm, thenE_exit, ↓r_nil, ↓r_cons, ↓o_move, ↓o_pickf, ↓o_binOp, ↓o_builtin, nextE_app, putK_app, putG_bool, normK_app, evalE_tmp, evalE_const, upd_some, bindO_ok, reduceIte, map_one, Bool.not_true, ↓reg_lit l12, ↓r_no _ 4 true 51 _ gd34_12_4, e0, e5, len_str, binA_lss, hlt]
    exact hy i z _ (by omega) h0 h1 (by simp (decide := true) only [upd_some, reduceIte, e0]) (by simp (decide := true) only [upd_some, reduceIte, e4]) (by simp (decide := true) only [upd_some, reduceIte, e5])
  | f + 1, i, m + 1, hf, hm, z, h0, h1, E, e0, e4, e5, hx, hy => by
    rw [loopE_succ]
    have hi : i < r.length := by omega
    have hlt : decide ((i : Int) < (r.length : Int)) = true := decide_eq_true (by omega)
    have hix := idx_str (s := r) hi
    have w : IntKind.i64.wrap ((i : Int) + 1) = ((i + 1 : Nat) : Int) := by rw [wrap_i64 (by omega) (by omega)]; omega
    have hd : CG N hk (d + 1) 44 #[.int .u8 (r[i].toNat : Int)] H = some (.ret (.bool (digN r[i].toNat)), H) := callG_hook (K.dig r[i] H hG)
    have d10 : (10 : Int) ≠ 0 := by decide
    have l12 := tl (rgn Tryd.f34 12)
    conv at l12 => rhs; simp only [rgn, opsAt, codeOf, Tryd.f34, gS, gN, reduceIte, Nat.reduceEqDiff, tA]
    have l13 := tl (rgn Tryd.f34 13)
    conv at l13 => rhs; simp only [rgn, opsAt, codeOf, Tryd.f34, gS, gN, reduceIte, Nat.reduceEqDiff, tA]
    have l14 := tl (rgn Tryd.f34 14)
    conv at l14 => rhs; simp only [rgn, opsAt, codeOf, Tryd.f34, gS, gN, reduceIte, Nat.reduceEqDiff, tA]
    have l15 := tl (rgn Tryd.f34 15)
    conv at l15 => rhs; simp only [rgn, opsAt, codeOf, Tryd.f34, gS, gN, reduceIte, Nat.reduceEqDiff, tA]
    have l16 := tl (rgn Tryd.f34 16)
    conv at l16 => rhs; simp only [rgn, opsAt, codeOf, Tryd.f34, gS, gN, reduceIte, Nat.reduceEqDiff, tA]
    have l17 := tl (rgn Tryd.f34 17)
    conv at l17 => rhs; simp only [rgn, opsAt, codeOf, Tryd.f34, gS, gN, reduceIte, Nat.reduceEqDiff, tA]
    cases h3 : digN r[i].toNat with
    | true =>
      rw [h3] at hd
      generalize ha : IntKind.u8.wrap ((r[i].toNat : Int) - 48) = a
      generalize hb : IntKind.u64.wrap a = b
      generalize hc : IntKind.u64.wrap ((IntKind.u64.wrap (18446744073709551615 - b)).tdiv 10) = c
      cases hgt : decide (z > c) with
      | false =>
        have wm := wrap_in (IntKind.u64.wrap (10 * z) + b)
        simp (decide := true) only [↓execG_seq, ↓g_region, ↓execG_block, ↓execG_skip, ↓g_if, ↓g_else, thenE_norm, leaveB_norm, ↓r_nil, ↓r_cons, ↓o_move, ↓o_assign, ↓o_pickt, ↓o_binOp, ↓o_convert, ↓o_index, ↓o_builtin, ↓o_callf, nextE_app, putK_app, putO_app, putG_bool, putG_int, normK_app, evalE_tmp, evalE_const, upd_some, bindO_ok, bindV_ok, reduceIte, map_one, ↓reg_lit l12, ↓reg_lit l13, ↓reg_lit l14, ↓reg_lit l16, ↓reg_lit l17, ↓r_yes _ 4 true 51 _ gd34_12_4, e0, e4, e5, len_str, binA_lss, hlt, hix, callK_fn Tryd.func44 rfl rfl hd, binA_sub, ha, conv_u64, hb, binA_quo d10, hc, binA_gtr, hgt, binA_mul, binA_add, w]
        exact wi_dec K hG hsm f (i + 1) m (by omega) (by omega) wm.1 wm.2 (by simp (decide := true) only [upd_some, reduceIte, e0]) (by simp (decide := true) only [upd_some, reduceIte, e4]) (by simp (decide := true) only [upd_some, reduceIte, e5]) hx hy
      | true =>
        simp (decide := true) only [↓execG_seq, ↓g_region, ↓execG_block, ↓execG_ret, ↓execG_skip, ↓g_if, thenE_norm, thenE_ret, leaveB_ret, ↓r_nil, ↓r_cons, ↓o_move, ↓o_assign, ↓o_pickt, ↓o_binOp, ↓o_convert, ↓o_index, ↓o_builtin, ↓o_callf, nextE_app, putK_app, putO_app, putG_bool, putG_int, normK_app, evalE_tmp, evalE_const, upd_some, bindO_ok, bindV_ok, reduceIte, map_one, ↓reg_lit l12, ↓reg_lit l13, ↓reg_lit l14, ↓reg_lit l15, ↓r_yes _ 4 true 51 _ gd34_12_4, e0, e4, e5, len_str, binA_lss, hlt, hix, callK_fn Tryd.func44 rfl rfl hd, binA_sub, ha, conv_u64, hb, binA_quo d10, hc, binA_gtr, hgt]
        exact hx _ ⟨0, i, by decide, by decide, by simp (decide := true) only [upd_some, reduceIte], by simp (decide := true) only [upd_some, reduceIte]⟩
    | false =>
      rw [h3] at hd
      simp (decide := true) only [↓execG_seq, ↓g_region, ↓execG_exit, ↓g_else, thenE_norm, thenE_exit, ↓r_nil, ↓r_cons, ↓o_move, ↓o_pickt, ↓o_binOp, ↓o_index, ↓o_builtin, ↓o_callf, nextE_app, putK_app, putO_app, putG_bool, normK_app, evalE_tmp, upd_some, bindO_ok, reduceIte, map_one, ↓reg_lit l12, ↓r_yes _ 4 true 51 _ gd34_12_4, e0, e5, len_str, binA_lss, hlt, hix, callK_fn Tryd.func44 rfl rfl hd]
      exact hy i z _ (by omega) h0 h1 (by simp (decide := true) only [upd_some, reduceIte, e0]) (by simp (decide := true) only [upd_some, reduceIte, e4]) (by simp (decide := true) only [upd_some, reduceIte, e5])
theorem wi_hex (K : HkR hk) (hG : Ext GE H) (hsm : r.length < 9223372036854775000) :
    ∀ (f i m : Nat) (_ : i + f = r.length) (_ : f < m) {z : Int} (_ : 0 ≤ z) (_ : z < 18446744073709551616) {E : Env} (_ : E 0 = .string ⟨⟨r⟩⟩) (_ : E 4 = .int .u64 z) (_ : E 5 = .int .i64 (i : Int))
      (_ : ∀ E', Wk E' → Q (k .ret E' [] H))
      (_ : ∀ (i' : Nat) (z' : Int) E', i' ≤ r.length → 0 ≤ z' → z' < 18446744073709551616 → E' 0 = .string ⟨⟨r⟩⟩ → E' 4 = .int .u64 z' → E' 5 = .int .i64 (i' : Int) → Q (k (.exit 0) E' [] H)),
      Q (loopE (execG PP XX (CG N hk (d + 1)) N noPr (.seq (.seq (.region 5 (rgn Tryd.f34 5) false) (.cond (.tmp 31) (.skip) (.exit 0))) (.block 1 (.seq (.seq (.region 6 (rgn Tryd.f34 6) false) (.cond (.tmp 33) (.seq (.region 7 (rgn Tryd.f34 7) false) (.ret)) (.skip))) (.seq (.region 8 (rgn Tryd.f34 8) false) (.region 9 (rgn Tryd.f34 9) false))))) none) m E [] H k)
  | 0, i, m + 1, hf, hm, z, h0, h1, E, e0, e4, e5, hx, hy => by
    rw [loopE_succ]
    have hlt : decide ((i : Int) < (r.length : Int)) = false := decide_eq_false (by omega)
    have l5 := tl (rgn Tryd.f34 5)
    conv at l5 => rhs; simp only [rgn, opsAt, codeOf, Tryd.f34, gS, gN, reduceIte, Nat.reduceEqDiff, tA]
    simp (decide := true) only [↓execG_seq, ↓g_region, ↓execG_exit, ↓g_else, thenE_norm, thenE_exit, ↓r_nil, ↓r_cons, ↓o_move, ↓o_pickf, ↓o_binOp, ↓o_builtin, nextE_app, putK_app, putG_bool, normK_app, evalE_tmp, evalE_const, upd_some, bindO_ok, reduceIte, map_one, Bool.not_true, ↓reg_lit l5, ↓r_no _ 4 true 25 _ gd34_5_4, e0, e5, len_str, binA_lss, hlt]
    exact hy i z _ (by omega) h0 h1 (by simp (decide := true) only [upd_some, reduceIte, e0]) (by simp (decide := true) only [upd_some, reduceIte, e4]) (by simp (decide := true) only [upd_some, reduceIte, e5])
  | f + 1, i, m + 1, hf, hm, z, h0, h1, E, e0, e4, e5, hx, hy => by
    rw [loopE_succ]
    have hi : i < r.length := by omega
    have hlt : decide ((i : Int) < (r.length : Int)) = true := decide_eq_true (by omega)
    have hix := idx_str (s := r) hi
    have w : IntKind.i64.wrap ((i : Int) + 1) = ((i + 1 : Nat) : Int) := by rw [wrap_i64 (by omega) (by omega)]; omega
    have hd : CG N hk (d + 1) 50 #[.int .u8 (r[i].toNat : Int)] H = some (.ret (.int .i64 (rhN r[i].toNat)), H) := callG_hook (K.hex r[i] H hG)
    have l5 := tl (rgn Tryd.f34 5)
    conv at l5 => rhs; simp only [rgn, opsAt, codeOf, Tryd.f34, gS, gN, reduceIte, Nat.reduceEqDiff, tA]
    have l6 := tl (rgn Tryd.f34 6)
    conv at l6 => rhs; simp only [rgn, opsAt, codeOf, Tryd.f34, gS, gN, reduceIte, Nat.reduceEqDiff, tA]
    have l7 := tl (rgn Tryd.f34 7)
    conv at l7 => rhs; simp only [rgn, opsAt, codeOf, Tryd.f34, gS, gN, reduceIte, Nat.reduceEqDiff, tA]
    have l8 := tl (rgn Tryd.f34 8)
    conv at l8 => rhs; simp only [rgn, opsAt, codeOf, Tryd.f34, gS, gN, reduceIte, Nat.reduceEqDiff, tA]
    have l9 := tl (rgn Tryd.f34 9)
    conv at l9 => rhs; simp only [rgn, opsAt, codeOf, Tryd.f34, gS, gN, reduceIte, Nat.reduceEqDiff, tA]
    generalize rhN r[i].toNat = g at hd
    cases hge : decide (g ≥ 0) with
    | true =>
      cases hgt : decide (z > 1152921504606846975) with
      | false =>
        have wm := wrap_in (IntKind.u64.wrap (16 * z) + IntKind.u64.wrap g)
        simp (decide := true) only [↓execG_seq, ↓g_region, ↓execG_block, ↓execG_skip, ↓g_if, ↓g_else, thenE_norm, leaveB_norm, ↓r_nil, ↓r_cons, ↓o_move, ↓o_assign, ↓o_pickt, ↓o_binOp, ↓o_convert, ↓o_index, ↓o_builtin, ↓o_callf, nextE_app, putK_app, putO_app, putG_bool, putG_int, normK_app, evalE_tmp, evalE_const, upd_some, bindO_ok, bindV_ok, reduceIte, map_one, ↓reg_lit l5, ↓reg_lit l6, ↓reg_lit l8, ↓reg_lit l9, ↓r_yes _ 4 true 25 _ gd34_5_4, e0, e4, e5, len_str, binA_lss, hlt, hix, callK_fn Tryd.func50 rfl rfl hd, binA_geq, hge, binA_gtr, hgt, conv_iu, binA_mul, binA_add, w]
        exact wi_hex K hG hsm f (i + 1) m (by omega) (by omega) wm.1 wm.2 (by simp (decide := true) only [upd_some, reduceIte, e0]) (by simp (decide := true) only [upd_some, reduceIte, e4]) (by simp (decide := true) only [upd_some, reduceIte, e5]) hx hy
      | true =>
        simp (decide := true) only [↓execG_seq, ↓g_region, ↓execG_block, ↓execG_ret, ↓execG_skip, ↓g_if, thenE_norm, thenE_ret, leaveB_ret, ↓r_nil, ↓r_cons, ↓o_move, ↓o_assign, ↓o_pickt, ↓o_binOp, ↓o_index, ↓o_builtin, ↓o_callf, nextE_app, putK_app, putO_app, putG_bool, normK_app, evalE_tmp, evalE_const, upd_some, bindO_ok, reduceIte, map_one, ↓reg_lit l5, ↓reg_lit l6, ↓reg_lit l7, ↓r_yes _ 4 true 25 _ gd34_5_4, e0, e4, e5, len_str, binA_lss, hlt, hix, callK_fn Tryd.func50 rfl rfl hd, binA_geq, hge, binA_gtr, hgt]
        exact hx _ ⟨0, i, by decide, by decide, by simp (decide := true) only [upd_some, reduceIte], by simp (decide := true) only [upd_some, reduceIte]⟩
    | false =>
      simp (decide := true) only [↓execG_seq, ↓g_region, ↓execG_exit, ↓g_else, thenE_norm, thenE_exit, ↓r_nil, ↓r_cons, ↓o_move, ↓o_pickt, ↓o_binOp, ↓o_index, ↓o_builtin, ↓o_callf, nextE_app, putK_app, putO_app, putG_bool, normK_app, evalE_tmp, evalE_const, upd_some, bindO_ok, reduceIte, map_one, ↓reg_lit l5, ↓r_yes _ 4 true 25 _ gd34_5_4, e0, e5, len_str, binA_lss, hlt, hix, callK_fn Tryd.func50 rfl rfl hd, binA_geq, hge]
      exact hy i z _ (by omega) h0 h1 (by simp (decide := true) only [upd_some, reduceIte, e0]) (by simp (decide := true) only [upd_some, reduceIte, e4]) (by simp (decide := true) only [upd_some, reduceIte, e5])
end
/-- What the reference's 'Integer' answers of any run of bytes: some number, some place. -/
theorem call_rintw {N : Nat} {hk : Hook} {d : Nat} {H : Heap} {r : List UInt8} (K : HkR hk) (hG : Ext GE H) (hsm : r.length < 9223372036854775000) (hN : r.length < N) :
    ∃ z b : Int, 0 ≤ z ∧ z < 18446744073709551616 ∧ CG N hk (d + 2) 34 #[.string ⟨⟨r⟩⟩] H = some (.ret (.tuple #[.int .u64 z, .int .i64 b]), H) := by
  have main : ∃ R0 : R, CG N hk (d + 2) 34 #[.string ⟨⟨r⟩⟩] H = R0 ∧ ∃ z b : Int, 0 ≤ z ∧ z < 18446744073709551616 ∧ R0 = some (.ret (.tuple #[.int .u64 z, .int .i64 b]), H) := by
    refine ⟨_, callG_fn (K.nil _ _ _ rfl) Tryd.func34 (c := codeOf Tryd.f34) rfl rfl rfl (pr := noPr) rfl, ?_⟩
    rw [code34]
    generalize hF : finE PP Tryd.f34 = F
    have fin : ∀ (E' : Env), Wk E' → ∃ z b : Int, 0 ≤ z ∧ z < 18446744073709551616 ∧ F .ret E' [] H = some (.ret (.tuple #[.int .u64 z, .int .i64 b]), H) := fun E' ⟨z, b, h0, h1, a, c⟩ => by
      refine ⟨z, b, h0, h1, ?_⟩
      rw [← hF, finE_ret (l := [.int .u64 z, .int .i64 b]) (by simp (decide := true) [Tryd.f34, resE, a, c])]; rfl
    generalize hsf : (.seq (.seq (.region 20 (rgn Tryd.f34 20) false) (.cond (.tmp 91) (.seq (.region 21 (rgn Tryd.f34 21) false) (.seq (.seq (.region 22 (rgn Tryd.f34 22) false) (.cond (.tmp 95) (.region 23 (rgn Tryd.f34 23) false) (.skip))) (.seq (.seq (.region 24 (rgn Tryd.f34 24) false) (.cond (.tmp 99) (.seq (.region 25 (rgn Tryd.f34 25) false) (.ret)) (.skip))) (.seq (.region 26 (rgn Tryd.f34 26) false) (.region 27 (rgn Tryd.f34 27) false))))) (.skip))) (.seq (.seq (.region 28 (rgn Tryd.f34 28) false) (.cond (.tmp 109) (.seq (.region 29 (rgn Tryd.f34 29) false) (.ret)) (.skip))) (.seq (.region 30 (rgn Tryd.f34 30) false) (.ret))) : Code) = sf
    have hdec : ∀ (E : Env), E 0 = .string ⟨⟨r⟩⟩ → E 4 = .int .u64 0 → E 5 = .int .i64 ((0 : Nat) : Int) → ∃ z b : Int, 0 ≤ z ∧ z < 18446744073709551616 ∧
        execG PP XX (CG N hk (d + 1)) N noPr (.seq (.block 2 (.loop (.seq (.seq (.region 12 (rgn Tryd.f34 12) false) (.cond (.tmp 56) (.skip) (.exit 2))) (.block 3 (.seq (.region 13 (rgn Tryd.f34 13) false) (.seq (.seq (.region 14 (rgn Tryd.f34 14) false) (.cond (.tmp 66) (.seq (.region 15 (rgn Tryd.f34 15) false) (.ret)) (.skip))) (.seq (.region 16 (rgn Tryd.f34 16) false) (.region 17 (rgn Tryd.f34 17) false)))))))) (.seq (.region 18 (rgn Tryd.f34 18) false) (.cond (.tmp 75) (.seq (.region 19 (rgn Tryd.f34 19) false) (.ret)) (.skip)))) none E [] H (thenE (execG PP XX (CG N hk (d + 1)) N noPr sf none) F) = some (.ret (.tuple #[.int .u64 z, .int .i64 b]), H) := fun E q0 q4 q5 => by
      have l18 := tl (rgn Tryd.f34 18)
      conv at l18 => rhs; simp only [rgn, opsAt, codeOf, Tryd.f34, gS, gN, reduceIte, Nat.reduceEqDiff, tA]
      have l19 := tl (rgn Tryd.f34 19)
      conv at l19 => rhs; simp only [rgn, opsAt, codeOf, Tryd.f34, gS, gN, reduceIte, Nat.reduceEqDiff, tA]
      simp (decide := true) only [↓execG_seq, ↓execG_block, ↓execG_loop]
      refine wi_dec (d := d) (Q := fun x => ∃ z b : Int, 0 ≤ z ∧ z < 18446744073709551616 ∧ x = some (.ret (.tuple #[.int .u64 z, .int .i64 b]), H)) K hG hsm r.length 0 N (by omega) hN (by decide) (by decide) q0 q4 q5 (fun E' h => ?_) fun i' z' E' hi h0 h1 e0 e4 e5 => ?_
      · simp (decide := true) only [thenE_ret, leaveB_ret]
        exact fin E' h
      · cases hz : ((i' : Int) == 0) with
        | true =>
          simp (decide := true) only [↓execG_seq, ↓g_region, ↓execG_ret, ↓g_if, thenE_norm, thenE_ret, g_leave, ↓r_nil, ↓r_cons, ↓o_move, ↓o_assign, ↓o_binOp, nextE_app, putG_bool, normK_app, evalE_tmp, evalE_const, upd_some, bindO_ok, reduceIte, ↓reg_lit l18, ↓reg_lit l19, e5, binA_eql, hz]
          exact fin _ ⟨0, 0, by decide, by decide, by simp (decide := true) only [upd_some, reduceIte], by simp (decide := true) only [upd_some, reduceIte]⟩
        | false =>
          simp (decide := true) only [↓execG_seq, ↓g_region, ↓execG_skip, ↓g_else, thenE_norm, g_leave, ↓r_nil, ↓r_cons, ↓o_move, ↓o_binOp, nextE_app, putG_bool, normK_app, evalE_tmp, evalE_const, upd_some, bindO_ok, reduceIte, ↓reg_lit l18, e5, binA_eql, hz]
          subst hsf
          exact wi_suf (r := r) (i := i') (z := z') (Q := fun x => ∃ z b : Int, 0 ≤ z ∧ z < 18446744073709551616 ∧ x = some (.ret (.tuple #[.int .u64 z, .int .i64 b]), H)) (by simp (decide := true) only [upd_some, reduceIte, e0]) (by simp (decide := true) only [upd_some, reduceIte, e4]) (by simp (decide := true) only [upd_some, reduceIte, e5]) h0 h1 hsm fun E2 h => fin E2 h
    have l0 := tl (rgn Tryd.f34 0)
    conv at l0 => rhs; simp only [rgn, opsAt, codeOf, Tryd.f34, gS, gN, reduceIte, Nat.reduceEqDiff, tA]
    have l1 := tl (rgn Tryd.f34 1)
    conv at l1 => rhs; simp only [rgn, opsAt, codeOf, Tryd.f34, gS, gN, reduceIte, Nat.reduceEqDiff, tA]
    have l2 := tl (rgn Tryd.f34 2)
    conv at l2 => rhs; simp only [rgn, opsAt, codeOf, Tryd.f34, gS, gN, reduceIte, Nat.reduceEqDiff, tA]
    have l3 := tl (rgn Tryd.f34 3)
    conv at l3 => rhs; simp only [rgn, opsAt, codeOf, Tryd.f34, gS, gN, reduceIte, Nat.reduceEqDiff, tA]
    have l4 := tl (rgn Tryd.f34 4)
    conv at l4 => rhs; simp only [rgn, opsAt, codeOf, Tryd.f34, gS, gN, reduceIte, Nat.reduceEqDiff, tA]
    have l10 := tl (rgn Tryd.f34 10)
    conv at l10 => rhs; simp only [rgn, opsAt, codeOf, Tryd.f34, gS, gN, reduceIte, Nat.reduceEqDiff, tA]
    have l11 := tl (rgn Tryd.f34 11)
    conv at l11 => rhs; simp only [rgn, opsAt, codeOf, Tryd.f34, gS, gN, reduceIte, Nat.reduceEqDiff, tA]
    generalize hdc : (.seq (.block 2 (.loop (.seq (.seq (.region 12 (rgn Tryd.f34 12) false) (.cond (.tmp 56) (.skip) (.exit 2))) (.block 3 (.seq (.region 13 (rgn Tryd.f34 13) false) (.seq (.seq (.region 14 (rgn Tryd.f34 14) false) (.cond (.tmp 66) (.seq (.region 15 (rgn Tryd.f34 15) false) (.ret)) (.skip))) (.seq (.region 16 (rgn Tryd.f34 16) false) (.region 17 (rgn Tryd.f34 17) false)))))))) (.seq (.region 18 (rgn Tryd.f34 18) false) (.cond (.tmp 75) (.seq (.region 19 (rgn Tryd.f34 19) false) (.ret)) (.skip))) : Code) = dc at *
    by_cases hl : 1 < r.length
    · have hgt : decide ((r.length : Int) > 1) = true := decide_eq_true (by omega)
      have hix0 := idx_zero (s := r) (by omega)
      have hix1 := idx_one hl
      cases z48 : (((r.getD 0 0).toNat : Int) == 48) with
      | true =>
        cases z120 : (((r.getD 1 0).toNat : Int) == 120) with
        | true =>
          simp (decide := true) only [↓execG_seq, ↓g_region, ↓execG_block, ↓g_if, thenE_norm, ↓r_nil, ↓r_cons, ↓o_move, ↓o_assign, ↓o_pickt, ↓o_binOp, ↓o_index, ↓o_builtin, nextE_app, putK_app, putO_app, putG_bool, normK_app, evalE_tmp, evalE_const, upd_some, bindO_ok, reduceIte, map_one, startE_0, ↓reg_lit l0, ↓reg_lit l1, ↓reg_lit l2, ↓reg_lit l3, ↓reg_lit l4, ↓r_yes _ 3 true 11 _ gd34_3_3, ↓r_yes _ 8 true 16 _ gd34_3_8, len_str, binA_gtr, hgt, hix0, hix1, binA_eql, z48, z120, ↓execG_loop]
          refine wi_hex (d := d) (Q := fun x => ∃ z b : Int, 0 ≤ z ∧ z < 18446744073709551616 ∧ x = some (.ret (.tuple #[.int .u64 z, .int .i64 b]), H)) K hG hsm (r.length - 2) 2 N (by omega) (by omega) (z := 0) (by decide) (by decide) ?_ ?_ ?_ (fun E' h => ?_) fun i' z' E' hi h0 h1 e0 e4 e5 => ?_
          · simp (decide := true) only [upd_some, reduceIte, startE_0]
          · simp (decide := true) only [upd_some, reduceIte]
          · simp (decide := true) only [upd_some, reduceIte]; rfl
          · simp (decide := true) only [thenE_ret, leaveB_ret]
            exact fin E' h
          · cases hq : ((i' : Int) == 2) with
            | true =>
              simp (decide := true) only [↓execG_seq, ↓g_region, ↓execG_ret, ↓g_if, thenE_norm, thenE_ret, g_leave, ↓r_nil, ↓r_cons, ↓o_move, ↓o_assign, ↓o_binOp, nextE_app, putG_bool, normK_app, evalE_tmp, evalE_const, upd_some, bindO_ok, reduceIte, ↓reg_lit l10, ↓reg_lit l11, e5, binA_eql, hq]
              exact fin _ ⟨0, 2, by decide, by decide, by simp (decide := true) only [upd_some, reduceIte], by simp (decide := true) only [upd_some, reduceIte]⟩
            | false =>
              simp (decide := true) only [↓execG_seq, ↓g_region, ↓execG_skip, ↓g_else, thenE_norm, g_leave, ↓r_nil, ↓r_cons, ↓o_move, ↓o_binOp, nextE_app, putG_bool, normK_app, evalE_tmp, evalE_const, upd_some, bindO_ok, reduceIte, ↓reg_lit l10, e5, binA_eql, hq]
              subst hsf
              exact wi_suf (r := r) (i := i') (z := z') (Q := fun x => ∃ z b : Int, 0 ≤ z ∧ z < 18446744073709551616 ∧ x = some (.ret (.tuple #[.int .u64 z, .int .i64 b]), H)) (by simp (decide := true) only [upd_some, reduceIte, e0]) (by simp (decide := true) only [upd_some, reduceIte, e4]) (by simp (decide := true) only [upd_some, reduceIte, e5]) h0 h1 hsm fun E2 h => fin E2 h
        | false =>
          simp (decide := true) only [↓execG_seq, ↓g_region, ↓g_else, thenE_norm, ↓r_nil, ↓r_cons, ↓o_move, ↓o_assign, ↓o_pickt, ↓o_binOp, ↓o_index, ↓o_builtin, nextE_app, putK_app, putO_app, putG_bool, normK_app, evalE_tmp, evalE_const, upd_some, bindO_ok, reduceIte, map_one, startE_0, ↓reg_lit l0, ↓reg_lit l1, ↓reg_lit l2, ↓reg_lit l3, ↓r_yes _ 3 true 11 _ gd34_3_3, ↓r_yes _ 8 true 16 _ gd34_3_8, len_str, binA_gtr, hgt, hix0, hix1, binA_eql, z48, z120]
          refine hdec _ ?_ ?_ ?_
          · simp (decide := true) only [upd_some, reduceIte, startE_0]
          · simp (decide := true) only [upd_some, reduceIte]
          · simp (decide := true) only [upd_some, reduceIte]; rfl
      | false =>
        simp (decide := true) only [↓execG_seq, ↓g_region, ↓g_else, thenE_norm, ↓r_nil, ↓r_cons, ↓o_move, ↓o_assign, ↓o_pickt, ↓o_pickf, ↓o_binOp, ↓o_index, ↓o_builtin, nextE_app, putK_app, putO_app, putG_bool, normK_app, evalE_tmp, evalE_const, upd_some, bindO_ok, reduceIte, map_one, startE_0, Bool.not_true, ↓reg_lit l0, ↓reg_lit l1, ↓reg_lit l2, ↓reg_lit l3, ↓r_yes _ 3 true 11 _ gd34_3_3, ↓r_no _ 8 true 16 _ gd34_3_8, len_str, binA_gtr, hgt, hix0, binA_eql, z48]
        refine hdec _ ?_ ?_ ?_
        · simp (decide := true) only [upd_some, reduceIte, startE_0]
        · simp (decide := true) only [upd_some, reduceIte]
        · simp (decide := true) only [upd_some, reduceIte]; rfl
    · have hgt : decide ((r.length : Int) > 1) = false := decide_eq_false (by omega)
      simp (decide := true) only [↓execG_seq, ↓g_region, ↓g_else, thenE_norm, ↓r_nil, ↓r_cons, ↓o_move, ↓o_assign, ↓o_pickf, ↓o_binOp, ↓o_builtin, nextE_app, putK_app, putG_bool, normK_app, evalE_tmp, evalE_const, upd_some, bindO_ok, reduceIte, map_one, startE_0, Bool.not_true, ↓reg_lit l0, ↓reg_lit l1, ↓reg_lit l2, ↓reg_lit l3, ↓r_no _ 3 true 11 _ gd34_3_3, ↓r_no _ 8 true 16 _ gd34_3_8, len_str, binA_gtr, hgt]
      refine hdec _ ?_ ?_ ?_
      · simp (decide := true) only [upd_some, reduceIte, startE_0]
      · simp (decide := true) only [upd_some, reduceIte]
      · simp (decide := true) only [upd_some, reduceIte]; rfl
  obtain ⟨R0, m1, z, b, h0, h1, m2⟩ := main
  exact ⟨z, b, h0, h1, m1.trans m2⟩
end Go.Am
