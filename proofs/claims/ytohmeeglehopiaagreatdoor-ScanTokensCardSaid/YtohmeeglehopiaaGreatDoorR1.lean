/- The reference: blanks, a word's end, reserved words. -/
import Derived.Test.YtohmeeglehopiaaGreatDoorS8
import Derived.Test.YtohmeeglehopiaaGreatDoorZ1
open Go.Proofs
namespace Go.Am
theorem r_un {P : Program} {X : Xf} {K : Kf} {A : Array Oper} {d : Option Tmp} {t : TypeId} {p : String} {af : Array Edge} {E : Env} {ds : List Deferred} {H : Heap} {k : KE} {kp : List PanicEntry → KE} (op : Op) (j : Nat) (w : Bool) (e : Tmp) (rest : List Oper) (hd : (A[j]?).bind (·.dst) = some e) (h : E e = undef) :
    execOpsE P X K A (⟨d, op, t, p, af, some (j, w)⟩ :: rest) E ds H k kp = execOpsE P X K A rest (upd E d undef) ds H k kp := by
  show guardE A _ E _ _ = _
  simp [guardE, hd, h, undef]
theorem byte_all {p : UInt8 → Bool} (h : (List.range 256).all (fun n => p (UInt8.ofNat n)) = true) (u : UInt8) : p u = true := by
  have := List.all_eq_true.mp h u.toNat (List.mem_range.mpr u.toNat_lt)
  have e : UInt8.ofNat u.toNat = u := by simp
  rw [e] at this
  exact this
theorem len_str (s : List UInt8) (H : Heap) (k : Value → Heap → R) : builtinK PP .len #[9] #[.string ⟨⟨s⟩⟩] H k = k (.int .i64 s.length) H := by
  have e : (⟨⟨s⟩⟩ : ByteArray).size = s.length := rfl
  simp [builtinK, lenA, bindO, e]
theorem idx_str {s : List UInt8} {i : Nat} (h : i < s.length) : indexA PP 9 (.string ⟨⟨s⟩⟩) (.int .i64 (i : Int)) = some (.int .u8 (s[i].toNat : Int)) := by
  have e : (⟨⟨s⟩⟩ : ByteArray)[i]? = some s[i] := by
    show (if h : i < (⟨⟨s⟩⟩ : ByteArray).size then some ((⟨⟨s⟩⟩ : ByteArray)[i]) else none) = _
    rw [dif_pos (show i < (⟨⟨s⟩⟩ : ByteArray).size from h)]
    rfl
  simp only [indexA, undStr, byteAt]
  rw [if_pos (by omega)]
  simp only [Int.toNat_natCast, e]
theorem sl_str {s : List UInt8} {i j : Nat} (h1 : i ≤ j) (h2 : j ≤ s.length) (H : Heap) : sliceOpA PP 9 (.string ⟨⟨s⟩⟩) (some (.int .i64 (i : Int))) (some (.int .i64 (j : Int))) none H = some (.string ⟨⟨(s.take j).drop i⟩⟩) := by
  have e : (⟨⟨s⟩⟩ : ByteArray).size = s.length := rfl
  simp only [sliceOpA, undStr, sliceS, e]
  rw [if_pos (by omega)]
  simp only [Int.toNat_natCast]
  congr 2
  apply ByteArray.ext
  apply Array.ext'
  simp [ByteArray.data_extract]
  rw [List.drop_take]
structure HkR (hk : Hook) : Prop where
  nil : ∀ f args H, okC f = true → hk f args H = none
  dig : ∀ (u : UInt8) H, Ext GE H → hk 48 #[.int .u8 (u.toNat : Int)] H = some (some (.ret (.bool (digN u.toNat)), H))
  wb : ∀ (u : UInt8) H, Ext GE H → hk 51 #[.int .u8 (u.toNat : Int)] H = some (some (.ret (.bool (wbN u.toNat)), H))
  hex : ∀ (u : UInt8) H, Ext GE H → hk 67 #[.int .u8 (u.toNat : Int)] H = some (some (.ret (.int .i64 (rhN u.toNat)), H))
theorem cls_one (u : UInt8) : (decide (clsI u = 1) == (u == 32 || u == 9 || u == 10 || u == 13)) = true := byte_all (p := fun u => decide (clsI u = 1) == (u == 32 || u == 9 || u == 10 || u == 13)) (by decide +kernel) u
theorem cls_two (u : UInt8) : (decide (clsI u = 2) == (u == 35)) = true := byte_all (p := fun u => decide (clsI u = 2) == (u == 35)) (by decide +kernel) u
theorem cls_wb (u : UInt8) : ((decide (clsI u = 4) || decide (clsI u = 3)) == wbN u.toNat) = true := byte_all (p := fun u => (decide (clsI u = 4) || decide (clsI u = 3)) == wbN u.toNat) (by decide +kernel) u
theorem cls_dig (u : UInt8) : (decide (clsI u = 3) == digN u.toNat) = true := byte_all (p := fun u => decide (clsI u = 3) == digN u.toNat) (by decide +kernel) u
theorem cls_text (u : UInt8) : (decide (clsI u = 5) == (u == 34)) = true := byte_all (p := fun u => decide (clsI u = 5) == (u == 34)) (by decide +kernel) u
theorem isI_one {s : List UInt8} {i : Nat} (hi : i < s.length) : isI s i 1 = (s[i] == 32 || s[i] == 9 || s[i] == 10 || s[i] == 13) := by
  have := cls_one s[i]
  rw [beq_iff_eq] at this
  rw [isI, clsI_of s hi, decide_eq_true hi, Bool.true_and, ← this]
  rw [Bool.eq_iff_iff]; simp
theorem isI_two {s : List UInt8} {i : Nat} (hi : i < s.length) : isI s i 2 = (s[i] == 35) := by
  have := cls_two s[i]
  rw [beq_iff_eq] at this
  rw [isI, clsI_of s hi, decide_eq_true hi, Bool.true_and, ← this]
  rw [Bool.eq_iff_iff]; simp
theorem isI_dig {s : List UInt8} {i : Nat} (hi : i < s.length) : isI s i 3 = digN s[i].toNat := by
  have := cls_dig s[i]
  rw [beq_iff_eq] at this
  rw [isI, clsI_of s hi, decide_eq_true hi, Bool.true_and, ← this]
  rw [Bool.eq_iff_iff]; simp
theorem isW_wb {s : List UInt8} {i : Nat} (hi : i < s.length) : isW s i = wbN s[i].toNat := by
  have := cls_wb s[i]
  rw [beq_iff_eq] at this
  rw [isW, isI, isI, clsI_of s hi, decide_eq_true hi, Bool.true_and, Bool.true_and, ← this]
  rw [Bool.eq_iff_iff]; simp
theorem code29 : codeOf Tryz.f29 = .seq (.region 0 (rgn Tryz.f29 0) false) (.seq (.block 0 (.loop (.seq (.seq (.region 1 (rgn Tryz.f29 1) false) (.cond (.tmp 9) (.skip) (.exit 0))) (.block 1 (.seq (.region 2 (rgn Tryz.f29 2) false) (.seq (.region 3 (rgn Tryz.f29 3) false) (.cond (.tmp 14) (.block 2 (.loop (.seq (.seq (.region 4 (rgn Tryz.f29 4) false) (.cond (.tmp 24) (.skip) (.exit 2))) (.block 3 (.region 5 (rgn Tryz.f29 5) false))))) (.seq (.region 6 (rgn Tryz.f29 6) false) (.cond (.tmp 40) (.region 7 (rgn Tryz.f29 7) false) (.seq (.region 8 (rgn Tryz.f29 8) false) (.ret))))))))))) (.seq (.region 9 (rgn Tryz.f29 9) false) (.ret))) := by kernel_rfl
theorem gd29_4_4 : ((rgn Tryz.f29 4)[4]?).bind (·.dst) = some 19 := by kernel_rfl
theorem gd29_6_2 : ((rgn Tryz.f29 6)[2]?).bind (·.dst) = some 29 := by kernel_rfl
theorem gd29_6_6 : ((rgn Tryz.f29 6)[6]?).bind (·.dst) = some 33 := by kernel_rfl
theorem gd29_6_10 : ((rgn Tryz.f29 6)[10]?).bind (·.dst) = some 37 := by kernel_rfl
theorem code49 : codeOf Tryz.f49 = .seq (.region 0 (rgn Tryz.f49 0) false) (.seq (.block 0 (.loop (.seq (.seq (.region 1 (rgn Tryz.f49 1) false) (.cond (.tmp 14) (.skip) (.exit 0))) (.block 1 (.region 2 (rgn Tryz.f49 2) false))))) (.seq (.region 3 (rgn Tryz.f49 3) false) (.ret))) := by kernel_rfl
theorem gd49_1_4 : ((rgn Tryz.f49 1)[4]?).bind (·.dst) = some 9 := by kernel_rfl
theorem code52 : codeOf Tryz.f52 = .seq (.region 0 (rgn Tryz.f52 0) false) (.seq (.seq (.region 1 (rgn Tryz.f52 1) false) (.block 0 (.loop (.seq (.seq (.region 2 (rgn Tryz.f52 2) false) (.cond (.tmp 5) (.skip) (.exit 0))) (.seq (.block 1 (.seq (.region 4 (rgn Tryz.f52 4) false) (.cond (.tmp 12) (.seq (.region 5 (rgn Tryz.f52 5) false) (.ret)) (.skip)))) (.region 3 (rgn Tryz.f52 3) false)))))) (.seq (.region 6 (rgn Tryz.f52 6) false) (.ret))) := by kernel_rfl

section
theorem rb_in_step {K : Kf} {N : Nat} {H : Heap} {s : List UInt8} {i : Nat} {E : Env} {Q : R → Prop} {k : KOE} (e0 : E 0 = .string ⟨⟨s⟩⟩) (e1 : E 1 = .int .i64 (i : Int)) (hi : i < s.length) (hsm : s.length < 9223372036854775808) (hne : s[i] ≠ 10) (hx : ∀ E', E' 0 = .string ⟨⟨s⟩⟩ → E' 1 = .int .i64 ((i + 1 : Nat) : Int) → Q (k .norm E' [] H)) :
    Q (execG PP XX K N noPr (.seq (.seq (.region 4 (rgn Tryz.f29 4) false) (.cond (.tmp 24) (.skip) (.exit 2))) (.block 3 (.region 5 (rgn Tryz.f29 5) false))) none E [] H k) := by
  have w : IntKind.i64.wrap ((i : Int) + 1) = ((i + 1 : Nat) : Int) := by rw [wrap_i64 (by omega) (by omega)]; omega
  have hlt : decide ((i : Int) < (s.length : Int)) = true := decide_eq_true (by omega)
  have hix := idx_str (s := s) hi
  have h10 : ((s[i].toNat : Int) != 10) = true := by
    have := toNat_eq s[i] 10
    have e : ((10 : UInt8).toNat : Int) = 10 := rfl
    rw [e] at this
    simp only [bne, this, decide_eq_false hne, Bool.not_false]
  have l4 := tl (rgn Tryz.f29 4)
  conv at l4 => rhs; simp only [rgn, opsAt, codeOf, Tryz.f29, gS, gN, reduceIte, Nat.reduceEqDiff, tA]
  have l5 := tl (rgn Tryz.f29 5)
  conv at l5 => rhs; simp only [rgn, opsAt, codeOf, Tryz.f29, gS, gN, reduceIte, Nat.reduceEqDiff, tA]
  simp (decide := true) only [↓execG_seq, ↓g_region, ↓execG_block, ↓execG_skip, ↓g_if, thenE_norm, leaveB_norm, ↓r_nil, ↓r_cons, ↓o_move, ↓o_assign, ↓o_pickt, ↓o_binOp, ↓o_index, ↓o_builtin, nextE_app, putK_app, putO_app, putG_bool, putG_int, normK_app, evalE_tmp, evalE_const, upd_some, bindO_ok, reduceIte, map_one, ↓reg_lit l4, ↓reg_lit l5, ↓r_yes _ 4 true 19 _ gd29_4_4, e0, e1, len_str, binA_lss, binA_neq, binA_add, hlt, h10, w, hix]
  exact hx _ (by simp (decide := true) only [upd_some, reduceIte, e0]) (by simp (decide := true) only [upd_some, reduceIte, e1])
theorem rb_in_stop {K : Kf} {N : Nat} {H : Heap} {s : List UInt8} {i : Nat} {E : Env} {Q : R → Prop} {k : KOE} (e0 : E 0 = .string ⟨⟨s⟩⟩) (e1 : E 1 = .int .i64 (i : Int)) (hs : i < s.length → s.getD i 0 = 10) (hx : ∀ E', E' 0 = .string ⟨⟨s⟩⟩ → E' 1 = .int .i64 (i : Int) → Q (k (.exit 2) E' [] H)) :
    Q (execG PP XX K N noPr (.seq (.seq (.region 4 (rgn Tryz.f29 4) false) (.cond (.tmp 24) (.skip) (.exit 2))) (.block 3 (.region 5 (rgn Tryz.f29 5) false))) none E [] H k) := by
  by_cases hi : i < s.length
  · have hlt : decide ((i : Int) < (s.length : Int)) = true := decide_eq_true (by omega)
    have hix := idx_str (s := s) hi
    have he : s[i] = 10 := by have := hs hi; simpa [List.getD, hi] using this
    have h10 : ((s[i].toNat : Int) != 10) = false := by rw [he]; rfl
    have l4 := tl (rgn Tryz.f29 4)
    conv at l4 => rhs; simp only [rgn, opsAt, codeOf, Tryz.f29, gS, gN, reduceIte, Nat.reduceEqDiff, tA]
    have l5 := tl (rgn Tryz.f29 5)
    conv at l5 => rhs; simp only [rgn, opsAt, codeOf, Tryz.f29, gS, gN, reduceIte, Nat.reduceEqDiff, tA]
    simp (decide := true) only [↓execG_seq, ↓g_region, ↓execG_exit, ↓g_else, thenE_norm, thenE_exit, ↓r_nil, ↓r_cons, ↓o_move, ↓o_pickt, ↓o_binOp, ↓o_index, ↓o_builtin, nextE_app, putK_app, putO_app, putG_bool, normK_app, evalE_tmp, evalE_const, upd_some, bindO_ok, reduceIte, map_one, ↓reg_lit l4, ↓r_yes _ 4 true 19 _ gd29_4_4, e0, e1, len_str, binA_lss, binA_neq, hlt, h10, hix]
    exact hx _ (by simp (decide := true) only [upd_some, reduceIte, e0]) (by simp (decide := true) only [upd_some, reduceIte, e1])
  · have hlt : decide ((i : Int) < (s.length : Int)) = false := decide_eq_false (by omega)
    have l4 := tl (rgn Tryz.f29 4)
    conv at l4 => rhs; simp only [rgn, opsAt, codeOf, Tryz.f29, gS, gN, reduceIte, Nat.reduceEqDiff, tA]
    have l5 := tl (rgn Tryz.f29 5)
    conv at l5 => rhs; simp only [rgn, opsAt, codeOf, Tryz.f29, gS, gN, reduceIte, Nat.reduceEqDiff, tA]
    simp (decide := true) only [↓execG_seq, ↓g_region, ↓execG_exit, ↓g_else, thenE_norm, thenE_exit, ↓r_nil, ↓r_cons, ↓o_move, ↓o_pickf, ↓o_binOp, ↓o_builtin, nextE_app, putK_app, putG_bool, normK_app, evalE_tmp, evalE_const, upd_some, bindO_ok, reduceIte, map_one, Bool.not_true, ↓reg_lit l4, ↓r_no _ 4 true 19 _ gd29_4_4, e0, e1, len_str, binA_lss, hlt]
    exact hx _ (by simp (decide := true) only [upd_some, reduceIte, e0]) (by simp (decide := true) only [upd_some, reduceIte, e1])
theorem rb_in_then {K : Kf} {N : Nat} {H : Heap} {s : List UInt8} {Q : R → Prop} {k : KOE} (hsm : s.length < 9223372036854775808) :
    ∀ (n i m : Nat) (_ : i + n = s.length) (_ : n < m) {E : Env} (_ : E 0 = .string ⟨⟨s⟩⟩) (_ : E 1 = .int .i64 (i : Int)) (_ : ∀ E', E' 0 = .string ⟨⟨s⟩⟩ → E' 1 = .int .i64 (lineEnd s n i : Int) → Q (k (.exit 2) E' [] H)),
      Q (loopE (execG PP XX K N noPr (.seq (.seq (.region 4 (rgn Tryz.f29 4) false) (.cond (.tmp 24) (.skip) (.exit 2))) (.block 3 (.region 5 (rgn Tryz.f29 5) false))) none) m E [] H k)
  | 0, i, m + 1, hn, hm, E, e0, e1, hx => by
    rw [loopE_succ]
    exact rb_in_stop e0 e1 (fun hi => by omega) fun E' e' e'' => hx E' e' e''
  | n + 1, i, m + 1, hn, hm, E, e0, e1, hx => by
    rw [loopE_succ]
    by_cases h10 : s.getD i 0 = 10
    · have e : lineEnd s (n + 1) i = i := by unfold lineEnd; rw [if_pos h10]
      rw [e] at hx
      exact rb_in_stop e0 e1 (fun _ => h10) fun E' e' e'' => hx E' e' e''
    · have e : lineEnd s (n + 1) i = lineEnd s n (i + 1) := by rw [lineEnd, if_neg h10]
      rw [e] at hx
      have hi : i < s.length := by omega
      refine rb_in_step e0 e1 hi hsm (by simpa [List.getD, hi] using h10) fun E' e' e'' => ?_
      rw [thenE_norm]
      exact rb_in_then hsm n (i + 1) m (by omega) (by omega) e' e'' hx
theorem rb_end {K : Kf} {N : Nat} {H : Heap} {s : List UInt8} {i : Nat} {E : Env} {Q : R → Prop} {k : KOE} (e0 : E 0 = .string ⟨⟨s⟩⟩) (e1 : E 1 = .int .i64 (i : Int)) (hi : ¬ i < s.length) (hx : ∀ E', E' 0 = .string ⟨⟨s⟩⟩ → E' 1 = .int .i64 (i : Int) → Q (k (.exit 0) E' [] H)) :
    Q (execG PP XX K N noPr (.seq (.seq (.region 1 (rgn Tryz.f29 1) false) (.cond (.tmp 9) (.skip) (.exit 0))) (.block 1 (.seq (.region 2 (rgn Tryz.f29 2) false) (.seq (.region 3 (rgn Tryz.f29 3) false) (.cond (.tmp 14) (.block 2 (.loop (.seq (.seq (.region 4 (rgn Tryz.f29 4) false) (.cond (.tmp 24) (.skip) (.exit 2))) (.block 3 (.region 5 (rgn Tryz.f29 5) false))))) (.seq (.region 6 (rgn Tryz.f29 6) false) (.cond (.tmp 40) (.region 7 (rgn Tryz.f29 7) false) (.seq (.region 8 (rgn Tryz.f29 8) false) (.ret))))))))) none E [] H k) := by
  have hlt : decide ((i : Int) < (s.length : Int)) = false := decide_eq_false (by omega)
  have l1 := tl (rgn Tryz.f29 1)
  conv at l1 => rhs; simp only [rgn, opsAt, codeOf, Tryz.f29, gS, gN, reduceIte, Nat.reduceEqDiff, tA]
  simp (decide := true) only [↓execG_seq, ↓g_region, ↓execG_exit, ↓g_else, thenE_norm, thenE_exit, ↓r_nil, ↓r_cons, ↓o_move, ↓o_binOp, ↓o_builtin, nextE_app, putK_app, putG_bool, normK_app, evalE_tmp, upd_some, bindO_ok, reduceIte, map_one, ↓reg_lit l1, e0, e1, len_str, binA_lss, hlt]
  exact hx _ (by simp (decide := true) only [upd_some, reduceIte, e0]) (by simp (decide := true) only [upd_some, reduceIte, e1])
theorem rb_hash {K : Kf} {N : Nat} {H : Heap} {s : List UInt8} {i : Nat} {E : Env} {Q : R → Prop} {k : KOE} (e0 : E 0 = .string ⟨⟨s⟩⟩) (e1 : E 1 = .int .i64 (i : Int)) (hi : i < s.length) (hsm : s.length < 9223372036854775808) (hN : s.length < N) (hc : s[i] = 35) (hx : ∀ E', E' 0 = .string ⟨⟨s⟩⟩ → E' 1 = .int .i64 (lineEnd s (s.length - i) i : Int) → Q (k .norm E' [] H)) :
    Q (execG PP XX K N noPr (.seq (.seq (.region 1 (rgn Tryz.f29 1) false) (.cond (.tmp 9) (.skip) (.exit 0))) (.block 1 (.seq (.region 2 (rgn Tryz.f29 2) false) (.seq (.region 3 (rgn Tryz.f29 3) false) (.cond (.tmp 14) (.block 2 (.loop (.seq (.seq (.region 4 (rgn Tryz.f29 4) false) (.cond (.tmp 24) (.skip) (.exit 2))) (.block 3 (.region 5 (rgn Tryz.f29 5) false))))) (.seq (.region 6 (rgn Tryz.f29 6) false) (.cond (.tmp 40) (.region 7 (rgn Tryz.f29 7) false) (.seq (.region 8 (rgn Tryz.f29 8) false) (.ret))))))))) none E [] H k) := by
  have hlt : decide ((i : Int) < (s.length : Int)) = true := decide_eq_true (by omega)
  have hix := idx_str (s := s) hi
  have z35 : ((s[i].toNat : Int) == 35) = true := (toNat_eq s[i] 35).trans (by rw [hc]; rfl)
  have l1 := tl (rgn Tryz.f29 1)
  conv at l1 => rhs; simp only [rgn, opsAt, codeOf, Tryz.f29, gS, gN, reduceIte, Nat.reduceEqDiff, tA]
  have l2 := tl (rgn Tryz.f29 2)
  conv at l2 => rhs; simp only [rgn, opsAt, codeOf, Tryz.f29, gS, gN, reduceIte, Nat.reduceEqDiff, tA]
  have l3 := tl (rgn Tryz.f29 3)
  conv at l3 => rhs; simp only [rgn, opsAt, codeOf, Tryz.f29, gS, gN, reduceIte, Nat.reduceEqDiff, tA]
  simp (decide := true) only [↓execG_seq, ↓g_region, ↓execG_block, ↓execG_skip, ↓g_if, thenE_norm, ↓r_nil, ↓r_cons, ↓o_move, ↓o_assign, ↓o_binOp, ↓o_index, ↓o_builtin, nextE_app, putK_app, putO_app, putG_bool, normK_app, evalE_tmp, evalE_const, upd_some, bindO_ok, reduceIte, map_one, ↓reg_lit l1, ↓reg_lit l2, ↓reg_lit l3, e0, e1, len_str, binA_lss, hlt, hix, binA_eql, z35, ↓execG_loop]
  refine rb_in_then hsm (s.length - i) i N (by omega) (by omega) ?_ ?_ fun E' e' e'' => ?_
  · simp (decide := true) only [upd_some, reduceIte, e0]
  · simp (decide := true) only [upd_some, reduceIte, e1]
  simp (decide := true) only [leaveB_norm, g_leave]
  exact hx E' e' e''
theorem rb_b32 {K : Kf} {N : Nat} {H : Heap} {s : List UInt8} {i : Nat} {E : Env} {Q : R → Prop} {k : KOE} (e0 : E 0 = .string ⟨⟨s⟩⟩) (e1 : E 1 = .int .i64 (i : Int)) (hi : i < s.length) (hsm : s.length < 9223372036854775808) (hc : s[i] = 32) (hx : ∀ E', E' 0 = .string ⟨⟨s⟩⟩ → E' 1 = .int .i64 ((i + 1 : Nat) : Int) → Q (k .norm E' [] H)) :
    Q (execG PP XX K N noPr (.seq (.seq (.region 1 (rgn Tryz.f29 1) false) (.cond (.tmp 9) (.skip) (.exit 0))) (.block 1 (.seq (.region 2 (rgn Tryz.f29 2) false) (.seq (.region 3 (rgn Tryz.f29 3) false) (.cond (.tmp 14) (.block 2 (.loop (.seq (.seq (.region 4 (rgn Tryz.f29 4) false) (.cond (.tmp 24) (.skip) (.exit 2))) (.block 3 (.region 5 (rgn Tryz.f29 5) false))))) (.seq (.region 6 (rgn Tryz.f29 6) false) (.cond (.tmp 40) (.region 7 (rgn Tryz.f29 7) false) (.seq (.region 8 (rgn Tryz.f29 8) false) (.ret))))))))) none E [] H k) := by
  have w : IntKind.i64.wrap ((i : Int) + 1) = ((i + 1 : Nat) : Int) := by rw [wrap_i64 (by omega) (by omega)]; omega
  have hlt : decide ((i : Int) < (s.length : Int)) = true := decide_eq_true (by omega)
  have hix := idx_str (s := s) hi
  have z35 : ((s[i].toNat : Int) == 35) = false := (toNat_eq s[i] 35).trans (by rw [hc]; rfl)
  have z32 : ((s[i].toNat : Int) == 32) = true := (toNat_eq s[i] 32).trans (by rw [hc]; rfl)
  have l1 := tl (rgn Tryz.f29 1)
  conv at l1 => rhs; simp only [rgn, opsAt, codeOf, Tryz.f29, gS, gN, reduceIte, Nat.reduceEqDiff, tA]
  have l2 := tl (rgn Tryz.f29 2)
  conv at l2 => rhs; simp only [rgn, opsAt, codeOf, Tryz.f29, gS, gN, reduceIte, Nat.reduceEqDiff, tA]
  have l3 := tl (rgn Tryz.f29 3)
  conv at l3 => rhs; simp only [rgn, opsAt, codeOf, Tryz.f29, gS, gN, reduceIte, Nat.reduceEqDiff, tA]
  have l6 := tl (rgn Tryz.f29 6)
  conv at l6 => rhs; simp only [rgn, opsAt, codeOf, Tryz.f29, gS, gN, reduceIte, Nat.reduceEqDiff, tA]
  have l7 := tl (rgn Tryz.f29 7)
  conv at l7 => rhs; simp only [rgn, opsAt, codeOf, Tryz.f29, gS, gN, reduceIte, Nat.reduceEqDiff, tA]
  simp (decide := true) only [↓execG_seq, ↓g_region, ↓execG_block, ↓execG_skip, ↓g_if, ↓g_else, thenE_norm, leaveB_norm, ↓r_nil, ↓r_cons, ↓o_move, ↓o_assign, ↓o_pickt, ↓o_binOp, ↓o_index, ↓o_builtin, nextE_app, putK_app, putO_app, putG_bool, putG_int, normK_app, evalE_tmp, evalE_const, upd_some, bindO_ok, reduceIte, map_one, Bool.not_false, ↓reg_lit l1, ↓reg_lit l2, ↓reg_lit l3, ↓reg_lit l6, ↓reg_lit l7, ↓r_no _ 2 false 29 _ gd29_6_2, ↓r_no _ 6 false 33 _ gd29_6_6, ↓r_no _ 10 false 37 _ gd29_6_10, e0, e1, len_str, binA_lss, hlt, hix, binA_eql, z35, z32, binA_add, w]
  exact hx _ (by simp (decide := true) only [upd_some, reduceIte, e0]) (by simp (decide := true) only [upd_some, reduceIte, e1])
theorem rb_b9 {K : Kf} {N : Nat} {H : Heap} {s : List UInt8} {i : Nat} {E : Env} {Q : R → Prop} {k : KOE} (e0 : E 0 = .string ⟨⟨s⟩⟩) (e1 : E 1 = .int .i64 (i : Int)) (hi : i < s.length) (hsm : s.length < 9223372036854775808) (hc : s[i] = 9) (hx : ∀ E', E' 0 = .string ⟨⟨s⟩⟩ → E' 1 = .int .i64 ((i + 1 : Nat) : Int) → Q (k .norm E' [] H)) :
    Q (execG PP XX K N noPr (.seq (.seq (.region 1 (rgn Tryz.f29 1) false) (.cond (.tmp 9) (.skip) (.exit 0))) (.block 1 (.seq (.region 2 (rgn Tryz.f29 2) false) (.seq (.region 3 (rgn Tryz.f29 3) false) (.cond (.tmp 14) (.block 2 (.loop (.seq (.seq (.region 4 (rgn Tryz.f29 4) false) (.cond (.tmp 24) (.skip) (.exit 2))) (.block 3 (.region 5 (rgn Tryz.f29 5) false))))) (.seq (.region 6 (rgn Tryz.f29 6) false) (.cond (.tmp 40) (.region 7 (rgn Tryz.f29 7) false) (.seq (.region 8 (rgn Tryz.f29 8) false) (.ret))))))))) none E [] H k) := by
  have w : IntKind.i64.wrap ((i : Int) + 1) = ((i + 1 : Nat) : Int) := by rw [wrap_i64 (by omega) (by omega)]; omega
  have hlt : decide ((i : Int) < (s.length : Int)) = true := decide_eq_true (by omega)
  have hix := idx_str (s := s) hi
  have z35 : ((s[i].toNat : Int) == 35) = false := (toNat_eq s[i] 35).trans (by rw [hc]; rfl)
  have z32 : ((s[i].toNat : Int) == 32) = false := (toNat_eq s[i] 32).trans (by rw [hc]; rfl)
  have z9 : ((s[i].toNat : Int) == 9) = true := (toNat_eq s[i] 9).trans (by rw [hc]; rfl)
  have l1 := tl (rgn Tryz.f29 1)
  conv at l1 => rhs; simp only [rgn, opsAt, codeOf, Tryz.f29, gS, gN, reduceIte, Nat.reduceEqDiff, tA]
  have l2 := tl (rgn Tryz.f29 2)
  conv at l2 => rhs; simp only [rgn, opsAt, codeOf, Tryz.f29, gS, gN, reduceIte, Nat.reduceEqDiff, tA]
  have l3 := tl (rgn Tryz.f29 3)
  conv at l3 => rhs; simp only [rgn, opsAt, codeOf, Tryz.f29, gS, gN, reduceIte, Nat.reduceEqDiff, tA]
  have l6 := tl (rgn Tryz.f29 6)
  conv at l6 => rhs; simp only [rgn, opsAt, codeOf, Tryz.f29, gS, gN, reduceIte, Nat.reduceEqDiff, tA]
  have l7 := tl (rgn Tryz.f29 7)
  conv at l7 => rhs; simp only [rgn, opsAt, codeOf, Tryz.f29, gS, gN, reduceIte, Nat.reduceEqDiff, tA]
  simp (decide := true) only [↓execG_seq, ↓g_region, ↓execG_block, ↓execG_skip, ↓g_if, ↓g_else, thenE_norm, leaveB_norm, ↓r_nil, ↓r_cons, ↓o_move, ↓o_assign, ↓o_pickt, ↓o_pickf, ↓o_binOp, ↓o_index, ↓o_builtin, nextE_app, putK_app, putO_app, putG_bool, putG_int, normK_app, evalE_tmp, evalE_const, upd_some, bindO_ok, reduceIte, map_one, Bool.not_false, ↓reg_lit l1, ↓reg_lit l2, ↓reg_lit l3, ↓reg_lit l6, ↓reg_lit l7, ↓r_yes _ 2 false 29 _ gd29_6_2, ↓r_no _ 6 false 33 _ gd29_6_6, ↓r_no _ 10 false 37 _ gd29_6_10, e0, e1, len_str, binA_lss, hlt, hix, binA_eql, z35, z32, z9, binA_add, w]
  exact hx _ (by simp (decide := true) only [upd_some, reduceIte, e0]) (by simp (decide := true) only [upd_some, reduceIte, e1])
theorem rb_b10 {K : Kf} {N : Nat} {H : Heap} {s : List UInt8} {i : Nat} {E : Env} {Q : R → Prop} {k : KOE} (e0 : E 0 = .string ⟨⟨s⟩⟩) (e1 : E 1 = .int .i64 (i : Int)) (hi : i < s.length) (hsm : s.length < 9223372036854775808) (hc : s[i] = 10) (hx : ∀ E', E' 0 = .string ⟨⟨s⟩⟩ → E' 1 = .int .i64 ((i + 1 : Nat) : Int) → Q (k .norm E' [] H)) :
    Q (execG PP XX K N noPr (.seq (.seq (.region 1 (rgn Tryz.f29 1) false) (.cond (.tmp 9) (.skip) (.exit 0))) (.block 1 (.seq (.region 2 (rgn Tryz.f29 2) false) (.seq (.region 3 (rgn Tryz.f29 3) false) (.cond (.tmp 14) (.block 2 (.loop (.seq (.seq (.region 4 (rgn Tryz.f29 4) false) (.cond (.tmp 24) (.skip) (.exit 2))) (.block 3 (.region 5 (rgn Tryz.f29 5) false))))) (.seq (.region 6 (rgn Tryz.f29 6) false) (.cond (.tmp 40) (.region 7 (rgn Tryz.f29 7) false) (.seq (.region 8 (rgn Tryz.f29 8) false) (.ret))))))))) none E [] H k) := by
  have w : IntKind.i64.wrap ((i : Int) + 1) = ((i + 1 : Nat) : Int) := by rw [wrap_i64 (by omega) (by omega)]; omega
  have hlt : decide ((i : Int) < (s.length : Int)) = true := decide_eq_true (by omega)
  have hix := idx_str (s := s) hi
  have z35 : ((s[i].toNat : Int) == 35) = false := (toNat_eq s[i] 35).trans (by rw [hc]; rfl)
  have z32 : ((s[i].toNat : Int) == 32) = false := (toNat_eq s[i] 32).trans (by rw [hc]; rfl)
  have z9 : ((s[i].toNat : Int) == 9) = false := (toNat_eq s[i] 9).trans (by rw [hc]; rfl)
  have z10 : ((s[i].toNat : Int) == 10) = true := (toNat_eq s[i] 10).trans (by rw [hc]; rfl)
  have l1 := tl (rgn Tryz.f29 1)
  conv at l1 => rhs; simp only [rgn, opsAt, codeOf, Tryz.f29, gS, gN, reduceIte, Nat.reduceEqDiff, tA]
  have l2 := tl (rgn Tryz.f29 2)
  conv at l2 => rhs; simp only [rgn, opsAt, codeOf, Tryz.f29, gS, gN, reduceIte, Nat.reduceEqDiff, tA]
  have l3 := tl (rgn Tryz.f29 3)
  conv at l3 => rhs; simp only [rgn, opsAt, codeOf, Tryz.f29, gS, gN, reduceIte, Nat.reduceEqDiff, tA]
  have l6 := tl (rgn Tryz.f29 6)
  conv at l6 => rhs; simp only [rgn, opsAt, codeOf, Tryz.f29, gS, gN, reduceIte, Nat.reduceEqDiff, tA]
  have l7 := tl (rgn Tryz.f29 7)
  conv at l7 => rhs; simp only [rgn, opsAt, codeOf, Tryz.f29, gS, gN, reduceIte, Nat.reduceEqDiff, tA]
  simp (decide := true) only [↓execG_seq, ↓g_region, ↓execG_block, ↓execG_skip, ↓g_if, ↓g_else, thenE_norm, leaveB_norm, ↓r_nil, ↓r_cons, ↓o_move, ↓o_assign, ↓o_pickt, ↓o_pickf, ↓o_binOp, ↓o_index, ↓o_builtin, nextE_app, putK_app, putO_app, putG_bool, putG_int, normK_app, evalE_tmp, evalE_const, upd_some, bindO_ok, reduceIte, map_one, Bool.not_false, ↓reg_lit l1, ↓reg_lit l2, ↓reg_lit l3, ↓reg_lit l6, ↓reg_lit l7, ↓r_yes _ 2 false 29 _ gd29_6_2, ↓r_yes _ 6 false 33 _ gd29_6_6, ↓r_no _ 10 false 37 _ gd29_6_10, e0, e1, len_str, binA_lss, hlt, hix, binA_eql, z35, z32, z9, z10, binA_add, w]
  exact hx _ (by simp (decide := true) only [upd_some, reduceIte, e0]) (by simp (decide := true) only [upd_some, reduceIte, e1])
theorem rb_b13 {K : Kf} {N : Nat} {H : Heap} {s : List UInt8} {i : Nat} {E : Env} {Q : R → Prop} {k : KOE} (e0 : E 0 = .string ⟨⟨s⟩⟩) (e1 : E 1 = .int .i64 (i : Int)) (hi : i < s.length) (hsm : s.length < 9223372036854775808) (hc : s[i] = 13) (hx : ∀ E', E' 0 = .string ⟨⟨s⟩⟩ → E' 1 = .int .i64 ((i + 1 : Nat) : Int) → Q (k .norm E' [] H)) :
    Q (execG PP XX K N noPr (.seq (.seq (.region 1 (rgn Tryz.f29 1) false) (.cond (.tmp 9) (.skip) (.exit 0))) (.block 1 (.seq (.region 2 (rgn Tryz.f29 2) false) (.seq (.region 3 (rgn Tryz.f29 3) false) (.cond (.tmp 14) (.block 2 (.loop (.seq (.seq (.region 4 (rgn Tryz.f29 4) false) (.cond (.tmp 24) (.skip) (.exit 2))) (.block 3 (.region 5 (rgn Tryz.f29 5) false))))) (.seq (.region 6 (rgn Tryz.f29 6) false) (.cond (.tmp 40) (.region 7 (rgn Tryz.f29 7) false) (.seq (.region 8 (rgn Tryz.f29 8) false) (.ret))))))))) none E [] H k) := by
  have w : IntKind.i64.wrap ((i : Int) + 1) = ((i + 1 : Nat) : Int) := by rw [wrap_i64 (by omega) (by omega)]; omega
  have hlt : decide ((i : Int) < (s.length : Int)) = true := decide_eq_true (by omega)
  have hix := idx_str (s := s) hi
  have z35 : ((s[i].toNat : Int) == 35) = false := (toNat_eq s[i] 35).trans (by rw [hc]; rfl)
  have z32 : ((s[i].toNat : Int) == 32) = false := (toNat_eq s[i] 32).trans (by rw [hc]; rfl)
  have z9 : ((s[i].toNat : Int) == 9) = false := (toNat_eq s[i] 9).trans (by rw [hc]; rfl)
  have z10 : ((s[i].toNat : Int) == 10) = false := (toNat_eq s[i] 10).trans (by rw [hc]; rfl)
  have z13 : ((s[i].toNat : Int) == 13) = true := (toNat_eq s[i] 13).trans (by rw [hc]; rfl)
  have l1 := tl (rgn Tryz.f29 1)
  conv at l1 => rhs; simp only [rgn, opsAt, codeOf, Tryz.f29, gS, gN, reduceIte, Nat.reduceEqDiff, tA]
  have l2 := tl (rgn Tryz.f29 2)
  conv at l2 => rhs; simp only [rgn, opsAt, codeOf, Tryz.f29, gS, gN, reduceIte, Nat.reduceEqDiff, tA]
  have l3 := tl (rgn Tryz.f29 3)
  conv at l3 => rhs; simp only [rgn, opsAt, codeOf, Tryz.f29, gS, gN, reduceIte, Nat.reduceEqDiff, tA]
  have l6 := tl (rgn Tryz.f29 6)
  conv at l6 => rhs; simp only [rgn, opsAt, codeOf, Tryz.f29, gS, gN, reduceIte, Nat.reduceEqDiff, tA]
  have l7 := tl (rgn Tryz.f29 7)
  conv at l7 => rhs; simp only [rgn, opsAt, codeOf, Tryz.f29, gS, gN, reduceIte, Nat.reduceEqDiff, tA]
  simp (decide := true) only [↓execG_seq, ↓g_region, ↓execG_block, ↓execG_skip, ↓g_if, ↓g_else, thenE_norm, leaveB_norm, ↓r_nil, ↓r_cons, ↓o_move, ↓o_assign, ↓o_pickf, ↓o_binOp, ↓o_index, ↓o_builtin, nextE_app, putK_app, putO_app, putG_bool, putG_int, normK_app, evalE_tmp, evalE_const, upd_some, bindO_ok, reduceIte, map_one, ↓reg_lit l1, ↓reg_lit l2, ↓reg_lit l3, ↓reg_lit l6, ↓reg_lit l7, ↓r_yes _ 2 false 29 _ gd29_6_2, ↓r_yes _ 6 false 33 _ gd29_6_6, ↓r_yes _ 10 false 37 _ gd29_6_10, e0, e1, len_str, binA_lss, hlt, hix, binA_eql, z35, z32, z9, z10, z13, binA_add, w]
  exact hx _ (by simp (decide := true) only [upd_some, reduceIte, e0]) (by simp (decide := true) only [upd_some, reduceIte, e1])
theorem rb_other {K : Kf} {N : Nat} {H : Heap} {s : List UInt8} {i : Nat} {E : Env} {Q : R → Prop} {k : KOE} (e0 : E 0 = .string ⟨⟨s⟩⟩) (e1 : E 1 = .int .i64 (i : Int)) (hi : i < s.length) (h1 : isI s i 1 = false) (h2 : isI s i 2 = false) (hx : ∀ E', E' 4 = .int .i64 (i : Int) → Q (k .ret E' [] H)) :
    Q (execG PP XX K N noPr (.seq (.seq (.region 1 (rgn Tryz.f29 1) false) (.cond (.tmp 9) (.skip) (.exit 0))) (.block 1 (.seq (.region 2 (rgn Tryz.f29 2) false) (.seq (.region 3 (rgn Tryz.f29 3) false) (.cond (.tmp 14) (.block 2 (.loop (.seq (.seq (.region 4 (rgn Tryz.f29 4) false) (.cond (.tmp 24) (.skip) (.exit 2))) (.block 3 (.region 5 (rgn Tryz.f29 5) false))))) (.seq (.region 6 (rgn Tryz.f29 6) false) (.cond (.tmp 40) (.region 7 (rgn Tryz.f29 7) false) (.seq (.region 8 (rgn Tryz.f29 8) false) (.ret))))))))) none E [] H k) := by
  have hlt : decide ((i : Int) < (s.length : Int)) = true := decide_eq_true (by omega)
  have hix := idx_str (s := s) hi
  rw [isI_one hi] at h1
  rw [isI_two hi] at h2
  simp only [Bool.or_eq_false_iff, beq_eq_false_iff_ne] at h1 h2
  obtain ⟨⟨⟨q32, q9⟩, q10⟩, q13⟩ := h1
  have z35 : ((s[i].toNat : Int) == 35) = false := (toNat_eq s[i] 35).trans (decide_eq_false h2)
  have z32 : ((s[i].toNat : Int) == 32) = false := (toNat_eq s[i] 32).trans (decide_eq_false q32)
  have z9 : ((s[i].toNat : Int) == 9) = false := (toNat_eq s[i] 9).trans (decide_eq_false q9)
  have z10 : ((s[i].toNat : Int) == 10) = false := (toNat_eq s[i] 10).trans (decide_eq_false q10)
  have z13 : ((s[i].toNat : Int) == 13) = false := (toNat_eq s[i] 13).trans (decide_eq_false q13)
  have l1 := tl (rgn Tryz.f29 1)
  conv at l1 => rhs; simp only [rgn, opsAt, codeOf, Tryz.f29, gS, gN, reduceIte, Nat.reduceEqDiff, tA]
  have l2 := tl (rgn Tryz.f29 2)
  conv at l2 => rhs; simp only [rgn, opsAt, codeOf, Tryz.f29, gS, gN, reduceIte, Nat.reduceEqDiff, tA]
  have l3 := tl (rgn Tryz.f29 3)
  conv at l3 => rhs; simp only [rgn, opsAt, codeOf, Tryz.f29, gS, gN, reduceIte, Nat.reduceEqDiff, tA]
  have l6 := tl (rgn Tryz.f29 6)
  conv at l6 => rhs; simp only [rgn, opsAt, codeOf, Tryz.f29, gS, gN, reduceIte, Nat.reduceEqDiff, tA]
  have l8 := tl (rgn Tryz.f29 8)
  conv at l8 => rhs; simp only [rgn, opsAt, codeOf, Tryz.f29, gS, gN, reduceIte, Nat.reduceEqDiff, tA]
  simp (decide := true) only [↓execG_seq, ↓g_region, ↓execG_block, ↓execG_ret, ↓execG_skip, ↓g_if, ↓g_else, thenE_norm, leaveB_ret, ↓r_nil, ↓r_cons, ↓o_move, ↓o_assign, ↓o_pickf, ↓o_binOp, ↓o_index, ↓o_builtin, nextE_app, putK_app, putO_app, putG_bool, normK_app, evalE_tmp, evalE_const, upd_some, bindO_ok, reduceIte, map_one, ↓reg_lit l1, ↓reg_lit l2, ↓reg_lit l3, ↓reg_lit l6, ↓reg_lit l8, ↓r_yes _ 2 false 29 _ gd29_6_2, ↓r_yes _ 6 false 33 _ gd29_6_6, ↓r_yes _ 10 false 37 _ gd29_6_10, e0, e1, len_str, binA_lss, hlt, hix, binA_eql, z35, z32, z9, z10, z13]
  exact hx _ (by simp (decide := true) only [upd_some, reduceIte])
theorem rb_then {K : Kf} {N : Nat} {H : Heap} {s : List UInt8} {Q : R → Prop} {k : KOE} (hsm : s.length < 9223372036854775808) (hN : s.length < N) :
    ∀ (n i m : Nat) (_ : i ≤ s.length) (_ : s.length ≤ i + n) (_ : n < m) {E : Env} (_ : E 0 = .string ⟨⟨s⟩⟩) (_ : E 1 = .int .i64 (i : Int))
      (_ : ∀ E', E' 1 = .int .i64 (skipTo s n i : Int) → Q (k (.exit 0) E' [] H)) (_ : ∀ E', E' 4 = .int .i64 (skipTo s n i : Int) → Q (k .ret E' [] H)),
      Q (loopE (execG PP XX K N noPr (.seq (.seq (.region 1 (rgn Tryz.f29 1) false) (.cond (.tmp 9) (.skip) (.exit 0))) (.block 1 (.seq (.region 2 (rgn Tryz.f29 2) false) (.seq (.region 3 (rgn Tryz.f29 3) false) (.cond (.tmp 14) (.block 2 (.loop (.seq (.seq (.region 4 (rgn Tryz.f29 4) false) (.cond (.tmp 24) (.skip) (.exit 2))) (.block 3 (.region 5 (rgn Tryz.f29 5) false))))) (.seq (.region 6 (rgn Tryz.f29 6) false) (.cond (.tmp 40) (.region 7 (rgn Tryz.f29 7) false) (.seq (.region 8 (rgn Tryz.f29 8) false) (.ret))))))))) none) m E [] H k)
  | 0, i, m + 1, hi, hn, hm, E, e0, e1, hx, hy => by
    rw [loopE_succ]
    exact rb_end e0 e1 (by omega) fun E' _ e'' => hx E' e''
  | n + 1, i, m + 1, hi, hn, hm, E, e0, e1, hx, hy => by
    rw [loopE_succ]
    by_cases hl : i < s.length
    · by_cases h1 : isI s i 1 = true
      · have e : skipTo s (n + 1) i = skipTo s n (i + 1) := by rw [skipTo, if_pos h1]
        rw [e] at hx hy
        have go : ∀ E', E' 0 = .string ⟨⟨s⟩⟩ → E' 1 = .int .i64 ((i + 1 : Nat) : Int) → Q (thenE (fun E ds H k => loopE (execG PP XX K N noPr (.seq (.seq (.region 1 (rgn Tryz.f29 1) false) (.cond (.tmp 9) (.skip) (.exit 0))) (.block 1 (.seq (.region 2 (rgn Tryz.f29 2) false) (.seq (.region 3 (rgn Tryz.f29 3) false) (.cond (.tmp 14) (.block 2 (.loop (.seq (.seq (.region 4 (rgn Tryz.f29 4) false) (.cond (.tmp 24) (.skip) (.exit 2))) (.block 3 (.region 5 (rgn Tryz.f29 5) false))))) (.seq (.region 6 (rgn Tryz.f29 6) false) (.cond (.tmp 40) (.region 7 (rgn Tryz.f29 7) false) (.seq (.region 8 (rgn Tryz.f29 8) false) (.ret))))))))) none) m E ds H k) k .norm E' [] H) := fun E' e' e'' => by
          rw [thenE_norm]
          exact rb_then hsm hN n (i + 1) m (by omega) (by omega) (by omega) e' e'' hx hy
        rw [isI_one hl] at h1
        simp only [Bool.or_eq_true, beq_iff_eq] at h1
        rcases h1 with ((q | q) | q) | q
        · exact rb_b32 e0 e1 hl hsm q go
        · exact rb_b9 e0 e1 hl hsm q go
        · exact rb_b10 e0 e1 hl hsm q go
        · exact rb_b13 e0 e1 hl hsm q go
      · have h1 : isI s i 1 = false := by simpa using h1
        by_cases h2 : isI s i 2 = true
        · have e : skipTo s (n + 1) i = skipTo s n (lineEnd s (s.length - i) i) := by rw [skipTo, h1, if_neg (by decide), if_pos h2]
          rw [e] at hx hy
          rw [isI_two hl] at h2
          have g := lineEnd_ge s (s.length - i) i
          have hc : s[i] = 35 := by simpa using h2
          have g2 : i < lineEnd s (s.length - i) i := by
            obtain ⟨f, hf⟩ : ∃ f, s.length - i = f + 1 := ⟨s.length - i - 1, by omega⟩
            rw [hf, lineEnd, if_neg (by rw [clsI_of s hl, hc]; decide)]
            have := lineEnd_ge s f (i + 1)
            omega
          refine rb_hash e0 e1 hl hsm hN hc fun E' e' e'' => ?_
          rw [thenE_norm]
          exact rb_then hsm hN n _ m (by omega) (by omega) (by omega) e' e'' hx hy
        · have h2 : isI s i 2 = false := by simpa using h2
          have e : skipTo s (n + 1) i = i := by rw [skipTo, h1, h2]; rfl
          rw [e] at hy
          exact rb_other e0 e1 hl h1 h2 hy
    · have z : ∀ q, isI s i q = false := fun q => by simp [isI]; omega
      have e : skipTo s (n + 1) i = i := by rw [skipTo, z 1, z 2]; rfl
      rw [e] at hx
      exact rb_end e0 e1 hl fun E' _ e'' => hx E' e''
end
theorem call_rblank {N : Nat} {hk : Hook} {d : Nat} {H : Heap} {s : List UInt8} {i : Nat} (hh : ∀ f args H, okC f = true → hk f args H = none) (hi : i ≤ s.length) (hsm : s.length < 9223372036854775808) (hN : s.length < N) :
    CG N hk (d + 1) 29 #[.string ⟨⟨s⟩⟩, .int .i64 (i : Int)] H = some (.ret (.int .i64 (skipTo s (s.length - i) i : Int)), H) := by
  have main : ∃ R0 : R, CG N hk (d + 1) 29 #[.string ⟨⟨s⟩⟩, .int .i64 (i : Int)] H = R0 ∧ R0 = some (.ret (.int .i64 (skipTo s (s.length - i) i : Int)), H) := by
    refine ⟨_, callG_fn (hh _ _ _ rfl) Tryz.func29 (c := codeOf Tryz.f29) rfl rfl rfl (pr := noPr) rfl, ?_⟩
    rw [code29]
    generalize hF : finE PP Tryz.f29 = F
    have l0 := tl (rgn Tryz.f29 0)
    conv at l0 => rhs; simp only [rgn, opsAt, codeOf, Tryz.f29, gS, gN, reduceIte, Nat.reduceEqDiff, tA]
    have l9 := tl (rgn Tryz.f29 9)
    conv at l9 => rhs; simp only [rgn, opsAt, codeOf, Tryz.f29, gS, gN, reduceIte, Nat.reduceEqDiff, tA]
    simp (decide := true) only [↓execG_seq, ↓g_region, ↓execG_block, thenE_norm, ↓r_nil, ↓r_cons, ↓o_assign, nextE_app, normK_app, evalE_const, ↓reg_lit l0, ↓execG_loop]
    refine rb_then (s := s) (Q := fun r => r = some (.ret (.int .i64 (skipTo s (s.length - i) i : Int)), H)) hsm hN (s.length - i) i N hi (by omega) (by omega) ?_ ?_ (fun E' e' => ?_) fun E' e' => ?_
    · simp (decide := true) only [upd_some, reduceIte, startE_0]
    · simp (decide := true) only [upd_some, reduceIte, startE_1]
    · simp (decide := true) only [↓execG_seq, ↓g_region, ↓execG_ret, thenE_norm, g_leave, ↓r_nil, ↓r_cons, ↓o_move, ↓o_assign, nextE_app, normK_app, evalE_tmp, upd_some, reduceIte, ↓reg_lit l9, e']
      rw [← hF, finE_ret (l := [.int .i64 (skipTo s (s.length - i) i : Int)]) (by simp (decide := true) [Tryz.f29, resE, upd_some])]
      rfl
    · simp (decide := true) only [thenE_ret, leaveB_ret]
      rw [← hF, finE_ret (l := [.int .i64 (skipTo s (s.length - i) i : Int)]) (by simp (decide := true) [Tryz.f29, resE, e'])]
      rfl
  obtain ⟨R0, m1, m2⟩ := main
  exact m1.trans m2
section
variable {N : Nat} {hk : Hook} {d : Nat} {H : Heap} {s : List UInt8} {Q : R → Prop} {k : KOE}
theorem re_then (K : HkR hk) (hG : Ext GE H) (hsm : s.length < 9223372036854775808) :
    ∀ (n i m : Nat) (_ : i + n = s.length) (_ : n < m) {E : Env} (_ : E 0 = .string ⟨⟨s⟩⟩) (_ : E 1 = .int .i64 (i : Int))
      (_ : ∀ E', E' 1 = .int .i64 (runTo s n i : Int) → Q (k (.exit 0) E' [] H)), Q (loopE (execG PP XX (CG N hk (d + 1)) N noPr (.seq (.seq (.region 1 (rgn Tryz.f49 1) false) (.cond (.tmp 14) (.skip) (.exit 0))) (.block 1 (.region 2 (rgn Tryz.f49 2) false))) none) m E [] H k)
  | 0, i, m + 1, hn, hm, E, e0, e1, hx => by
    rw [loopE_succ]
    have hlt : decide ((i : Int) < (s.length : Int)) = false := decide_eq_false (by omega)
    have l1 := tl (rgn Tryz.f49 1)
    conv at l1 => rhs; simp only [rgn, opsAt, codeOf, Tryz.f49, gS, gN, reduceIte, Nat.reduceEqDiff, tA]
    simp (decide := true) only [↓execG_seq, ↓g_region, ↓execG_exit, ↓g_else, thenE_norm, thenE_exit, ↓r_nil, ↓r_cons, ↓o_move, ↓o_pickf, ↓o_binOp, ↓o_builtin, nextE_app, putK_app, putG_bool, normK_app, evalE_tmp, evalE_const, upd_some, bindO_ok, reduceIte, map_one, Bool.not_true, ↓reg_lit l1, ↓r_no _ 4 true 9 _ gd49_1_4, e0, e1, len_str, binA_lss, hlt]
    exact hx _ (by simp (decide := true) only [upd_some, reduceIte, e1]; rfl)
  | n + 1, i, m + 1, hn, hm, E, e0, e1, hx => by
    rw [loopE_succ]
    have hi : i < s.length := by omega
    have hlt : decide ((i : Int) < (s.length : Int)) = true := decide_eq_true (by omega)
    have hix := idx_str (s := s) hi
    have w : IntKind.i64.wrap ((i : Int) + 1) = ((i + 1 : Nat) : Int) := by rw [wrap_i64 (by omega) (by omega)]; omega
    have hw : CG N hk (d + 1) 51 #[.int .u8 (s[i].toNat : Int)] H = some (.ret (.bool (wbN s[i].toNat)), H) := callG_hook (K.wb s[i] H hG)
    rw [← isW_wb hi] at hw
    have l1 := tl (rgn Tryz.f49 1)
    conv at l1 => rhs; simp only [rgn, opsAt, codeOf, Tryz.f49, gS, gN, reduceIte, Nat.reduceEqDiff, tA]
    have l2 := tl (rgn Tryz.f49 2)
    conv at l2 => rhs; simp only [rgn, opsAt, codeOf, Tryz.f49, gS, gN, reduceIte, Nat.reduceEqDiff, tA]
    cases hb : isW s i with
    | true =>
      rw [hb] at hw
      have e : runTo s (n + 1) i = runTo s n (i + 1) := by rw [runTo, if_pos hb]
      rw [e] at hx
      simp (decide := true) only [↓execG_seq, ↓g_region, ↓execG_block, ↓execG_skip, ↓g_if, thenE_norm, leaveB_norm, ↓r_nil, ↓r_cons, ↓o_move, ↓o_assign, ↓o_pickt, ↓o_binOp, ↓o_index, ↓o_builtin, ↓o_callf, nextE_app, putK_app, putO_app, putG_bool, putG_int, normK_app, evalE_tmp, evalE_const, upd_some, bindO_ok, reduceIte, map_one, ↓reg_lit l1, ↓reg_lit l2, ↓r_yes _ 4 true 9 _ gd49_1_4, e0, e1, len_str, binA_lss, hlt, hix, callK_fn Tryz.func51 rfl rfl hw, binA_add, w]
      exact re_then K hG hsm n (i + 1) m (by omega) (by omega) (by simp (decide := true) only [upd_some, reduceIte, e0]) (by simp (decide := true) only [upd_some, reduceIte, e1]) hx
    | false =>
      rw [hb] at hw
      have e : runTo s (n + 1) i = i := by rw [runTo, hb]; rfl
      rw [e] at hx
      simp (decide := true) only [↓execG_seq, ↓g_region, ↓execG_exit, ↓g_else, thenE_norm, thenE_exit, ↓r_nil, ↓r_cons, ↓o_move, ↓o_pickt, ↓o_binOp, ↓o_index, ↓o_builtin, ↓o_callf, nextE_app, putK_app, putO_app, putG_bool, normK_app, evalE_tmp, upd_some, bindO_ok, reduceIte, map_one, ↓reg_lit l1, ↓r_yes _ 4 true 9 _ gd49_1_4, e0, e1, len_str, binA_lss, hlt, hix, callK_fn Tryz.func51 rfl rfl hw]
      exact hx _ (by simp (decide := true) only [upd_some, reduceIte, e1])
end
theorem call_rend {N : Nat} {hk : Hook} {d : Nat} {H : Heap} {s : List UInt8} {i : Nat} (K : HkR hk) (hG : Ext GE H) (hi : i ≤ s.length) (hsm : s.length < 9223372036854775808) (hN : s.length < N) :
    CG N hk (d + 2) 49 #[.string ⟨⟨s⟩⟩, .int .i64 (i : Int)] H = some (.ret (.int .i64 (runTo s (s.length - i) i : Int)), H) := by
  have main : ∃ R0 : R, CG N hk (d + 2) 49 #[.string ⟨⟨s⟩⟩, .int .i64 (i : Int)] H = R0 ∧ R0 = some (.ret (.int .i64 (runTo s (s.length - i) i : Int)), H) := by
    refine ⟨_, callG_fn (K.nil _ _ _ rfl) Tryz.func49 (c := codeOf Tryz.f49) rfl rfl rfl (pr := noPr) rfl, ?_⟩
    rw [code49]
    generalize hF : finE PP Tryz.f49 = F
    have l0 := tl (rgn Tryz.f49 0)
    conv at l0 => rhs; simp only [rgn, opsAt, codeOf, Tryz.f49, gS, gN, reduceIte, Nat.reduceEqDiff, tA]
    have l3 := tl (rgn Tryz.f49 3)
    conv at l3 => rhs; simp only [rgn, opsAt, codeOf, Tryz.f49, gS, gN, reduceIte, Nat.reduceEqDiff, tA]
    simp (decide := true) only [↓execG_seq, ↓g_region, ↓execG_block, thenE_norm, ↓r_nil, ↓r_cons, ↓o_assign, nextE_app, normK_app, evalE_const, ↓reg_lit l0, ↓execG_loop]
    refine re_then (s := s) (Q := fun r => r = some (.ret (.int .i64 (runTo s (s.length - i) i : Int)), H)) K hG hsm (s.length - i) i N (by omega) (by omega) ?_ ?_ (fun E' e' => ?_)
    · simp (decide := true) only [upd_some, reduceIte, startE_0]
    · simp (decide := true) only [upd_some, reduceIte, startE_1]
    · simp (decide := true) only [↓execG_seq, ↓g_region, ↓execG_ret, thenE_norm, g_leave, ↓r_nil, ↓r_cons, ↓o_move, ↓o_assign, nextE_app, normK_app, evalE_tmp, upd_some, reduceIte, ↓reg_lit l3, e']
      rw [← hF, finE_ret (l := [.int .i64 (runTo s (s.length - i) i : Int)]) (by simp (decide := true) [Tryz.f49, resE, upd_some])]
      rfl
  obtain ⟨R0, m1, m2⟩ := main
  exact m1.trans m2
theorem undA50 : PP.underlying 99 = some (.array 50 9) := Tryz.underlying99
theorem index_res {i : Nat} (h : i < 50) : indexAddrA PP 99 (.pointer (some ⟨2, 0, none⟩)) (.int .i64 (i : Int)) = some (.pointer (some ⟨2, i, none⟩)) := by
  have e : (⟨2, 0, none⟩ : Addr).add i = ⟨2, i, none⟩ := by rw [Addr.add_lit, Nat.zero_add]
  simp [indexAddrA, sizeS, at_, e]
  omega
theorem load_res {H : Heap} {i : Nat} (hG : Ext GE H) (hi : i < 50) : loadA PP 9 (.pointer (some ⟨2, i, none⟩)) H = some (.string ⟨⟨wordsL.getD i []⟩⟩, H) := by
  have h : H.get 2 = some (ro wordsV) := hG.keep 2 _ rfl
  have hl : i < wordsL.length := by rw [wordsL_len]; exact hi
  simp only [loadA, aggS]
  simp only [ld1, look, h]
  simp [ro, wordsV, strV, List.getD, hl]
section
variable {K : Kf} {N : Nat} {H : Heap} {w : List UInt8} {Q : R → Prop} {k : KOE}
theorem rr_then (hG : Ext GE H) : ∀ (n i m : Nat) (_ : i + n = 50) (_ : n < m) {E : Env} (_ : E 0 = .string ⟨⟨w⟩⟩) (_ : E 3 = .int .i64 (i : Int))
    (_ : findI w (wordsL.drop i) i = -1 → ∀ E', Q (k (.exit 0) E' [] H)) (_ : findI w (wordsL.drop i) i ≥ 0 → ∀ E', E' 2 = .int .i64 (30 + findI w (wordsL.drop i) i) → Q (k .ret E' [] H)), Q (loopE (execG PP XX K N noPr (.seq (.seq (.region 2 (rgn Tryz.f52 2) false) (.cond (.tmp 5) (.skip) (.exit 0))) (.seq (.block 1 (.seq (.region 4 (rgn Tryz.f52 4) false) (.cond (.tmp 12) (.seq (.region 5 (rgn Tryz.f52 5) false) (.ret)) (.skip)))) (.region 3 (rgn Tryz.f52 3) false))) none) m E [] H k)
  | 0, i, m + 1, hn, hm, E, e0, e3, h1, h2 => by
    rw [loopE_succ]
    have hi : i = 50 := by omega
    subst hi
    have hlt : decide (((50 : Nat) : Int) < 50) = false := by decide
    have l2 := tl (rgn Tryz.f52 2)
    conv at l2 => rhs; simp only [rgn, opsAt, codeOf, Tryz.f52, gS, gN, reduceIte, Nat.reduceEqDiff, tA]
    simp (decide := true) only [↓execG_seq, ↓g_region, thenE_norm, ↓r_nil, ↓r_cons, ↓o_move, ↓o_binOp, nextE_app, putG_bool, normK_app, evalE_tmp, evalE_const, upd_some, bindO_ok, reduceIte, ↓reg_lit l2, e3, binA_lss]
    exact h1 rfl _
  | n + 1, i, m + 1, hn, hm, E, e0, e3, h1, h2 => by
    rw [loopE_succ]
    have hi : i < 50 := by omega
    have hlt : decide ((i : Int) < 50) = true := decide_eq_true (by omega)
    have hix := index_res hi
    have hld := load_res hG hi
    have hl : i < wordsL.length := by rw [wordsL_len]; exact hi
    have hd : wordsL.drop i = wordsL.getD i [] :: wordsL.drop (i + 1) := by
      rw [List.drop_eq_getElem_cons hl]; simp [List.getD, hl]
    have wr : IntKind.i64.wrap ((i : Int) + 1) = ((i + 1 : Nat) : Int) := by rw [wrap_i64 (by omega) (by omega)]; omega
    have w30 : IntKind.i64.wrap (30 + (i : Int)) = 30 + (i : Int) := wrap_i64 (by omega) (by omega)
    rw [hd] at h1 h2
    unfold findI at h1 h2
    have l2 := tl (rgn Tryz.f52 2)
    conv at l2 => rhs; simp only [rgn, opsAt, codeOf, Tryz.f52, gS, gN, reduceIte, Nat.reduceEqDiff, tA]
    have l3 := tl (rgn Tryz.f52 3)
    conv at l3 => rhs; simp only [rgn, opsAt, codeOf, Tryz.f52, gS, gN, reduceIte, Nat.reduceEqDiff, tA]
    have l4 := tl (rgn Tryz.f52 4)
    conv at l4 => rhs; simp only [rgn, opsAt, codeOf, Tryz.f52, gS, gN, reduceIte, Nat.reduceEqDiff, tA]
    have l5 := tl (rgn Tryz.f52 5)
    conv at l5 => rhs; simp only [rgn, opsAt, codeOf, Tryz.f52, gS, gN, reduceIte, Nat.reduceEqDiff, tA]
    by_cases hw : w = wordsL.getD i []
    · have he : decide (wordsL.getD i [] = w) = true := decide_eq_true hw.symm
      rw [if_pos hw] at h2
      simp (decide := true) only [↓execG_seq, ↓g_region, ↓execG_block, ↓execG_ret, ↓execG_skip, ↓g_if, thenE_norm, thenE_ret, leaveB_ret, ↓r_nil, ↓r_cons, ↓o_move, ↓o_assign, ↓o_load, ↓o_binOp, ↓o_indexAddr, nextE_app, putK_app, putO_app, putG_bool, putG_int, normK_app, evalE_tmp, evalE_const, evalE_global, upd_some, bindO_ok, bindV_ok, reduceIte, ↓reg_lit l2, ↓reg_lit l4, ↓reg_lit l5, e0, e3, binA_lss, hlt, hix, hld, binA_eqs, he, binA_add, w30]
      exact h2 (by omega) _ (by simp (decide := true) only [upd_some, reduceIte])
    · have he : decide (wordsL.getD i [] = w) = false := decide_eq_false fun q => hw q.symm
      rw [if_neg hw] at h1 h2
      simp (decide := true) only [↓execG_seq, ↓g_region, ↓execG_block, ↓execG_skip, ↓g_if, ↓g_else, thenE_norm, leaveB_norm, ↓r_nil, ↓r_cons, ↓o_move, ↓o_assign, ↓o_load, ↓o_binOp, ↓o_indexAddr, nextE_app, putK_app, putO_app, putG_bool, putG_int, normK_app, evalE_tmp, evalE_const, evalE_global, upd_some, bindO_ok, bindV_ok, reduceIte, ↓reg_lit l2, ↓reg_lit l3, ↓reg_lit l4, e0, e3, binA_lss, hlt, hix, hld, binA_eqs, he, binA_add, wr]
      exact rr_then hG n (i + 1) m (by omega) (by omega) (by simp (decide := true) only [upd_some, reduceIte, e0]) (by simp (decide := true) only [upd_some, reduceIte]) h1 h2
end
theorem call_rres {N : Nat} {hk : Hook} {d : Nat} {H : Heap} (hG : Ext GE H) (w : List UInt8) (hN : 60 < N) (hh : ∀ f args H, okC f = true → hk f args H = none) :
    CG N hk (d + 1) 52 #[.string ⟨⟨w⟩⟩] H = some (.ret (.int .i64 (resI w)), H) := by
  have main : ∃ R0 : R, CG N hk (d + 1) 52 #[.string ⟨⟨w⟩⟩] H = R0 ∧ R0 = some (.ret (.int .i64 (resI w)), H) := by
    refine ⟨_, callG_fn (hh _ _ _ rfl) Tryz.func52 (c := codeOf Tryz.f52) rfl rfl rfl (pr := noPr) rfl, ?_⟩
    rw [code52]
    generalize hF : finE PP Tryz.f52 = F
    have l0 := tl (rgn Tryz.f52 0)
    conv at l0 => rhs; simp only [rgn, opsAt, codeOf, Tryz.f52, gS, gN, reduceIte, Nat.reduceEqDiff, tA]
    have l1 := tl (rgn Tryz.f52 1)
    conv at l1 => rhs; simp only [rgn, opsAt, codeOf, Tryz.f52, gS, gN, reduceIte, Nat.reduceEqDiff, tA]
    have l6 := tl (rgn Tryz.f52 6)
    conv at l6 => rhs; simp only [rgn, opsAt, codeOf, Tryz.f52, gS, gN, reduceIte, Nat.reduceEqDiff, tA]
    simp (decide := true) only [↓execG_seq, ↓g_region, ↓execG_block, thenE_norm, ↓r_nil, ↓r_cons, ↓o_assign, nextE_app, normK_app, evalE_const, ↓reg_lit l0, ↓reg_lit l1, ↓execG_loop]
    refine rr_then (w := w) (Q := fun r => r = some (.ret (.int .i64 (resI w)), H)) hG 50 0 N rfl (by omega) ?_ ?_ (fun hf E' => ?_) (fun hf E' e2 => ?_)
    · simp (decide := true) only [upd_some, reduceIte, startE_0]
    · simp (decide := true) only [upd_some, reduceIte]; rfl
    · rw [List.drop_zero] at hf
      simp (decide := true) only [↓execG_seq, ↓g_region, ↓execG_ret, thenE_norm, g_leave, ↓r_nil, ↓r_cons, ↓o_assign, nextE_app, normK_app, evalE_const, ↓reg_lit l6]
      rw [← hF, finE_ret (l := [.int .i64 0]) (by simp (decide := true) [Tryz.f52, resE, upd_some])]
      simp [resI, hf, oneOf]
    · rw [List.drop_zero] at e2 hf
      simp (decide := true) only [thenE_ret, leaveB_ret]
      rw [← hF, finE_ret (l := [.int .i64 (30 + findI w wordsL 0)]) (by simp (decide := true) [Tryz.f52, resE, e2])]
      simp only [resI, if_pos hf, oneOf]
  obtain ⟨R0, m1, m2⟩ := main
  exact m1.trans m2
end Go.Am
/- The reference: a sign. -/
open Go.Proofs
namespace Go.Am
theorem undA26 : PP.underlying 100 = some (.array 26 9) := Tryz.underlying100
theorem signsL_len : signsL.length = 26 := rfl
theorem index_sig {i : Nat} (h : i < 26) : indexAddrA PP 100 (.pointer (some ⟨3, 0, none⟩)) (.int .i64 (i : Int)) = some (.pointer (some ⟨3, i, none⟩)) := by
  have e : (⟨3, 0, none⟩ : Addr).add i = ⟨3, i, none⟩ := by rw [Addr.add_lit, Nat.zero_add]
  simp [indexAddrA, sizeS, at_, e]
  omega
theorem load_sig {H : Heap} {i : Nat} (hG : Ext GE H) (hi : i < 26) : loadA PP 9 (.pointer (some ⟨3, i, none⟩)) H = some (.string ⟨⟨signsL.getD i []⟩⟩, H) := by
  have h : H.get 3 = some (ro signsV) := hG.keep 3 _ rfl
  have hl : i < signsL.length := by rw [signsL_len]; exact hi
  simp only [loadA, aggS]
  simp only [ld1, look, h]
  simp [ro, signsV, strV, List.getD, hl]
theorem sig_len {i : Nat} (hi : i < 26) : 0 < (signsL.getD i []).length ∧ (signsL.getD i []).length ≤ 2 := by
  have hall : (List.range 26).all (fun i => decide (0 < (signsL.getD i []).length) && decide ((signsL.getD i []).length ≤ 2)) = true := by decide +kernel
  have := List.all_eq_true.mp hall i (List.mem_range.mpr hi)
  simpa using this
theorem idx_zero {s : List UInt8} (h : 0 < s.length) : indexA PP 9 (.string ⟨⟨s⟩⟩) (.int .i64 0) = some (.int .u8 ((s.getD 0 0).toNat : Int)) := by
  have := idx_str (s := s) (i := 0) h
  rw [show s.getD 0 0 = s[0] by simp [List.getD, h]]
  exact this
theorem code54 : codeOf Tryz.f54 = .seq (.region 0 (rgn Tryz.f54 0) false) (.seq (.region 1 (rgn Tryz.f54 1) false) (.seq (.region 2 (rgn Tryz.f54 2) false) (.seq (.seq (.region 3 (rgn Tryz.f54 3) false) (.block 0 (.loop (.seq (.seq (.region 4 (rgn Tryz.f54 4) false) (.cond (.tmp 12) (.skip) (.exit 0))) (.seq (.block 1 (.seq (.region 6 (rgn Tryz.f54 6) false) (.seq (.seq (.region 7 (rgn Tryz.f54 7) false) (.cond (.tmp 48) (.region 8 (rgn Tryz.f54 8) false) (.skip))) (.region 9 (rgn Tryz.f54 9) true)))) (.region 5 (rgn Tryz.f54 5) false)))))) (.seq (.seq (.region 10 (rgn Tryz.f54 10) false) (.cond (.tmp 60) (.seq (.region 11 (rgn Tryz.f54 11) true) (.ret)) (.skip))) (.seq (.seq (.region 12 (rgn Tryz.f54 12) false) (.cond (.tmp 69) (.seq (.region 13 (rgn Tryz.f54 13) false) (.ret)) (.skip))) (.seq (.region 14 (rgn Tryz.f54 14) false) (.ret))))))) := by kernel_rfl
theorem gd54_7_7 : ((rgn Tryz.f54 7)[7]?).bind (·.dst) = some 25 := by kernel_rfl
theorem gd54_7_18 : ((rgn Tryz.f54 7)[18]?).bind (·.dst) = some 36 := by kernel_rfl
theorem gd54_7_21 : ((rgn Tryz.f54 7)[21]?).bind (·.dst) = some 39 := by kernel_rfl
theorem gd54_9_1 : ((rgn Tryz.f54 9)[1]?).bind (·.dst) = some 51 := by kernel_rfl

section
theorem sg_short_true {K : Kf} {N : Nat} {H : Heap} {s : List UInt8} {i p : Nat} {b : Int} {E : Env} {Q : R → Prop} {k : KOE} (hG : Ext GE H) (hi : i < 26) (hp : p < s.length) (hsm : s.length < 9223372036854775000) (e0 : E 0 = .string ⟨⟨s⟩⟩) (e1 : E 1 = .int .i64 (p : Int)) (e7 : E 7 = .int .i64 b) (e8 : E 8 = .bool true) (e9 : E 9 = .int .i64 (i : Int)) (h1 : ¬ p + (signsL.getD i []).length ≤ s.length)
    (hx : ∀ E', E' 0 = .string ⟨⟨s⟩⟩ → E' 1 = .int .i64 (p : Int) → E' 7 = .int .i64 b → E' 8 = .bool true → E' 9 = .int .i64 ((i + 1 : Nat) : Int) → Q (k .norm E' [] H)) :
    Q (execG PP XX K N noPr (.seq (.seq (.region 4 (rgn Tryz.f54 4) false) (.cond (.tmp 12) (.skip) (.exit 0))) (.seq (.block 1 (.seq (.region 6 (rgn Tryz.f54 6) false) (.seq (.seq (.region 7 (rgn Tryz.f54 7) false) (.cond (.tmp 48) (.region 8 (rgn Tryz.f54 8) false) (.skip))) (.region 9 (rgn Tryz.f54 9) true)))) (.region 5 (rgn Tryz.f54 5) false))) none E [] H k) := by
  have hlt : decide ((i : Int) < 26) = true := decide_eq_true (by omega)
  have hix := index_sig hi
  have hld := load_sig hG hi
  obtain ⟨l1, l2⟩ := sig_len hi
  generalize hz : signsL.getD i [] = z at *
  have wr : IntKind.i64.wrap ((i : Int) + 1) = ((i + 1 : Nat) : Int) := by rw [wrap_i64 (by omega) (by omega)]; omega
  have wp : IntKind.i64.wrap ((p : Int) + (z.length : Int)) = ((p + z.length : Nat) : Int) := by rw [wrap_i64 (by omega) (by omega)]; omega
  have hz0 := idx_zero l1
  have hixp := idx_str (s := s) hp
  have hze : (((z.getD 0 0).toNat : Int) == (s[p].toNat : Int)) = decide (z.getD 0 0 = s[p]) := toNat_eq _ _
  have hle : decide (((p + z.length : Nat) : Int) ≤ (s.length : Int)) = false := decide_eq_false (by omega)
  have l4 := tl (rgn Tryz.f54 4)
  conv at l4 => rhs; simp only [rgn, opsAt, codeOf, Tryz.f54, gS, gN, reduceIte, Nat.reduceEqDiff, tA]
  have l5 := tl (rgn Tryz.f54 5)
  conv at l5 => rhs; simp only [rgn, opsAt, codeOf, Tryz.f54, gS, gN, reduceIte, Nat.reduceEqDiff, tA]
  have l6 := tl (rgn Tryz.f54 6)
  conv at l6 => rhs; simp only [rgn, opsAt, codeOf, Tryz.f54, gS, gN, reduceIte, Nat.reduceEqDiff, tA]
  have l7 := tl (rgn Tryz.f54 7)
  conv at l7 => rhs; simp only [rgn, opsAt, codeOf, Tryz.f54, gS, gN, reduceIte, Nat.reduceEqDiff, tA]
  have l8 := tl (rgn Tryz.f54 8)
  conv at l8 => rhs; simp only [rgn, opsAt, codeOf, Tryz.f54, gS, gN, reduceIte, Nat.reduceEqDiff, tA]
  have l9 := tl (rgn Tryz.f54 9)
  conv at l9 => rhs; simp only [rgn, opsAt, codeOf, Tryz.f54, gS, gN, reduceIte, Nat.reduceEqDiff, tA]
  simp (decide := true) only [↓execG_seq, ↓g_region, ↓execG_block, ↓execG_skip, ↓g_if, ↓g_else, thenE_norm, leaveB_norm, ↓r_nil, ↓r_cons, ↓o_move, ↓o_assign, ↓o_pickt, ↓o_pickf, ↓o_load, ↓o_binOp, ↓o_indexAddr, ↓o_builtin, nextE_app, putK_app, putO_app, putG_bool, putG_int, normK_app, evalE_tmp, evalE_const, evalE_global, upd_some, bindO_ok, bindV_ok, reduceIte, map_one, Bool.not_true, Bool.not_false, ↓reg_lit l4, ↓reg_lit l5, ↓reg_lit l6, ↓reg_lit l7, ↓reg_lit l9, ↓r_no _ 7 true 25 _ gd54_7_7, ↓r_no _ 18 true 36 _ gd54_7_18, ↓r_un _ 21 false 39 _ gd54_7_21, ↓r_no _ 1 false 51 _ gd54_9_1, e0, e1, e8, e9, binA_lss, hlt, hix, hld, len_str, binA_add, wp, wr, binA_leq, hle]
  exact hx _ (by simp (decide := true) only [upd_some, reduceIte, e0]) (by simp (decide := true) only [upd_some, reduceIte, e1]) (by simp (decide := true) only [upd_some, reduceIte, e7]) (by simp (decide := true) only [upd_some, reduceIte, e8]) (by simp (decide := true) only [upd_some, reduceIte, e9])
theorem sg_other_true {K : Kf} {N : Nat} {H : Heap} {s : List UInt8} {i p : Nat} {b : Int} {E : Env} {Q : R → Prop} {k : KOE} (hG : Ext GE H) (hi : i < 26) (hp : p < s.length) (hsm : s.length < 9223372036854775000) (e0 : E 0 = .string ⟨⟨s⟩⟩) (e1 : E 1 = .int .i64 (p : Int)) (e7 : E 7 = .int .i64 b) (e8 : E 8 = .bool true) (e9 : E 9 = .int .i64 (i : Int)) (h1 : p + (signsL.getD i []).length ≤ s.length) (h2 : ¬ (s.take (p + (signsL.getD i []).length)).drop p = signsL.getD i [])
    (hx : ∀ E', E' 0 = .string ⟨⟨s⟩⟩ → E' 1 = .int .i64 (p : Int) → E' 7 = .int .i64 b → E' 8 = .bool true → E' 9 = .int .i64 ((i + 1 : Nat) : Int) → Q (k .norm E' [] H)) :
    Q (execG PP XX K N noPr (.seq (.seq (.region 4 (rgn Tryz.f54 4) false) (.cond (.tmp 12) (.skip) (.exit 0))) (.seq (.block 1 (.seq (.region 6 (rgn Tryz.f54 6) false) (.seq (.seq (.region 7 (rgn Tryz.f54 7) false) (.cond (.tmp 48) (.region 8 (rgn Tryz.f54 8) false) (.skip))) (.region 9 (rgn Tryz.f54 9) true)))) (.region 5 (rgn Tryz.f54 5) false))) none E [] H k) := by
  have hlt : decide ((i : Int) < 26) = true := decide_eq_true (by omega)
  have hix := index_sig hi
  have hld := load_sig hG hi
  obtain ⟨l1, l2⟩ := sig_len hi
  generalize hz : signsL.getD i [] = z at *
  have wr : IntKind.i64.wrap ((i : Int) + 1) = ((i + 1 : Nat) : Int) := by rw [wrap_i64 (by omega) (by omega)]; omega
  have wp : IntKind.i64.wrap ((p : Int) + (z.length : Int)) = ((p + z.length : Nat) : Int) := by rw [wrap_i64 (by omega) (by omega)]; omega
  have hz0 := idx_zero l1
  have hixp := idx_str (s := s) hp
  have hze : (((z.getD 0 0).toNat : Int) == (s[p].toNat : Int)) = decide (z.getD 0 0 = s[p]) := toNat_eq _ _
  have hle : decide (((p + z.length : Nat) : Int) ≤ (s.length : Int)) = true := decide_eq_true (by omega)
  have hsl := sl_str (s := s) (i := p) (j := p + z.length) (by omega) (by omega) H
  have hq : decide ((s.take (p + z.length)).drop p = z) = false := decide_eq_false h2
  have l4 := tl (rgn Tryz.f54 4)
  conv at l4 => rhs; simp only [rgn, opsAt, codeOf, Tryz.f54, gS, gN, reduceIte, Nat.reduceEqDiff, tA]
  have l5 := tl (rgn Tryz.f54 5)
  conv at l5 => rhs; simp only [rgn, opsAt, codeOf, Tryz.f54, gS, gN, reduceIte, Nat.reduceEqDiff, tA]
  have l6 := tl (rgn Tryz.f54 6)
  conv at l6 => rhs; simp only [rgn, opsAt, codeOf, Tryz.f54, gS, gN, reduceIte, Nat.reduceEqDiff, tA]
  have l7 := tl (rgn Tryz.f54 7)
  conv at l7 => rhs; simp only [rgn, opsAt, codeOf, Tryz.f54, gS, gN, reduceIte, Nat.reduceEqDiff, tA]
  have l8 := tl (rgn Tryz.f54 8)
  conv at l8 => rhs; simp only [rgn, opsAt, codeOf, Tryz.f54, gS, gN, reduceIte, Nat.reduceEqDiff, tA]
  have l9 := tl (rgn Tryz.f54 9)
  conv at l9 => rhs; simp only [rgn, opsAt, codeOf, Tryz.f54, gS, gN, reduceIte, Nat.reduceEqDiff, tA]
  simp (decide := true) only [↓execG_seq, ↓g_region, ↓execG_block, ↓execG_skip, ↓g_if, ↓g_else, thenE_norm, leaveB_norm, ↓r_nil, ↓r_cons, ↓o_move, ↓o_assign, ↓o_pickt, ↓o_pickf, ↓o_load, ↓o_binOp, ↓o_slice, ↓o_indexAddr, ↓o_builtin, nextE_app, putK_app, putO_app, putG_bool, putG_int, normK_app, evalE_tmp, evalE_const, evalE_global, upd_some, bindO_ok, bindV_ok, reduceIte, map_one, Bool.not_true, Bool.not_false, ↓reg_lit l4, ↓reg_lit l5, ↓reg_lit l6, ↓reg_lit l7, ↓reg_lit l9, ↓r_yes _ 7 true 25 _ gd54_7_7, ↓r_no _ 18 true 36 _ gd54_7_18, ↓r_un _ 21 false 39 _ gd54_7_21, ↓r_no _ 1 false 51 _ gd54_9_1, e0, e1, e8, e9, binA_lss, hlt, hix, hld, len_str, binA_add, wp, wr, binA_leq, hle, ↓Option.map_some, ↓Option.map_none, hsl, binA_eqs, hq]
  exact hx _ (by simp (decide := true) only [upd_some, reduceIte, e0]) (by simp (decide := true) only [upd_some, reduceIte, e1]) (by simp (decide := true) only [upd_some, reduceIte, e7]) (by simp (decide := true) only [upd_some, reduceIte, e8]) (by simp (decide := true) only [upd_some, reduceIte, e9])
theorem sg_first_true {K : Kf} {N : Nat} {H : Heap} {s : List UInt8} {i p : Nat} {b : Int} {E : Env} {Q : R → Prop} {k : KOE} (hG : Ext GE H) (hi : i < 26) (hp : p < s.length) (hsm : s.length < 9223372036854775000) (e0 : E 0 = .string ⟨⟨s⟩⟩) (e1 : E 1 = .int .i64 (p : Int)) (e7 : E 7 = .int .i64 b) (e8 : E 8 = .bool true) (e9 : E 9 = .int .i64 (i : Int)) (h1 : p + (signsL.getD i []).length ≤ s.length) (h2 : (s.take (p + (signsL.getD i []).length)).drop p = signsL.getD i []) (h3 : b < 0)
    (hx : ∀ E', E' 0 = .string ⟨⟨s⟩⟩ → E' 1 = .int .i64 (p : Int) → E' 7 = .int .i64 (i : Int) → E' 8 = .bool true → E' 9 = .int .i64 ((i + 1 : Nat) : Int) → Q (k .norm E' [] H)) :
    Q (execG PP XX K N noPr (.seq (.seq (.region 4 (rgn Tryz.f54 4) false) (.cond (.tmp 12) (.skip) (.exit 0))) (.seq (.block 1 (.seq (.region 6 (rgn Tryz.f54 6) false) (.seq (.seq (.region 7 (rgn Tryz.f54 7) false) (.cond (.tmp 48) (.region 8 (rgn Tryz.f54 8) false) (.skip))) (.region 9 (rgn Tryz.f54 9) true)))) (.region 5 (rgn Tryz.f54 5) false))) none E [] H k) := by
  have hlt : decide ((i : Int) < 26) = true := decide_eq_true (by omega)
  have hix := index_sig hi
  have hld := load_sig hG hi
  obtain ⟨l1, l2⟩ := sig_len hi
  generalize hz : signsL.getD i [] = z at *
  have wr : IntKind.i64.wrap ((i : Int) + 1) = ((i + 1 : Nat) : Int) := by rw [wrap_i64 (by omega) (by omega)]; omega
  have wp : IntKind.i64.wrap ((p : Int) + (z.length : Int)) = ((p + z.length : Nat) : Int) := by rw [wrap_i64 (by omega) (by omega)]; omega
  have hz0 := idx_zero l1
  have hixp := idx_str (s := s) hp
  have hze : (((z.getD 0 0).toNat : Int) == (s[p].toNat : Int)) = decide (z.getD 0 0 = s[p]) := toNat_eq _ _
  have hle : decide (((p + z.length : Nat) : Int) ≤ (s.length : Int)) = true := decide_eq_true (by omega)
  have hsl := sl_str (s := s) (i := p) (j := p + z.length) (by omega) (by omega) H
  have hq : decide ((s.take (p + z.length)).drop p = z) = true := decide_eq_true h2
  have hb : decide (b < 0) = true := decide_eq_true h3
  have l4 := tl (rgn Tryz.f54 4)
  conv at l4 => rhs; simp only [rgn, opsAt, codeOf, Tryz.f54, gS, gN, reduceIte, Nat.reduceEqDiff, tA]
  have l5 := tl (rgn Tryz.f54 5)
  conv at l5 => rhs; simp only [rgn, opsAt, codeOf, Tryz.f54, gS, gN, reduceIte, Nat.reduceEqDiff, tA]
  have l6 := tl (rgn Tryz.f54 6)
  conv at l6 => rhs; simp only [rgn, opsAt, codeOf, Tryz.f54, gS, gN, reduceIte, Nat.reduceEqDiff, tA]
  have l7 := tl (rgn Tryz.f54 7)
  conv at l7 => rhs; simp only [rgn, opsAt, codeOf, Tryz.f54, gS, gN, reduceIte, Nat.reduceEqDiff, tA]
  have l8 := tl (rgn Tryz.f54 8)
  conv at l8 => rhs; simp only [rgn, opsAt, codeOf, Tryz.f54, gS, gN, reduceIte, Nat.reduceEqDiff, tA]
  have l9 := tl (rgn Tryz.f54 9)
  conv at l9 => rhs; simp only [rgn, opsAt, codeOf, Tryz.f54, gS, gN, reduceIte, Nat.reduceEqDiff, tA]
  simp (decide := true) only [↓execG_seq, ↓g_region, ↓execG_block, ↓execG_skip, ↓g_if, thenE_norm, leaveB_norm, ↓r_nil, ↓r_cons, ↓o_move, ↓o_assign, ↓o_pickt, ↓o_load, ↓o_binOp, ↓o_slice, ↓o_indexAddr, ↓o_builtin, nextE_app, putK_app, putO_app, putG_bool, putG_int, normK_app, evalE_tmp, evalE_const, evalE_global, upd_some, bindO_ok, bindV_ok, reduceIte, map_one, Bool.not_false, ↓reg_lit l4, ↓reg_lit l5, ↓reg_lit l6, ↓reg_lit l7, ↓reg_lit l8, ↓reg_lit l9, ↓r_yes _ 7 true 25 _ gd54_7_7, ↓r_yes _ 18 true 36 _ gd54_7_18, ↓r_no _ 21 false 39 _ gd54_7_21, ↓r_no _ 1 false 51 _ gd54_9_1, e0, e1, e7, e8, e9, binA_lss, hlt, hix, hld, len_str, binA_add, wp, wr, binA_leq, hle, ↓Option.map_some, ↓Option.map_none, hsl, binA_eqs, hq, hb]
  exact hx _ (by simp (decide := true) only [upd_some, reduceIte, e0]) (by simp (decide := true) only [upd_some, reduceIte, e1]) (by simp (decide := true) only [upd_some, reduceIte, e7]) (by simp (decide := true) only [upd_some, reduceIte, e8]) (by simp (decide := true) only [upd_some, reduceIte, e9])
theorem sg_longer_true {K : Kf} {N : Nat} {H : Heap} {s : List UInt8} {i p : Nat} {b : Int} {E : Env} {Q : R → Prop} {k : KOE} (hG : Ext GE H) (hi : i < 26) (hp : p < s.length) (hsm : s.length < 9223372036854775000) (e0 : E 0 = .string ⟨⟨s⟩⟩) (e1 : E 1 = .int .i64 (p : Int)) (e7 : E 7 = .int .i64 b) (e8 : E 8 = .bool true) (e9 : E 9 = .int .i64 (i : Int)) {q : Nat} (hb : b = (q : Int)) (hq26 : q < 26) (h1 : p + (signsL.getD i []).length ≤ s.length) (h2 : (s.take (p + (signsL.getD i []).length)).drop p = signsL.getD i []) (h3 :  (signsL.getD i []).length > (signsL.getD q []).length)
    (hx : ∀ E', E' 0 = .string ⟨⟨s⟩⟩ → E' 1 = .int .i64 (p : Int) → E' 7 = .int .i64 (i : Int) → E' 8 = .bool true → E' 9 = .int .i64 ((i + 1 : Nat) : Int) → Q (k .norm E' [] H)) :
    Q (execG PP XX K N noPr (.seq (.seq (.region 4 (rgn Tryz.f54 4) false) (.cond (.tmp 12) (.skip) (.exit 0))) (.seq (.block 1 (.seq (.region 6 (rgn Tryz.f54 6) false) (.seq (.seq (.region 7 (rgn Tryz.f54 7) false) (.cond (.tmp 48) (.region 8 (rgn Tryz.f54 8) false) (.skip))) (.region 9 (rgn Tryz.f54 9) true)))) (.region 5 (rgn Tryz.f54 5) false))) none E [] H k) := by
  have hlt : decide ((i : Int) < 26) = true := decide_eq_true (by omega)
  have hix := index_sig hi
  have hld := load_sig hG hi
  obtain ⟨l1, l2⟩ := sig_len hi
  generalize hz : signsL.getD i [] = z at *
  have wr : IntKind.i64.wrap ((i : Int) + 1) = ((i + 1 : Nat) : Int) := by rw [wrap_i64 (by omega) (by omega)]; omega
  have wp : IntKind.i64.wrap ((p : Int) + (z.length : Int)) = ((p + z.length : Nat) : Int) := by rw [wrap_i64 (by omega) (by omega)]; omega
  have hz0 := idx_zero l1
  have hixp := idx_str (s := s) hp
  have hze : (((z.getD 0 0).toNat : Int) == (s[p].toNat : Int)) = decide (z.getD 0 0 = s[p]) := toNat_eq _ _
  have hle : decide (((p + z.length : Nat) : Int) ≤ (s.length : Int)) = true := decide_eq_true (by omega)
  have hsl := sl_str (s := s) (i := p) (j := p + z.length) (by omega) (by omega) H
  subst hb
  have hq : decide ((s.take (p + z.length)).drop p = z) = true := decide_eq_true h2
  have hb : decide ((q : Int) < 0) = false := decide_eq_false (by omega)
  have hixq := index_sig hq26
  have hldq := load_sig hG hq26
  have hgt : decide ((z.length : Int) > ((signsL.getD q []).length : Int)) = true := decide_eq_true (by omega)
  have l4 := tl (rgn Tryz.f54 4)
  conv at l4 => rhs; simp only [rgn, opsAt, codeOf, Tryz.f54, gS, gN, reduceIte, Nat.reduceEqDiff, tA]
  have l5 := tl (rgn Tryz.f54 5)
  conv at l5 => rhs; simp only [rgn, opsAt, codeOf, Tryz.f54, gS, gN, reduceIte, Nat.reduceEqDiff, tA]
  have l6 := tl (rgn Tryz.f54 6)
  conv at l6 => rhs; simp only [rgn, opsAt, codeOf, Tryz.f54, gS, gN, reduceIte, Nat.reduceEqDiff, tA]
  have l7 := tl (rgn Tryz.f54 7)
  conv at l7 => rhs; simp only [rgn, opsAt, codeOf, Tryz.f54, gS, gN, reduceIte, Nat.reduceEqDiff, tA]
  have l8 := tl (rgn Tryz.f54 8)
  conv at l8 => rhs; simp only [rgn, opsAt, codeOf, Tryz.f54, gS, gN, reduceIte, Nat.reduceEqDiff, tA]
  have l9 := tl (rgn Tryz.f54 9)
  conv at l9 => rhs; simp only [rgn, opsAt, codeOf, Tryz.f54, gS, gN, reduceIte, Nat.reduceEqDiff, tA]
  simp (decide := true) only [↓execG_seq, ↓g_region, ↓execG_block, ↓execG_skip, ↓g_if, thenE_norm, leaveB_norm, ↓r_nil, ↓r_cons, ↓o_move, ↓o_assign, ↓o_pickt, ↓o_pickf, ↓o_load, ↓o_binOp, ↓o_slice, ↓o_indexAddr, ↓o_builtin, nextE_app, putK_app, putO_app, putG_bool, putG_int, normK_app, evalE_tmp, evalE_const, evalE_global, upd_some, bindO_ok, bindV_ok, reduceIte, map_one, Bool.not_false, ↓reg_lit l4, ↓reg_lit l5, ↓reg_lit l6, ↓reg_lit l7, ↓reg_lit l8, ↓reg_lit l9, ↓r_yes _ 7 true 25 _ gd54_7_7, ↓r_yes _ 18 true 36 _ gd54_7_18, ↓r_yes _ 21 false 39 _ gd54_7_21, ↓r_no _ 1 false 51 _ gd54_9_1, e0, e1, e7, e8, e9, binA_lss, hlt, hix, hld, len_str, binA_add, wp, wr, binA_leq, hle, ↓Option.map_some, ↓Option.map_none, hsl, binA_eqs, hq, hb, hixq, hldq, binA_gtr, hgt]
  exact hx _ (by simp (decide := true) only [upd_some, reduceIte, e0]) (by simp (decide := true) only [upd_some, reduceIte, e1]) (by simp (decide := true) only [upd_some, reduceIte, e7]) (by simp (decide := true) only [upd_some, reduceIte, e8]) (by simp (decide := true) only [upd_some, reduceIte, e9])
theorem sg_not_true {K : Kf} {N : Nat} {H : Heap} {s : List UInt8} {i p : Nat} {b : Int} {E : Env} {Q : R → Prop} {k : KOE} (hG : Ext GE H) (hi : i < 26) (hp : p < s.length) (hsm : s.length < 9223372036854775000) (e0 : E 0 = .string ⟨⟨s⟩⟩) (e1 : E 1 = .int .i64 (p : Int)) (e7 : E 7 = .int .i64 b) (e8 : E 8 = .bool true) (e9 : E 9 = .int .i64 (i : Int)) {q : Nat} (hb : b = (q : Int)) (hq26 : q < 26) (h1 : p + (signsL.getD i []).length ≤ s.length) (h2 : (s.take (p + (signsL.getD i []).length)).drop p = signsL.getD i []) (h3 : ¬ (signsL.getD i []).length > (signsL.getD q []).length)
    (hx : ∀ E', E' 0 = .string ⟨⟨s⟩⟩ → E' 1 = .int .i64 (p : Int) → E' 7 = .int .i64 (q : Int) → E' 8 = .bool true → E' 9 = .int .i64 ((i + 1 : Nat) : Int) → Q (k .norm E' [] H)) :
    Q (execG PP XX K N noPr (.seq (.seq (.region 4 (rgn Tryz.f54 4) false) (.cond (.tmp 12) (.skip) (.exit 0))) (.seq (.block 1 (.seq (.region 6 (rgn Tryz.f54 6) false) (.seq (.seq (.region 7 (rgn Tryz.f54 7) false) (.cond (.tmp 48) (.region 8 (rgn Tryz.f54 8) false) (.skip))) (.region 9 (rgn Tryz.f54 9) true)))) (.region 5 (rgn Tryz.f54 5) false))) none E [] H k) := by
  have hlt : decide ((i : Int) < 26) = true := decide_eq_true (by omega)
  have hix := index_sig hi
  have hld := load_sig hG hi
  obtain ⟨l1, l2⟩ := sig_len hi
  generalize hz : signsL.getD i [] = z at *
  have wr : IntKind.i64.wrap ((i : Int) + 1) = ((i + 1 : Nat) : Int) := by rw [wrap_i64 (by omega) (by omega)]; omega
  have wp : IntKind.i64.wrap ((p : Int) + (z.length : Int)) = ((p + z.length : Nat) : Int) := by rw [wrap_i64 (by omega) (by omega)]; omega
  have hz0 := idx_zero l1
  have hixp := idx_str (s := s) hp
  have hze : (((z.getD 0 0).toNat : Int) == (s[p].toNat : Int)) = decide (z.getD 0 0 = s[p]) := toNat_eq _ _
  have hle : decide (((p + z.length : Nat) : Int) ≤ (s.length : Int)) = true := decide_eq_true (by omega)
  have hsl := sl_str (s := s) (i := p) (j := p + z.length) (by omega) (by omega) H
  subst hb
  have hq : decide ((s.take (p + z.length)).drop p = z) = true := decide_eq_true h2
  have hb : decide ((q : Int) < 0) = false := decide_eq_false (by omega)
  have hixq := index_sig hq26
  have hldq := load_sig hG hq26
  have hgt : decide ((z.length : Int) > ((signsL.getD q []).length : Int)) = false := decide_eq_false (by omega)
  have l4 := tl (rgn Tryz.f54 4)
  conv at l4 => rhs; simp only [rgn, opsAt, codeOf, Tryz.f54, gS, gN, reduceIte, Nat.reduceEqDiff, tA]
  have l5 := tl (rgn Tryz.f54 5)
  conv at l5 => rhs; simp only [rgn, opsAt, codeOf, Tryz.f54, gS, gN, reduceIte, Nat.reduceEqDiff, tA]
  have l6 := tl (rgn Tryz.f54 6)
  conv at l6 => rhs; simp only [rgn, opsAt, codeOf, Tryz.f54, gS, gN, reduceIte, Nat.reduceEqDiff, tA]
  have l7 := tl (rgn Tryz.f54 7)
  conv at l7 => rhs; simp only [rgn, opsAt, codeOf, Tryz.f54, gS, gN, reduceIte, Nat.reduceEqDiff, tA]
  have l8 := tl (rgn Tryz.f54 8)
  conv at l8 => rhs; simp only [rgn, opsAt, codeOf, Tryz.f54, gS, gN, reduceIte, Nat.reduceEqDiff, tA]
  have l9 := tl (rgn Tryz.f54 9)
  conv at l9 => rhs; simp only [rgn, opsAt, codeOf, Tryz.f54, gS, gN, reduceIte, Nat.reduceEqDiff, tA]
  simp (decide := true) only [↓execG_seq, ↓g_region, ↓execG_block, ↓execG_skip, ↓g_if, ↓g_else, thenE_norm, leaveB_norm, ↓r_nil, ↓r_cons, ↓o_move, ↓o_assign, ↓o_pickt, ↓o_pickf, ↓o_load, ↓o_binOp, ↓o_slice, ↓o_indexAddr, ↓o_builtin, nextE_app, putK_app, putO_app, putG_bool, putG_int, normK_app, evalE_tmp, evalE_const, evalE_global, upd_some, bindO_ok, bindV_ok, reduceIte, map_one, Bool.not_false, ↓reg_lit l4, ↓reg_lit l5, ↓reg_lit l6, ↓reg_lit l7, ↓reg_lit l9, ↓r_yes _ 7 true 25 _ gd54_7_7, ↓r_yes _ 18 true 36 _ gd54_7_18, ↓r_yes _ 21 false 39 _ gd54_7_21, ↓r_no _ 1 false 51 _ gd54_9_1, e0, e1, e7, e8, e9, binA_lss, hlt, hix, hld, len_str, binA_add, wp, wr, binA_leq, hle, ↓Option.map_some, ↓Option.map_none, hsl, binA_eqs, hq, hb, hixq, hldq, binA_gtr, hgt]
  exact hx _ (by simp (decide := true) only [upd_some, reduceIte, e0]) (by simp (decide := true) only [upd_some, reduceIte, e1]) (by simp (decide := true) only [upd_some, reduceIte, e7]) (by simp (decide := true) only [upd_some, reduceIte, e8]) (by simp (decide := true) only [upd_some, reduceIte, e9])
theorem sg_short_false {K : Kf} {N : Nat} {H : Heap} {s : List UInt8} {i p : Nat} {b : Int} {E : Env} {Q : R → Prop} {k : KOE} (hG : Ext GE H) (hi : i < 26) (hp : p < s.length) (hsm : s.length < 9223372036854775000) (e0 : E 0 = .string ⟨⟨s⟩⟩) (e1 : E 1 = .int .i64 (p : Int)) (e7 : E 7 = .int .i64 b) (e8 : E 8 = .bool false) (e9 : E 9 = .int .i64 (i : Int)) (h1 : ¬ p + (signsL.getD i []).length ≤ s.length)
    (hx : ∀ E', E' 0 = .string ⟨⟨s⟩⟩ → E' 1 = .int .i64 (p : Int) → E' 7 = .int .i64 b → E' 8 = .bool (decide ((signsL.getD i []).getD 0 0 = s[p])) → E' 9 = .int .i64 ((i + 1 : Nat) : Int) → Q (k .norm E' [] H)) :
    Q (execG PP XX K N noPr (.seq (.seq (.region 4 (rgn Tryz.f54 4) false) (.cond (.tmp 12) (.skip) (.exit 0))) (.seq (.block 1 (.seq (.region 6 (rgn Tryz.f54 6) false) (.seq (.seq (.region 7 (rgn Tryz.f54 7) false) (.cond (.tmp 48) (.region 8 (rgn Tryz.f54 8) false) (.skip))) (.region 9 (rgn Tryz.f54 9) true)))) (.region 5 (rgn Tryz.f54 5) false))) none E [] H k) := by
  have hlt : decide ((i : Int) < 26) = true := decide_eq_true (by omega)
  have hix := index_sig hi
  have hld := load_sig hG hi
  obtain ⟨l1, l2⟩ := sig_len hi
  generalize hz : signsL.getD i [] = z at *
  have wr : IntKind.i64.wrap ((i : Int) + 1) = ((i + 1 : Nat) : Int) := by rw [wrap_i64 (by omega) (by omega)]; omega
  have wp : IntKind.i64.wrap ((p : Int) + (z.length : Int)) = ((p + z.length : Nat) : Int) := by rw [wrap_i64 (by omega) (by omega)]; omega
  have hz0 := idx_zero l1
  have hixp := idx_str (s := s) hp
  have hze : (((z.getD 0 0).toNat : Int) == (s[p].toNat : Int)) = decide (z.getD 0 0 = s[p]) := toNat_eq _ _
  have hle : decide (((p + z.length : Nat) : Int) ≤ (s.length : Int)) = false := decide_eq_false (by omega)
  have l4 := tl (rgn Tryz.f54 4)
  conv at l4 => rhs; simp only [rgn, opsAt, codeOf, Tryz.f54, gS, gN, reduceIte, Nat.reduceEqDiff, tA]
  have l5 := tl (rgn Tryz.f54 5)
  conv at l5 => rhs; simp only [rgn, opsAt, codeOf, Tryz.f54, gS, gN, reduceIte, Nat.reduceEqDiff, tA]
  have l6 := tl (rgn Tryz.f54 6)
  conv at l6 => rhs; simp only [rgn, opsAt, codeOf, Tryz.f54, gS, gN, reduceIte, Nat.reduceEqDiff, tA]
  have l7 := tl (rgn Tryz.f54 7)
  conv at l7 => rhs; simp only [rgn, opsAt, codeOf, Tryz.f54, gS, gN, reduceIte, Nat.reduceEqDiff, tA]
  have l8 := tl (rgn Tryz.f54 8)
  conv at l8 => rhs; simp only [rgn, opsAt, codeOf, Tryz.f54, gS, gN, reduceIte, Nat.reduceEqDiff, tA]
  have l9 := tl (rgn Tryz.f54 9)
  conv at l9 => rhs; simp only [rgn, opsAt, codeOf, Tryz.f54, gS, gN, reduceIte, Nat.reduceEqDiff, tA]
  simp (decide := true) only [↓execG_seq, ↓g_region, ↓execG_block, ↓execG_skip, ↓g_if, ↓g_else, thenE_norm, leaveB_norm, ↓r_nil, ↓r_cons, ↓o_move, ↓o_assign, ↓o_pickf, ↓o_load, ↓o_binOp, ↓o_indexAddr, ↓o_index, ↓o_builtin, nextE_app, putK_app, putO_app, putG_bool, putG_int, normK_app, evalE_tmp, evalE_const, evalE_global, upd_some, bindO_ok, bindV_ok, reduceIte, map_one, Bool.not_true, ↓reg_lit l4, ↓reg_lit l5, ↓reg_lit l6, ↓reg_lit l7, ↓reg_lit l9, ↓r_no _ 7 true 25 _ gd54_7_7, ↓r_no _ 18 true 36 _ gd54_7_18, ↓r_un _ 21 false 39 _ gd54_7_21, ↓r_yes _ 1 false 51 _ gd54_9_1, e0, e1, e8, e9, binA_lss, hlt, hix, hld, len_str, binA_add, wp, wr, binA_leq, hle, hz0, hixp, binA_eql, hze]
  exact hx _ (by simp (decide := true) only [upd_some, reduceIte, e0]) (by simp (decide := true) only [upd_some, reduceIte, e1]) (by simp (decide := true) only [upd_some, reduceIte, e7]) (by simp (decide := true) only [upd_some, reduceIte, e8]) (by simp (decide := true) only [upd_some, reduceIte, e9])
theorem sg_other_false {K : Kf} {N : Nat} {H : Heap} {s : List UInt8} {i p : Nat} {b : Int} {E : Env} {Q : R → Prop} {k : KOE} (hG : Ext GE H) (hi : i < 26) (hp : p < s.length) (hsm : s.length < 9223372036854775000) (e0 : E 0 = .string ⟨⟨s⟩⟩) (e1 : E 1 = .int .i64 (p : Int)) (e7 : E 7 = .int .i64 b) (e8 : E 8 = .bool false) (e9 : E 9 = .int .i64 (i : Int)) (h1 : p + (signsL.getD i []).length ≤ s.length) (h2 : ¬ (s.take (p + (signsL.getD i []).length)).drop p = signsL.getD i [])
    (hx : ∀ E', E' 0 = .string ⟨⟨s⟩⟩ → E' 1 = .int .i64 (p : Int) → E' 7 = .int .i64 b → E' 8 = .bool (decide ((signsL.getD i []).getD 0 0 = s[p])) → E' 9 = .int .i64 ((i + 1 : Nat) : Int) → Q (k .norm E' [] H)) :
    Q (execG PP XX K N noPr (.seq (.seq (.region 4 (rgn Tryz.f54 4) false) (.cond (.tmp 12) (.skip) (.exit 0))) (.seq (.block 1 (.seq (.region 6 (rgn Tryz.f54 6) false) (.seq (.seq (.region 7 (rgn Tryz.f54 7) false) (.cond (.tmp 48) (.region 8 (rgn Tryz.f54 8) false) (.skip))) (.region 9 (rgn Tryz.f54 9) true)))) (.region 5 (rgn Tryz.f54 5) false))) none E [] H k) := by
  have hlt : decide ((i : Int) < 26) = true := decide_eq_true (by omega)
  have hix := index_sig hi
  have hld := load_sig hG hi
  obtain ⟨l1, l2⟩ := sig_len hi
  generalize hz : signsL.getD i [] = z at *
  have wr : IntKind.i64.wrap ((i : Int) + 1) = ((i + 1 : Nat) : Int) := by rw [wrap_i64 (by omega) (by omega)]; omega
  have wp : IntKind.i64.wrap ((p : Int) + (z.length : Int)) = ((p + z.length : Nat) : Int) := by rw [wrap_i64 (by omega) (by omega)]; omega
  have hz0 := idx_zero l1
  have hixp := idx_str (s := s) hp
  have hze : (((z.getD 0 0).toNat : Int) == (s[p].toNat : Int)) = decide (z.getD 0 0 = s[p]) := toNat_eq _ _
  have hle : decide (((p + z.length : Nat) : Int) ≤ (s.length : Int)) = true := decide_eq_true (by omega)
  have hsl := sl_str (s := s) (i := p) (j := p + z.length) (by omega) (by omega) H
  have hq : decide ((s.take (p + z.length)).drop p = z) = false := decide_eq_false h2
  have l4 := tl (rgn Tryz.f54 4)
  conv at l4 => rhs; simp only [rgn, opsAt, codeOf, Tryz.f54, gS, gN, reduceIte, Nat.reduceEqDiff, tA]
  have l5 := tl (rgn Tryz.f54 5)
  conv at l5 => rhs; simp only [rgn, opsAt, codeOf, Tryz.f54, gS, gN, reduceIte, Nat.reduceEqDiff, tA]
  have l6 := tl (rgn Tryz.f54 6)
  conv at l6 => rhs; simp only [rgn, opsAt, codeOf, Tryz.f54, gS, gN, reduceIte, Nat.reduceEqDiff, tA]
  have l7 := tl (rgn Tryz.f54 7)
  conv at l7 => rhs; simp only [rgn, opsAt, codeOf, Tryz.f54, gS, gN, reduceIte, Nat.reduceEqDiff, tA]
  have l8 := tl (rgn Tryz.f54 8)
  conv at l8 => rhs; simp only [rgn, opsAt, codeOf, Tryz.f54, gS, gN, reduceIte, Nat.reduceEqDiff, tA]
  have l9 := tl (rgn Tryz.f54 9)
  conv at l9 => rhs; simp only [rgn, opsAt, codeOf, Tryz.f54, gS, gN, reduceIte, Nat.reduceEqDiff, tA]
  simp (decide := true) only [↓execG_seq, ↓g_region, ↓execG_block, ↓execG_skip, ↓g_if, ↓g_else, thenE_norm, leaveB_norm, ↓r_nil, ↓r_cons, ↓o_move, ↓o_assign, ↓o_pickt, ↓o_pickf, ↓o_load, ↓o_binOp, ↓o_slice, ↓o_indexAddr, ↓o_index, ↓o_builtin, nextE_app, putK_app, putO_app, putG_bool, putG_int, normK_app, evalE_tmp, evalE_const, evalE_global, upd_some, bindO_ok, bindV_ok, reduceIte, map_one, Bool.not_true, ↓reg_lit l4, ↓reg_lit l5, ↓reg_lit l6, ↓reg_lit l7, ↓reg_lit l9, ↓r_yes _ 7 true 25 _ gd54_7_7, ↓r_no _ 18 true 36 _ gd54_7_18, ↓r_un _ 21 false 39 _ gd54_7_21, ↓r_yes _ 1 false 51 _ gd54_9_1, e0, e1, e8, e9, binA_lss, hlt, hix, hld, len_str, binA_add, wp, wr, binA_leq, hle, ↓Option.map_some, ↓Option.map_none, hsl, binA_eqs, hq, hz0, hixp, binA_eql, hze]
  exact hx _ (by simp (decide := true) only [upd_some, reduceIte, e0]) (by simp (decide := true) only [upd_some, reduceIte, e1]) (by simp (decide := true) only [upd_some, reduceIte, e7]) (by simp (decide := true) only [upd_some, reduceIte, e8]) (by simp (decide := true) only [upd_some, reduceIte, e9])
theorem sg_first_false {K : Kf} {N : Nat} {H : Heap} {s : List UInt8} {i p : Nat} {b : Int} {E : Env} {Q : R → Prop} {k : KOE} (hG : Ext GE H) (hi : i < 26) (hp : p < s.length) (hsm : s.length < 9223372036854775000) (e0 : E 0 = .string ⟨⟨s⟩⟩) (e1 : E 1 = .int .i64 (p : Int)) (e7 : E 7 = .int .i64 b) (e8 : E 8 = .bool false) (e9 : E 9 = .int .i64 (i : Int)) (h1 : p + (signsL.getD i []).length ≤ s.length) (h2 : (s.take (p + (signsL.getD i []).length)).drop p = signsL.getD i []) (h3 : b < 0)
    (hx : ∀ E', E' 0 = .string ⟨⟨s⟩⟩ → E' 1 = .int .i64 (p : Int) → E' 7 = .int .i64 (i : Int) → E' 8 = .bool (decide ((signsL.getD i []).getD 0 0 = s[p])) → E' 9 = .int .i64 ((i + 1 : Nat) : Int) → Q (k .norm E' [] H)) :
    Q (execG PP XX K N noPr (.seq (.seq (.region 4 (rgn Tryz.f54 4) false) (.cond (.tmp 12) (.skip) (.exit 0))) (.seq (.block 1 (.seq (.region 6 (rgn Tryz.f54 6) false) (.seq (.seq (.region 7 (rgn Tryz.f54 7) false) (.cond (.tmp 48) (.region 8 (rgn Tryz.f54 8) false) (.skip))) (.region 9 (rgn Tryz.f54 9) true)))) (.region 5 (rgn Tryz.f54 5) false))) none E [] H k) := by
  have hlt : decide ((i : Int) < 26) = true := decide_eq_true (by omega)
  have hix := index_sig hi
  have hld := load_sig hG hi
  obtain ⟨l1, l2⟩ := sig_len hi
  generalize hz : signsL.getD i [] = z at *
  have wr : IntKind.i64.wrap ((i : Int) + 1) = ((i + 1 : Nat) : Int) := by rw [wrap_i64 (by omega) (by omega)]; omega
  have wp : IntKind.i64.wrap ((p : Int) + (z.length : Int)) = ((p + z.length : Nat) : Int) := by rw [wrap_i64 (by omega) (by omega)]; omega
  have hz0 := idx_zero l1
  have hixp := idx_str (s := s) hp
  have hze : (((z.getD 0 0).toNat : Int) == (s[p].toNat : Int)) = decide (z.getD 0 0 = s[p]) := toNat_eq _ _
  have hle : decide (((p + z.length : Nat) : Int) ≤ (s.length : Int)) = true := decide_eq_true (by omega)
  have hsl := sl_str (s := s) (i := p) (j := p + z.length) (by omega) (by omega) H
  have hq : decide ((s.take (p + z.length)).drop p = z) = true := decide_eq_true h2
  have hb : decide (b < 0) = true := decide_eq_true h3
  have l4 := tl (rgn Tryz.f54 4)
  conv at l4 => rhs; simp only [rgn, opsAt, codeOf, Tryz.f54, gS, gN, reduceIte, Nat.reduceEqDiff, tA]
  have l5 := tl (rgn Tryz.f54 5)
  conv at l5 => rhs; simp only [rgn, opsAt, codeOf, Tryz.f54, gS, gN, reduceIte, Nat.reduceEqDiff, tA]
  have l6 := tl (rgn Tryz.f54 6)
  conv at l6 => rhs; simp only [rgn, opsAt, codeOf, Tryz.f54, gS, gN, reduceIte, Nat.reduceEqDiff, tA]
  have l7 := tl (rgn Tryz.f54 7)
  conv at l7 => rhs; simp only [rgn, opsAt, codeOf, Tryz.f54, gS, gN, reduceIte, Nat.reduceEqDiff, tA]
  have l8 := tl (rgn Tryz.f54 8)
  conv at l8 => rhs; simp only [rgn, opsAt, codeOf, Tryz.f54, gS, gN, reduceIte, Nat.reduceEqDiff, tA]
  have l9 := tl (rgn Tryz.f54 9)
  conv at l9 => rhs; simp only [rgn, opsAt, codeOf, Tryz.f54, gS, gN, reduceIte, Nat.reduceEqDiff, tA]
  simp (decide := true) only [↓execG_seq, ↓g_region, ↓execG_block, ↓execG_skip, ↓g_if, thenE_norm, leaveB_norm, ↓r_nil, ↓r_cons, ↓o_move, ↓o_assign, ↓o_pickt, ↓o_pickf, ↓o_load, ↓o_binOp, ↓o_slice, ↓o_indexAddr, ↓o_index, ↓o_builtin, nextE_app, putK_app, putO_app, putG_bool, putG_int, normK_app, evalE_tmp, evalE_const, evalE_global, upd_some, bindO_ok, bindV_ok, reduceIte, map_one, Bool.not_false, ↓reg_lit l4, ↓reg_lit l5, ↓reg_lit l6, ↓reg_lit l7, ↓reg_lit l8, ↓reg_lit l9, ↓r_yes _ 7 true 25 _ gd54_7_7, ↓r_yes _ 18 true 36 _ gd54_7_18, ↓r_no _ 21 false 39 _ gd54_7_21, ↓r_yes _ 1 false 51 _ gd54_9_1, e0, e1, e7, e8, e9, binA_lss, hlt, hix, hld, len_str, binA_add, wp, wr, binA_leq, hle, ↓Option.map_some, ↓Option.map_none, hsl, binA_eqs, hq, hb, hz0, hixp, binA_eql, hze]
  exact hx _ (by simp (decide := true) only [upd_some, reduceIte, e0]) (by simp (decide := true) only [upd_some, reduceIte, e1]) (by simp (decide := true) only [upd_some, reduceIte, e7]) (by simp (decide := true) only [upd_some, reduceIte, e8]) (by simp (decide := true) only [upd_some, reduceIte, e9])
theorem sg_longer_false {K : Kf} {N : Nat} {H : Heap} {s : List UInt8} {i p : Nat} {b : Int} {E : Env} {Q : R → Prop} {k : KOE} (hG : Ext GE H) (hi : i < 26) (hp : p < s.length) (hsm : s.length < 9223372036854775000) (e0 : E 0 = .string ⟨⟨s⟩⟩) (e1 : E 1 = .int .i64 (p : Int)) (e7 : E 7 = .int .i64 b) (e8 : E 8 = .bool false) (e9 : E 9 = .int .i64 (i : Int)) {q : Nat} (hb : b = (q : Int)) (hq26 : q < 26) (h1 : p + (signsL.getD i []).length ≤ s.length) (h2 : (s.take (p + (signsL.getD i []).length)).drop p = signsL.getD i []) (h3 :  (signsL.getD i []).length > (signsL.getD q []).length)
    (hx : ∀ E', E' 0 = .string ⟨⟨s⟩⟩ → E' 1 = .int .i64 (p : Int) → E' 7 = .int .i64 (i : Int) → E' 8 = .bool (decide ((signsL.getD i []).getD 0 0 = s[p])) → E' 9 = .int .i64 ((i + 1 : Nat) : Int) → Q (k .norm E' [] H)) :
    Q (execG PP XX K N noPr (.seq (.seq (.region 4 (rgn Tryz.f54 4) false) (.cond (.tmp 12) (.skip) (.exit 0))) (.seq (.block 1 (.seq (.region 6 (rgn Tryz.f54 6) false) (.seq (.seq (.region 7 (rgn Tryz.f54 7) false) (.cond (.tmp 48) (.region 8 (rgn Tryz.f54 8) false) (.skip))) (.region 9 (rgn Tryz.f54 9) true)))) (.region 5 (rgn Tryz.f54 5) false))) none E [] H k) := by
  have hlt : decide ((i : Int) < 26) = true := decide_eq_true (by omega)
  have hix := index_sig hi
  have hld := load_sig hG hi
  obtain ⟨l1, l2⟩ := sig_len hi
  generalize hz : signsL.getD i [] = z at *
  have wr : IntKind.i64.wrap ((i : Int) + 1) = ((i + 1 : Nat) : Int) := by rw [wrap_i64 (by omega) (by omega)]; omega
  have wp : IntKind.i64.wrap ((p : Int) + (z.length : Int)) = ((p + z.length : Nat) : Int) := by rw [wrap_i64 (by omega) (by omega)]; omega
  have hz0 := idx_zero l1
  have hixp := idx_str (s := s) hp
  have hze : (((z.getD 0 0).toNat : Int) == (s[p].toNat : Int)) = decide (z.getD 0 0 = s[p]) := toNat_eq _ _
  have hle : decide (((p + z.length : Nat) : Int) ≤ (s.length : Int)) = true := decide_eq_true (by omega)
  have hsl := sl_str (s := s) (i := p) (j := p + z.length) (by omega) (by omega) H
  subst hb
  have hq : decide ((s.take (p + z.length)).drop p = z) = true := decide_eq_true h2
  have hb : decide ((q : Int) < 0) = false := decide_eq_false (by omega)
  have hixq := index_sig hq26
  have hldq := load_sig hG hq26
  have hgt : decide ((z.length : Int) > ((signsL.getD q []).length : Int)) = true := decide_eq_true (by omega)
  have l4 := tl (rgn Tryz.f54 4)
  conv at l4 => rhs; simp only [rgn, opsAt, codeOf, Tryz.f54, gS, gN, reduceIte, Nat.reduceEqDiff, tA]
  have l5 := tl (rgn Tryz.f54 5)
  conv at l5 => rhs; simp only [rgn, opsAt, codeOf, Tryz.f54, gS, gN, reduceIte, Nat.reduceEqDiff, tA]
  have l6 := tl (rgn Tryz.f54 6)
  conv at l6 => rhs; simp only [rgn, opsAt, codeOf, Tryz.f54, gS, gN, reduceIte, Nat.reduceEqDiff, tA]
  have l7 := tl (rgn Tryz.f54 7)
  conv at l7 => rhs; simp only [rgn, opsAt, codeOf, Tryz.f54, gS, gN, reduceIte, Nat.reduceEqDiff, tA]
  have l8 := tl (rgn Tryz.f54 8)
  conv at l8 => rhs; simp only [rgn, opsAt, codeOf, Tryz.f54, gS, gN, reduceIte, Nat.reduceEqDiff, tA]
  have l9 := tl (rgn Tryz.f54 9)
  conv at l9 => rhs; simp only [rgn, opsAt, codeOf, Tryz.f54, gS, gN, reduceIte, Nat.reduceEqDiff, tA]
  simp (decide := true) only [↓execG_seq, ↓g_region, ↓execG_block, ↓execG_skip, ↓g_if, thenE_norm, leaveB_norm, ↓r_nil, ↓r_cons, ↓o_move, ↓o_assign, ↓o_pickt, ↓o_pickf, ↓o_load, ↓o_binOp, ↓o_slice, ↓o_indexAddr, ↓o_index, ↓o_builtin, nextE_app, putK_app, putO_app, putG_bool, putG_int, normK_app, evalE_tmp, evalE_const, evalE_global, upd_some, bindO_ok, bindV_ok, reduceIte, map_one, ↓reg_lit l4, ↓reg_lit l5, ↓reg_lit l6, ↓reg_lit l7, ↓reg_lit l8, ↓reg_lit l9, ↓r_yes _ 7 true 25 _ gd54_7_7, ↓r_yes _ 18 true 36 _ gd54_7_18, ↓r_yes _ 21 false 39 _ gd54_7_21, ↓r_yes _ 1 false 51 _ gd54_9_1, e0, e1, e7, e8, e9, binA_lss, hlt, hix, hld, len_str, binA_add, wp, wr, binA_leq, hle, ↓Option.map_some, ↓Option.map_none, hsl, binA_eqs, hq, hb, hixq, hldq, binA_gtr, hgt, hz0, hixp, binA_eql, hze]
  exact hx _ (by simp (decide := true) only [upd_some, reduceIte, e0]) (by simp (decide := true) only [upd_some, reduceIte, e1]) (by simp (decide := true) only [upd_some, reduceIte, e7]) (by simp (decide := true) only [upd_some, reduceIte, e8]) (by simp (decide := true) only [upd_some, reduceIte, e9])
theorem sg_not_false {K : Kf} {N : Nat} {H : Heap} {s : List UInt8} {i p : Nat} {b : Int} {E : Env} {Q : R → Prop} {k : KOE} (hG : Ext GE H) (hi : i < 26) (hp : p < s.length) (hsm : s.length < 9223372036854775000) (e0 : E 0 = .string ⟨⟨s⟩⟩) (e1 : E 1 = .int .i64 (p : Int)) (e7 : E 7 = .int .i64 b) (e8 : E 8 = .bool false) (e9 : E 9 = .int .i64 (i : Int)) {q : Nat} (hb : b = (q : Int)) (hq26 : q < 26) (h1 : p + (signsL.getD i []).length ≤ s.length) (h2 : (s.take (p + (signsL.getD i []).length)).drop p = signsL.getD i []) (h3 : ¬ (signsL.getD i []).length > (signsL.getD q []).length)
    (hx : ∀ E', E' 0 = .string ⟨⟨s⟩⟩ → E' 1 = .int .i64 (p : Int) → E' 7 = .int .i64 (q : Int) → E' 8 = .bool (decide ((signsL.getD i []).getD 0 0 = s[p])) → E' 9 = .int .i64 ((i + 1 : Nat) : Int) → Q (k .norm E' [] H)) :
    Q (execG PP XX K N noPr (.seq (.seq (.region 4 (rgn Tryz.f54 4) false) (.cond (.tmp 12) (.skip) (.exit 0))) (.seq (.block 1 (.seq (.region 6 (rgn Tryz.f54 6) false) (.seq (.seq (.region 7 (rgn Tryz.f54 7) false) (.cond (.tmp 48) (.region 8 (rgn Tryz.f54 8) false) (.skip))) (.region 9 (rgn Tryz.f54 9) true)))) (.region 5 (rgn Tryz.f54 5) false))) none E [] H k) := by
  have hlt : decide ((i : Int) < 26) = true := decide_eq_true (by omega)
  have hix := index_sig hi
  have hld := load_sig hG hi
  obtain ⟨l1, l2⟩ := sig_len hi
  generalize hz : signsL.getD i [] = z at *
  have wr : IntKind.i64.wrap ((i : Int) + 1) = ((i + 1 : Nat) : Int) := by rw [wrap_i64 (by omega) (by omega)]; omega
  have wp : IntKind.i64.wrap ((p : Int) + (z.length : Int)) = ((p + z.length : Nat) : Int) := by rw [wrap_i64 (by omega) (by omega)]; omega
  have hz0 := idx_zero l1
  have hixp := idx_str (s := s) hp
  have hze : (((z.getD 0 0).toNat : Int) == (s[p].toNat : Int)) = decide (z.getD 0 0 = s[p]) := toNat_eq _ _
  have hle : decide (((p + z.length : Nat) : Int) ≤ (s.length : Int)) = true := decide_eq_true (by omega)
  have hsl := sl_str (s := s) (i := p) (j := p + z.length) (by omega) (by omega) H
  subst hb
  have hq : decide ((s.take (p + z.length)).drop p = z) = true := decide_eq_true h2
  have hb : decide ((q : Int) < 0) = false := decide_eq_false (by omega)
  have hixq := index_sig hq26
  have hldq := load_sig hG hq26
  have hgt : decide ((z.length : Int) > ((signsL.getD q []).length : Int)) = false := decide_eq_false (by omega)
  have l4 := tl (rgn Tryz.f54 4)
  conv at l4 => rhs; simp only [rgn, opsAt, codeOf, Tryz.f54, gS, gN, reduceIte, Nat.reduceEqDiff, tA]
  have l5 := tl (rgn Tryz.f54 5)
  conv at l5 => rhs; simp only [rgn, opsAt, codeOf, Tryz.f54, gS, gN, reduceIte, Nat.reduceEqDiff, tA]
  have l6 := tl (rgn Tryz.f54 6)
  conv at l6 => rhs; simp only [rgn, opsAt, codeOf, Tryz.f54, gS, gN, reduceIte, Nat.reduceEqDiff, tA]
  have l7 := tl (rgn Tryz.f54 7)
  conv at l7 => rhs; simp only [rgn, opsAt, codeOf, Tryz.f54, gS, gN, reduceIte, Nat.reduceEqDiff, tA]
  have l8 := tl (rgn Tryz.f54 8)
  conv at l8 => rhs; simp only [rgn, opsAt, codeOf, Tryz.f54, gS, gN, reduceIte, Nat.reduceEqDiff, tA]
  have l9 := tl (rgn Tryz.f54 9)
  conv at l9 => rhs; simp only [rgn, opsAt, codeOf, Tryz.f54, gS, gN, reduceIte, Nat.reduceEqDiff, tA]
  simp (decide := true) only [↓execG_seq, ↓g_region, ↓execG_block, ↓execG_skip, ↓g_if, ↓g_else, thenE_norm, leaveB_norm, ↓r_nil, ↓r_cons, ↓o_move, ↓o_assign, ↓o_pickt, ↓o_pickf, ↓o_load, ↓o_binOp, ↓o_slice, ↓o_indexAddr, ↓o_index, ↓o_builtin, nextE_app, putK_app, putO_app, putG_bool, putG_int, normK_app, evalE_tmp, evalE_const, evalE_global, upd_some, bindO_ok, bindV_ok, reduceIte, map_one, ↓reg_lit l4, ↓reg_lit l5, ↓reg_lit l6, ↓reg_lit l7, ↓reg_lit l9, ↓r_yes _ 7 true 25 _ gd54_7_7, ↓r_yes _ 18 true 36 _ gd54_7_18, ↓r_yes _ 21 false 39 _ gd54_7_21, ↓r_yes _ 1 false 51 _ gd54_9_1, e0, e1, e7, e8, e9, binA_lss, hlt, hix, hld, len_str, binA_add, wp, wr, binA_leq, hle, ↓Option.map_some, ↓Option.map_none, hsl, binA_eqs, hq, hb, hixq, hldq, binA_gtr, hgt, hz0, hixp, binA_eql, hze]
  exact hx _ (by simp (decide := true) only [upd_some, reduceIte, e0]) (by simp (decide := true) only [upd_some, reduceIte, e1]) (by simp (decide := true) only [upd_some, reduceIte, e7]) (by simp (decide := true) only [upd_some, reduceIte, e8]) (by simp (decide := true) only [upd_some, reduceIte, e9])
end
/-- Does a sign stand at a place? -/
def mtS (s : List UInt8) (p : Nat) (z : List UInt8) : Bool := decide (p + z.length ≤ s.length) && decide ((s.take (p + z.length)).drop p = z)
/-- The longest of the signs at a place. -/
def bestS (m : List UInt8 → Bool) : List (List UInt8) → Nat → Int → Int
  | [], _, b => b
  | z :: r, i, b => bestS m r (i + 1) (if m z && (decide (b < 0) || decide (z.length > (signsL.getD b.toNat []).length)) then (i : Int) else b)
def begunS (u : UInt8) : List (List UInt8) → Bool → Bool
  | [], g => g
  | z :: r, g => begunS u r (g || decide (z.getD 0 0 = u))
theorem sg_then {K : Kf} {N : Nat} {H : Heap} {s : List UInt8} {p : Nat} {Q : R → Prop} {k : KOE} (hG : Ext GE H) (hp : p < s.length) (hsm : s.length < 9223372036854775000) :
    ∀ (n i m : Nat) (b : Int) (g : Bool) (_ : i + n = 26) (_ : n < m) (_ : -1 ≤ b ∧ b < 26) {E : Env} (_ : E 0 = .string ⟨⟨s⟩⟩) (_ : E 1 = .int .i64 (p : Int)) (_ : E 7 = .int .i64 b) (_ : E 8 = .bool g) (_ : E 9 = .int .i64 (i : Int))
      (_ : ∀ E', E' 1 = .int .i64 (p : Int) → -1 ≤ bestS (mtS s p) (signsL.drop i) i b → bestS (mtS s p) (signsL.drop i) i b < 26 → E' 7 = .int .i64 (bestS (mtS s p) (signsL.drop i) i b) → E' 8 = .bool (begunS s[p] (signsL.drop i) g) → Q (k (.exit 0) E' [] H)),
      Q (loopE (execG PP XX K N noPr (.seq (.seq (.region 4 (rgn Tryz.f54 4) false) (.cond (.tmp 12) (.skip) (.exit 0))) (.seq (.block 1 (.seq (.region 6 (rgn Tryz.f54 6) false) (.seq (.seq (.region 7 (rgn Tryz.f54 7) false) (.cond (.tmp 48) (.region 8 (rgn Tryz.f54 8) false) (.skip))) (.region 9 (rgn Tryz.f54 9) true)))) (.region 5 (rgn Tryz.f54 5) false))) none) m E [] H k)
  | 0, i, m + 1, b, g, hn, hm, hb, E, e0, e1, e7, e8, e9, hx => by
    rw [loopE_succ]
    have hi : i = 26 := by omega
    subst hi
    have hlt : decide (((26 : Nat) : Int) < 26) = false := by decide
    have l4 := tl (rgn Tryz.f54 4)
    conv at l4 => rhs; simp only [rgn, opsAt, codeOf, Tryz.f54, gS, gN, reduceIte, Nat.reduceEqDiff, tA]
    simp (decide := true) only [↓execG_seq, ↓g_region, thenE_norm, ↓r_nil, ↓r_cons, ↓o_move, ↓o_binOp, nextE_app, putG_bool, normK_app, evalE_tmp, evalE_const, upd_some, bindO_ok, reduceIte, ↓reg_lit l4, e9, binA_lss]
    exact hx _ (by simp (decide := true) only [upd_some, reduceIte, e1]) hb.1 hb.2 (by simp (decide := true) only [upd_some, reduceIte, e7]; rfl) (by simp (decide := true) only [upd_some, reduceIte, e8]; rfl)
  | n + 1, i, m + 1, b, g, hn, hm, hb, E, e0, e1, e7, e8, e9, hx => by
    rw [loopE_succ]
    have hi : i < 26 := by omega
    have hl : i < signsL.length := by rw [signsL_len]; exact hi
    have hd : signsL.drop i = signsL.getD i [] :: signsL.drop (i + 1) := by
      rw [List.drop_eq_getElem_cons hl]; simp [List.getD, hl]
    rw [hd] at hx
    have go : ∀ (b' : Int), -1 ≤ b' ∧ b' < 26 → (if mtS s p (signsL.getD i []) && (decide (b < 0) || decide ((signsL.getD i []).length > (signsL.getD b.toNat []).length)) then (i : Int) else b) = b' →
        ∀ E', E' 0 = .string ⟨⟨s⟩⟩ → E' 1 = .int .i64 (p : Int) → E' 7 = .int .i64 b' → E' 8 = .bool (g || decide ((signsL.getD i []).getD 0 0 = s[p])) → E' 9 = .int .i64 ((i + 1 : Nat) : Int) → Q (thenE (fun E ds H k => loopE (execG PP XX K N noPr (.seq (.seq (.region 4 (rgn Tryz.f54 4) false) (.cond (.tmp 12) (.skip) (.exit 0))) (.seq (.block 1 (.seq (.region 6 (rgn Tryz.f54 6) false) (.seq (.seq (.region 7 (rgn Tryz.f54 7) false) (.cond (.tmp 48) (.region 8 (rgn Tryz.f54 8) false) (.skip))) (.region 9 (rgn Tryz.f54 9) true)))) (.region 5 (rgn Tryz.f54 5) false))) none) m E ds H k) k .norm E' [] H) := fun b' hb' hs E' q0 q1 q7 q8 q9 => by
      rw [thenE_norm]
      refine sg_then hG hp hsm n (i + 1) m b' _ (by omega) (by omega) hb' q0 q1 q7 q8 q9 fun E2 z1 z2 z3 z7 z8 => ?_
      unfold bestS begunS at hx
      rw [hs] at hx
      exact hx E2 z1 z2 z3 z7 z8
    have gt : g = true → (g || decide ((signsL.getD i []).getD 0 0 = s[p])) = true := fun h => by rw [h]; rfl
    have gf : g = false → (g || decide ((signsL.getD i []).getD 0 0 = s[p])) = decide ((signsL.getD i []).getD 0 0 = s[p]) := fun h => by rw [h]; rfl
    by_cases h1 : p + (signsL.getD i []).length ≤ s.length
    · by_cases h2 : (s.take (p + (signsL.getD i []).length)).drop p = signsL.getD i []
      · have hmt : mtS s p (signsL.getD i []) = true := by unfold mtS; rw [decide_eq_true h1, decide_eq_true h2]; rfl
        by_cases h3 : b < 0
        · have go' := go (i : Int) (by omega) (by rw [hmt, decide_eq_true h3]; rfl)
          cases g with
          | true => exact sg_first_true hG hi hp hsm e0 e1 e7 e8 e9 h1 h2 h3 (by rw [gt rfl] at go'; exact go')
          | false => exact sg_first_false hG hi hp hsm e0 e1 e7 e8 e9 h1 h2 h3 (by rw [gf rfl] at go'; exact go')
        · obtain ⟨q, hq⟩ : ∃ q : Nat, b = (q : Int) := ⟨b.toNat, by omega⟩
          subst hq
          by_cases h4 : (signsL.getD i []).length > (signsL.getD q []).length
          · have go' := go (i : Int) (by omega) (by rw [hmt, Int.toNat_natCast, decide_eq_true h4]; simp)
            cases g with
            | true => exact sg_longer_true hG hi hp hsm e0 e1 e7 e8 e9 rfl (by omega) h1 h2 h4 (by rw [gt rfl] at go'; exact go')
            | false => exact sg_longer_false hG hi hp hsm e0 e1 e7 e8 e9 rfl (by omega) h1 h2 h4 (by rw [gf rfl] at go'; exact go')
          · have go' := go (q : Int) (by omega) (by rw [hmt, Int.toNat_natCast, decide_eq_false h4, decide_eq_false h3]; rfl)
            cases g with
            | true => exact sg_not_true hG hi hp hsm e0 e1 e7 e8 e9 rfl (by omega) h1 h2 h4 (by rw [gt rfl] at go'; exact go')
            | false => exact sg_not_false hG hi hp hsm e0 e1 e7 e8 e9 rfl (by omega) h1 h2 h4 (by rw [gf rfl] at go'; exact go')
      · have hmt : mtS s p (signsL.getD i []) = false := by unfold mtS; rw [decide_eq_false h2, Bool.and_false]
        have go' := go b hb (by rw [hmt]; rfl)
        cases g with
        | true => exact sg_other_true hG hi hp hsm e0 e1 e7 e8 e9 h1 h2 (by rw [gt rfl] at go'; exact go')
        | false => exact sg_other_false hG hi hp hsm e0 e1 e7 e8 e9 h1 h2 (by rw [gf rfl] at go'; exact go')
    · have hmt : mtS s p (signsL.getD i []) = false := by unfold mtS; rw [decide_eq_false h1]; rfl
      have go' := go b hb (by rw [hmt]; rfl)
      cases g with
      | true => exact sg_short_true hG hi hp hsm e0 e1 e7 e8 e9 h1 (by rw [gt rfl] at go'; exact go')
      | false => exact sg_short_false hG hi hp hsm e0 e1 e7 e8 e9 h1 (by rw [gf rfl] at go'; exact go')
/-- What the reference's 'sign' answers. -/
def signF (m : List UInt8 → Bool) (u : UInt8) : Int × Nat × Bool :=
  if bestS m signsL 0 (-1) ≥ 0 then (4 + bestS m signsL 0 (-1), (signsL.getD (bestS m signsL 0 (-1)).toNat []).length, true)
  else (0, if begunS u signsL false then 1 else 0, false)
def sgV (p : Nat) (r : Int × Nat × Bool) : Value := if r.2.2 then .tuple #[.int .i64 r.1, .int .i64 ((p + r.2.1 : Nat) : Int), .int .i64 (-1)] else .tuple #[.int .i64 0, .int .i64 0, .int .i64 ((p + r.2.1 : Nat) : Int)]
theorem call_rsign {N : Nat} {hk : Hook} {d : Nat} {H : Heap} {s : List UInt8} {p : Nat} (hG : Ext GE H) (hp : p < s.length) (hsm : s.length < 9223372036854775000) (hN : 60 < N) (hh : ∀ f args H, okC f = true → hk f args H = none) :
    CG N hk (d + 1) 54 #[.string ⟨⟨s⟩⟩, .int .i64 (p : Int)] H = some (.ret (sgV p (signF (mtS s p) s[p])), H) := by
  have main : ∃ R0 : R, CG N hk (d + 1) 54 #[.string ⟨⟨s⟩⟩, .int .i64 (p : Int)] H = R0 ∧ R0 = some (.ret (sgV p (signF (mtS s p) s[p])), H) := by
    refine ⟨_, callG_fn (hh _ _ _ rfl) Tryz.func54 (c := codeOf Tryz.f54) rfl rfl rfl (pr := noPr) rfl, ?_⟩
    rw [code54]
    generalize hF : finE PP Tryz.f54 = F
    have l0 := tl (rgn Tryz.f54 0)
    conv at l0 => rhs; simp only [rgn, opsAt, codeOf, Tryz.f54, gS, gN, reduceIte, Nat.reduceEqDiff, tA]
    have l1 := tl (rgn Tryz.f54 1)
    conv at l1 => rhs; simp only [rgn, opsAt, codeOf, Tryz.f54, gS, gN, reduceIte, Nat.reduceEqDiff, tA]
    have l2 := tl (rgn Tryz.f54 2)
    conv at l2 => rhs; simp only [rgn, opsAt, codeOf, Tryz.f54, gS, gN, reduceIte, Nat.reduceEqDiff, tA]
    have l3 := tl (rgn Tryz.f54 3)
    conv at l3 => rhs; simp only [rgn, opsAt, codeOf, Tryz.f54, gS, gN, reduceIte, Nat.reduceEqDiff, tA]
    have l10 := tl (rgn Tryz.f54 10)
    conv at l10 => rhs; simp only [rgn, opsAt, codeOf, Tryz.f54, gS, gN, reduceIte, Nat.reduceEqDiff, tA]
    have l11 := tl (rgn Tryz.f54 11)
    conv at l11 => rhs; simp only [rgn, opsAt, codeOf, Tryz.f54, gS, gN, reduceIte, Nat.reduceEqDiff, tA]
    have l12 := tl (rgn Tryz.f54 12)
    conv at l12 => rhs; simp only [rgn, opsAt, codeOf, Tryz.f54, gS, gN, reduceIte, Nat.reduceEqDiff, tA]
    have l13 := tl (rgn Tryz.f54 13)
    conv at l13 => rhs; simp only [rgn, opsAt, codeOf, Tryz.f54, gS, gN, reduceIte, Nat.reduceEqDiff, tA]
    have l14 := tl (rgn Tryz.f54 14)
    conv at l14 => rhs; simp only [rgn, opsAt, codeOf, Tryz.f54, gS, gN, reduceIte, Nat.reduceEqDiff, tA]
    simp (decide := true) only [↓execG_seq, ↓g_region, ↓execG_block, thenE_norm, ↓r_nil, ↓r_cons, ↓o_assign, nextE_app, normK_app, evalE_const, ↓reg_lit l0, ↓reg_lit l1, ↓reg_lit l2, ↓reg_lit l3, ↓execG_loop]
    refine sg_then (s := s) (p := p) (Q := fun r => r = some (.ret (sgV p (signF (mtS s p) s[p])), H)) hG hp hsm 26 0 N (-1) false rfl (by omega) ⟨by omega, by omega⟩ ?_ ?_ ?_ ?_ ?_ (fun E' e1 b1 b2 e7 e8 => ?_)
    · simp (decide := true) only [upd_some, reduceIte, startE_0]
    · simp (decide := true) only [upd_some, reduceIte, startE_1]
    · simp (decide := true) only [upd_some, reduceIte]
    · simp (decide := true) only [upd_some, reduceIte]
    · simp (decide := true) only [upd_some, reduceIte]; rfl
    · rw [List.drop_zero] at b1 b2 e7 e8
      by_cases hb : bestS (mtS s p) signsL 0 (-1) ≥ 0
      · obtain ⟨q, hq⟩ : ∃ q : Nat, bestS (mtS s p) signsL 0 (-1) = (q : Int) := ⟨(bestS (mtS s p) signsL 0 (-1)).toNat, by omega⟩
        have hs : signF (mtS s p) s[p] = (4 + (q : Int), (signsL.getD q []).length, true) := by unfold signF; rw [if_pos hb, hq, Int.toNat_natCast]
        rw [hs]
        rw [hq] at b2 e7
        have hge : decide ((q : Int) ≥ 0) = true := decide_eq_true (by omega)
        have hq26 : q < 26 := by omega
        have hixq := index_sig hq26
        have hldq := load_sig hG hq26
        obtain ⟨l1, l2⟩ := sig_len hq26
        have w1 : IntKind.i64.wrap (4 + (q : Int)) = 4 + (q : Int) := wrap_i64 (by omega) (by omega)
        have w2 : IntKind.i64.wrap ((p : Int) + ((signsL.getD q []).length : Int)) = ((p + (signsL.getD q []).length : Nat) : Int) := by rw [wrap_i64 (by omega) (by omega)]; omega
        simp (decide := true) only [↓execG_seq, ↓g_region, ↓execG_ret, ↓g_if, thenE_norm, thenE_ret, g_leave, ↓r_nil, ↓r_cons, ↓o_move, ↓o_assign, ↓o_load, ↓o_binOp, ↓o_indexAddr, ↓o_builtin, nextE_app, putK_app, putO_app, putG_bool, putG_int, normK_app, evalE_tmp, evalE_const, evalE_global, upd_some, bindO_ok, bindV_ok, reduceIte, map_one, ↓reg_lit l10, ↓reg_lit l11, e1, e7, binA_geq, hge, binA_add, w1, hixq, hldq, len_str, w2]
        rw [← hF, finE_ret (l := [.int .i64 (4 + (q : Int)), .int .i64 ((p + (signsL.getD q []).length : Nat) : Int), .int .i64 (-1)]) (by simp (decide := true) [Tryz.f54, resE, upd_some])]
        rfl
      · have hge : decide (bestS (mtS s p) signsL 0 (-1) ≥ 0) = false := decide_eq_false hb
        cases hg : begunS s[p] signsL false with
        | true =>
          have hs : signF (mtS s p) s[p] = (0, 1, false) := by unfold signF; rw [if_neg hb, hg]; rfl
          rw [hs]
          rw [hg] at e8
          have w1 : IntKind.i64.wrap ((p : Int) + 1) = ((p + 1 : Nat) : Int) := by rw [wrap_i64 (by omega) (by omega)]; omega
          simp (decide := true) only [↓execG_seq, ↓g_region, ↓execG_ret, ↓execG_skip, ↓g_if, ↓g_else, thenE_norm, thenE_ret, g_leave, ↓r_nil, ↓r_cons, ↓o_move, ↓o_assign, ↓o_binOp, nextE_app, putG_bool, putG_int, normK_app, evalE_tmp, evalE_const, upd_some, bindO_ok, reduceIte, ↓reg_lit l10, ↓reg_lit l12, ↓reg_lit l13, e1, e7, e8, binA_geq, hge, binA_add, w1]
          rw [← hF, finE_ret (l := [.int .i64 0, .int .i64 0, .int .i64 ((p + 1 : Nat) : Int)]) (by simp (decide := true) [Tryz.f54, resE, upd_some])]
          rfl
        | false =>
          have hs : signF (mtS s p) s[p] = (0, 0, false) := by unfold signF; rw [if_neg hb, hg]; rfl
          rw [hs]
          rw [hg] at e8
          simp (decide := true) only [↓execG_seq, ↓g_region, ↓execG_ret, ↓execG_skip, ↓g_else, thenE_norm, g_leave, ↓r_nil, ↓r_cons, ↓o_move, ↓o_assign, ↓o_binOp, nextE_app, putG_bool, normK_app, evalE_tmp, evalE_const, upd_some, bindO_ok, reduceIte, ↓reg_lit l10, ↓reg_lit l12, ↓reg_lit l14, e1, e7, e8, binA_geq, hge]
          rw [← hF, finE_ret (l := [.int .i64 0, .int .i64 0, .int .i64 (p : Int)]) (by simp (decide := true) [Tryz.f54, resE, upd_some])]
          rfl
  obtain ⟨R0, m1, m2⟩ := main
  exact m1.trans m2
end Go.Am
