/- The law on the greatest length: the hooks, the row that is filled. -/
import Derived.Test.YtohmeeglehopiaaDoorS3
import Derived.Test.YtohmeeglehopiaaDoorDK
open Go.Proofs
namespace Go.Am

theorem hkD_none : ∀ f args H, okC f = true → hkD f args H = none := by
  intro f args H h
  have hf : Nat.beq 10 f = false ∧ Nat.beq 16 f = false ∧ Nat.beq 57 f = false := by
    simp only [okC, Bool.or_eq_true, beq_iff_eq] at h
    rcases h with ((((((((( rfl | rfl) | rfl) | rfl) | rfl) | rfl) | rfl) | rfl) | rfl) | rfl) <;> exact ⟨rfl, rfl, rfl⟩
  simp [hkD, hookP, rowsD, kn, rW, rSemi, hf]
theorem self1 : (match GG.get 1, GG.get 1 with | some x, some y => sameB x y | _, _ => false) = true := by decide +kernel
theorem self2 : (match GG.get 2, GG.get 2 with | some x, some y => sameB x y | _, _ => false) = true := by decide +kernel
theorem over_ext {H : Heap} (h : Ext GG H) : overB GG [1, 2] H = true := by
  have g1 : ∃ x, GG.get 1 = some x := ⟨_, rfl⟩
  have g2 : ∃ x, GG.get 2 = some x := ⟨_, rfl⟩
  obtain ⟨x1, e1⟩ := g1
  obtain ⟨x2, e2⟩ := g2
  have s1 := self1
  have s2 := self2
  rw [e1] at s1
  rw [e2] at s2
  have k1 := h.keep 1 x1 e1
  have k2 := h.keep 2 x2 e2
  simp only [overB, List.all_cons, List.all_nil, e1, e2, k1, k2, Bool.and_true, Bool.and_eq_true, decide_eq_true_eq]
  exact ⟨h.next, s1, s2⟩
theorem hkD_row {f : FuncId} {args : Array Value} {e : PureRow} (h : rowsD.find? (fun e => Nat.beq e.f f && veqs args.toList e.args) = some e) {H : Heap} (hG : Ext GG H) : hkD f args H = some (some (.ret e.v, H)) := by
  simp only [hkD, hookP, h, over_ext hG, cond_true]
theorem hk_known {H : Heap} (hG : Ext GG H) : hkD 10 #[] H = some (some (.ret (.bool true), H)) := hkD_row (e := kn) rfl hG
theorem hk_semi {H : Heap} (hG : Ext GG H) : hkD 57 #[.int .u8 59] H = some (some (.ret (.int .i64 10), H)) := hkD_row (e := rSemi) (by kernel_rfl) hG
theorem hk_w19 {H : Heap} (hG : Ext GG H) : hkD 16 #[strV (wA 19)] H = some (some (.ret (.int .i64 0), H)) := hkD_row (e := rW 19) (by kernel_rfl) hG
theorem hk_w14 {H : Heap} (hG : Ext GG H) : hkD 16 #[strV (wA 14)] H = some (some (.ret (.int .i64 0), H)) := hkD_row (e := rW 14) (by kernel_rfl) hG
theorem hk_w15 {H : Heap} (hG : Ext GG H) : hkD 16 #[strV (wA 15)] H = some (some (.ret (.int .i64 0), H)) := hkD_row (e := rW 15) (by kernel_rfl) hG
theorem hk_w16 {H : Heap} (hG : Ext GG H) : hkD 16 #[strV (wA 16)] H = some (some (.ret (.int .i64 0), H)) := hkD_row (e := rW 16) (by kernel_rfl) hG

theorem binA_rem {P : Program} {t : TypeId} {x y : Operand} {i : IntKind} {a b : Int} (h : b ≠ 0) : binA P .rem t x y (.int i a) (.int i b) = some (.int i (a.tmod b)) := by simp [binA, ground, atomic, eqGuard, binOp, Op.intDiv, h]; rfl
theorem binA_quo {P : Program} {t : TypeId} {x y : Operand} {i : IntKind} {a b : Int} (h : b ≠ 0) : binA P .quo t x y (.int i a) (.int i b) = some (.int i (i.wrap (a.tdiv b))) := by simp [binA, ground, atomic, eqGuard, binOp, Op.intDiv, h]; rfl
theorem code11 : codeOf Tryd.f11 = .seq (.region 0 (rgn Tryd.f11 0) false) (.seq (.region 1 (rgn Tryd.f11 1) false) (.seq (.seq (.region 2 (rgn Tryd.f11 2) false) (.cond (.tmp 14) (.region 3 (rgn Tryd.f11 3) false) (.skip))) (.seq (.region 4 (rgn Tryd.f11 4) false) (.ret)))) := by kernel_rfl

theorem call_within {N : Nat} {hk : Hook} {d : Nat} {H : Heap} (n lo hi m : Int) (hm : m = hi - lo + 1) (h0 : 0 < m) (h1 : m < 100) (h2 : -100 < lo) (h3 : lo < 100) (hh : ∀ args H, hk 11 args H = none) :
    ∃ x, 0 ≤ x ∧ x < m ∧ CG N hk (d + 1) 11 #[.int .i64 n, .int .i64 lo, .int .i64 hi] H = some (.ret (.int .i64 (lo + x)), H) := by
  have w1 : IntKind.i64.wrap (hi - lo) = hi - lo := wrap_i64 (by omega) (by omega)
  have w2 : IntKind.i64.wrap (hi - lo + 1) = m := by rw [hm]; exact wrap_i64 (by omega) (by omega)
  have hm0 : m ≠ 0 := by omega
  have r1 : n.tmod m < m := Int.tmod_lt_of_pos n h0
  have r2 : -m < n.tmod m := by
    have := Int.lt_tmod_of_pos n h0
    exact this
  generalize hr : n.tmod m = r at r1 r2
  by_cases hneg : r < 0
  · refine ⟨r + m, by omega, by omega, ?_⟩
    refine (callG_fn (hh _ _) Tryd.func11 (c := codeOf Tryd.f11) rfl rfl rfl (pr := noPr) rfl).trans ?_
    rw [code11]
    generalize hF : finE PP Tryd.f11 = F
    have hlt : decide (r < 0) = true := decide_eq_true hneg
    have w3 : IntKind.i64.wrap (r + hi) = r + hi := wrap_i64 (by omega) (by omega)
    have w4 : IntKind.i64.wrap (r + hi - lo) = r + hi - lo := wrap_i64 (by omega) (by omega)
    have w5 : IntKind.i64.wrap (r + hi - lo + 1) = r + m := by rw [wrap_i64 (by omega) (by omega)]; omega
    have w6 : IntKind.i64.wrap (lo + (r + m)) = lo + (r + m) := wrap_i64 (by omega) (by omega)
    have l0 := (rfl : (rgn Tryd.f11 0).toList = (rgn Tryd.f11 0).toList)
    conv at l0 => rhs; simp only [rgn, opsAt, codeOf, Tryd.f11, Option.getD_some, Option.getD_none, reduceIte, Nat.reduceEqDiff, List.toList_toArray]
    have l1 := (rfl : (rgn Tryd.f11 1).toList = (rgn Tryd.f11 1).toList)
    conv at l1 => rhs; simp only [rgn, opsAt, codeOf, Tryd.f11, Option.getD_some, Option.getD_none, reduceIte, Nat.reduceEqDiff, List.toList_toArray]
    have l2 := (rfl : (rgn Tryd.f11 2).toList = (rgn Tryd.f11 2).toList)
    conv at l2 => rhs; simp only [rgn, opsAt, codeOf, Tryd.f11, Option.getD_some, Option.getD_none, reduceIte, Nat.reduceEqDiff, List.toList_toArray]
    have l3 := (rfl : (rgn Tryd.f11 3).toList = (rgn Tryd.f11 3).toList)
    conv at l3 => rhs; simp only [rgn, opsAt, codeOf, Tryd.f11, Option.getD_some, Option.getD_none, reduceIte, Nat.reduceEqDiff, List.toList_toArray]
    have l4 := (rfl : (rgn Tryd.f11 4).toList = (rgn Tryd.f11 4).toList)
    conv at l4 => rhs; simp only [rgn, opsAt, codeOf, Tryd.f11, Option.getD_some, Option.getD_none, reduceIte, Nat.reduceEqDiff, List.toList_toArray]
    simp (decide := true) only [↓execG_seq, ↓g_region, ↓execG_ret, ↓g_if, thenE_norm, ↓r_nil, ↓r_cons, ↓o_move, ↓o_assign, ↓o_binOp, nextE_app, putG_bool, putG_int, normK_app, evalE_tmp, evalE_const, upd_some, bindO_ok, reduceIte, startE_0, startE_1, ↓reg_lit l0, ↓reg_lit l1, ↓reg_lit l2, ↓reg_lit l3, ↓reg_lit l4, startE_2, binA_sub, binA_add, binA_rem hm0, w1, w2, hr, binA_lss, hlt, w3, w4, w5, w6]
    rw [← hF, finE_ret (l := [.int .i64 (lo + (r + m))]) (by simp (decide := true) [Tryd.f11, resE, upd_some])]
    rfl
  · refine ⟨r, by omega, by omega, ?_⟩
    refine (callG_fn (hh _ _) Tryd.func11 (c := codeOf Tryd.f11) rfl rfl rfl (pr := noPr) rfl).trans ?_
    rw [code11]
    generalize hF : finE PP Tryd.f11 = F
    have hlt : decide (r < 0) = false := decide_eq_false hneg
    have w6 : IntKind.i64.wrap (lo + r) = lo + r := wrap_i64 (by omega) (by omega)
    have l0 := (rfl : (rgn Tryd.f11 0).toList = (rgn Tryd.f11 0).toList)
    conv at l0 => rhs; simp only [rgn, opsAt, codeOf, Tryd.f11, Option.getD_some, Option.getD_none, reduceIte, Nat.reduceEqDiff, List.toList_toArray]
    have l1 := (rfl : (rgn Tryd.f11 1).toList = (rgn Tryd.f11 1).toList)
    conv at l1 => rhs; simp only [rgn, opsAt, codeOf, Tryd.f11, Option.getD_some, Option.getD_none, reduceIte, Nat.reduceEqDiff, List.toList_toArray]
    have l2 := (rfl : (rgn Tryd.f11 2).toList = (rgn Tryd.f11 2).toList)
    conv at l2 => rhs; simp only [rgn, opsAt, codeOf, Tryd.f11, Option.getD_some, Option.getD_none, reduceIte, Nat.reduceEqDiff, List.toList_toArray]
    have l4 := (rfl : (rgn Tryd.f11 4).toList = (rgn Tryd.f11 4).toList)
    conv at l4 => rhs; simp only [rgn, opsAt, codeOf, Tryd.f11, Option.getD_some, Option.getD_none, reduceIte, Nat.reduceEqDiff, List.toList_toArray]
    simp (decide := true) only [↓execG_seq, ↓g_region, ↓execG_ret, ↓execG_skip, ↓g_else, thenE_norm, ↓r_nil, ↓r_cons, ↓o_move, ↓o_assign, ↓o_binOp, nextE_app, putG_bool, putG_int, normK_app, evalE_tmp, evalE_const, upd_some, bindO_ok, reduceIte, startE_0, startE_1, ↓reg_lit l0, ↓reg_lit l1, ↓reg_lit l2, ↓reg_lit l4, startE_2, binA_sub, binA_add, binA_rem hm0, w1, w2, hr, binA_lss, hlt, w6]
    rw [← hF, finE_ret (l := [.int .i64 (lo + r)]) (by simp (decide := true) [Tryd.f11, resE, upd_some])]
    rfl

/-- A row of bytes that may be written. -/
def rowF (L : Nat) (g : Nat → UInt8) : Blk := ⟨(List.range L).map fun j => .int .u8 ((g j).toNat : Int), true, 1, none⟩
theorem over_range (L i : Nat) (F : Nat → Value) (v : Value) (hi : i < L) : over ((List.range L).map F) i [v] = (List.range L).map fun j => if j = i then v else F j := by
  apply List.ext_getElem
  · simp [over]; omega
  · intro j h1 h2
    have hj : j < L := by simpa using h2
    simp only [over, List.length_cons, List.length_nil, List.getElem_map, List.getElem_range]
    by_cases c1 : j < i
    · rw [List.getElem_append_left (by simp; omega), List.getElem_append_left (by simp; omega)]
      simp [show ¬ j = i by omega]
    · by_cases c2 : j = i
      · subst c2
        rw [List.getElem_append_left (by simp; omega), List.getElem_append_right (by simp; omega)]
        simp
      · rw [List.getElem_append_right (by simp; omega)]
        simp [c2]
        congr 1
        omega
theorem store_row {H : Heap} {sb L i : Nat} {g : Nat → UInt8} (h : H.get sb = some (rowF L g)) (hi : i < L) (v : UInt8) {n : Int} (hn : n = (v.toNat : Int)) : storeA PP 5 (.pointer (some ((⟨sb, 0, none⟩ : Addr).add i))) (.int .u8 n) H = some (undef, H.set sb (rowF L fun j => if j = i then v else g j)) := by
  subst hn
  have e : (⟨sb, 0, none⟩ : Addr).add i = ⟨sb, i, none⟩ := by rw [Addr.add_lit, Nat.zero_add]
  rw [e]
  simp only [storeA, size5, stV]
  have ho := over_range L i (fun j => .int .u8 ((g j).toNat : Int)) (.int .u8 (v.toNat : Int)) hi
  simp [Value.cells, st, look, h, rowF, Value.oneCell', ho, Nat.succ_le_of_lt hi]
  refine congrArg _ ?_
  refine congrArg (fun x => Blk.mk x true 1 none) ?_
  apply List.map_congr_left
  intro j _
  split <;> rfl
theorem make_row (H : Heap) (L : Nat) (hL : L ≤ 2000000) : makeSliceA PP 26 (.int .i64 (L : Int)) (.int .i64 (L : Int)) H = some (.slice (some ⟨H.next, 0, none⟩) L L, H.alloc 1 (rowF L fun _ => 0).cells) := by
  have hi : ∃ i, PP.info? 5 = some i ∧ i.size = 1 ∧ i.bytes = 1 := by
    have h : (PP.info? 5).map (fun i => (i.size, i.bytes)) = some (1, 1) := by kernel_rfl
    cases hi : PP.info? 5 with
    | none => rw [hi] at h; cases h
    | some i => rw [hi] at h; simp at h; exact ⟨i, rfl, h.1, h.2⟩
  obtain ⟨i, h1, h2, h3⟩ := hi
  have z : zeroT PP 5 = some [.int .u8 0] := by kernel_rfl
  simp only [makeSliceA, und34, h1, z]
  have hz : zeroRow [.int .u8 0] (L * 1) = (rowF L fun _ => 0).cells := by
    simp only [zeroRow, rowF, Nat.mul_one]
    apply List.map_congr_left
    intro j _
    simp [Nat.mod_one]
  have hm : (0 : Int) ≤ (L : Int) ∧ (L : Int) ≤ (L : Int) ∧ (L : Int) ≤ most ∧ ((1 : Nat) : Int) * (L : Int) ≤ most := by unfold most; omega
  simp only [List.length_cons, List.length_nil, h2, h3, if_true, makeA, Nat.zero_add]
  rw [if_pos hm]
  simp only [Int.toNat_natCast, hz]
/-- What the law fills the row with. -/
def filB (c : UInt8) (j : Nat) : UInt8 := if c = 97 ∧ j % 20 = 19 then 32 else c
structure FS (H0 H : Heap) (sb L : Nat) (g : Nat → UInt8) : Prop where
  next : H.next = H0.next
  here : H.get sb = some (rowF L g)
  there : ∀ z, z ≠ sb → H.get z = H0.get z
theorem FS.set {H0 H : Heap} {sb L : Nat} {g : Nat → UInt8} (h : FS H0 H sb L g) (g' : Nat → UInt8) : FS H0 (H.set sb (rowF L g')) sb L g' :=
  ⟨h.next, get_self _ _ _, fun z hz => by rw [Heap.get_set, if_neg hz]; exact h.there z hz⟩
theorem rem20 (i : Nat) : ((i : Int).tmod 20 == 19) = decide (i % 20 = 19) := by
  have : (i : Int).tmod 20 = ((i % 20 : Nat) : Int) := by rw [Int.tmod_eq_emod_of_nonneg (by omega)]; rfl
  rw [this, Bool.eq_iff_iff]
  simp only [beq_iff_eq, decide_eq_true_eq]
  omega
theorem code4 : codeOf Tryd.f4 = .seq (.region 0 (rgn Tryd.f4 0) false) (.seq (.region 1 (rgn Tryd.f4 1) false) (.seq (.region 2 (rgn Tryd.f4 2) false) (.seq (.region 3 (rgn Tryd.f4 3) false) (.seq (.seq (.region 4 (rgn Tryd.f4 4) false) (.block 0 (.loop (.seq (.seq (.region 5 (rgn Tryd.f4 5) false) (.cond (.tmp 25) (.skip) (.exit 0))) (.seq (.block 1 (.seq (.region 7 (rgn Tryd.f4 7) false) (.seq (.region 8 (rgn Tryd.f4 8) false) (.cond (.tmp 38) (.region 9 (rgn Tryd.f4 9) false) (.skip))))) (.region 6 (rgn Tryd.f4 6) false)))))) (.seq (.region 10 (rgn Tryd.f4 10) false) (.seq (.seq (.region 11 (rgn Tryd.f4 11) false) (.cond (.tmp 50) (.seq (.region 12 (rgn Tryd.f4 12) false) (.ret)) (.skip))) (.seq (.seq (.region 13 (rgn Tryd.f4 13) false) (.block 2 (.seq (.region 14 (rgn Tryd.f4 14) false) (.cond (.tmp 66) (.seq (.region 15 (rgn Tryd.f4 15) false) (.ret)) (.seq (.region 16 (rgn Tryd.f4 16) false) (.cond (.tmp 86) (.seq (.region 17 (rgn Tryd.f4 17) false) (.ret)) (.seq (.region 18 (rgn Tryd.f4 18) false) (.cond (.tmp 104) (.seq (.region 19 (rgn Tryd.f4 19) false) (.ret)) (.skip))))))))) (.seq (.region 20 (rgn Tryd.f4 20) false) (.ret))))))))) := by kernel_rfl
theorem gd4_8_2 : ((rgn Tryd.f4 8)[2]?).bind (·.dst) = some 34 := by kernel_rfl
theorem gd4_12_2 : ((rgn Tryd.f4 12)[2]?).bind (·.dst) = some 53 := by kernel_rfl
theorem gd4_12_6 : ((rgn Tryd.f4 12)[6]?).bind (·.dst) = some 57 := by kernel_rfl
theorem gd4_12_11 : ((rgn Tryd.f4 12)[11]?).bind (·.dst) = some 62 := by kernel_rfl
theorem gd4_15_2 : ((rgn Tryd.f4 15)[2]?).bind (·.dst) = some 70 := by kernel_rfl
theorem gd4_15_6 : ((rgn Tryd.f4 15)[6]?).bind (·.dst) = some 74 := by kernel_rfl
theorem gd4_15_15 : ((rgn Tryd.f4 15)[15]?).bind (·.dst) = some 83 := by kernel_rfl
theorem gd4_17_2 : ((rgn Tryd.f4 17)[2]?).bind (·.dst) = some 90 := by kernel_rfl
theorem gd4_17_6 : ((rgn Tryd.f4 17)[6]?).bind (·.dst) = some 94 := by kernel_rfl
theorem gd4_17_13 : ((rgn Tryd.f4 17)[13]?).bind (·.dst) = some 101 := by kernel_rfl
theorem gd4_19_2 : ((rgn Tryd.f4 19)[2]?).bind (·.dst) = some 108 := by kernel_rfl
theorem gd4_19_6 : ((rgn Tryd.f4 19)[6]?).bind (·.dst) = some 112 := by kernel_rfl
theorem gd4_19_11 : ((rgn Tryd.f4 19)[11]?).bind (·.dst) = some 117 := by kernel_rfl
theorem gd4_20_2 : ((rgn Tryd.f4 20)[2]?).bind (·.dst) = some 122 := by kernel_rfl
theorem gd4_20_6 : ((rgn Tryd.f4 20)[6]?).bind (·.dst) = some 126 := by kernel_rfl
theorem gd4_20_11 : ((rgn Tryd.f4 20)[11]?).bind (·.dst) = some 131 := by kernel_rfl

end Go.Am
/- The law on the greatest length: the row is filled. -/
open Go.Proofs
namespace Go.Am
section
variable {K : Kf} {N : Nat} {H0 : Heap} {sb L : Nat} {c : UInt8} {Q : R → Prop} {k : KOE}
theorem f_stop {H : Heap} {E : Env} {i : Nat} (hi : ¬ i < L) (e5 : E 5 = .slice (some ⟨sb, 0, none⟩) L L) (e7 : E 7 = .int .u8 (c.toNat : Int)) (e8 : E 8 = .int .i64 (i : Int))
    (hx : ∀ E', E' 5 = .slice (some ⟨sb, 0, none⟩) L L → E' 7 = .int .u8 (c.toNat : Int) → Q (k (.exit 0) E' [] H)) : Q (execG PP XX K N noPr (.seq (.seq (.region 5 (rgn Tryd.f4 5) false) (.cond (.tmp 25) (.skip) (.exit 0))) (.seq (.block 1 (.seq (.region 7 (rgn Tryd.f4 7) false) (.seq (.region 8 (rgn Tryd.f4 8) false) (.cond (.tmp 38) (.region 9 (rgn Tryd.f4 9) false) (.skip))))) (.region 6 (rgn Tryd.f4 6) false))) none E [] H k) := by
  have hlt : decide ((i : Int) < (L : Int)) = false := decide_eq_false (by omega)
  have l5 := (rfl : (rgn Tryd.f4 5).toList = (rgn Tryd.f4 5).toList)
  conv at l5 => rhs; simp only [rgn, opsAt, codeOf, Tryd.f4, Option.getD_some, Option.getD_none, reduceIte, Nat.reduceEqDiff, List.toList_toArray]
  simp (decide := true) only [↓execG_seq, ↓g_region, ↓execG_exit, ↓g_else, thenE_norm, thenE_exit, ↓r_nil, ↓r_cons, ↓o_move, ↓o_binOp, ↓o_builtin, nextE_app, putK_app, putG_bool, normK_app, evalE_tmp, upd_some, bindO_ok, reduceIte, map_one, ↓reg_lit l5, e5, e8, len_slice (ts := #[26]) rfl und34, binA_lss, hlt]
  exact hx _ (by simp (decide := true) only [upd_some, reduceIte, e5]) (by simp (decide := true) only [upd_some, reduceIte, e7])
theorem f_step {H : Heap} {E : Env} {i : Nat} {g : Nat → UInt8} (h : FS H0 H sb L g) (hi : i < L) (hL : L < 2000000) (e5 : E 5 = .slice (some ⟨sb, 0, none⟩) L L) (e7 : E 7 = .int .u8 (c.toNat : Int)) (e8 : E 8 = .int .i64 (i : Int))
    (hx : ∀ E' H', (E' 5 = .slice (some ⟨sb, 0, none⟩) L L ∧ E' 7 = .int .u8 (c.toNat : Int) ∧ E' 8 = .int .i64 ((i + 1 : Nat) : Int)) → FS H0 H' sb L (fun j => if j = i then filB c i else g j) → Q (k .norm E' [] H')) : Q (execG PP XX K N noPr (.seq (.seq (.region 5 (rgn Tryd.f4 5) false) (.cond (.tmp 25) (.skip) (.exit 0))) (.seq (.block 1 (.seq (.region 7 (rgn Tryd.f4 7) false) (.seq (.region 8 (rgn Tryd.f4 8) false) (.cond (.tmp 38) (.region 9 (rgn Tryd.f4 9) false) (.skip))))) (.region 6 (rgn Tryd.f4 6) false))) none E [] H k) := by
  have hlt : decide ((i : Int) < (L : Int)) = true := decide_eq_true (by omega)
  have hix := index_row (n := L) (c := L) (a := ⟨sb, 0, none⟩) hi
  have w : IntKind.i64.wrap ((i : Int) + 1) = ((i + 1 : Nat) : Int) := by rw [wrap_i64 (by omega) (by omega)]; omega
  have s1 := store_row h.here hi c rfl
  have h1 := h.set (fun j => if j = i then c else g j)
  have z20 : (20 : Int) ≠ 0 := by decide
  have l5 := (rfl : (rgn Tryd.f4 5).toList = (rgn Tryd.f4 5).toList)
  conv at l5 => rhs; simp only [rgn, opsAt, codeOf, Tryd.f4, Option.getD_some, Option.getD_none, reduceIte, Nat.reduceEqDiff, List.toList_toArray]
  have l6 := (rfl : (rgn Tryd.f4 6).toList = (rgn Tryd.f4 6).toList)
  conv at l6 => rhs; simp only [rgn, opsAt, codeOf, Tryd.f4, Option.getD_some, Option.getD_none, reduceIte, Nat.reduceEqDiff, List.toList_toArray]
  have l7 := (rfl : (rgn Tryd.f4 7).toList = (rgn Tryd.f4 7).toList)
  conv at l7 => rhs; simp only [rgn, opsAt, codeOf, Tryd.f4, Option.getD_some, Option.getD_none, reduceIte, Nat.reduceEqDiff, List.toList_toArray]
  have l8 := (rfl : (rgn Tryd.f4 8).toList = (rgn Tryd.f4 8).toList)
  conv at l8 => rhs; simp only [rgn, opsAt, codeOf, Tryd.f4, Option.getD_some, Option.getD_none, reduceIte, Nat.reduceEqDiff, List.toList_toArray]
  have l9 := (rfl : (rgn Tryd.f4 9).toList = (rgn Tryd.f4 9).toList)
  conv at l9 => rhs; simp only [rgn, opsAt, codeOf, Tryd.f4, Option.getD_some, Option.getD_none, reduceIte, Nat.reduceEqDiff, List.toList_toArray]
  by_cases hc : c = 97
  · have h97 : ((c.toNat : Int) == 97) = true := by rw [hc]; rfl
    by_cases h19 : i % 20 = 19
    · have hr : ((i : Int).tmod 20 == 19) = true := by rw [rem20, decide_eq_true h19]
      have s2 := store_row h1.here hi 32 (n := 32) rfl
      simp (decide := true) only [↓execG_seq, ↓g_region, ↓execG_block, ↓execG_skip, ↓g_if, thenE_norm, leaveB_norm, ↓r_nil, ↓r_cons, ↓o_move, ↓o_assign, ↓o_pickt, ↓o_store, ↓o_binOp, ↓o_indexAddr, ↓o_builtin, nextE_app, putK_app, putO_app, putG_bool, putG_int, normK_app, evalE_tmp, evalE_const, upd_some, upd_none, bindO_ok, bindV_ok, reduceIte, map_one, ↓reg_lit l5, ↓reg_lit l6, ↓reg_lit l7, ↓reg_lit l8, ↓reg_lit l9, ↓r_yes _ 2 true 34 _ gd4_8_2, e5, e7, e8, len_slice (ts := #[26]) rfl und34, binA_lss, hlt, hix, s1, binA_eql, h97, binA_rem z20, hr, s2, binA_add, w]
      have h2 := h1.set (fun j => if j = i then 32 else if j = i then c else g j)
      have e : (fun j => if j = i then (32 : UInt8) else if j = i then c else g j) = fun j => if j = i then filB c i else g j := by
        funext j
        by_cases q : j = i
        · rw [if_pos q, if_pos q, filB, if_pos ⟨hc, h19⟩]
        · rw [if_neg q, if_neg q, if_neg q]
      rw [e] at h2
      rw [e]
      exact hx _ _ ⟨by simp (decide := true) only [upd_some, reduceIte, e5], by simp (decide := true) only [upd_some, reduceIte, e7], by simp (decide := true) only [upd_some, reduceIte]⟩ h2
    · have hr : ((i : Int).tmod 20 == 19) = false := by rw [rem20, decide_eq_false h19]
      simp (decide := true) only [↓execG_seq, ↓g_region, ↓execG_block, ↓execG_skip, ↓g_if, ↓g_else, thenE_norm, leaveB_norm, ↓r_nil, ↓r_cons, ↓o_move, ↓o_assign, ↓o_pickt, ↓o_store, ↓o_binOp, ↓o_indexAddr, ↓o_builtin, nextE_app, putK_app, putO_app, putG_bool, putG_int, normK_app, evalE_tmp, evalE_const, upd_some, upd_none, bindO_ok, bindV_ok, reduceIte, map_one, ↓reg_lit l5, ↓reg_lit l6, ↓reg_lit l7, ↓reg_lit l8, ↓r_yes _ 2 true 34 _ gd4_8_2, e5, e7, e8, len_slice (ts := #[26]) rfl und34, binA_lss, hlt, hix, s1, binA_eql, h97, binA_rem z20, hr, binA_add, w]
      have e : filB c i = c := by rw [filB, if_neg (fun q => h19 q.2)]
      rw [e] at hx
      exact hx _ _ ⟨by simp (decide := true) only [upd_some, reduceIte, e5], by simp (decide := true) only [upd_some, reduceIte, e7], by simp (decide := true) only [upd_some, reduceIte]⟩ h1
  · have h97 : ((c.toNat : Int) == 97) = false := by
      have := toNat_eq c 97
      rw [decide_eq_false hc] at this
      exact this
    simp (decide := true) only [↓execG_seq, ↓g_region, ↓execG_block, ↓execG_skip, ↓g_if, ↓g_else, thenE_norm, leaveB_norm, ↓r_nil, ↓r_cons, ↓o_move, ↓o_assign, ↓o_pickf, ↓o_store, ↓o_binOp, ↓o_indexAddr, ↓o_builtin, nextE_app, putK_app, putO_app, putG_bool, putG_int, normK_app, evalE_tmp, evalE_const, upd_some, upd_none, bindO_ok, bindV_ok, reduceIte, map_one, Bool.not_true, ↓reg_lit l5, ↓reg_lit l6, ↓reg_lit l7, ↓reg_lit l8, ↓r_no _ 2 true 34 _ gd4_8_2, e5, e7, e8, len_slice (ts := #[26]) rfl und34, binA_lss, hlt, hix, s1, binA_eql, h97, binA_add, w]
    have e : filB c i = c := by rw [filB, if_neg (fun q => hc q.1)]
    rw [e] at hx
    exact hx _ _ ⟨by simp (decide := true) only [upd_some, reduceIte, e5], by simp (decide := true) only [upd_some, reduceIte, e7], by simp (decide := true) only [upd_some, reduceIte]⟩ h1
theorem f_then (hL : L < 2000000) : ∀ (n i m : Nat) (_ : i + n = L) (_ : n < m) {H : Heap} {E : Env} (_ : FS H0 H sb L fun j => if j < i then filB c j else 0) (_ : E 5 = .slice (some ⟨sb, 0, none⟩) L L ∧ E 7 = .int .u8 (c.toNat : Int) ∧ E 8 = .int .i64 ((i : Nat) : Int))
    (_ : ∀ E' H', E' 5 = .slice (some ⟨sb, 0, none⟩) L L → E' 7 = .int .u8 (c.toNat : Int) → FS H0 H' sb L (fun j => if j < L then filB c j else 0) → Q (k (.exit 0) E' [] H')),
    Q (loopE (execG PP XX K N noPr (.seq (.seq (.region 5 (rgn Tryd.f4 5) false) (.cond (.tmp 25) (.skip) (.exit 0))) (.seq (.block 1 (.seq (.region 7 (rgn Tryd.f4 7) false) (.seq (.region 8 (rgn Tryd.f4 8) false) (.cond (.tmp 38) (.region 9 (rgn Tryd.f4 9) false) (.skip))))) (.region 6 (rgn Tryd.f4 6) false))) none) m E [] H k)
  | 0, i, m + 1, hn, hm, H, E, h, ⟨e5, e7, e8⟩, hx => by
    rw [loopE_succ]
    have : i = L := by omega
    subst this
    exact f_stop (by omega) e5 e7 e8 fun E' a b => hx E' H a b h
  | n + 1, i, m + 1, hn, hm, H, E, h, ⟨e5, e7, e8⟩, hx => by
    rw [loopE_succ]
    refine f_step h (by omega) hL e5 e7 e8 fun E' H' e' h' => ?_
    rw [thenE_norm]
    refine f_then hL n (i + 1) m (by omega) (by omega) ?_ e' hx
    have e : (fun j => if j = i then filB c i else if j < i then filB c j else 0) = fun j => if j < i + 1 then filB c j else 0 := by
      funext j
      by_cases q : j = i
      · rw [if_pos q, if_pos (by omega), q]
      · rw [if_neg q]
        by_cases q2 : j < i
        · rw [if_pos q2, if_pos (by omega)]
        · rw [if_neg q2, if_neg (by omega)]
    rw [e] at h'
    exact h'
theorem rowF_full : rowF L (fun j => if j < L then filB c j else 0) = rowF L (filB c) := by
  unfold rowF
  congr 1
  apply List.map_congr_left
  intro j hj
  rw [List.mem_range] at hj
  simp only [hj, if_true]
end
/-- The text. -/
def txt (c : UInt8) (L : Nat) : List UInt8 := (List.range L).map (filB c)
theorem txt_len (c : UInt8) (L : Nat) : (txt c L).length = L := by simp [txt]
theorem txt_at (c : UInt8) {L i : Nat} (h : i < L) : (txt c L).getD i 0 = filB c i := by simp [txt, List.getD, h]
theorem txt_get (c : UInt8) {L i : Nat} (h : i < (txt c L).length) : (txt c L)[i] = filB c i := by simp [txt]
theorem txt_row {H : Heap} {sb L : Nat} {c : UInt8} (h : H.get sb = some (rowF L (filB c))) (hL : L < 2000000) : Brow H (some ⟨sb, 0, none⟩) (txt c L) := by
  refine ⟨fun b hb => ?_, (fun e => by cases e), by rw [txt_len]; omega⟩
  obtain rfl := Option.some.inj hb
  refine ⟨rowF L (filB c), by simp [look, h]; rfl, rfl, by simp [rowF, txt], ?_⟩
  simp only [List.drop_zero, txt_len]
  rw [List.take_of_length_le (by simp [rowF])]
  simp [rowF, txt]
end Go.Am
