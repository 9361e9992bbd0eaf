/- An integer: its end and its suffix. -/
import Derived.Test.YtohmeeglehopiaaDoorS4
import Derived.Test.YtohmeeglehopiaaDoorG1
open Go.Proofs
namespace Go.Am

/-- What an integer's reading comes to. -/
inductive IR where
  | bad (e : Nat)
  | good (n e : Nat)
def endI (s : List UInt8) (i n : Nat) : IR := if isW s i then .bad i else .good n i
def mulI (s : List UInt8) (i n f : Nat) : IR := if n * f < m64 then endI s (i + 1) (n * f) else .bad i
theorem mulI_ok {s : List UInt8} {i n f : Nat} (h : n * f < m64) : mulI s i n f = endI s (i + 1) (n * f) := by unfold mulI; exact if_pos h
theorem mulI_no {s : List UInt8} {i n f : Nat} (h : ¬ n * f < m64) : mulI s i n f = .bad i := by unfold mulI; exact if_neg h
def sufI (s : List UInt8) (i n : Nat) : IR := if isI s i 4 then (if s.getD i 0 = 77 then mulI s i n 1048576 else if s.getD i 0 = 75 then mulI s i n 1024 else .bad i) else endI s i n
/-- What stands when the reading ends. -/
def Fin (H0 : Heap) (a : Option Addr) (l c b t : Nat) (kd : Int) (w : ByteArray) (f0 t0 : Int) (r : IR) (E' : Env) (H' : Heap) : Prop :=
  match r with
  | .bad e => E' 4 = .bool false ∧ ∃ y, Two H0 H' b (cur a l c e) t y
  | .good n e => E' 4 = .bool true ∧ Two H0 H' b (cur a l c e) t (tok kd (n : Int) w f0 t0)
theorem tf1 (b : Nat) : fieldAddrA PP 29 (.pointer (some ⟨b, 0, none⟩)) 1 = some (.pointer (some ⟨b, 1, none⟩)) := by kernel_rfl
theorem size27 : sizeT PP 27 = some 1 := by decide +kernel
theorem store_n {H : Heap} {b : Nat} {k n f e : Int} {w : ByteArray} (h : H.get b = some (tok k n w f e)) (n' : Int) : storeA PP 27 (.pointer (some ⟨b, 1, none⟩)) (.int .u64 n') H = some (undef, H.set b (tok k n' w f e)) := by
  simp only [storeA, size27, stV]
  simp [Value.cells, st, look, h, tok, over, Value.oneCell']
theorem shl1 (x y : Operand) : binA PP .shl 27 x y (.int .u64 1) (.int .u64 10) = some (.int .u64 1024) := by kernel_rfl
theorem shl2 (x y : Operand) : binA PP .shl 27 x y (.int .u64 1024) (.int .u64 10) = some (.int .u64 1048576) := by kernel_rfl
theorem Two.row {H0 H : Heap} {b t : Nat} {x y : Blk} {a : Option Addr} {c : Nat} {s : List UInt8} (h : Two H0 H b x t y) (k : Ctx H0 a c s b) (ht : ∀ q, a = some q → q.block ≠ t) : Brow H a s := by
  refine ⟨fun q hq => ?_, k.row.nil, k.row.small⟩
  obtain ⟨z, h1, h2⟩ := k.row.row q hq
  refine ⟨z, ?_, h2⟩
  have hn := h.there q.block (k.ne q hq) (ht q hq)
  unfold look at h1 ⊢
  rw [hn]; exact h1
theorem Two.gg {H0 H : Heap} {b t : Nat} {x y : Blk} {a : Option Addr} {c : Nat} {s : List UInt8} (h : Two H0 H b x t y) (k : Ctx H0 a c s b) (htl : t < H0.next) (ht : GE.next ≤ t) : Ext GE H :=
  (h.lexd k.gg.fresh k.lt htl).gg k ht
theorem more_ok {N : Nat} {hk : Hook} {d : Nat} {H : Heap} (n f g r : Nat) (fi gi : Int) (hfi : (f : Int) = fi) (hgi : (g : Int) = gi) (hn : n < m64) (hf : f < m64) (hg : g < m64) (hr : r = n * f + g) (ov : r < m64) (hh : ∀ f args H, okC f = true → hk f args H = none)
    (hm : ∀ x y H, x < m64 → y < m64 → hk 73 #[.int .u64 ((x : Nat) : Int), .int .u64 ((y : Nat) : Int)] H = some (some (.ret (mulV x y), H))) :
    CG N hk (d + 2) 54 #[.int .u64 (n : Int), .int .u64 fi, .int .u64 gi] H = some (.ret (.tuple #[.int .u64 (r : Int), .bool true]), H) := by
  subst hfi hgi hr
  have := call_more (N := N) (hk := hk) (d := d) (H := H) n f g hn hf hg hh hm
  rw [decide_eq_true ov, Nat.mod_eq_of_lt ov] at this
  exact this
theorem more_no {N : Nat} {hk : Hook} {d : Nat} {H : Heap} (n f g r : Nat) (fi gi : Int) (hfi : (f : Int) = fi) (hgi : (g : Int) = gi) (hn : n < m64) (hf : f < m64) (hg : g < m64) (hr : r = n * f + g) (ov : ¬ r < m64) (hh : ∀ f args H, okC f = true → hk f args H = none)
    (hm : ∀ x y H, x < m64 → y < m64 → hk 73 #[.int .u64 ((x : Nat) : Int), .int .u64 ((y : Nat) : Int)] H = some (some (.ret (mulV x y), H))) :
    ∃ v : Int, CG N hk (d + 2) 54 #[.int .u64 (n : Int), .int .u64 fi, .int .u64 gi] H = some (.ret (.tuple #[.int .u64 v, .bool false]), H) := by
  subst hfi hgi hr
  have := call_more (N := N) (hk := hk) (d := d) (H := H) n f g hn hf hg hh hm
  rw [decide_eq_false ov] at this
  exact ⟨_, this⟩
theorem code39 : codeOf Tryd.f39 = .seq (.region 0 (rgn Tryd.f39 0) false) (.scope (.seq (.region 1 (rgn Tryd.f39 1) true) (.seq (.region 2 (rgn Tryd.f39 2) false) (.seq (.seq (.region 3 (rgn Tryd.f39 3) true) (.cond (.tmp 50) (.seq (.region 4 (rgn Tryd.f39 4) false) (.seq (.region 5 (rgn Tryd.f39 5) false) (.goto 0))) (.skip))) (.seq (.label 1) (.seq (.seq (.region 6 (rgn Tryd.f39 6) false) (.cond (.tmp 63) (.seq (.seq (.region 7 (rgn Tryd.f39 7) true) (.seq (.region 8 (rgn Tryd.f39 8) false) (.cond (.tmp 82) (.seq (.region 9 (rgn Tryd.f39 9) false) (.ret)) (.skip)))) (.seq (.region 10 (rgn Tryd.f39 10) false) (.goto 1))) (.skip))) (.seq (.goto 2) (.seq (.label 0) (.seq (.seq (.region 11 (rgn Tryd.f39 11) true) (.cond (.tmp 113) (.seq (.seq (.region 12 (rgn Tryd.f39 12) true) (.seq (.region 13 (rgn Tryd.f39 13) false) (.cond (.tmp 131) (.seq (.region 14 (rgn Tryd.f39 14) false) (.ret)) (.skip)))) (.seq (.region 15 (rgn Tryd.f39 15) false) (.goto 0))) (.skip))) (.seq (.seq (.region 16 (rgn Tryd.f39 16) false) (.cond (.tmp 144) (.seq (.region 17 (rgn Tryd.f39 17) false) (.ret)) (.skip))) (.seq (.label 2) (.seq (.seq (.region 18 (rgn Tryd.f39 18) false) (.cond (.tmp 146) (.seq (.region 19 (rgn Tryd.f39 19) false) (.seq (.seq (.region 20 (rgn Tryd.f39 20) true) (.block 0 (.seq (.block 3 (.seq (.block 2 (.seq (.block 1 (.seq (.seq (.seq (.region 21 (rgn Tryd.f39 21) false) (.cond (.tmp 157) (.exit 1) (.skip))) (.seq (.region 22 (rgn Tryd.f39 22) false) (.cond (.tmp 159) (.exit 2) (.skip)))) (.exit 3))) (.region 23 (rgn Tryd.f39 23) false))) (.seq (.region 24 (rgn Tryd.f39 24) false) (.exit 0)))) (.seq (.seq (.region 25 (rgn Tryd.f39 25) false) (.ret)) (.exit 0))))) (.seq (.seq (.region 26 (rgn Tryd.f39 26) false) (.seq (.region 27 (rgn Tryd.f39 27) false) (.cond (.tmp 172) (.seq (.region 28 (rgn Tryd.f39 28) false) (.ret)) (.skip)))) (.region 29 (rgn Tryd.f39 29) false)))) (.skip))) (.seq (.region 30 (rgn Tryd.f39 30) false) (.seq (.region 31 (rgn Tryd.f39 31) false) (.ret))))))))))))))) := by kernel_rfl
theorem gd39_3_11 : ((rgn Tryd.f39 3)[11]?).bind (·.dst) = some 24 := by kernel_rfl
theorem gd39_3_24 : ((rgn Tryd.f39 3)[24]?).bind (·.dst) = some 37 := by kernel_rfl
theorem gd39_11_10 : ((rgn Tryd.f39 11)[10]?).bind (·.dst) = some 100 := by kernel_rfl
theorem gd39_31_3 : ((rgn Tryd.f39 31)[3]?).bind (·.dst) = some 187 := by kernel_rfl

section
/-- The end of an integer. -/
theorem i_end {N : Nat} {H0 H : Heap} {a : Option Addr} {c : Nat} {s : List UInt8} {b t i n : Nat} {E : Env} {Q : R → Prop} {k : KOE} {hk : Hook} {d : Nat} {kd f0 t0 : Int} {w : ByteArray} {n0 : Int} (x : Ctx H0 a c s b) (h : Curs H0 H b a s.length c i) (hbt : t ≠ b) (ht : H0.get t = some (tok kd n0 w f0 t0)) (hh : ∀ f args H, okC f = true → hk f args H = none) (htl : t < H0.next) (htg : GE.next ≤ t) (hrt : ∀ q, a = some q → q.block ≠ t) (e0 : E 0 = .pointer (some ⟨b, 0, none⟩)) (e1 : E 1 = .pointer (some ⟨t, 0, none⟩)) (e7 : E 7 = .int .u64 (n : Int))
    (hx : ∀ E' H', Fin H0 a s.length c b t kd w f0 t0 (endI s i n) E' H' → Q (k .ret E' [] H')) :
    Q (execG PP XX (CG N hk (d + 2)) N noPr (.seq (.region 30 (rgn Tryd.f39 30) false) (.seq (.region 31 (rgn Tryd.f39 31) false) (.ret))) none E [] H k) := by
  have two := h.two hbt ht
  have two1 := two.set hbt (tok kd (n : Int) w f0 t0)
  have r1 := call_is (N := N) (hk := hk) (d := d) (two1.gg x htl htg) (two1.row x hrt) two1.one 4 hh
  have r2 := call_is (N := N) (hk := hk) (d := d) (two1.gg x htl htg) (two1.row x hrt) two1.one 3 hh
  have l30 := tl (rgn Tryd.f39 30)
  conv at l30 => rhs; simp only [rgn, opsAt, codeOf, Tryd.f39, gS, gN, reduceIte, Nat.reduceEqDiff, tA]
  have l31 := tl (rgn Tryd.f39 31)
  conv at l31 => rhs; simp only [rgn, opsAt, codeOf, Tryd.f39, gS, gN, reduceIte, Nat.reduceEqDiff, tA]
  cases h4 : isI s i 4 with
  | true =>
    rw [h4] at r1
    simp (decide := true) only [↓execG_seq, ↓g_region, ↓execG_ret, thenE_norm, ↓r_nil, ↓r_cons, ↓o_move, ↓o_assign, ↓o_pickf, ↓o_store, ↓o_nilCheck, ↓o_unOp, ↓o_fieldAddr, ↓o_callf, nextE_app, putK_app, putO_app, putG_bool, normK_app, nilCheckA_ok, evalE_tmp, evalE_const, upd_some, upd_none, bindO_ok, bindV_ok, reduceIte, map_two, Bool.not_true, ↓reg_lit l30, ↓reg_lit l31, ↓r_no _ 3 true 187 _ gd39_31_3, e0, e1, e7, tf1, store_n two.two, callK_fn Tryd.func38 rfl rfl r1, not_t]
    refine hx _ _ ?_
    rw [endI, if_pos (by simp [isW, h4])]
    exact ⟨by simp (decide := true) only [upd_some, reduceIte], _, two1⟩
  | false =>
    rw [h4] at r1
    cases h3 : isI s i 3 with
    | true =>
      rw [h3] at r2
      simp (decide := true) only [↓execG_seq, ↓g_region, ↓execG_ret, thenE_norm, ↓r_nil, ↓r_cons, ↓o_move, ↓o_assign, ↓o_pickt, ↓o_store, ↓o_nilCheck, ↓o_unOp, ↓o_fieldAddr, ↓o_callf, nextE_app, putK_app, putO_app, putG_bool, normK_app, nilCheckA_ok, evalE_tmp, evalE_const, upd_some, upd_none, bindO_ok, bindV_ok, reduceIte, map_two, ↓reg_lit l30, ↓reg_lit l31, ↓r_yes _ 3 true 187 _ gd39_31_3, e0, e1, e7, tf1, store_n two.two, callK_fn Tryd.func38 rfl rfl r1, callK_fn Tryd.func38 rfl rfl r2, not_t, not_f]
      refine hx _ _ ?_
      rw [endI, if_pos (by simp [isW, h3])]
      exact ⟨by simp (decide := true) only [upd_some, reduceIte], _, two1⟩
    | false =>
      rw [h3] at r2
      simp (decide := true) only [↓execG_seq, ↓g_region, ↓execG_ret, thenE_norm, ↓r_nil, ↓r_cons, ↓o_move, ↓o_assign, ↓o_pickt, ↓o_store, ↓o_nilCheck, ↓o_unOp, ↓o_fieldAddr, ↓o_callf, nextE_app, putK_app, putO_app, putG_bool, normK_app, nilCheckA_ok, evalE_tmp, evalE_const, upd_some, upd_none, bindO_ok, bindV_ok, reduceIte, map_two, ↓reg_lit l30, ↓reg_lit l31, ↓r_yes _ 3 true 187 _ gd39_31_3, e0, e1, e7, tf1, store_n two.two, callK_fn Tryd.func38 rfl rfl r1, callK_fn Tryd.func38 rfl rfl r2, not_f]
      refine hx _ _ ?_
      rw [endI, if_neg (by simp [isW, h3, h4])]
      exact ⟨by simp (decide := true) only [upd_some, reduceIte], two1⟩
/-- The suffix. -/
theorem i_suf {N : Nat} {H0 H : Heap} {a : Option Addr} {c : Nat} {s : List UInt8} {b t i n : Nat} {E : Env} {Q : R → Prop} {k : KOE} {hk : Hook} {d : Nat} {kd f0 t0 : Int} {w : ByteArray} {n0 : Int} (x : Ctx H0 a c s b) (h : Curs H0 H b a s.length c i) (hbt : t ≠ b) (ht : H0.get t = some (tok kd n0 w f0 t0)) (hh : ∀ f args H, okC f = true → hk f args H = none) (htl : t < H0.next) (htg : GE.next ≤ t) (hrt : ∀ q, a = some q → q.block ≠ t) (hm : ∀ x y H, x < m64 → y < m64 → hk 73 #[.int .u64 ((x : Nat) : Int), .int .u64 ((y : Nat) : Int)] H = some (some (.ret (mulV x y), H))) (hn : n < m64) (e0 : E 0 = .pointer (some ⟨b, 0, none⟩)) (e1 : E 1 = .pointer (some ⟨t, 0, none⟩)) (e7 : E 7 = .int .u64 (n : Int))
    (hx : ∀ E' H', Fin H0 a s.length c b t kd w f0 t0 (sufI s i n) E' H' → Q (k .ret E' [] H')) :
    Q (execG PP XX (CG N hk (d + 2)) N noPr (.seq (.seq (.region 18 (rgn Tryd.f39 18) false) (.cond (.tmp 146) (.seq (.region 19 (rgn Tryd.f39 19) false) (.seq (.seq (.region 20 (rgn Tryd.f39 20) true) (.block 0 (.seq (.block 3 (.seq (.block 2 (.seq (.block 1 (.seq (.seq (.seq (.region 21 (rgn Tryd.f39 21) false) (.cond (.tmp 157) (.exit 1) (.skip))) (.seq (.region 22 (rgn Tryd.f39 22) false) (.cond (.tmp 159) (.exit 2) (.skip)))) (.exit 3))) (.region 23 (rgn Tryd.f39 23) false))) (.seq (.region 24 (rgn Tryd.f39 24) false) (.exit 0)))) (.seq (.seq (.region 25 (rgn Tryd.f39 25) false) (.ret)) (.exit 0))))) (.seq (.seq (.region 26 (rgn Tryd.f39 26) false) (.seq (.region 27 (rgn Tryd.f39 27) false) (.cond (.tmp 172) (.seq (.region 28 (rgn Tryd.f39 28) false) (.ret)) (.skip)))) (.region 29 (rgn Tryd.f39 29) false)))) (.skip))) (.seq (.region 30 (rgn Tryd.f39 30) false) (.seq (.region 31 (rgn Tryd.f39 31) false) (.ret)))) none E [] H k) := by
  have r1 := call_is (N := N) (hk := hk) (d := d) (h.gg x) (h.row x) h.here 4 hh
  have hsm := x.row.small
  have two := h.two hbt ht
  have m1 : (1024 : Nat) < m64 := by decide
  have m2 : (1048576 : Nat) < m64 := by decide
  have m0 : (0 : Nat) < m64 := by decide
  have q0 : ∀ (u v : Value), extractA (.tuple #[u, v]) 0 = some u := fun _ _ => rfl
  have q1 : ∀ (u v : Value), extractA (.tuple #[u, v]) 1 = some v := fun _ _ => rfl
  have l18 := tl (rgn Tryd.f39 18)
  conv at l18 => rhs; simp only [rgn, opsAt, codeOf, Tryd.f39, gS, gN, reduceIte, Nat.reduceEqDiff, tA]
  have l19 := tl (rgn Tryd.f39 19)
  conv at l19 => rhs; simp only [rgn, opsAt, codeOf, Tryd.f39, gS, gN, reduceIte, Nat.reduceEqDiff, tA]
  have l20 := tl (rgn Tryd.f39 20)
  conv at l20 => rhs; simp only [rgn, opsAt, codeOf, Tryd.f39, gS, gN, reduceIte, Nat.reduceEqDiff, tA]
  have l21 := tl (rgn Tryd.f39 21)
  conv at l21 => rhs; simp only [rgn, opsAt, codeOf, Tryd.f39, gS, gN, reduceIte, Nat.reduceEqDiff, tA]
  have l22 := tl (rgn Tryd.f39 22)
  conv at l22 => rhs; simp only [rgn, opsAt, codeOf, Tryd.f39, gS, gN, reduceIte, Nat.reduceEqDiff, tA]
  have l23 := tl (rgn Tryd.f39 23)
  conv at l23 => rhs; simp only [rgn, opsAt, codeOf, Tryd.f39, gS, gN, reduceIte, Nat.reduceEqDiff, tA]
  have l24 := tl (rgn Tryd.f39 24)
  conv at l24 => rhs; simp only [rgn, opsAt, codeOf, Tryd.f39, gS, gN, reduceIte, Nat.reduceEqDiff, tA]
  have l25 := tl (rgn Tryd.f39 25)
  conv at l25 => rhs; simp only [rgn, opsAt, codeOf, Tryd.f39, gS, gN, reduceIte, Nat.reduceEqDiff, tA]
  have l26 := tl (rgn Tryd.f39 26)
  conv at l26 => rhs; simp only [rgn, opsAt, codeOf, Tryd.f39, gS, gN, reduceIte, Nat.reduceEqDiff, tA]
  have l27 := tl (rgn Tryd.f39 27)
  conv at l27 => rhs; simp only [rgn, opsAt, codeOf, Tryd.f39, gS, gN, reduceIte, Nat.reduceEqDiff, tA]
  have l28 := tl (rgn Tryd.f39 28)
  conv at l28 => rhs; simp only [rgn, opsAt, codeOf, Tryd.f39, gS, gN, reduceIte, Nat.reduceEqDiff, tA]
  have l29 := tl (rgn Tryd.f39 29)
  conv at l29 => rhs; simp only [rgn, opsAt, codeOf, Tryd.f39, gS, gN, reduceIte, Nat.reduceEqDiff, tA]
  cases h4 : isI s i 4 with
  | false =>
    rw [h4] at r1
    have es : sufI s i n = endI s i n := by rw [sufI, h4]; rfl
    rw [es] at hx
    simp (decide := true) only [↓execG_seq, ↓g_region, ↓execG_skip, ↓g_else, thenE_norm, ↓r_nil, ↓r_cons, ↓o_move, ↓o_callf, nextE_app, putK_app, normK_app, evalE_tmp, evalE_const, upd_some, reduceIte, map_two, ↓reg_lit l18, e0, callK_fn Tryd.func38 rfl rfl r1]
    refine i_end x h hbt ht hh htl htg hrt ?_ ?_ ?_ hx
    all_goals simp (decide := true) only [upd_some, reduceIte, e0, e1, e7]
  | true =>
    rw [h4] at r1
    have hi : i < s.length := by
      by_cases q : i < s.length
      · exact q
      · simp [isI, q] at h4
    have w1 : IntKind.i64.wrap ((i : Int) + 1) = ((i + 1 : Nat) : Int) := by rw [wrap_i64 (by omega) (by omega)]; omega
    obtain ⟨y, rfl, hl⟩ := (h.row x).bts.cell i hi
    have hix := index_row (n := s.length) (c := c) (a := y) hi
    have hgd : s.getD i 0 = s[i] := by simp [List.getD, hi]
    have z77 : ((s[i].toNat : Int) == 77) = decide (s[i] = 77) := toNat_eq s[i] 77
    have z75 : ((s[i].toNat : Int) == 75) = decide (s[i] = 75) := toNat_eq s[i] 75
    rw [sufI, h4, hgd] at hx
    simp only [if_true] at hx
    by_cases c77 : s[i] = 77
    · rw [decide_eq_true c77] at z77
      rw [if_pos c77] at hx
      by_cases ov : n * 1048576 < m64
      · have hmo := more_ok (N := N) (hk := hk) (d := d) (H := H) n 1048576 0 (n * 1048576) 1048576 0 (by omega) (by omega) hn m2 m0 (Nat.add_zero _).symm ov hh hm
        rw [mulI_ok (s := s) (i := i) (n := n) (f := 1048576) ov] at hx
        simp (decide := true) only [↓execG_seq, ↓g_region, ↓execG_block, ↓execG_skip, ↓execG_exit, ↓g_if, ↓g_else, thenE_norm, thenE_exit, leaveB_norm, g_leave, g_pass, ↓r_nil, ↓r_cons, ↓o_move, ↓o_assign, ↓o_load, ↓o_store, ↓o_nilCheck, ↓o_binOp, ↓o_unOp, ↓o_fieldAddr, ↓o_indexAddr, ↓o_extract, ↓o_callf, nextE_app, putK_app, putO_app, putG_bool, putG_int, normK_app, nilCheckA_ok, evalE_tmp, evalE_const, upd_some, upd_none, bindO_ok, bindV_ok, reduceIte, map_two, map_three, ↓reg_lit l18, ↓reg_lit l19, ↓reg_lit l20, ↓reg_lit l21, ↓reg_lit l23, ↓reg_lit l24, ↓reg_lit l26, ↓reg_lit l27, ↓reg_lit l29, Nat.reduceBEq, e0, e7, callK_fn Tryd.func38 rfl rfl r1, fld0, fld1, load_src h.here, load_at h.here, hix, load_byte hl, binA_eql, z77, shl1, shl2, callK_fn Tryd.func54 rfl rfl hmo, q0, q1, not_t, binA_add, w1, store_at h.here]
        refine i_end x (h.set (i + 1)) hbt ht hh htl htg hrt ?_ ?_ ?_ hx
        all_goals simp (decide := true) only [upd_some, reduceIte, e0, e1, e7]
      · obtain ⟨vv, hmo⟩ := more_no (N := N) (hk := hk) (d := d) (H := H) n 1048576 0 (n * 1048576) 1048576 0 (by omega) (by omega) hn m2 m0 (Nat.add_zero _).symm ov hh hm
        rw [mulI_no (s := s) (i := i) (n := n) (f := 1048576) ov] at hx
        simp (decide := true) only [↓execG_seq, ↓g_region, ↓execG_block, ↓execG_ret, ↓execG_exit, ↓g_if, thenE_norm, thenE_exit, thenE_ret, leaveB_norm, g_leave, g_pass, ↓r_nil, ↓r_cons, ↓o_move, ↓o_assign, ↓o_load, ↓o_nilCheck, ↓o_binOp, ↓o_unOp, ↓o_fieldAddr, ↓o_indexAddr, ↓o_extract, ↓o_callf, nextE_app, putK_app, putO_app, putG_bool, putG_int, normK_app, nilCheckA_ok, evalE_tmp, evalE_const, upd_some, bindO_ok, bindV_ok, reduceIte, map_two, map_three, ↓reg_lit l18, ↓reg_lit l19, ↓reg_lit l20, ↓reg_lit l21, ↓reg_lit l23, ↓reg_lit l24, ↓reg_lit l26, ↓reg_lit l27, ↓reg_lit l28, Nat.reduceBEq, e0, e7, callK_fn Tryd.func38 rfl rfl r1, fld0, fld1, load_src h.here, load_at h.here, hix, load_byte hl, binA_eql, z77, shl1, shl2, callK_fn Tryd.func54 rfl rfl hmo, q0, q1, not_f]
        exact hx _ _ ⟨by simp (decide := true) only [upd_some, reduceIte], _, two⟩
    · rw [decide_eq_false c77] at z77
      rw [if_neg c77] at hx
      by_cases c75 : s[i] = 75
      · rw [decide_eq_true c75] at z75
        rw [if_pos c75] at hx
        by_cases ov : n * 1024 < m64
        · have hmo := more_ok (N := N) (hk := hk) (d := d) (H := H) n 1024 0 (n * 1024) 1024 0 (by omega) (by omega) hn m1 m0 (Nat.add_zero _).symm ov hh hm
          rw [mulI_ok (s := s) (i := i) (n := n) (f := 1024) ov] at hx
          simp (decide := true) only [↓execG_seq, ↓g_region, ↓execG_block, ↓execG_skip, ↓execG_exit, ↓g_if, ↓g_else, thenE_norm, thenE_exit, g_leave, g_pass, ↓r_nil, ↓r_cons, ↓o_move, ↓o_assign, ↓o_load, ↓o_store, ↓o_nilCheck, ↓o_binOp, ↓o_unOp, ↓o_fieldAddr, ↓o_indexAddr, ↓o_extract, ↓o_callf, nextE_app, putK_app, putO_app, putG_bool, putG_int, normK_app, nilCheckA_ok, evalE_tmp, evalE_const, upd_some, upd_none, bindO_ok, bindV_ok, reduceIte, map_two, map_three, ↓reg_lit l18, ↓reg_lit l19, ↓reg_lit l20, ↓reg_lit l21, ↓reg_lit l22, ↓reg_lit l24, ↓reg_lit l26, ↓reg_lit l27, ↓reg_lit l29, Nat.reduceBEq, e0, e7, callK_fn Tryd.func38 rfl rfl r1, fld0, fld1, load_src h.here, load_at h.here, hix, load_byte hl, binA_eql, z77, z75, shl1, callK_fn Tryd.func54 rfl rfl hmo, q0, q1, not_t, binA_add, w1, store_at h.here]
          refine i_end x (h.set (i + 1)) hbt ht hh htl htg hrt ?_ ?_ ?_ hx
          all_goals simp (decide := true) only [upd_some, reduceIte, e0, e1, e7]
        · obtain ⟨vv, hmo⟩ := more_no (N := N) (hk := hk) (d := d) (H := H) n 1024 0 (n * 1024) 1024 0 (by omega) (by omega) hn m1 m0 (Nat.add_zero _).symm ov hh hm
          rw [mulI_no (s := s) (i := i) (n := n) (f := 1024) ov] at hx
          simp (decide := true) only [↓execG_seq, ↓g_region, ↓execG_block, ↓execG_ret, ↓execG_skip, ↓execG_exit, ↓g_if, ↓g_else, thenE_norm, thenE_exit, thenE_ret, g_leave, g_pass, ↓r_nil, ↓r_cons, ↓o_move, ↓o_assign, ↓o_load, ↓o_nilCheck, ↓o_binOp, ↓o_unOp, ↓o_fieldAddr, ↓o_indexAddr, ↓o_extract, ↓o_callf, nextE_app, putK_app, putO_app, putG_bool, putG_int, normK_app, nilCheckA_ok, evalE_tmp, evalE_const, upd_some, bindO_ok, bindV_ok, reduceIte, map_two, map_three, ↓reg_lit l18, ↓reg_lit l19, ↓reg_lit l20, ↓reg_lit l21, ↓reg_lit l22, ↓reg_lit l24, ↓reg_lit l26, ↓reg_lit l27, ↓reg_lit l28, Nat.reduceBEq, e0, e7, callK_fn Tryd.func38 rfl rfl r1, fld0, fld1, load_src h.here, load_at h.here, hix, load_byte hl, binA_eql, z77, z75, shl1, callK_fn Tryd.func54 rfl rfl hmo, q0, q1, not_f]
          exact hx _ _ ⟨by simp (decide := true) only [upd_some, reduceIte], _, two⟩
      · rw [decide_eq_false c75] at z75
        rw [if_neg c75] at hx
        simp (decide := true) only [↓execG_seq, ↓g_region, ↓execG_block, ↓execG_ret, ↓execG_skip, ↓execG_exit, ↓g_if, ↓g_else, thenE_norm, thenE_exit, thenE_ret, leaveB_ret, g_leave, g_pass, ↓r_nil, ↓r_cons, ↓o_move, ↓o_assign, ↓o_load, ↓o_nilCheck, ↓o_binOp, ↓o_fieldAddr, ↓o_indexAddr, ↓o_callf, nextE_app, putK_app, putO_app, putG_bool, normK_app, nilCheckA_ok, evalE_tmp, evalE_const, upd_some, bindO_ok, bindV_ok, reduceIte, map_two, ↓reg_lit l18, ↓reg_lit l19, ↓reg_lit l20, ↓reg_lit l21, ↓reg_lit l22, ↓reg_lit l25, Nat.reduceBEq, e0, callK_fn Tryd.func38 rfl rfl r1, fld0, fld1, load_src h.here, load_at h.here, hix, load_byte hl, binA_eql, z77, z75]
        exact hx _ _ ⟨by simp (decide := true) only [upd_some, reduceIte], _, two⟩
end
end Go.Am
/- An integer: its digits. -/
open Go.Proofs
namespace Go.Am

theorem cls3 (u : UInt8) (h : clsI u = 3) : 48 ≤ u.toNat ∧ u.toNat ≤ 57 := by
  have hall : (List.range 256).all (fun n => !(decide (clsI (UInt8.ofNat n) = 3)) || (decide (48 ≤ n) && decide (n ≤ 57))) = true := by decide +kernel
  have := List.all_eq_true.mp hall u.toNat (List.mem_range.mpr u.toNat_lt)
  have e : UInt8.ofNat u.toNat = u := by simp
  rw [e, h] at this
  simpa using this
theorem hexT_nn (u : Nat) : 0 ≤ hexT u := by
  unfold hexT
  repeat' split
  all_goals omega
theorem hexT_le (u : Nat) : hexT u ≤ 16 := by
  unfold hexT
  repeat' split
  all_goals omega
def dg (u : UInt8) : Nat := u.toNat - 48
def decI (s : List UInt8) : Nat → Nat → Nat → IR
  | 0, i, n => sufI s i n
  | k + 1, i, n => if isI s i 3 then (if n * 10 + dg (s.getD i 0) < m64 then decI s k (i + 1) (n * 10 + dg (s.getD i 0)) else .bad i) else sufI s i n
theorem dec_ok {s : List UInt8} {f i n : Nat} {u : UInt8} (h3 : isI s i 3 = true) (hu : s.getD i 0 = u) (ov : n * 10 + dg u < m64) : decI s (f + 1) i n = decI s f (i + 1) (n * 10 + dg u) := by
  subst hu
  unfold decI
  rw [h3, if_pos rfl, if_pos ov]
  cases f <;> rfl
theorem dec_no {s : List UInt8} {f i n : Nat} {u : UInt8} (h3 : isI s i 3 = true) (hu : s.getD i 0 = u) (ov : ¬ n * 10 + dg u < m64) : decI s (f + 1) i n = .bad i := by
  subst hu
  unfold decI
  rw [h3, if_pos rfl, if_neg ov]
def endH (s : List UInt8) (fr i n : Nat) : IR := if i = fr then .bad i else sufI s i n
def hexI (s : List UInt8) (fr : Nat) : Nat → Nat → Nat → IR
  | 0, i, n => endH s fr i n
  | k + 1, i, n => if hexT (s.getD i 0).toNat < 16 then (if n * 16 + (hexT (s.getD i 0).toNat).toNat < m64 then hexI s fr k (i + 1) (n * 16 + (hexT (s.getD i 0).toNat).toNat) else .bad i) else endH s fr i n
theorem conv_u64 (x : Int) (H : Heap) : convertA PP 5 27 (.int .u8 x) H = some (.int .u64 (IntKind.u64.wrap x), H) := by kernel_rfl
theorem wrap_u64' {x : Int} (h0 : 0 ≤ x) (h1 : x < 18446744073709551616) : IntKind.u64.wrap x = x := by rw [IntKind.wrap_u64]; omega
theorem wrap_u8' {x : Int} (h0 : 0 ≤ x) (h1 : x < 256) : IntKind.u8.wrap x = x := by
  simp only [IntKind.wrap, IntKind.bits, IntKind.signed]
  simp
  omega
section jumps
variable {K : Kf} {N : Nat}
theorem jmp1 (E : Env) (ds : List Deferred) (H : Heap) (k : KOE) : execG PP XX K N noPr (.seq (.region 1 (rgn Tryd.f39 1) true) (.seq (.region 2 (rgn Tryd.f39 2) false) (.seq (.seq (.region 3 (rgn Tryd.f39 3) true) (.cond (.tmp 50) (.seq (.region 4 (rgn Tryd.f39 4) false) (.seq (.region 5 (rgn Tryd.f39 5) false) (.goto 0))) (.skip))) (.seq (.label 1) (.seq (.seq (.region 6 (rgn Tryd.f39 6) false) (.cond (.tmp 63) (.seq (.seq (.region 7 (rgn Tryd.f39 7) true) (.seq (.region 8 (rgn Tryd.f39 8) false) (.cond (.tmp 82) (.seq (.region 9 (rgn Tryd.f39 9) false) (.ret)) (.skip)))) (.seq (.region 10 (rgn Tryd.f39 10) false) (.goto 1))) (.skip))) (.seq (.goto 2) (.seq (.label 0) (.seq (.seq (.region 11 (rgn Tryd.f39 11) true) (.cond (.tmp 113) (.seq (.seq (.region 12 (rgn Tryd.f39 12) true) (.seq (.region 13 (rgn Tryd.f39 13) false) (.cond (.tmp 131) (.seq (.region 14 (rgn Tryd.f39 14) false) (.ret)) (.skip)))) (.seq (.region 15 (rgn Tryd.f39 15) false) (.goto 0))) (.skip))) (.seq (.seq (.region 16 (rgn Tryd.f39 16) false) (.cond (.tmp 144) (.seq (.region 17 (rgn Tryd.f39 17) false) (.ret)) (.skip))) (.seq (.label 2) (.seq (.seq (.region 18 (rgn Tryd.f39 18) false) (.cond (.tmp 146) (.seq (.region 19 (rgn Tryd.f39 19) false) (.seq (.seq (.region 20 (rgn Tryd.f39 20) true) (.block 0 (.seq (.block 3 (.seq (.block 2 (.seq (.block 1 (.seq (.seq (.seq (.region 21 (rgn Tryd.f39 21) false) (.cond (.tmp 157) (.exit 1) (.skip))) (.seq (.region 22 (rgn Tryd.f39 22) false) (.cond (.tmp 159) (.exit 2) (.skip)))) (.exit 3))) (.region 23 (rgn Tryd.f39 23) false))) (.seq (.region 24 (rgn Tryd.f39 24) false) (.exit 0)))) (.seq (.seq (.region 25 (rgn Tryd.f39 25) false) (.ret)) (.exit 0))))) (.seq (.seq (.region 26 (rgn Tryd.f39 26) false) (.seq (.region 27 (rgn Tryd.f39 27) false) (.cond (.tmp 172) (.seq (.region 28 (rgn Tryd.f39 28) false) (.ret)) (.skip)))) (.region 29 (rgn Tryd.f39 29) false)))) (.skip))) (.seq (.region 30 (rgn Tryd.f39 30) false) (.seq (.region 31 (rgn Tryd.f39 31) false) (.ret)))))))))))))) (some 1) E ds H k = execG PP XX K N noPr (.seq (.seq (.region 6 (rgn Tryd.f39 6) false) (.cond (.tmp 63) (.seq (.seq (.region 7 (rgn Tryd.f39 7) true) (.seq (.region 8 (rgn Tryd.f39 8) false) (.cond (.tmp 82) (.seq (.region 9 (rgn Tryd.f39 9) false) (.ret)) (.skip)))) (.seq (.region 10 (rgn Tryd.f39 10) false) (.goto 1))) (.skip))) (.seq (.goto 2) (.seq (.label 0) (.seq (.seq (.region 11 (rgn Tryd.f39 11) true) (.cond (.tmp 113) (.seq (.seq (.region 12 (rgn Tryd.f39 12) true) (.seq (.region 13 (rgn Tryd.f39 13) false) (.cond (.tmp 131) (.seq (.region 14 (rgn Tryd.f39 14) false) (.ret)) (.skip)))) (.seq (.region 15 (rgn Tryd.f39 15) false) (.goto 0))) (.skip))) (.seq (.seq (.region 16 (rgn Tryd.f39 16) false) (.cond (.tmp 144) (.seq (.region 17 (rgn Tryd.f39 17) false) (.ret)) (.skip))) (.seq (.label 2) (.seq (.seq (.region 18 (rgn Tryd.f39 18) false) (.cond (.tmp 146) (.seq (.region 19 (rgn Tryd.f39 19) false) (.seq (.seq (.region 20 (rgn Tryd.f39 20) true) (.block 0 (.seq (.block 3 (.seq (.block 2 (.seq (.block 1 (.seq (.seq (.seq (.region 21 (rgn Tryd.f39 21) false) (.cond (.tmp 157) (.exit 1) (.skip))) (.seq (.region 22 (rgn Tryd.f39 22) false) (.cond (.tmp 159) (.exit 2) (.skip)))) (.exit 3))) (.region 23 (rgn Tryd.f39 23) false))) (.seq (.region 24 (rgn Tryd.f39 24) false) (.exit 0)))) (.seq (.seq (.region 25 (rgn Tryd.f39 25) false) (.ret)) (.exit 0))))) (.seq (.seq (.region 26 (rgn Tryd.f39 26) false) (.seq (.region 27 (rgn Tryd.f39 27) false) (.cond (.tmp 172) (.seq (.region 28 (rgn Tryd.f39 28) false) (.ret)) (.skip)))) (.region 29 (rgn Tryd.f39 29) false)))) (.skip))) (.seq (.region 30 (rgn Tryd.f39 30) false) (.seq (.region 31 (rgn Tryd.f39 31) false) (.ret)))))))))) none E ds H k := by
  rw [j_right _ _ _ _ _ _ _ rfl, j_right _ _ _ _ _ _ _ rfl, j_right _ _ _ _ _ _ _ rfl, j_left _ _ _ _ _ _ _ rfl, j_here, thenE_norm]
theorem jmp0 (E : Env) (ds : List Deferred) (H : Heap) (k : KOE) : execG PP XX K N noPr (.seq (.region 1 (rgn Tryd.f39 1) true) (.seq (.region 2 (rgn Tryd.f39 2) false) (.seq (.seq (.region 3 (rgn Tryd.f39 3) true) (.cond (.tmp 50) (.seq (.region 4 (rgn Tryd.f39 4) false) (.seq (.region 5 (rgn Tryd.f39 5) false) (.goto 0))) (.skip))) (.seq (.label 1) (.seq (.seq (.region 6 (rgn Tryd.f39 6) false) (.cond (.tmp 63) (.seq (.seq (.region 7 (rgn Tryd.f39 7) true) (.seq (.region 8 (rgn Tryd.f39 8) false) (.cond (.tmp 82) (.seq (.region 9 (rgn Tryd.f39 9) false) (.ret)) (.skip)))) (.seq (.region 10 (rgn Tryd.f39 10) false) (.goto 1))) (.skip))) (.seq (.goto 2) (.seq (.label 0) (.seq (.seq (.region 11 (rgn Tryd.f39 11) true) (.cond (.tmp 113) (.seq (.seq (.region 12 (rgn Tryd.f39 12) true) (.seq (.region 13 (rgn Tryd.f39 13) false) (.cond (.tmp 131) (.seq (.region 14 (rgn Tryd.f39 14) false) (.ret)) (.skip)))) (.seq (.region 15 (rgn Tryd.f39 15) false) (.goto 0))) (.skip))) (.seq (.seq (.region 16 (rgn Tryd.f39 16) false) (.cond (.tmp 144) (.seq (.region 17 (rgn Tryd.f39 17) false) (.ret)) (.skip))) (.seq (.label 2) (.seq (.seq (.region 18 (rgn Tryd.f39 18) false) (.cond (.tmp 146) (.seq (.region 19 (rgn Tryd.f39 19) false) (.seq (.seq (.region 20 (rgn Tryd.f39 20) true) (.block 0 (.seq (.block 3 (.seq (.block 2 (.seq (.block 1 (.seq (.seq (.seq (.region 21 (rgn Tryd.f39 21) false) (.cond (.tmp 157) (.exit 1) (.skip))) (.seq (.region 22 (rgn Tryd.f39 22) false) (.cond (.tmp 159) (.exit 2) (.skip)))) (.exit 3))) (.region 23 (rgn Tryd.f39 23) false))) (.seq (.region 24 (rgn Tryd.f39 24) false) (.exit 0)))) (.seq (.seq (.region 25 (rgn Tryd.f39 25) false) (.ret)) (.exit 0))))) (.seq (.seq (.region 26 (rgn Tryd.f39 26) false) (.seq (.region 27 (rgn Tryd.f39 27) false) (.cond (.tmp 172) (.seq (.region 28 (rgn Tryd.f39 28) false) (.ret)) (.skip)))) (.region 29 (rgn Tryd.f39 29) false)))) (.skip))) (.seq (.region 30 (rgn Tryd.f39 30) false) (.seq (.region 31 (rgn Tryd.f39 31) false) (.ret)))))))))))))) (some 0) E ds H k = execG PP XX K N noPr (.seq (.seq (.region 11 (rgn Tryd.f39 11) true) (.cond (.tmp 113) (.seq (.seq (.region 12 (rgn Tryd.f39 12) true) (.seq (.region 13 (rgn Tryd.f39 13) false) (.cond (.tmp 131) (.seq (.region 14 (rgn Tryd.f39 14) false) (.ret)) (.skip)))) (.seq (.region 15 (rgn Tryd.f39 15) false) (.goto 0))) (.skip))) (.seq (.seq (.region 16 (rgn Tryd.f39 16) false) (.cond (.tmp 144) (.seq (.region 17 (rgn Tryd.f39 17) false) (.ret)) (.skip))) (.seq (.label 2) (.seq (.seq (.region 18 (rgn Tryd.f39 18) false) (.cond (.tmp 146) (.seq (.region 19 (rgn Tryd.f39 19) false) (.seq (.seq (.region 20 (rgn Tryd.f39 20) true) (.block 0 (.seq (.block 3 (.seq (.block 2 (.seq (.block 1 (.seq (.seq (.seq (.region 21 (rgn Tryd.f39 21) false) (.cond (.tmp 157) (.exit 1) (.skip))) (.seq (.region 22 (rgn Tryd.f39 22) false) (.cond (.tmp 159) (.exit 2) (.skip)))) (.exit 3))) (.region 23 (rgn Tryd.f39 23) false))) (.seq (.region 24 (rgn Tryd.f39 24) false) (.exit 0)))) (.seq (.seq (.region 25 (rgn Tryd.f39 25) false) (.ret)) (.exit 0))))) (.seq (.seq (.region 26 (rgn Tryd.f39 26) false) (.seq (.region 27 (rgn Tryd.f39 27) false) (.cond (.tmp 172) (.seq (.region 28 (rgn Tryd.f39 28) false) (.ret)) (.skip)))) (.region 29 (rgn Tryd.f39 29) false)))) (.skip))) (.seq (.region 30 (rgn Tryd.f39 30) false) (.seq (.region 31 (rgn Tryd.f39 31) false) (.ret))))))) none E ds H k := by
  rw [j_right _ _ _ _ _ _ _ rfl, j_right _ _ _ _ _ _ _ rfl, j_right _ _ _ _ _ _ _ rfl, j_right _ _ _ _ _ _ _ rfl, j_right _ _ _ _ _ _ _ rfl, j_right _ _ _ _ _ _ _ rfl, j_left _ _ _ _ _ _ _ rfl, j_here, thenE_norm]
theorem jmp2 (E : Env) (ds : List Deferred) (H : Heap) (k : KOE) : execG PP XX K N noPr (.seq (.region 1 (rgn Tryd.f39 1) true) (.seq (.region 2 (rgn Tryd.f39 2) false) (.seq (.seq (.region 3 (rgn Tryd.f39 3) true) (.cond (.tmp 50) (.seq (.region 4 (rgn Tryd.f39 4) false) (.seq (.region 5 (rgn Tryd.f39 5) false) (.goto 0))) (.skip))) (.seq (.label 1) (.seq (.seq (.region 6 (rgn Tryd.f39 6) false) (.cond (.tmp 63) (.seq (.seq (.region 7 (rgn Tryd.f39 7) true) (.seq (.region 8 (rgn Tryd.f39 8) false) (.cond (.tmp 82) (.seq (.region 9 (rgn Tryd.f39 9) false) (.ret)) (.skip)))) (.seq (.region 10 (rgn Tryd.f39 10) false) (.goto 1))) (.skip))) (.seq (.goto 2) (.seq (.label 0) (.seq (.seq (.region 11 (rgn Tryd.f39 11) true) (.cond (.tmp 113) (.seq (.seq (.region 12 (rgn Tryd.f39 12) true) (.seq (.region 13 (rgn Tryd.f39 13) false) (.cond (.tmp 131) (.seq (.region 14 (rgn Tryd.f39 14) false) (.ret)) (.skip)))) (.seq (.region 15 (rgn Tryd.f39 15) false) (.goto 0))) (.skip))) (.seq (.seq (.region 16 (rgn Tryd.f39 16) false) (.cond (.tmp 144) (.seq (.region 17 (rgn Tryd.f39 17) false) (.ret)) (.skip))) (.seq (.label 2) (.seq (.seq (.region 18 (rgn Tryd.f39 18) false) (.cond (.tmp 146) (.seq (.region 19 (rgn Tryd.f39 19) false) (.seq (.seq (.region 20 (rgn Tryd.f39 20) true) (.block 0 (.seq (.block 3 (.seq (.block 2 (.seq (.block 1 (.seq (.seq (.seq (.region 21 (rgn Tryd.f39 21) false) (.cond (.tmp 157) (.exit 1) (.skip))) (.seq (.region 22 (rgn Tryd.f39 22) false) (.cond (.tmp 159) (.exit 2) (.skip)))) (.exit 3))) (.region 23 (rgn Tryd.f39 23) false))) (.seq (.region 24 (rgn Tryd.f39 24) false) (.exit 0)))) (.seq (.seq (.region 25 (rgn Tryd.f39 25) false) (.ret)) (.exit 0))))) (.seq (.seq (.region 26 (rgn Tryd.f39 26) false) (.seq (.region 27 (rgn Tryd.f39 27) false) (.cond (.tmp 172) (.seq (.region 28 (rgn Tryd.f39 28) false) (.ret)) (.skip)))) (.region 29 (rgn Tryd.f39 29) false)))) (.skip))) (.seq (.region 30 (rgn Tryd.f39 30) false) (.seq (.region 31 (rgn Tryd.f39 31) false) (.ret)))))))))))))) (some 2) E ds H k = execG PP XX K N noPr (.seq (.seq (.region 18 (rgn Tryd.f39 18) false) (.cond (.tmp 146) (.seq (.region 19 (rgn Tryd.f39 19) false) (.seq (.seq (.region 20 (rgn Tryd.f39 20) true) (.block 0 (.seq (.block 3 (.seq (.block 2 (.seq (.block 1 (.seq (.seq (.seq (.region 21 (rgn Tryd.f39 21) false) (.cond (.tmp 157) (.exit 1) (.skip))) (.seq (.region 22 (rgn Tryd.f39 22) false) (.cond (.tmp 159) (.exit 2) (.skip)))) (.exit 3))) (.region 23 (rgn Tryd.f39 23) false))) (.seq (.region 24 (rgn Tryd.f39 24) false) (.exit 0)))) (.seq (.seq (.region 25 (rgn Tryd.f39 25) false) (.ret)) (.exit 0))))) (.seq (.seq (.region 26 (rgn Tryd.f39 26) false) (.seq (.region 27 (rgn Tryd.f39 27) false) (.cond (.tmp 172) (.seq (.region 28 (rgn Tryd.f39 28) false) (.ret)) (.skip)))) (.region 29 (rgn Tryd.f39 29) false)))) (.skip))) (.seq (.region 30 (rgn Tryd.f39 30) false) (.seq (.region 31 (rgn Tryd.f39 31) false) (.ret)))) none E ds H k := by
  rw [j_right _ _ _ _ _ _ _ rfl, j_right _ _ _ _ _ _ _ rfl, j_right _ _ _ _ _ _ _ rfl, j_right _ _ _ _ _ _ _ rfl, j_right _ _ _ _ _ _ _ rfl, j_right _ _ _ _ _ _ _ rfl, j_right _ _ _ _ _ _ _ rfl, j_right _ _ _ _ _ _ _ rfl, j_right _ _ _ _ _ _ _ rfl, j_left _ _ _ _ _ _ _ rfl, j_here, thenE_norm]
end jumps
theorem lab0 : hasLabel 0 (.seq (.region 1 (rgn Tryd.f39 1) true) (.seq (.region 2 (rgn Tryd.f39 2) false) (.seq (.seq (.region 3 (rgn Tryd.f39 3) true) (.cond (.tmp 50) (.seq (.region 4 (rgn Tryd.f39 4) false) (.seq (.region 5 (rgn Tryd.f39 5) false) (.goto 0))) (.skip))) (.seq (.label 1) (.seq (.seq (.region 6 (rgn Tryd.f39 6) false) (.cond (.tmp 63) (.seq (.seq (.region 7 (rgn Tryd.f39 7) true) (.seq (.region 8 (rgn Tryd.f39 8) false) (.cond (.tmp 82) (.seq (.region 9 (rgn Tryd.f39 9) false) (.ret)) (.skip)))) (.seq (.region 10 (rgn Tryd.f39 10) false) (.goto 1))) (.skip))) (.seq (.goto 2) (.seq (.label 0) (.seq (.seq (.region 11 (rgn Tryd.f39 11) true) (.cond (.tmp 113) (.seq (.seq (.region 12 (rgn Tryd.f39 12) true) (.seq (.region 13 (rgn Tryd.f39 13) false) (.cond (.tmp 131) (.seq (.region 14 (rgn Tryd.f39 14) false) (.ret)) (.skip)))) (.seq (.region 15 (rgn Tryd.f39 15) false) (.goto 0))) (.skip))) (.seq (.seq (.region 16 (rgn Tryd.f39 16) false) (.cond (.tmp 144) (.seq (.region 17 (rgn Tryd.f39 17) false) (.ret)) (.skip))) (.seq (.label 2) (.seq (.seq (.region 18 (rgn Tryd.f39 18) false) (.cond (.tmp 146) (.seq (.region 19 (rgn Tryd.f39 19) false) (.seq (.seq (.region 20 (rgn Tryd.f39 20) true) (.block 0 (.seq (.block 3 (.seq (.block 2 (.seq (.block 1 (.seq (.seq (.seq (.region 21 (rgn Tryd.f39 21) false) (.cond (.tmp 157) (.exit 1) (.skip))) (.seq (.region 22 (rgn Tryd.f39 22) false) (.cond (.tmp 159) (.exit 2) (.skip)))) (.exit 3))) (.region 23 (rgn Tryd.f39 23) false))) (.seq (.region 24 (rgn Tryd.f39 24) false) (.exit 0)))) (.seq (.seq (.region 25 (rgn Tryd.f39 25) false) (.ret)) (.exit 0))))) (.seq (.seq (.region 26 (rgn Tryd.f39 26) false) (.seq (.region 27 (rgn Tryd.f39 27) false) (.cond (.tmp 172) (.seq (.region 28 (rgn Tryd.f39 28) false) (.ret)) (.skip)))) (.region 29 (rgn Tryd.f39 29) false)))) (.skip))) (.seq (.region 30 (rgn Tryd.f39 30) false) (.seq (.region 31 (rgn Tryd.f39 31) false) (.ret)))))))))))))) = true := by rfl
theorem lab1 : hasLabel 1 (.seq (.region 1 (rgn Tryd.f39 1) true) (.seq (.region 2 (rgn Tryd.f39 2) false) (.seq (.seq (.region 3 (rgn Tryd.f39 3) true) (.cond (.tmp 50) (.seq (.region 4 (rgn Tryd.f39 4) false) (.seq (.region 5 (rgn Tryd.f39 5) false) (.goto 0))) (.skip))) (.seq (.label 1) (.seq (.seq (.region 6 (rgn Tryd.f39 6) false) (.cond (.tmp 63) (.seq (.seq (.region 7 (rgn Tryd.f39 7) true) (.seq (.region 8 (rgn Tryd.f39 8) false) (.cond (.tmp 82) (.seq (.region 9 (rgn Tryd.f39 9) false) (.ret)) (.skip)))) (.seq (.region 10 (rgn Tryd.f39 10) false) (.goto 1))) (.skip))) (.seq (.goto 2) (.seq (.label 0) (.seq (.seq (.region 11 (rgn Tryd.f39 11) true) (.cond (.tmp 113) (.seq (.seq (.region 12 (rgn Tryd.f39 12) true) (.seq (.region 13 (rgn Tryd.f39 13) false) (.cond (.tmp 131) (.seq (.region 14 (rgn Tryd.f39 14) false) (.ret)) (.skip)))) (.seq (.region 15 (rgn Tryd.f39 15) false) (.goto 0))) (.skip))) (.seq (.seq (.region 16 (rgn Tryd.f39 16) false) (.cond (.tmp 144) (.seq (.region 17 (rgn Tryd.f39 17) false) (.ret)) (.skip))) (.seq (.label 2) (.seq (.seq (.region 18 (rgn Tryd.f39 18) false) (.cond (.tmp 146) (.seq (.region 19 (rgn Tryd.f39 19) false) (.seq (.seq (.region 20 (rgn Tryd.f39 20) true) (.block 0 (.seq (.block 3 (.seq (.block 2 (.seq (.block 1 (.seq (.seq (.seq (.region 21 (rgn Tryd.f39 21) false) (.cond (.tmp 157) (.exit 1) (.skip))) (.seq (.region 22 (rgn Tryd.f39 22) false) (.cond (.tmp 159) (.exit 2) (.skip)))) (.exit 3))) (.region 23 (rgn Tryd.f39 23) false))) (.seq (.region 24 (rgn Tryd.f39 24) false) (.exit 0)))) (.seq (.seq (.region 25 (rgn Tryd.f39 25) false) (.ret)) (.exit 0))))) (.seq (.seq (.region 26 (rgn Tryd.f39 26) false) (.seq (.region 27 (rgn Tryd.f39 27) false) (.cond (.tmp 172) (.seq (.region 28 (rgn Tryd.f39 28) false) (.ret)) (.skip)))) (.region 29 (rgn Tryd.f39 29) false)))) (.skip))) (.seq (.region 30 (rgn Tryd.f39 30) false) (.seq (.region 31 (rgn Tryd.f39 31) false) (.ret)))))))))))))) = true := by rfl
theorem lab2 : hasLabel 2 (.seq (.region 1 (rgn Tryd.f39 1) true) (.seq (.region 2 (rgn Tryd.f39 2) false) (.seq (.seq (.region 3 (rgn Tryd.f39 3) true) (.cond (.tmp 50) (.seq (.region 4 (rgn Tryd.f39 4) false) (.seq (.region 5 (rgn Tryd.f39 5) false) (.goto 0))) (.skip))) (.seq (.label 1) (.seq (.seq (.region 6 (rgn Tryd.f39 6) false) (.cond (.tmp 63) (.seq (.seq (.region 7 (rgn Tryd.f39 7) true) (.seq (.region 8 (rgn Tryd.f39 8) false) (.cond (.tmp 82) (.seq (.region 9 (rgn Tryd.f39 9) false) (.ret)) (.skip)))) (.seq (.region 10 (rgn Tryd.f39 10) false) (.goto 1))) (.skip))) (.seq (.goto 2) (.seq (.label 0) (.seq (.seq (.region 11 (rgn Tryd.f39 11) true) (.cond (.tmp 113) (.seq (.seq (.region 12 (rgn Tryd.f39 12) true) (.seq (.region 13 (rgn Tryd.f39 13) false) (.cond (.tmp 131) (.seq (.region 14 (rgn Tryd.f39 14) false) (.ret)) (.skip)))) (.seq (.region 15 (rgn Tryd.f39 15) false) (.goto 0))) (.skip))) (.seq (.seq (.region 16 (rgn Tryd.f39 16) false) (.cond (.tmp 144) (.seq (.region 17 (rgn Tryd.f39 17) false) (.ret)) (.skip))) (.seq (.label 2) (.seq (.seq (.region 18 (rgn Tryd.f39 18) false) (.cond (.tmp 146) (.seq (.region 19 (rgn Tryd.f39 19) false) (.seq (.seq (.region 20 (rgn Tryd.f39 20) true) (.block 0 (.seq (.block 3 (.seq (.block 2 (.seq (.block 1 (.seq (.seq (.seq (.region 21 (rgn Tryd.f39 21) false) (.cond (.tmp 157) (.exit 1) (.skip))) (.seq (.region 22 (rgn Tryd.f39 22) false) (.cond (.tmp 159) (.exit 2) (.skip)))) (.exit 3))) (.region 23 (rgn Tryd.f39 23) false))) (.seq (.region 24 (rgn Tryd.f39 24) false) (.exit 0)))) (.seq (.seq (.region 25 (rgn Tryd.f39 25) false) (.ret)) (.exit 0))))) (.seq (.seq (.region 26 (rgn Tryd.f39 26) false) (.seq (.region 27 (rgn Tryd.f39 27) false) (.cond (.tmp 172) (.seq (.region 28 (rgn Tryd.f39 28) false) (.ret)) (.skip)))) (.region 29 (rgn Tryd.f39 29) false)))) (.skip))) (.seq (.region 30 (rgn Tryd.f39 30) false) (.seq (.region 31 (rgn Tryd.f39 31) false) (.ret)))))))))))))) = true := by rfl
/-- The suffix, jumped to. -/
theorem to_suf {N : Nat} {H0 : Heap} {a : Option Addr} {c : Nat} {s : List UInt8} {b t : Nat} {Q : R → Prop} {k : KOE} {hk : Hook} {d : Nat} {kd f0 t0 : Int} {w : ByteArray} {n0 : Int} (x : Ctx H0 a c s b) (hbt : t ≠ b) (ht : H0.get t = some (tok kd n0 w f0 t0)) (hh : ∀ f args H, okC f = true → hk f args H = none) (htl : t < H0.next) (htg : GE.next ≤ t) (hrt : ∀ q, a = some q → q.block ≠ t) (hm : ∀ x y H, x < m64 → y < m64 → hk 73 #[.int .u64 ((x : Nat) : Int), .int .u64 ((y : Nat) : Int)] H = some (some (.ret (mulV x y), H))) {H : Heap} {E : Env} {i n m : Nat} (h : Curs H0 H b a s.length c i) (hn : n < m64) (he : (E 0 = .pointer (some ⟨b, 0, none⟩) ∧ E 1 = .pointer (some ⟨t, 0, none⟩) ∧ E 7 = .int .u64 (n : Int)))
    (hx : ∀ E' H', Fin H0 a s.length c b t kd w f0 t0 (sufI s i n) E' H' → Q (k .ret E' [] H')) : Q (execG PP XX (CG N hk (d + 2)) N noPr (.seq (.seq (.region 18 (rgn Tryd.f39 18) false) (.cond (.tmp 146) (.seq (.region 19 (rgn Tryd.f39 19) false) (.seq (.seq (.region 20 (rgn Tryd.f39 20) true) (.block 0 (.seq (.block 3 (.seq (.block 2 (.seq (.block 1 (.seq (.seq (.seq (.region 21 (rgn Tryd.f39 21) false) (.cond (.tmp 157) (.exit 1) (.skip))) (.seq (.region 22 (rgn Tryd.f39 22) false) (.cond (.tmp 159) (.exit 2) (.skip)))) (.exit 3))) (.region 23 (rgn Tryd.f39 23) false))) (.seq (.region 24 (rgn Tryd.f39 24) false) (.exit 0)))) (.seq (.seq (.region 25 (rgn Tryd.f39 25) false) (.ret)) (.exit 0))))) (.seq (.seq (.region 26 (rgn Tryd.f39 26) false) (.seq (.region 27 (rgn Tryd.f39 27) false) (.cond (.tmp 172) (.seq (.region 28 (rgn Tryd.f39 28) false) (.ret)) (.skip)))) (.region 29 (rgn Tryd.f39 29) false)))) (.skip))) (.seq (.region 30 (rgn Tryd.f39 30) false) (.seq (.region 31 (rgn Tryd.f39 31) false) (.ret)))) none E [] H (scopeK (.seq (.region 1 (rgn Tryd.f39 1) true) (.seq (.region 2 (rgn Tryd.f39 2) false) (.seq (.seq (.region 3 (rgn Tryd.f39 3) true) (.cond (.tmp 50) (.seq (.region 4 (rgn Tryd.f39 4) false) (.seq (.region 5 (rgn Tryd.f39 5) false) (.goto 0))) (.skip))) (.seq (.label 1) (.seq (.seq (.region 6 (rgn Tryd.f39 6) false) (.cond (.tmp 63) (.seq (.seq (.region 7 (rgn Tryd.f39 7) true) (.seq (.region 8 (rgn Tryd.f39 8) false) (.cond (.tmp 82) (.seq (.region 9 (rgn Tryd.f39 9) false) (.ret)) (.skip)))) (.seq (.region 10 (rgn Tryd.f39 10) false) (.goto 1))) (.skip))) (.seq (.goto 2) (.seq (.label 0) (.seq (.seq (.region 11 (rgn Tryd.f39 11) true) (.cond (.tmp 113) (.seq (.seq (.region 12 (rgn Tryd.f39 12) true) (.seq (.region 13 (rgn Tryd.f39 13) false) (.cond (.tmp 131) (.seq (.region 14 (rgn Tryd.f39 14) false) (.ret)) (.skip)))) (.seq (.region 15 (rgn Tryd.f39 15) false) (.goto 0))) (.skip))) (.seq (.seq (.region 16 (rgn Tryd.f39 16) false) (.cond (.tmp 144) (.seq (.region 17 (rgn Tryd.f39 17) false) (.ret)) (.skip))) (.seq (.label 2) (.seq (.seq (.region 18 (rgn Tryd.f39 18) false) (.cond (.tmp 146) (.seq (.region 19 (rgn Tryd.f39 19) false) (.seq (.seq (.region 20 (rgn Tryd.f39 20) true) (.block 0 (.seq (.block 3 (.seq (.block 2 (.seq (.block 1 (.seq (.seq (.seq (.region 21 (rgn Tryd.f39 21) false) (.cond (.tmp 157) (.exit 1) (.skip))) (.seq (.region 22 (rgn Tryd.f39 22) false) (.cond (.tmp 159) (.exit 2) (.skip)))) (.exit 3))) (.region 23 (rgn Tryd.f39 23) false))) (.seq (.region 24 (rgn Tryd.f39 24) false) (.exit 0)))) (.seq (.seq (.region 25 (rgn Tryd.f39 25) false) (.ret)) (.exit 0))))) (.seq (.seq (.region 26 (rgn Tryd.f39 26) false) (.seq (.region 27 (rgn Tryd.f39 27) false) (.cond (.tmp 172) (.seq (.region 28 (rgn Tryd.f39 28) false) (.ret)) (.skip)))) (.region 29 (rgn Tryd.f39 29) false)))) (.skip))) (.seq (.region 30 (rgn Tryd.f39 30) false) (.seq (.region 31 (rgn Tryd.f39 31) false) (.ret)))))))))))))) (execG PP XX (CG N hk (d + 2)) N noPr (.seq (.region 1 (rgn Tryd.f39 1) true) (.seq (.region 2 (rgn Tryd.f39 2) false) (.seq (.seq (.region 3 (rgn Tryd.f39 3) true) (.cond (.tmp 50) (.seq (.region 4 (rgn Tryd.f39 4) false) (.seq (.region 5 (rgn Tryd.f39 5) false) (.goto 0))) (.skip))) (.seq (.label 1) (.seq (.seq (.region 6 (rgn Tryd.f39 6) false) (.cond (.tmp 63) (.seq (.seq (.region 7 (rgn Tryd.f39 7) true) (.seq (.region 8 (rgn Tryd.f39 8) false) (.cond (.tmp 82) (.seq (.region 9 (rgn Tryd.f39 9) false) (.ret)) (.skip)))) (.seq (.region 10 (rgn Tryd.f39 10) false) (.goto 1))) (.skip))) (.seq (.goto 2) (.seq (.label 0) (.seq (.seq (.region 11 (rgn Tryd.f39 11) true) (.cond (.tmp 113) (.seq (.seq (.region 12 (rgn Tryd.f39 12) true) (.seq (.region 13 (rgn Tryd.f39 13) false) (.cond (.tmp 131) (.seq (.region 14 (rgn Tryd.f39 14) false) (.ret)) (.skip)))) (.seq (.region 15 (rgn Tryd.f39 15) false) (.goto 0))) (.skip))) (.seq (.seq (.region 16 (rgn Tryd.f39 16) false) (.cond (.tmp 144) (.seq (.region 17 (rgn Tryd.f39 17) false) (.ret)) (.skip))) (.seq (.label 2) (.seq (.seq (.region 18 (rgn Tryd.f39 18) false) (.cond (.tmp 146) (.seq (.region 19 (rgn Tryd.f39 19) false) (.seq (.seq (.region 20 (rgn Tryd.f39 20) true) (.block 0 (.seq (.block 3 (.seq (.block 2 (.seq (.block 1 (.seq (.seq (.seq (.region 21 (rgn Tryd.f39 21) false) (.cond (.tmp 157) (.exit 1) (.skip))) (.seq (.region 22 (rgn Tryd.f39 22) false) (.cond (.tmp 159) (.exit 2) (.skip)))) (.exit 3))) (.region 23 (rgn Tryd.f39 23) false))) (.seq (.region 24 (rgn Tryd.f39 24) false) (.exit 0)))) (.seq (.seq (.region 25 (rgn Tryd.f39 25) false) (.ret)) (.exit 0))))) (.seq (.seq (.region 26 (rgn Tryd.f39 26) false) (.seq (.region 27 (rgn Tryd.f39 27) false) (.cond (.tmp 172) (.seq (.region 28 (rgn Tryd.f39 28) false) (.ret)) (.skip)))) (.region 29 (rgn Tryd.f39 29) false)))) (.skip))) (.seq (.region 30 (rgn Tryd.f39 30) false) (.seq (.region 31 (rgn Tryd.f39 31) false) (.ret))))))))))))))) m k)) := by
  refine i_suf x h hbt ht hh htl htg hrt hm hn he.1 he.2.1 he.2.2 fun E' H' hf => ?_
  rw [scopeK_ret]
  exact hx E' H' hf
theorem d_then {N : Nat} {H0 : Heap} {a : Option Addr} {c : Nat} {s : List UInt8} {b t : Nat} {Q : R → Prop} {k : KOE} {hk : Hook} {d : Nat} {kd f0 t0 : Int} {w : ByteArray} {n0 : Int} (x : Ctx H0 a c s b) (hbt : t ≠ b) (ht : H0.get t = some (tok kd n0 w f0 t0)) (hh : ∀ f args H, okC f = true → hk f args H = none) (htl : t < H0.next) (htg : GE.next ≤ t) (hrt : ∀ q, a = some q → q.block ≠ t) (hm : ∀ x y H, x < m64 → y < m64 → hk 73 #[.int .u64 ((x : Nat) : Int), .int .u64 ((y : Nat) : Int)] H = some (some (.ret (mulV x y), H))) :
    ∀ (f i n m : Nat) (_ : i + f = s.length) (_ : f < m) (_ : n < m64) {H : Heap} {E : Env} (_ : Curs H0 H b a s.length c i) (_ : (E 0 = .pointer (some ⟨b, 0, none⟩) ∧ E 1 = .pointer (some ⟨t, 0, none⟩) ∧ E 7 = .int .u64 (n : Int)))
      (_ : ∀ E' H', Fin H0 a s.length c b t kd w f0 t0 (decI s f i n) E' H' → Q (k .ret E' [] H')), Q (execG PP XX (CG N hk (d + 2)) N noPr (.seq (.seq (.region 6 (rgn Tryd.f39 6) false) (.cond (.tmp 63) (.seq (.seq (.region 7 (rgn Tryd.f39 7) true) (.seq (.region 8 (rgn Tryd.f39 8) false) (.cond (.tmp 82) (.seq (.region 9 (rgn Tryd.f39 9) false) (.ret)) (.skip)))) (.seq (.region 10 (rgn Tryd.f39 10) false) (.goto 1))) (.skip))) (.seq (.goto 2) (.seq (.label 0) (.seq (.seq (.region 11 (rgn Tryd.f39 11) true) (.cond (.tmp 113) (.seq (.seq (.region 12 (rgn Tryd.f39 12) true) (.seq (.region 13 (rgn Tryd.f39 13) false) (.cond (.tmp 131) (.seq (.region 14 (rgn Tryd.f39 14) false) (.ret)) (.skip)))) (.seq (.region 15 (rgn Tryd.f39 15) false) (.goto 0))) (.skip))) (.seq (.seq (.region 16 (rgn Tryd.f39 16) false) (.cond (.tmp 144) (.seq (.region 17 (rgn Tryd.f39 17) false) (.ret)) (.skip))) (.seq (.label 2) (.seq (.seq (.region 18 (rgn Tryd.f39 18) false) (.cond (.tmp 146) (.seq (.region 19 (rgn Tryd.f39 19) false) (.seq (.seq (.region 20 (rgn Tryd.f39 20) true) (.block 0 (.seq (.block 3 (.seq (.block 2 (.seq (.block 1 (.seq (.seq (.seq (.region 21 (rgn Tryd.f39 21) false) (.cond (.tmp 157) (.exit 1) (.skip))) (.seq (.region 22 (rgn Tryd.f39 22) false) (.cond (.tmp 159) (.exit 2) (.skip)))) (.exit 3))) (.region 23 (rgn Tryd.f39 23) false))) (.seq (.region 24 (rgn Tryd.f39 24) false) (.exit 0)))) (.seq (.seq (.region 25 (rgn Tryd.f39 25) false) (.ret)) (.exit 0))))) (.seq (.seq (.region 26 (rgn Tryd.f39 26) false) (.seq (.region 27 (rgn Tryd.f39 27) false) (.cond (.tmp 172) (.seq (.region 28 (rgn Tryd.f39 28) false) (.ret)) (.skip)))) (.region 29 (rgn Tryd.f39 29) false)))) (.skip))) (.seq (.region 30 (rgn Tryd.f39 30) false) (.seq (.region 31 (rgn Tryd.f39 31) false) (.ret)))))))))) none E [] H (scopeK (.seq (.region 1 (rgn Tryd.f39 1) true) (.seq (.region 2 (rgn Tryd.f39 2) false) (.seq (.seq (.region 3 (rgn Tryd.f39 3) true) (.cond (.tmp 50) (.seq (.region 4 (rgn Tryd.f39 4) false) (.seq (.region 5 (rgn Tryd.f39 5) false) (.goto 0))) (.skip))) (.seq (.label 1) (.seq (.seq (.region 6 (rgn Tryd.f39 6) false) (.cond (.tmp 63) (.seq (.seq (.region 7 (rgn Tryd.f39 7) true) (.seq (.region 8 (rgn Tryd.f39 8) false) (.cond (.tmp 82) (.seq (.region 9 (rgn Tryd.f39 9) false) (.ret)) (.skip)))) (.seq (.region 10 (rgn Tryd.f39 10) false) (.goto 1))) (.skip))) (.seq (.goto 2) (.seq (.label 0) (.seq (.seq (.region 11 (rgn Tryd.f39 11) true) (.cond (.tmp 113) (.seq (.seq (.region 12 (rgn Tryd.f39 12) true) (.seq (.region 13 (rgn Tryd.f39 13) false) (.cond (.tmp 131) (.seq (.region 14 (rgn Tryd.f39 14) false) (.ret)) (.skip)))) (.seq (.region 15 (rgn Tryd.f39 15) false) (.goto 0))) (.skip))) (.seq (.seq (.region 16 (rgn Tryd.f39 16) false) (.cond (.tmp 144) (.seq (.region 17 (rgn Tryd.f39 17) false) (.ret)) (.skip))) (.seq (.label 2) (.seq (.seq (.region 18 (rgn Tryd.f39 18) false) (.cond (.tmp 146) (.seq (.region 19 (rgn Tryd.f39 19) false) (.seq (.seq (.region 20 (rgn Tryd.f39 20) true) (.block 0 (.seq (.block 3 (.seq (.block 2 (.seq (.block 1 (.seq (.seq (.seq (.region 21 (rgn Tryd.f39 21) false) (.cond (.tmp 157) (.exit 1) (.skip))) (.seq (.region 22 (rgn Tryd.f39 22) false) (.cond (.tmp 159) (.exit 2) (.skip)))) (.exit 3))) (.region 23 (rgn Tryd.f39 23) false))) (.seq (.region 24 (rgn Tryd.f39 24) false) (.exit 0)))) (.seq (.seq (.region 25 (rgn Tryd.f39 25) false) (.ret)) (.exit 0))))) (.seq (.seq (.region 26 (rgn Tryd.f39 26) false) (.seq (.region 27 (rgn Tryd.f39 27) false) (.cond (.tmp 172) (.seq (.region 28 (rgn Tryd.f39 28) false) (.ret)) (.skip)))) (.region 29 (rgn Tryd.f39 29) false)))) (.skip))) (.seq (.region 30 (rgn Tryd.f39 30) false) (.seq (.region 31 (rgn Tryd.f39 31) false) (.ret)))))))))))))) (execG PP XX (CG N hk (d + 2)) N noPr (.seq (.region 1 (rgn Tryd.f39 1) true) (.seq (.region 2 (rgn Tryd.f39 2) false) (.seq (.seq (.region 3 (rgn Tryd.f39 3) true) (.cond (.tmp 50) (.seq (.region 4 (rgn Tryd.f39 4) false) (.seq (.region 5 (rgn Tryd.f39 5) false) (.goto 0))) (.skip))) (.seq (.label 1) (.seq (.seq (.region 6 (rgn Tryd.f39 6) false) (.cond (.tmp 63) (.seq (.seq (.region 7 (rgn Tryd.f39 7) true) (.seq (.region 8 (rgn Tryd.f39 8) false) (.cond (.tmp 82) (.seq (.region 9 (rgn Tryd.f39 9) false) (.ret)) (.skip)))) (.seq (.region 10 (rgn Tryd.f39 10) false) (.goto 1))) (.skip))) (.seq (.goto 2) (.seq (.label 0) (.seq (.seq (.region 11 (rgn Tryd.f39 11) true) (.cond (.tmp 113) (.seq (.seq (.region 12 (rgn Tryd.f39 12) true) (.seq (.region 13 (rgn Tryd.f39 13) false) (.cond (.tmp 131) (.seq (.region 14 (rgn Tryd.f39 14) false) (.ret)) (.skip)))) (.seq (.region 15 (rgn Tryd.f39 15) false) (.goto 0))) (.skip))) (.seq (.seq (.region 16 (rgn Tryd.f39 16) false) (.cond (.tmp 144) (.seq (.region 17 (rgn Tryd.f39 17) false) (.ret)) (.skip))) (.seq (.label 2) (.seq (.seq (.region 18 (rgn Tryd.f39 18) false) (.cond (.tmp 146) (.seq (.region 19 (rgn Tryd.f39 19) false) (.seq (.seq (.region 20 (rgn Tryd.f39 20) true) (.block 0 (.seq (.block 3 (.seq (.block 2 (.seq (.block 1 (.seq (.seq (.seq (.region 21 (rgn Tryd.f39 21) false) (.cond (.tmp 157) (.exit 1) (.skip))) (.seq (.region 22 (rgn Tryd.f39 22) false) (.cond (.tmp 159) (.exit 2) (.skip)))) (.exit 3))) (.region 23 (rgn Tryd.f39 23) false))) (.seq (.region 24 (rgn Tryd.f39 24) false) (.exit 0)))) (.seq (.seq (.region 25 (rgn Tryd.f39 25) false) (.ret)) (.exit 0))))) (.seq (.seq (.region 26 (rgn Tryd.f39 26) false) (.seq (.region 27 (rgn Tryd.f39 27) false) (.cond (.tmp 172) (.seq (.region 28 (rgn Tryd.f39 28) false) (.ret)) (.skip)))) (.region 29 (rgn Tryd.f39 29) false)))) (.skip))) (.seq (.region 30 (rgn Tryd.f39 30) false) (.seq (.region 31 (rgn Tryd.f39 31) false) (.ret))))))))))))))) m k))
  | 0, i, n, m + 1, hf, hmm, hn, H, E, h, ⟨e0, e1, e7⟩, hx => by
    have r1 := call_is (N := N) (hk := hk) (d := d) (h.gg x) (h.row x) h.here 3 hh
    have h3 : isI s i 3 = false := by simp [isI]; omega
    rw [h3] at r1
    have l6 := tl (rgn Tryd.f39 6)
    conv at l6 => rhs; simp only [rgn, opsAt, codeOf, Tryd.f39, gS, gN, reduceIte, Nat.reduceEqDiff, tA]
    simp (decide := true) only [↓execG_seq, ↓g_region, ↓execG_skip, ↓g_else, thenE_norm, ↓r_nil, ↓r_cons, ↓o_move, ↓o_callf, nextE_app, putK_app, normK_app, evalE_tmp, evalE_const, upd_some, reduceIte, map_two, ↓reg_lit l6, ↓execG_goto, thenE_goto, e0, callK_fn Tryd.func38 rfl rfl r1]
    rw [scopeK_goto lab2, scopeE_succ, jmp2]
    exact to_suf x hbt ht hh htl htg hrt hm h hn ⟨by simp (decide := true) only [upd_some, reduceIte, e0], by simp (decide := true) only [upd_some, reduceIte, e1], by simp (decide := true) only [upd_some, reduceIte, e7]⟩ hx
  | f + 1, i, n, m + 1, hf, hmm, hn, H, E, h, ⟨e0, e1, e7⟩, hx => by
    have a1 : i + 1 + f = s.length := by omega
    have a2 : f < m := by omega
    have r1 := call_is (N := N) (hk := hk) (d := d) (h.gg x) (h.row x) h.here 3 hh
    have hsm := x.row.small
    have l6 := tl (rgn Tryd.f39 6)
    conv at l6 => rhs; simp only [rgn, opsAt, codeOf, Tryd.f39, gS, gN, reduceIte, Nat.reduceEqDiff, tA]
    have l7 := tl (rgn Tryd.f39 7)
    conv at l7 => rhs; simp only [rgn, opsAt, codeOf, Tryd.f39, gS, gN, reduceIte, Nat.reduceEqDiff, tA]
    have l8 := tl (rgn Tryd.f39 8)
    conv at l8 => rhs; simp only [rgn, opsAt, codeOf, Tryd.f39, gS, gN, reduceIte, Nat.reduceEqDiff, tA]
    have l9 := tl (rgn Tryd.f39 9)
    conv at l9 => rhs; simp only [rgn, opsAt, codeOf, Tryd.f39, gS, gN, reduceIte, Nat.reduceEqDiff, tA]
    have l10 := tl (rgn Tryd.f39 10)
    conv at l10 => rhs; simp only [rgn, opsAt, codeOf, Tryd.f39, gS, gN, reduceIte, Nat.reduceEqDiff, tA]
    cases h3 : isI s i 3 with
    | false =>
      rw [h3] at r1
      have es : decI s (f + 1) i n = sufI s i n := by unfold decI; rw [h3]; rfl
      rw [es] at hx
      simp (decide := true) only [↓execG_seq, ↓g_region, ↓execG_skip, ↓g_else, thenE_norm, ↓r_nil, ↓r_cons, ↓o_move, ↓o_callf, nextE_app, putK_app, normK_app, evalE_tmp, evalE_const, upd_some, reduceIte, map_two, ↓reg_lit l6, ↓execG_goto, thenE_goto, e0, callK_fn Tryd.func38 rfl rfl r1]
      rw [scopeK_goto lab2, scopeE_succ, jmp2]
      exact to_suf x hbt ht hh htl htg hrt hm h hn ⟨by simp (decide := true) only [upd_some, reduceIte, e0], by simp (decide := true) only [upd_some, reduceIte, e1], by simp (decide := true) only [upd_some, reduceIte, e7]⟩ hx
    | true =>
      rw [h3] at r1
      have hi : i < s.length := by omega
      have hgd : s.getD i 0 = s[i] := by simp [List.getD, hi]
      have hc3 : clsI s[i] = 3 := by
        have := h3
        simp only [isI, Bool.and_eq_true, hgd] at this
        simpa using this.2
      obtain ⟨b1, b2⟩ := cls3 _ hc3
      obtain ⟨y, rfl, hl⟩ := (h.row x).bts.cell i hi
      have hix := index_row (n := s.length) (c := c) (a := y) hi
      have w1 : IntKind.i64.wrap ((i : Int) + 1) = ((i + 1 : Nat) : Int) := by rw [wrap_i64 (by omega) (by omega)]; omega
      have w2 : IntKind.u8.wrap ((s[i].toNat : Int) - 48) = (dg s[i] : Int) := by rw [wrap_u8' (by omega) (by omega)]; unfold dg; omega
      have w3 : IntKind.u64.wrap (dg s[i] : Int) = (dg s[i] : Int) := wrap_u64' (by omega) (by unfold dg; omega)
      have hd : dg s[i] < m64 := by unfold dg m64; omega
      have m10 : (10 : Nat) < m64 := by decide
      have q0 : ∀ (u v : Value), extractA (.tuple #[u, v]) 0 = some u := fun _ _ => rfl
      have q1 : ∀ (u v : Value), extractA (.tuple #[u, v]) 1 = some v := fun _ _ => rfl
      by_cases ov : n * 10 + dg s[i] < m64
      · have hmo := more_ok (N := N) (hk := hk) (d := d) (H := H) n 10 (dg s[i]) (n * 10 + dg s[i]) 10 (dg s[i] : Int) (by omega) rfl hn m10 hd rfl ov hh hm
        have es : decI s (f + 1) i n = decI s f (i + 1) (n * 10 + dg s[i]) := by exact dec_ok h3 hgd ov
        rw [es] at hx
        simp (decide := true) only [↓execG_seq, ↓g_region, ↓execG_skip, ↓g_if, ↓g_else, thenE_norm, ↓r_nil, ↓r_cons, ↓o_move, ↓o_assign, ↓o_load, ↓o_store, ↓o_nilCheck, ↓o_binOp, ↓o_unOp, ↓o_convert, ↓o_fieldAddr, ↓o_indexAddr, ↓o_extract, ↓o_callf, nextE_app, putK_app, putO_app, putG_bool, putG_int, normK_app, nilCheckA_ok, evalE_tmp, evalE_const, upd_some, upd_none, bindO_ok, bindV_ok, reduceIte, map_two, map_three, ↓reg_lit l6, ↓reg_lit l7, ↓reg_lit l8, ↓reg_lit l10, ↓execG_goto, thenE_goto, e0, e7, callK_fn Tryd.func38 rfl rfl r1, fld0, fld1, load_src h.here, load_at h.here, hix, load_byte hl, binA_sub, w2, conv_u64, w3, callK_fn Tryd.func54 rfl rfl hmo, q0, q1, not_t, binA_add, w1, store_at h.here]
        clear w1 w2 w3 hmo
        rw [scopeK_goto lab1]
        rw [scopeE_succ, jmp1]
        exact d_then x hbt ht hh htl htg hrt hm f (i + 1) (n * 10 + dg s[i]) m a1 a2 ov (h.set (i + 1)) ⟨by simp (decide := true) only [upd_some, reduceIte, e0], by simp (decide := true) only [upd_some, reduceIte, e1], by simp (decide := true) only [upd_some, reduceIte, e7]⟩ hx
      · obtain ⟨vv, hmo⟩ := more_no (N := N) (hk := hk) (d := d) (H := H) n 10 (dg s[i]) (n * 10 + dg s[i]) 10 (dg s[i] : Int) (by omega) rfl hn m10 hd rfl ov hh hm
        have es : decI s (f + 1) i n = .bad i := by exact dec_no h3 hgd ov
        rw [es] at hx
        simp (decide := true) only [↓execG_seq, ↓g_region, ↓execG_ret, ↓g_if, thenE_norm, thenE_ret, ↓r_nil, ↓r_cons, ↓o_move, ↓o_assign, ↓o_load, ↓o_nilCheck, ↓o_binOp, ↓o_unOp, ↓o_convert, ↓o_fieldAddr, ↓o_indexAddr, ↓o_extract, ↓o_callf, nextE_app, putK_app, putO_app, putG_bool, putG_int, normK_app, nilCheckA_ok, evalE_tmp, evalE_const, upd_some, bindO_ok, bindV_ok, reduceIte, map_two, map_three, ↓reg_lit l6, ↓reg_lit l7, ↓reg_lit l8, ↓reg_lit l9, e0, e7, callK_fn Tryd.func38 rfl rfl r1, fld0, fld1, load_src h.here, load_at h.here, hix, load_byte hl, binA_sub, w2, conv_u64, w3, callK_fn Tryd.func54 rfl rfl hmo, q0, q1, not_f, scopeK_ret]
        exact hx _ _ ⟨by simp (decide := true) only [upd_some, reduceIte], _, h.two hbt ht⟩
end Go.Am
