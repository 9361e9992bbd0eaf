/- The law on what is read back: yes, whatever the number, the text and the word. -/
import Derived.Test.YtohmeeglehopiaaDoorU2
import Derived.Lib.ItoaLen
open Go.Proofs
namespace Go.Am
theorem binA_neqb (x y : Operand) (a b : Bool) : binA PP .neq 4 x y (.bool a) (.bool b) = some (.bool (a != b)) := by cases a <;> cases b <;> kernel_rfl
theorem binA_eqlb (x y : Operand) (a b : Bool) : binA PP .eql 4 x y (.bool a) (.bool b) = some (.bool (a == b)) := by cases a <;> cases b <;> kernel_rfl
theorem eqs_any (x y : Operand) (a b : ByteArray) : binA PP .eql 9 x y (.string a) (.string b) = some (.bool (decide (a = b))) := by
  obtain ⟨⟨a⟩⟩ := a
  obtain ⟨⟨b⟩⟩ := b
  rw [binA_eqs]
  congr 2
  rw [Bool.eq_iff_iff]; simp
theorem tf3 (b : Nat) : fieldAddrA PP 29 (.pointer (some ⟨b, 0, none⟩)) 3 = some (.pointer (some ⟨b, 3, none⟩)) := by kernel_rfl
theorem one_ix (q : Nat) : indexAddrA PP 22 (.slice (some ⟨q, 0, none⟩) 1 1) (.int .i64 0) = some (.pointer (some ⟨q, 0, none⟩)) := index_toks (q := q) (i := 0) (n := 1) (by decide)
theorem dF {i : Decidable False} : @decide False i = false := decide_eq_false id
theorem dT {i : Decidable True} : @decide True i = true := decide_eq_true trivial
/-- A row of one lexeme. -/
structure One (H : Heap) (v : Value) (tk : Tk) : Prop where
  here : ∃ q, v = .slice (some ⟨q, 0, none⟩) 1 1 ∧ H.get q = some ⟨[tk].flatMap Tk.cells, true, 5, none⟩
theorem One.of {H : Heap} {v : Value} {tk : Tk} {lo : Nat} (h : TkRow H v [tk] lo) : One H v tk := by
  obtain ⟨q, h1, h2⟩ := h.at_ (i := 0) (by simp)
  exact ⟨q, h1, h2⟩
theorem one_kind {H : Heap} {q : Nat} {tk : Tk} (h : H.get q = some ⟨[tk].flatMap Tk.cells, true, 5, none⟩) : loadA PP 3 (.pointer (some ⟨q, 0, none⟩)) H = some (.int .i64 tk.kind, H) := ldk_tok (i := 0) h rfl
theorem one_num {H : Heap} {q : Nat} {tk : Tk} (h : H.get q = some ⟨[tk].flatMap Tk.cells, true, 5, none⟩) : loadA PP 27 (.pointer (some ⟨q, 1, none⟩)) H = some (.int .u64 tk.n, H) := load_num (i := 0) h rfl
theorem one_text {H : Heap} {q : Nat} {tk : Tk} (h : H.get q = some ⟨[tk].flatMap Tk.cells, true, 5, none⟩) : loadA PP 9 (.pointer (some ⟨q, 2, none⟩)) H = some (.string tk.w, H) := load_text (i := 0) h rfl
theorem one_from {H : Heap} {q : Nat} {tk : Tk} (h : H.get q = some ⟨[tk].flatMap Tk.cells, true, 5, none⟩) : loadA PP 3 (.pointer (some ⟨q, 3, none⟩)) H = some (.int .i64 (tk.from_ : Int), H) := load_from (i := 0) h rfl
theorem one_to {H : Heap} {q : Nat} {tk : Tk} (h : H.get q = some ⟨[tk].flatMap Tk.cells, true, 5, none⟩) : loadA PP 3 (.pointer (some ⟨q, 4, none⟩)) H = some (.int .i64 (tk.to_ : Int), H) := load_to (i := 0) h rfl
theorem code8 : codeOf Tryd.f8 = .seq (.region 0 (rgn Tryd.f8 0) false) (.seq (.region 1 (rgn Tryd.f8 1) false) (.seq (.seq (.region 2 (rgn Tryd.f8 2) false) (.cond (.tmp 41) (.seq (.region 3 (rgn Tryd.f8 3) false) (.ret)) (.skip))) (.seq (.seq (.region 4 (rgn Tryd.f8 4) false) (.cond (.tmp 44) (.seq (.region 5 (rgn Tryd.f8 5) false) (.seq (.region 6 (rgn Tryd.f8 6) false) (.seq (.region 7 (rgn Tryd.f8 7) false) (.cond (.tmp 91) (.seq (.region 8 (rgn Tryd.f8 8) false) (.ret)) (.skip))))) (.skip))) (.seq (.seq (.region 9 (rgn Tryd.f8 9) false) (.cond (.tmp 94) (.seq (.region 10 (rgn Tryd.f8 10) false) (.ret)) (.skip))) (.seq (.region 11 (rgn Tryd.f8 11) false) (.seq (.region 12 (rgn Tryd.f8 12) false) (.seq (.seq (.region 13 (rgn Tryd.f8 13) false) (.cond (.tmp 149) (.seq (.region 14 (rgn Tryd.f8 14) false) (.ret)) (.skip))) (.seq (.region 15 (rgn Tryd.f8 15) false) (.seq (.region 16 (rgn Tryd.f8 16) false) (.ret)))))))))) := by kernel_rfl
theorem gd8_2_2 : ((rgn Tryd.f8 2)[2]?).bind (·.dst) = some 22 := by kernel_rfl
theorem gd8_2_7 : ((rgn Tryd.f8 2)[7]?).bind (·.dst) = some 27 := by kernel_rfl
theorem gd8_2_14 : ((rgn Tryd.f8 2)[14]?).bind (·.dst) = some 34 := by kernel_rfl
theorem gd8_7_2 : ((rgn Tryd.f8 7)[2]?).bind (·.dst) = some 55 := by kernel_rfl
theorem gd8_7_7 : ((rgn Tryd.f8 7)[7]?).bind (·.dst) = some 60 := by kernel_rfl
theorem gd8_7_14 : ((rgn Tryd.f8 7)[14]?).bind (·.dst) = some 67 := by kernel_rfl
theorem gd8_7_22 : ((rgn Tryd.f8 7)[22]?).bind (·.dst) = some 75 := by kernel_rfl
theorem gd8_7_31 : ((rgn Tryd.f8 7)[31]?).bind (·.dst) = some 84 := by kernel_rfl
theorem gd8_10_3 : ((rgn Tryd.f8 10)[3]?).bind (·.dst) = some 98 := by kernel_rfl
theorem gd8_12_2 : ((rgn Tryd.f8 12)[2]?).bind (·.dst) = some 110 := by kernel_rfl
theorem gd8_12_7 : ((rgn Tryd.f8 12)[7]?).bind (·.dst) = some 115 := by kernel_rfl
theorem gd8_12_14 : ((rgn Tryd.f8 12)[14]?).bind (·.dst) = some 122 := by kernel_rfl
theorem gd8_13_3 : ((rgn Tryd.f8 13)[3]?).bind (·.dst) = some 134 := by kernel_rfl
theorem gd8_13_10 : ((rgn Tryd.f8 13)[10]?).bind (·.dst) = some 141 := by kernel_rfl
theorem gd8_16_3 : ((rgn Tryd.f8 16)[3]?).bind (·.dst) = some 155 := by kernel_rfl
theorem gd8_16_10 : ((rgn Tryd.f8 16)[10]?).bind (·.dst) = some 162 := by kernel_rfl
theorem gd8_16_18 : ((rgn Tryd.f8 16)[18]?).bind (·.dst) = some 170 := by kernel_rfl
theorem gd8_16_21 : ((rgn Tryd.f8 16)[21]?).bind (·.dst) = some 173 := by kernel_rfl
theorem gd8_16_30 : ((rgn Tryd.f8 16)[30]?).bind (·.dst) = some 182 := by kernel_rfl

section
variable {N : Nat} {hk : Hook} {d : Nat} {H0 H : Heap} {w t : List UInt8} {E : Env} {Q : R → Prop} {k : KOE}
set_option maxRecDepth 100000 in
set_option maxHeartbeats 2000000 in
theorem back13 (K : HkOk hk) (hkn : ∀ H, Ext GE H → hk 10 #[] H = some (some (.ret (.bool true), H))) (hG : Ext GE H0) (hE : Ext H0 H) (hsm : w.length < 9223372036854775807) (hN : 100 < N) {v : Value} {W : Bool} (e2 : E 2 = .string ⟨⟨w⟩⟩) (e7 : E 7 = v) (e11 : E 11 = .bool W)
    (hW : (W = false ∧ legalI w = false ∧ resI w = 0) ∨ (W = true ∧ ∃ tk, One H v tk ∧ ((tk.kind = 1 ∧ tk.w = ⟨⟨w⟩⟩) ↔ legalI w = true) ∧ (30 ≤ tk.kind → resI w = tk.kind ∧ tk.kind ≤ 79) ∧ (resI w ≠ 0 → tk.kind = resI w ∧ 30 ≤ tk.kind))) (hx : ∀ E' H', E' 6 = .bool true → Ext H0 H' → Q (k .ret E' [] H')) :
    Q (execG PP XX (CG N hk (d + 8)) N noPr (.seq (.seq (.region 13 (rgn Tryd.f8 13) false) (.cond (.tmp 149) (.seq (.region 14 (rgn Tryd.f8 14) false) (.ret)) (.skip))) (.seq (.region 15 (rgn Tryd.f8 15) false) (.seq (.region 16 (rgn Tryd.f8 16) false) (.ret)))) none E [] H k) := by
  obtain ⟨H1, hl, x1⟩ := call_legal (N := N) (hk := hk) (d := d + 1) (s := w) K (hG.trans hE) hsm hN
  have hl : CG N hk (d + 8) 12 #[.string ⟨⟨w⟩⟩] H = some (.ret (.bool (legalI w)), H1) := hl
  obtain ⟨H2, x2, hr⟩ := call_res (N := N) (hk := hk) (d := d + 6) ((hG.trans hE).trans x1) w (by omega) K.nil K.fields
  have hr : CG N hk (d + 8) 16 #[.string ⟨⟨w⟩⟩] H1 = some (.ret (.int .i64 (resI w)), H2) := hr
  have kn : CG N hk (d + 8) 10 #[] H2 = some (.ret (.bool true), H2) := callG_hook (hkn H2 (((hG.trans hE).trans x1).trans x2))
  have xe : Ext H0 H2 := (hE.trans x1).trans x2
  have l13 := tl (rgn Tryd.f8 13)
  conv at l13 => rhs; simp only [rgn, opsAt, codeOf, Tryd.f8, gS, gN, reduceIte, Nat.reduceEqDiff, tA]
  have l15 := tl (rgn Tryd.f8 15)
  conv at l15 => rhs; simp only [rgn, opsAt, codeOf, Tryd.f8, gS, gN, reduceIte, Nat.reduceEqDiff, tA]
  have l16 := tl (rgn Tryd.f8 16)
  conv at l16 => rhs; simp only [rgn, opsAt, codeOf, Tryd.f8, gS, gN, reduceIte, Nat.reduceEqDiff, tA]
  rcases hW with ⟨rfl, l0, r0⟩ | ⟨rfl, tk, ⟨q, rfl, hq⟩, hA, hB, hC⟩
  · have z1 : (legalI w != false) = false := by rw [l0]; rfl
    have z2 : (resI w != 0) = false := by rw [r0]; rfl
    have z3 : (resI w == 0) = true := by rw [r0]; rfl
    simp (decide := true) only [↓execG_seq, ↓g_region, ↓execG_ret, ↓execG_skip, ↓g_else, thenE_norm, ↓r_nil, ↓r_cons, ↓o_move, ↓o_assign, ↓o_pickt, ↓o_pickf, ↓o_binOp, ↓o_callf, nextE_app, putK_app, putG_bool, normK_app, evalE_tmp, evalE_const, upd_some, bindO_ok, reduceIte, map_one, map_nil, Bool.not_true, Bool.not_false, ↓reg_lit l13, ↓reg_lit l15, ↓reg_lit l16, ↓r_no _ 3 true 134 _ gd8_13_3, ↓r_no _ 10 true 141 _ gd8_13_10, ↓r_no _ 3 true 155 _ gd8_16_3, ↓r_no _ 10 true 162 _ gd8_16_10, ↓r_yes _ 18 true 170 _ gd8_16_18, ↓r_no _ 21 false 173 _ gd8_16_21, ↓r_yes _ 30 true 182 _ gd8_16_30, e2, e11, callK_fn Tryd.func12 rfl rfl hl, callK_fn Tryd.func16 rfl rfl hr, callK_fn Tryd.func10 rfl rfl kn, binA_neqb, binA_eqlb, binA_neq, binA_eql, beq_self_eq_true, z1, z2, z3]
    exact hx _ _ (by simp (decide := true) only [upd_some, reduceIte]) xe
  · have hq1 := x1.keep q _ hq
    have hq2 := x2.keep q _ hq1
    have lk1 := one_kind hq1
    have lt1 := one_text hq1
    have lk2 := one_kind hq2
    by_cases c1 : tk.kind = 1
    · have r0 : resI w = 0 := by
        by_cases c : resI w = 0
        · exact c
        · have := hC c; omega
      have y1 : (tk.kind == 1) = true := by rw [c1]; rfl
      have y2 : decide (tk.kind ≥ 30) = false := decide_eq_false (by omega)
      have z1 : (legalI w != decide (tk.w = ⟨⟨w⟩⟩)) = false := by
        by_cases c : tk.w = ⟨⟨w⟩⟩
        · rw [hA.mp ⟨c1, c⟩, decide_eq_true c]; rfl
        · have : legalI w = false := by
            cases hz : legalI w with
            | false => rfl
            | true => exact absurd (hA.mpr hz).2 c
          rw [this, decide_eq_false c]; rfl
      have z2 : (resI w != 0) = false := by rw [r0]; rfl
      have z3 : (resI w == 0) = true := by rw [r0]; rfl
      simp (decide := true) only [↓execG_seq, ↓g_region, ↓execG_ret, ↓execG_skip, ↓g_else, thenE_norm, ↓r_nil, ↓r_cons, ↓o_move, ↓o_assign, ↓o_pickt, ↓o_pickf, ↓o_load, ↓o_binOp, ↓o_fieldAddr, ↓o_indexAddr, ↓o_callf, nextE_app, putK_app, putO_app, putG_bool, normK_app, evalE_tmp, evalE_const, upd_some, bindO_ok, bindV_ok, reduceIte, map_one, map_nil, Bool.not_true, Bool.not_false, ↓reg_lit l13, ↓reg_lit l15, ↓reg_lit l16, ↓r_yes _ 3 true 134 _ gd8_13_3, ↓r_yes _ 10 true 141 _ gd8_13_10, ↓r_yes _ 3 true 155 _ gd8_16_3, ↓r_no _ 10 true 162 _ gd8_16_10, ↓r_yes _ 18 true 170 _ gd8_16_18, ↓r_no _ 21 false 173 _ gd8_16_21, ↓r_yes _ 30 true 182 _ gd8_16_30, e2, e7, e11, callK_fn Tryd.func12 rfl rfl hl, callK_fn Tryd.func16 rfl rfl hr, callK_fn Tryd.func10 rfl rfl kn, binA_neqb, binA_eqlb, binA_neq, binA_eql, binA_geq, eqs_any, one_ix, tf0, tf2, beq_self_eq_true, lk1, lt1, lk2, y1, y2, z1, z2, z3]
      exact hx _ _ (by simp (decide := true) only [upd_some, reduceIte]) xe
    · have y1 : (tk.kind == 1) = false := by simpa using c1
      have l0 : legalI w = false := by
        cases hz : legalI w with
        | false => rfl
        | true => exact absurd (hA.mpr hz).1 c1
      have z1 : (legalI w != false) = false := by rw [l0]; rfl
      by_cases c30 : 30 ≤ tk.kind
      · obtain ⟨b1, b2⟩ := hB c30
        have y2 : decide (tk.kind ≥ 30) = true := decide_eq_true (by omega)
        have y3 : decide (tk.kind ≤ 79) = true := decide_eq_true (by omega)
        have z2 : (resI w != 0) = true := by rw [b1]; simpa using (by omega : tk.kind ≠ 0)
        have z3 : (resI w == 0) = false := by rw [b1]; simpa using (by omega : tk.kind ≠ 0)
        have z4 : (tk.kind == resI w) = true := by rw [b1]; simp
        simp (decide := true) only [↓execG_seq, ↓g_region, ↓execG_ret, ↓execG_skip, ↓g_else, thenE_norm, ↓r_nil, ↓r_cons, ↓o_move, ↓o_assign, ↓o_pickt, ↓o_pickf, ↓o_load, ↓o_binOp, ↓o_fieldAddr, ↓o_indexAddr, ↓o_callf, nextE_app, putK_app, putO_app, putG_bool, normK_app, evalE_tmp, evalE_const, upd_some, bindO_ok, bindV_ok, reduceIte, map_one, map_nil, Bool.not_true, ↓reg_lit l13, ↓reg_lit l15, ↓reg_lit l16, ↓r_yes _ 3 true 134 _ gd8_13_3, ↓r_no _ 10 true 141 _ gd8_13_10, ↓r_yes _ 3 true 155 _ gd8_16_3, ↓r_yes _ 10 true 162 _ gd8_16_10, ↓r_yes _ 18 true 170 _ gd8_16_18, ↓r_yes _ 21 false 173 _ gd8_16_21, ↓r_yes _ 30 true 182 _ gd8_16_30, e2, e7, e11, callK_fn Tryd.func12 rfl rfl hl, callK_fn Tryd.func16 rfl rfl hr, callK_fn Tryd.func10 rfl rfl kn, binA_neqb, binA_eqlb, binA_neq, binA_eql, binA_geq, binA_leq, one_ix, tf0, beq_self_eq_true, lk1, lk2, y1, y2, y3, z1, z2, z3, z4]
        exact hx _ _ (by simp (decide := true) only [upd_some, reduceIte]) xe
      · have r0 : resI w = 0 := by
          by_cases c : resI w = 0
          · exact c
          · have := hC c; omega
        have y2 : decide (tk.kind ≥ 30) = false := decide_eq_false (by omega)
        have z2 : (resI w != 0) = false := by rw [r0]; rfl
        have z3 : (resI w == 0) = true := by rw [r0]; rfl
        simp (decide := true) only [↓execG_seq, ↓g_region, ↓execG_ret, ↓execG_skip, ↓g_else, thenE_norm, ↓r_nil, ↓r_cons, ↓o_move, ↓o_assign, ↓o_pickt, ↓o_pickf, ↓o_load, ↓o_binOp, ↓o_fieldAddr, ↓o_indexAddr, ↓o_callf, nextE_app, putK_app, putO_app, putG_bool, normK_app, evalE_tmp, evalE_const, upd_some, bindO_ok, bindV_ok, reduceIte, map_one, map_nil, Bool.not_true, Bool.not_false, ↓reg_lit l13, ↓reg_lit l15, ↓reg_lit l16, ↓r_yes _ 3 true 134 _ gd8_13_3, ↓r_no _ 10 true 141 _ gd8_13_10, ↓r_yes _ 3 true 155 _ gd8_16_3, ↓r_no _ 10 true 162 _ gd8_16_10, ↓r_yes _ 18 true 170 _ gd8_16_18, ↓r_no _ 21 false 173 _ gd8_16_21, ↓r_yes _ 30 true 182 _ gd8_16_30, e2, e7, e11, callK_fn Tryd.func12 rfl rfl hl, callK_fn Tryd.func16 rfl rfl hr, callK_fn Tryd.func10 rfl rfl kn, binA_neqb, binA_eqlb, binA_neq, binA_eql, binA_geq, one_ix, tf0, beq_self_eq_true, lk1, lk2, y1, y2, z1, z2, z3]
        exact hx _ _ (by simp (decide := true) only [upd_some, reduceIte]) xe
end
end Go.Am
/- The law on what is read back: the whole. -/
open Go.Proofs
namespace Go.Am
theorem conv_bytes (H : Heap) {w : List UInt8} (h : w.length ≤ 140737488355328) : convertA PP 9 26 (.string ⟨⟨w⟩⟩) H = some (.slice (some ⟨H.next, 0, none⟩) w.length w.length, H.alloc 1 (w.map f8)) := by
  have e : (⟨⟨w⟩⟩ : ByteArray).size = w.length := rfl
  simp only [convertA, undStr, und34, undU8, e]
  rw [if_pos (by unfold most; omega)]
  rfl
theorem laid_row {H : Heap} {w : List UInt8} (hw : w.length < 9223372036854775808) : Brow (H.alloc 1 (w.map f8)) (some ⟨H.next, 0, none⟩) w := by
  refine ⟨fun b hb => ?_, fun e => (by cases e), hw⟩
  obtain rfl := Option.some.inj hb
  refine ⟨⟨w.map f8, true, 1, none⟩, ?_, rfl, by simp, ?_⟩
  · simp only [look]
    rw [Heap.get_alloc, if_pos rfl]
  · simp only [List.drop_zero]
    rw [List.take_of_length_le (by simp)]
    rfl
/-- A word that is no lexeme alone is no name and no reserved word. -/
theorem alone_not {w : List UInt8} (h : ∀ tk, toksI w (w.length + 1) 0 = ([tk], none) → tk.from_ = 0 → tk.to_ = w.length → False) : legalI w = false ∧ resI w = 0 := by
  refine ⟨?_, ?_⟩
  · cases hz : legalI w with
    | false => rfl
    | true => exact (h _ (legal_lex hz) rfl rfl).elim
  · by_cases c : resI w = 0
    · exact c
    · exact (h _ (res_lex c).1 rfl rfl).elim
theorem alone_is {w : List UInt8} {tk : Tk} (hT : toksI w (w.length + 1) 0 = ([tk], none)) (h0 : tk.from_ = 0) (hl : tk.to_ = w.length) :
    ((tk.kind = 1 ∧ tk.w = ⟨⟨w⟩⟩) ↔ legalI w = true) ∧ (30 ≤ tk.kind → resI w = tk.kind ∧ tk.kind ≤ 79) ∧ (resI w ≠ 0 → tk.kind = resI w ∧ 30 ≤ tk.kind) := by
  have same : ∀ tk', toksI w (w.length + 1) 0 = ([tk'], none) → tk' = tk := fun tk' h => by
    rw [hT] at h
    have := congrArg Prod.fst h
    simp only [List.cons.injEq] at this
    exact this.1.symm
  refine ⟨⟨fun h => lex_legal hT h0 hl h.1 h.2, fun h => ?_⟩, fun h => ?_, fun h => ?_⟩
  · have := same _ (legal_lex h)
    subst this
    exact ⟨rfl, rfl⟩
  · have hr := lex_res hT h0 hl h
    exact ⟨hr, by have := (res_lex (w := w) (by omega)).2.2; omega⟩
  · obtain ⟨h1, h2, h3⟩ := res_lex h
    have := same _ h1
    subst this
    exact ⟨rfl, h2⟩
section
variable {N : Nat} {hk : Hook} {d : Nat} {H0 H : Heap} {w t : List UInt8} {E : Env} {Q : R → Prop} {k : KOE}
set_option maxRecDepth 100000 in
set_option maxHeartbeats 2000000 in
theorem back9 (K : HkOk hk) (hkn : ∀ H, Ext GE H → hk 10 #[] H = some (some (.ret (.bool true), H))) (hG : Ext GE H0) (hE : Ext H0 H) (hsm : w.length < 9223372036854775807) (hN : 300000 < N) (e2 : E 2 = .string ⟨⟨w⟩⟩) (hx : ∀ E' H', E' 6 = .bool true → Ext H0 H' → Q (k .ret E' [] H')) : Q (execG PP XX (CG N hk (d + 8)) N noPr (.seq (.seq (.region 9 (rgn Tryd.f8 9) false) (.cond (.tmp 94) (.seq (.region 10 (rgn Tryd.f8 10) false) (.ret)) (.skip))) (.seq (.region 11 (rgn Tryd.f8 11) false) (.seq (.region 12 (rgn Tryd.f8 12) false) (.seq (.seq (.region 13 (rgn Tryd.f8 13) false) (.cond (.tmp 149) (.seq (.region 14 (rgn Tryd.f8 14) false) (.ret)) (.skip))) (.seq (.region 15 (rgn Tryd.f8 15) false) (.seq (.region 16 (rgn Tryd.f8 16) false) (.ret))))))) none E [] H k) := by
  have l9 := tl (rgn Tryd.f8 9)
  conv at l9 => rhs; simp only [rgn, opsAt, codeOf, Tryd.f8, gS, gN, reduceIte, Nat.reduceEqDiff, tA]
  have l10 := tl (rgn Tryd.f8 10)
  conv at l10 => rhs; simp only [rgn, opsAt, codeOf, Tryd.f8, gS, gN, reduceIte, Nat.reduceEqDiff, tA]
  have l11 := tl (rgn Tryd.f8 11)
  conv at l11 => rhs; simp only [rgn, opsAt, codeOf, Tryd.f8, gS, gN, reduceIte, Nat.reduceEqDiff, tA]
  have l12 := tl (rgn Tryd.f8 12)
  conv at l12 => rhs; simp only [rgn, opsAt, codeOf, Tryd.f8, gS, gN, reduceIte, Nat.reduceEqDiff, tA]
  generalize hC : ((.seq (.seq (.region 13 (rgn Tryd.f8 13) false) (.cond (.tmp 149) (.seq (.region 14 (rgn Tryd.f8 14) false) (.ret)) (.skip))) (.seq (.region 15 (rgn Tryd.f8 15) false) (.seq (.region 16 (rgn Tryd.f8 16) false) (.ret)))) : Code) = C13
  by_cases big : 100000 < w.length
  · have g : decide ((w.length : Int) > 100000) = true := decide_eq_true (by omega)
    have l0 : legalI w = false := by unfold legalI; rw [decide_eq_false (show ¬ w.length ≤ 32 by omega), Bool.and_false]; rfl
    obtain ⟨H1, hl, x1⟩ := call_legal (N := N) (hk := hk) (d := d + 1) (s := w) K (hG.trans hE) hsm (by omega)
    rw [l0] at hl
    have hl : CG N hk (d + 8) 12 #[.string ⟨⟨w⟩⟩] H = some (.ret (.bool false), H1) := hl
    have kn : CG N hk (d + 8) 10 #[] H1 = some (.ret (.bool true), H1) := callG_hook (hkn H1 ((hG.trans hE).trans x1))
    simp (decide := true) only [↓execG_seq, ↓g_region, ↓execG_ret, ↓g_if, thenE_norm, thenE_ret, ↓r_nil, ↓r_cons, ↓o_move, ↓o_assign, ↓o_pickt, ↓o_binOp, ↓o_unOp, ↓o_builtin, ↓o_callf, nextE_app, putK_app, putG_bool, normK_app, evalE_tmp, evalE_const, upd_some, bindO_ok, reduceIte, map_one, map_nil, ↓reg_lit l9, ↓reg_lit l10, ↓r_yes _ 3 true 98 _ gd8_10_3, e2, len_str, binA_gtr, g, callK_fn Tryd.func12 rfl rfl hl, not_f, callK_fn Tryd.func10 rfl rfl kn]
    exact hx _ _ (by simp (decide := true) only [upd_some, reduceIte]) (hE.trans x1)
  have g : decide ((w.length : Int) > 100000) = false := decide_eq_false (by omega)
  have hcv := conv_bytes H (w := w) (by omega)
  have x1 : Ext H (H.alloc 1 (w.map f8)) := Ext.alloc hE.fresh 1 _
  obtain ⟨H2, x2, v, e, q, ht, hr⟩ := tokens_any (N := N) (hk := hk) (d := d + 3) (c := w.length) K ((hG.trans hE).trans x1) (laid_row (by omega)) (by omega) (by omega) (Nat.le_refl _)
  have ht : CG N hk (d + 8) 9 #[.slice (some ⟨H.next, 0, none⟩) w.length w.length] (H.alloc 1 (w.map f8)) = some (.ret (.tuple #[v, .int .i64 e, .int .i64 q]), H2) := ht
  have xe := (hE.trans x1).trans x2
  have z00 : ((0 : Int) == 0) = true := rfl
  rcases hr with ⟨hno, row, rfl, rfl⟩ | ⟨x, hsome, rfl, rfl, rfl⟩
  · by_cases h1 : (toksI w (w.length + 1) 0).1.length = 1
    · obtain ⟨tk, htk⟩ := List.length_eq_one_iff.mp h1
      have hT : toksI w (w.length + 1) 0 = ([tk], none) := Prod.ext htk hno
      rw [htk] at row
      obtain ⟨qq, rfl, hq⟩ := (One.of row).here
      have lf := one_from hq
      have lo := one_to hq
      have z1 : (((1 : Nat) : Int) == 1) = true := rfl
      have z11 : ((1 : Int) == 1) = true := rfl
      by_cases h0 : tk.from_ = 0
      · have zf : ((tk.from_ : Int) == 0) = true := by rw [h0]; rfl
        by_cases hl : tk.to_ = w.length
        · have zt : ((tk.to_ : Int) == (w.length : Int)) = true := by rw [hl]; simp
          simp (decide := true) only [↓execG_seq, ↓g_region, ↓execG_skip, ↓g_else, thenE_norm, ↓r_nil, ↓r_cons, ↓o_move, ↓o_assign, ↓o_pickt, ↓o_load, ↓o_binOp, ↓o_convert, ↓o_fieldAddr, ↓o_indexAddr, ↓o_extract, ↓o_builtin, ↓o_callf, nextE_app, putK_app, putO_app, putG_bool, normK_app, evalE_tmp, evalE_const, upd_some, bindO_ok, bindV_ok, reduceIte, map_one, ↓reg_lit l9, ↓reg_lit l11, ↓reg_lit l12, ↓r_yes _ 2 true 110 _ gd8_12_2, ↓r_yes _ 7 true 115 _ gd8_12_7, ↓r_yes _ 14 true 122 _ gd8_12_14, e2, len_str, binA_gtr, g, hcv, callK_fn Tryd.func9 rfl rfl ht, ext0, ext1, ext2, binA_eql, len_toks, one_ix, tf3, tf4, lf, lo, z00, z1, zf, zt]
          rw [← hC]
          exact back13 (W := true) K hkn hG xe hsm (by omega) (by simp (decide := true) only [upd_some, reduceIte, e2]) (by simp (decide := true) only [upd_some, reduceIte]) (by simp (decide := true) only [upd_some, reduceIte]) (.inr ⟨rfl, tk, One.of row, alone_is hT h0 hl⟩) hx
        · have zt : ((tk.to_ : Int) == (w.length : Int)) = false := by rw [Bool.eq_false_iff]; intro c; rw [beq_iff_eq] at c; omega
          have hn := alone_not (w := w) fun tk' h a b => by
            rw [hT] at h
            have := congrArg Prod.fst h
            simp only [List.cons.injEq] at this
            rw [← this.1] at b
            exact hl b
          simp (decide := true) only [↓execG_seq, ↓g_region, ↓execG_skip, ↓g_else, thenE_norm, ↓r_nil, ↓r_cons, ↓o_move, ↓o_assign, ↓o_pickt, ↓o_load, ↓o_binOp, ↓o_convert, ↓o_fieldAddr, ↓o_indexAddr, ↓o_extract, ↓o_builtin, ↓o_callf, nextE_app, putK_app, putO_app, putG_bool, normK_app, evalE_tmp, evalE_const, upd_some, bindO_ok, bindV_ok, reduceIte, map_one, ↓reg_lit l9, ↓reg_lit l11, ↓reg_lit l12, ↓r_yes _ 2 true 110 _ gd8_12_2, ↓r_yes _ 7 true 115 _ gd8_12_7, ↓r_yes _ 14 true 122 _ gd8_12_14, e2, len_str, binA_gtr, g, hcv, callK_fn Tryd.func9 rfl rfl ht, ext0, ext1, ext2, binA_eql, len_toks, one_ix, tf3, tf4, lf, lo, z00, z1, zf, zt]
          rw [← hC]
          exact back13 (W := false) (v := .slice (some ⟨qq, 0, none⟩) 1 1) K hkn hG xe hsm (by omega) (by simp (decide := true) only [upd_some, reduceIte, e2]) (by simp (decide := true) only [upd_some, reduceIte]) (by simp (decide := true) only [upd_some, reduceIte]) (.inl ⟨rfl, hn⟩) hx
      · have zf : ((tk.from_ : Int) == 0) = false := by rw [Bool.eq_false_iff]; intro c; rw [beq_iff_eq] at c; omega
        have hn := alone_not (w := w) fun tk' h a b => by
          rw [hT] at h
          have := congrArg Prod.fst h
          simp only [List.cons.injEq] at this
          rw [← this.1] at a
          exact h0 a
        simp (decide := true) only [↓execG_seq, ↓g_region, ↓execG_skip, ↓g_else, thenE_norm, ↓r_nil, ↓r_cons, ↓o_move, ↓o_assign, ↓o_pickt, ↓o_pickf, ↓o_load, ↓o_binOp, ↓o_convert, ↓o_fieldAddr, ↓o_indexAddr, ↓o_extract, ↓o_builtin, ↓o_callf, nextE_app, putK_app, putO_app, putG_bool, normK_app, evalE_tmp, evalE_const, upd_some, bindO_ok, bindV_ok, reduceIte, map_one, Bool.not_true, ↓reg_lit l9, ↓reg_lit l11, ↓reg_lit l12, ↓r_yes _ 2 true 110 _ gd8_12_2, ↓r_yes _ 7 true 115 _ gd8_12_7, ↓r_no _ 14 true 122 _ gd8_12_14, e2, len_str, binA_gtr, g, hcv, callK_fn Tryd.func9 rfl rfl ht, ext0, ext1, ext2, binA_eql, len_toks, one_ix, tf3, lf, z00, z1, zf]
        rw [← hC]
        exact back13 (W := false) (v := .slice (some ⟨qq, 0, none⟩) 1 1) K hkn hG xe hsm (by omega) (by simp (decide := true) only [upd_some, reduceIte, e2]) (by simp (decide := true) only [upd_some, reduceIte]) (by simp (decide := true) only [upd_some, reduceIte]) (.inl ⟨rfl, hn⟩) hx
    · have hn := alone_not (w := w) fun tk' h _ _ => h1 (by rw [h]; rfl)
      obtain ⟨a0, ev⟩ := row.len
      have z1 : (((toksI w (w.length + 1) 0).1.length : Int) == 1) = false := by rw [Bool.eq_false_iff]; intro c; rw [beq_iff_eq] at c; omega
      rw [ev] at ht
      simp (decide := true) only [↓execG_seq, ↓g_region, ↓execG_skip, ↓g_else, thenE_norm, ↓r_nil, ↓r_cons, ↓o_move, ↓o_assign, ↓o_pickt, ↓o_pickf, ↓o_binOp, ↓o_convert, ↓o_extract, ↓o_builtin, ↓o_callf, nextE_app, putK_app, putO_app, putG_bool, normK_app, evalE_tmp, evalE_const, upd_some, bindO_ok, bindV_ok, reduceIte, map_one, Bool.not_true, ↓reg_lit l9, ↓reg_lit l11, ↓reg_lit l12, ↓r_yes _ 2 true 110 _ gd8_12_2, ↓r_no _ 7 true 115 _ gd8_12_7, ↓r_no _ 14 true 122 _ gd8_12_14, e2, len_str, binA_gtr, g, hcv, callK_fn Tryd.func9 rfl rfl ht, ext0, ext1, ext2, binA_eql, len_toks, z00, z1]
      rw [← hC]
      exact back13 (W := false) (v := .slice a0 (toksI w (w.length + 1) 0).1.length (toksI w (w.length + 1) 0).1.length) K hkn hG xe hsm (by omega) (by simp (decide := true) only [upd_some, reduceIte, e2]) (by simp (decide := true) only [upd_some, reduceIte]) (by simp (decide := true) only [upd_some, reduceIte]) (.inl ⟨rfl, hn⟩) hx
  · have hn := alone_not (w := w) fun tk' h _ _ => by rw [h] at hsome; cases hsome
    have z60 : ((60 : Int) == 0) = false := rfl
    simp (decide := true) only [↓execG_seq, ↓g_region, ↓execG_skip, ↓g_else, thenE_norm, ↓r_nil, ↓r_cons, ↓o_move, ↓o_assign, ↓o_pickf, ↓o_binOp, ↓o_convert, ↓o_extract, ↓o_builtin, ↓o_callf, nextE_app, putK_app, putO_app, putG_bool, normK_app, evalE_tmp, evalE_const, upd_some, bindO_ok, bindV_ok, reduceIte, map_one, Bool.not_true, ↓reg_lit l9, ↓reg_lit l11, ↓reg_lit l12, ↓r_no _ 2 true 110 _ gd8_12_2, ↓r_no _ 7 true 115 _ gd8_12_7, ↓r_no _ 14 true 122 _ gd8_12_14, e2, len_str, binA_gtr, g, hcv, callK_fn Tryd.func9 rfl rfl ht, ext0, ext1, ext2, binA_eql, z60]
    rw [← hC]
    exact back13 (W := false) (v := .slice none 0 0) K hkn hG xe hsm (by omega) (by simp (decide := true) only [upd_some, reduceIte, e2]) (by simp (decide := true) only [upd_some, reduceIte]) (by simp (decide := true) only [upd_some, reduceIte]) (.inl ⟨rfl, hn⟩) hx
set_option maxRecDepth 100000 in
set_option maxHeartbeats 2000000 in
theorem back4 (K : HkOk hk) (B : HkB hk) (hkn : ∀ H, Ext GE H → hk 10 #[] H = some (some (.ret (.bool true), H))) (hG : Ext GE H0) (hE : Ext H0 H) (hsm : w.length < 9223372036854775807) (hN : 3000000 < N) (e1 : E 1 = .string ⟨⟨t⟩⟩) (e2 : E 2 = .string ⟨⟨w⟩⟩) (hx : ∀ E' H', E' 6 = .bool true → Ext H0 H' → Q (k .ret E' [] H')) : Q (execG PP XX (CG N hk (d + 8)) N noPr (.seq (.seq (.region 4 (rgn Tryd.f8 4) false) (.cond (.tmp 44) (.seq (.region 5 (rgn Tryd.f8 5) false) (.seq (.region 6 (rgn Tryd.f8 6) false) (.seq (.region 7 (rgn Tryd.f8 7) false) (.cond (.tmp 91) (.seq (.region 8 (rgn Tryd.f8 8) false) (.ret)) (.skip))))) (.skip))) (.seq (.seq (.region 9 (rgn Tryd.f8 9) false) (.cond (.tmp 94) (.seq (.region 10 (rgn Tryd.f8 10) false) (.ret)) (.skip))) (.seq (.region 11 (rgn Tryd.f8 11) false) (.seq (.region 12 (rgn Tryd.f8 12) false) (.seq (.seq (.region 13 (rgn Tryd.f8 13) false) (.cond (.tmp 149) (.seq (.region 14 (rgn Tryd.f8 14) false) (.ret)) (.skip))) (.seq (.region 15 (rgn Tryd.f8 15) false) (.seq (.region 16 (rgn Tryd.f8 16) false) (.ret)))))))) none E [] H k) := by
  have l4 := tl (rgn Tryd.f8 4)
  conv at l4 => rhs; simp only [rgn, opsAt, codeOf, Tryd.f8, gS, gN, reduceIte, Nat.reduceEqDiff, tA]
  have l5 := tl (rgn Tryd.f8 5)
  conv at l5 => rhs; simp only [rgn, opsAt, codeOf, Tryd.f8, gS, gN, reduceIte, Nat.reduceEqDiff, tA]
  have l6 := tl (rgn Tryd.f8 6)
  conv at l6 => rhs; simp only [rgn, opsAt, codeOf, Tryd.f8, gS, gN, reduceIte, Nat.reduceEqDiff, tA]
  have l7 := tl (rgn Tryd.f8 7)
  conv at l7 => rhs; simp only [rgn, opsAt, codeOf, Tryd.f8, gS, gN, reduceIte, Nat.reduceEqDiff, tA]
  generalize hC : ((.seq (.seq (.region 9 (rgn Tryd.f8 9) false) (.cond (.tmp 94) (.seq (.region 10 (rgn Tryd.f8 10) false) (.ret)) (.skip))) (.seq (.region 11 (rgn Tryd.f8 11) false) (.seq (.region 12 (rgn Tryd.f8 12) false) (.seq (.seq (.region 13 (rgn Tryd.f8 13) false) (.cond (.tmp 149) (.seq (.region 14 (rgn Tryd.f8 14) false) (.ret)) (.skip))) (.seq (.region 15 (rgn Tryd.f8 15) false) (.seq (.region 16 (rgn Tryd.f8 16) false) (.ret))))))) : Code) = C9
  by_cases small : t.length < 200000
  · have g : decide ((t.length : Int) < 200000) = true := decide_eq_true (by omega)
    obtain ⟨v, H1, x1, br, hq⟩ := call_quote (N := N) (hk := hk) (d := d + 3) (t := t) K B (hG.trans hE) (by omega) (by omega)
    have hq : CG N hk (d + 8) 21 #[.string ⟨⟨t⟩⟩] H = some (.ret v, H1) := hq
    have hbl := body_len t
    have hql : (quoteB t).length = (bodyB t).length + 2 := by simp [quoteB]
    obtain ⟨b, rfl, hb⟩ := br.brow (by omega)
    have hT := quote_lex t
    obtain ⟨H2, x2, v2, e, q, ht, hr⟩ := tokens_any (N := N) (hk := hk) (d := d + 3) (c := (quoteB t).length) K ((hG.trans hE).trans x1) hb (by omega) (by omega) (Nat.le_refl _)
    have ht : CG N hk (d + 8) 9 #[.slice b (quoteB t).length (quoteB t).length] H1 = some (.ret (.tuple #[v2, .int .i64 e, .int .i64 q]), H2) := ht
    have xe := (hE.trans x1).trans x2
    rcases hr with ⟨_, row, rfl, rfl⟩ | ⟨x, hsome, _⟩
    · rw [hT] at row
      obtain ⟨qq, rfl, hqq⟩ := (One.of row).here
      have lk := one_kind hqq
      have lt := one_text hqq
      have lo := one_to hqq
      have z0 : ((0 : Int) != 0) = false := rfl
      have z1 : (((1 : Nat) : Int) != 1) = false := rfl
      have z11 : ((1 : Int) != 1) = false := rfl
      have z3 : ((3 : Int) != 3) = false := rfl
      have zl : (((quoteB t).length : Int) != ((quoteB t).length : Int)) = false := by simp
      have w2 : IntKind.i64.wrap ((t.length : Int) + 2) = ((t.length + 2 : Nat) : Int) := by rw [wrap_i64 (by omega) (by omega)]; omega
      have gl : decide (((quoteB t).length : Int) < ((t.length + 2 : Nat) : Int)) = false := decide_eq_false (by omega)
      simp (decide := true) only [↓execG_seq, ↓g_region, ↓execG_skip, ↓g_if, ↓g_else, thenE_norm, ↓r_nil, ↓r_cons, ↓o_move, ↓o_assign, ↓o_pickf, ↓o_load, ↓o_binOp, ↓o_fieldAddr, ↓o_indexAddr, ↓o_extract, ↓o_builtin, ↓o_callf, nextE_app, putK_app, putO_app, putG_bool, putG_int, normK_app, evalE_tmp, evalE_const, upd_some, bindO_ok, bindV_ok, reduceIte, map_one, ↓reg_lit l4, ↓reg_lit l5, ↓reg_lit l6, ↓reg_lit l7, ↓r_yes _ 2 false 55 _ gd8_7_2, ↓r_yes _ 7 false 60 _ gd8_7_7, ↓r_yes _ 14 false 67 _ gd8_7_14, ↓r_yes _ 22 false 75 _ gd8_7_22, ↓r_yes _ 31 false 84 _ gd8_7_31, e1, len_str, binA_lss, g, callK_fn Tryd.func21 rfl rfl hq, callK_fn Tryd.func9 rfl rfl ht, ext0, ext1, ext2, binA_neq, len_toks, len_slice (ts := #[26]) rfl und34, one_ix, tf0, tf2, tf4, lk, lt, lo, z0, z1, z3, zl, binA_neqs, binA_add, w2, gl]
      rw [← hC]
      exact back9 K hkn hG xe hsm (by omega) (by simp (decide := true) only [upd_some, reduceIte, e2]) hx
    · rw [hT] at hsome; cases hsome
  · have g : decide ((t.length : Int) < 200000) = false := decide_eq_false (by omega)
    simp (decide := true) only [↓execG_seq, ↓g_region, ↓execG_skip, ↓g_else, thenE_norm, ↓r_nil, ↓r_cons, ↓o_move, ↓o_binOp, ↓o_builtin, nextE_app, putK_app, putG_bool, normK_app, evalE_tmp, evalE_const, upd_some, bindO_ok, reduceIte, map_one, ↓reg_lit l4, e1, len_str, binA_lss, g]
    rw [← hC]
    exact back9 K hkn hG hE hsm (by omega) (by simp (decide := true) only [upd_some, reduceIte, e2]) hx
end
set_option maxRecDepth 100000 in
set_option maxHeartbeats 2000000 in
theorem call_back {N : Nat} {hk : Hook} {d : Nat} {H : Heap} {n : Nat} {t w : List UInt8} (K : HkOk hk) (B : HkB hk) (hkn : ∀ H, Ext GE H → hk 10 #[] H = some (some (.ret (.bool true), H))) (hG : Ext GE H) (hn : n < 18446744073709551616) (hsm : w.length < 9223372036854775807) (hN : 3000000 < N) :
    ∃ H', Ext H H' ∧ CG N hk (d + 9) 8 #[.int .u64 (n : Int), .string ⟨⟨t⟩⟩, .string ⟨⟨w⟩⟩] H = some (.ret (.bool true), H') := by
  have main : ∃ R0 : R, CG N hk (d + 9) 8 #[.int .u64 (n : Int), .string ⟨⟨t⟩⟩, .string ⟨⟨w⟩⟩] H = R0 ∧ ∃ H', Ext H H' ∧ R0 = some (.ret (.bool true), H') := by
    refine ⟨_, callG_fn (K.nil _ _ _ rfl) Tryd.func8 (c := codeOf Tryd.f8) rfl rfl rfl (pr := noPr) rfl, ?_⟩
    rw [code8]
    generalize hF : finE PP Tryd.f8 = F
    have hlen : (digV n).length = (Lib.decDigits n).length := Lib.byteCells_length _
    have hnum : CG N hk (d + 8) 19 #[.int .u64 (n : Int)] H = _ := callG_hook (B.num n H hn hG)
    rw [hlen] at hnum
    have hdm : digV n = (Lib.decDigits n).map f8 := rfl
    rw [hdm] at hnum
    have hsz : (Lib.decDigits n).length ≤ 20 := by
      rw [Lib.decDigits_length]; exact Lib.nDigits_le20 n hn
    have x1 : Ext H (H.alloc 1 ((Lib.decDigits n).map f8)) := Ext.alloc hG.fresh 1 _
    have hT := num_lex (u := n) hn
    obtain ⟨H2, x2, v2, e, q, ht, hr⟩ := tokens_any (N := N) (hk := hk) (d := d + 3) (c := (Lib.decDigits n).length) K (hG.trans x1) (laid_row (w := Lib.decDigits n) (by omega)) (by omega) (by omega) (Nat.le_refl _)
    have ht : CG N hk (d + 8) 9 #[.slice (some ⟨H.next, 0, none⟩) (Lib.decDigits n).length (Lib.decDigits n).length] (H.alloc 1 ((Lib.decDigits n).map f8)) = some (.ret (.tuple #[v2, .int .i64 e, .int .i64 q]), H2) := ht
    rcases hr with ⟨_, row, rfl, rfl⟩ | ⟨x, hsome, _⟩
    · rw [hT] at row
      obtain ⟨qq, rfl, hqq⟩ := (One.of row).here
      have lk := one_kind hqq
      have ln := one_num hqq
      have z0 : ((0 : Int) != 0) = false := rfl
      have z1 : (((1 : Nat) : Int) != 1) = false := rfl
      have z11 : ((1 : Int) != 1) = false := rfl
      have z2 : ((2 : Int) != 2) = false := rfl
      have zn : ((n : Int) != (n : Int)) = false := by simp
      have l0 := tl (rgn Tryd.f8 0)
      conv at l0 => rhs; simp only [rgn, opsAt, codeOf, Tryd.f8, gS, gN, reduceIte, Nat.reduceEqDiff, tA]
      have l1 := tl (rgn Tryd.f8 1)
      conv at l1 => rhs; simp only [rgn, opsAt, codeOf, Tryd.f8, gS, gN, reduceIte, Nat.reduceEqDiff, tA]
      have l2 := tl (rgn Tryd.f8 2)
      conv at l2 => rhs; simp only [rgn, opsAt, codeOf, Tryd.f8, gS, gN, reduceIte, Nat.reduceEqDiff, tA]
      generalize hC : ((.seq (.seq (.region 4 (rgn Tryd.f8 4) false) (.cond (.tmp 44) (.seq (.region 5 (rgn Tryd.f8 5) false) (.seq (.region 6 (rgn Tryd.f8 6) false) (.seq (.region 7 (rgn Tryd.f8 7) false) (.cond (.tmp 91) (.seq (.region 8 (rgn Tryd.f8 8) false) (.ret)) (.skip))))) (.skip))) (.seq (.seq (.region 9 (rgn Tryd.f8 9) false) (.cond (.tmp 94) (.seq (.region 10 (rgn Tryd.f8 10) false) (.ret)) (.skip))) (.seq (.region 11 (rgn Tryd.f8 11) false) (.seq (.region 12 (rgn Tryd.f8 12) false) (.seq (.seq (.region 13 (rgn Tryd.f8 13) false) (.cond (.tmp 149) (.seq (.region 14 (rgn Tryd.f8 14) false) (.ret)) (.skip))) (.seq (.region 15 (rgn Tryd.f8 15) false) (.seq (.region 16 (rgn Tryd.f8 16) false) (.ret)))))))) : Code) = C4
      simp (decide := true) only [↓execG_seq, ↓g_region, ↓execG_skip, ↓g_else, thenE_norm, ↓r_nil, ↓r_cons, ↓o_move, ↓o_assign, ↓o_pickf, ↓o_load, ↓o_binOp, ↓o_fieldAddr, ↓o_indexAddr, ↓o_extract, ↓o_builtin, ↓o_callf, nextE_app, putK_app, putO_app, putG_bool, normK_app, evalE_tmp, evalE_const, upd_some, bindO_ok, bindV_ok, reduceIte, map_one, startE_0, ↓reg_lit l0, ↓reg_lit l1, ↓reg_lit l2, ↓r_yes _ 2 false 22 _ gd8_2_2, ↓r_yes _ 7 false 27 _ gd8_2_7, ↓r_yes _ 14 false 34 _ gd8_2_14, callK_fn Tryd.func19 rfl rfl hnum, callK_fn Tryd.func9 rfl rfl ht, ext0, ext1, ext2, binA_neq, len_toks, one_ix, tf0, tf1, lk, ln, z0, z1, z2, zn]
      rw [← hC]
      refine back4 (t := t) (w := w) (H0 := H) (Q := fun r => ∃ H', Ext H H' ∧ r = some (.ret (.bool true), H')) K B hkn hG (x1.trans x2) hsm hN ?_ ?_ (fun E' H' e6 xe => ⟨H', xe, ?_⟩)
      · simp (decide := true) only [upd_some, reduceIte, startE_1]
      · simp (decide := true) only [upd_some, reduceIte, startE_2]
      · rw [← hF, finE_ret (l := [.bool true]) (by simp (decide := true) [Tryd.f8, resE, e6])]
        rfl
    · rw [hT] at hsome; cases hsome
  obtain ⟨R0, m1, H', m2, m3⟩ := main
  exact ⟨H', m2, m1.trans m3⟩
end Go.Am
