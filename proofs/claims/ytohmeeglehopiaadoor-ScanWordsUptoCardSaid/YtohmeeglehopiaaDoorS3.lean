/- A lexeme: by its first byte. -/
import Derived.Test.YtohmeeglehopiaaDoorS2
open Go.Proofs
namespace Go.Am
end Go.Am
/- All lexemes of a text. -/
open Go.Proofs
namespace Go.Am

/-- A lexeme. -/
structure Tk where
  kind : Int
  n : Int
  w : ByteArray
  from_ : Nat
  to_ : Nat
def Tk.cells (k : Tk) : List Value := [.int .i64 k.kind, .int .u64 k.n, .string k.w, .int .i64 (k.from_ : Int), .int .i64 (k.to_ : Int)]
/-- The row of lexemes so far. -/
def TkRow (H : Heap) (v : Value) (ts : List Tk) (lo : Nat) : Prop :=
  (ts = [] ∧ v = .slice none 0 0) ∨ (ts ≠ [] ∧ ∃ q, v = .slice (some ⟨q, 0, none⟩) ts.length ts.length ∧ H.get q = some ⟨ts.flatMap Tk.cells, true, 5, none⟩ ∧ lo ≤ q)
theorem Lexd.trans {A B C : Heap} {b t : Nat} {x y x' y' : Blk} (h : Lexd A B b x t y) (k : Lexd B C b x' t y') : Lexd A C b x' t y' :=
  ⟨Nat.le_trans h.next k.next, k.one, k.two, fun z w h1 h2 hz => k.there z w h1 h2 (h.there z w h1 h2 hz), k.fresh⟩
/-- The state of the rounds. -/
structure TS (H0 H : Heap) (b : Nat) (a : Option Addr) (n c i : Nat) (v : Value) (ts : List Tk) : Prop where
  ext : Ext H0 H
  here : H.get b = some (cur a n c i)
  lb : H0.next ≤ b
  bl : b < H.next
  out : TkRow H v ts (b + 1)
def LexOk (N : Nat) (hk : Hook) (d : Nat) (a : Option Addr) (c : Nat) (s : List UInt8) (tk : Tk) : Prop :=
  ∀ H b t, Ctx H a c s b → H.get b = some (cur a s.length c tk.from_) → H.get t = some (tok 0 0 .empty (tk.from_ : Int) 0) → t ≠ b → t < H.next → GE.next ≤ t → (∀ q, a = some q → q.block ≠ t) →
    ∃ H', Lexd H H' b (cur a s.length c tk.to_) t (tok tk.kind tk.n tk.w (tk.from_ : Int) 0) ∧ CG N hk d 25 #[.pointer (some ⟨b, 0, none⟩), .pointer (some ⟨t, 0, none⟩)] H = some (.ret (.bool true), H')
def LexBad (N : Nat) (hk : Hook) (d : Nat) (a : Option Addr) (c : Nat) (s : List UInt8) (i e : Nat) : Prop :=
  ∀ H b t, Ctx H a c s b → H.get b = some (cur a s.length c i) → H.get t = some (tok 0 0 .empty (i : Int) 0) → t ≠ b → t < H.next → GE.next ≤ t → (∀ q, a = some q → q.block ≠ t) →
    ∃ H' y, Lexd H H' b (cur a s.length c e) t y ∧ CG N hk d 25 #[.pointer (some ⟨b, 0, none⟩), .pointer (some ⟨t, 0, none⟩)] H = some (.ret (.bool false), H')
/-- The lexemes from a place on; or the first wrong byte. -/
inductive TRun (s : List UInt8) (ok : Tk → Prop) (bad : Nat → Nat → Prop) : Nat → List Tk → Option Nat → Prop
  | stop (i : Nat) (h : ¬ skipTo s (s.length - i) i < s.length) : TRun s ok bad i [] none
  | wrong (i e : Nat) (h : skipTo s (s.length - i) i < s.length) (hb : bad (skipTo s (s.length - i) i) e) : TRun s ok bad i [] (some e)
  | step (i : Nat) (tk : Tk) (l : List Tk) (r : Option Nat) (h : skipTo s (s.length - i) i < s.length) (hf : tk.from_ = skipTo s (s.length - i) i) (ht : tk.to_ ≤ s.length) (hl : ok tk) (hr : TRun s ok bad tk.to_ l r) : TRun s ok bad i (tk :: l) r
theorem not_f : unA PP .not (.bool false) = some (.bool true) := by kernel_rfl
theorem not_t : unA PP .not (.bool true) = some (.bool false) := by kernel_rfl
section
variable {N : Nat} {hk : Hook} {d : Nat} {H0 : Heap} {a : Option Addr} {c : Nat} {s : List UInt8} {b : Nat} {Q : R → Prop} {k : KOE}
end
end Go.Am
/- Tokens. -/
open Go.Proofs
namespace Go.Am
section
variable {N : Nat} {hk : Hook} {d : Nat} {H0 : Heap} {a : Option Addr} {c : Nat} {s : List UInt8}
end
end Go.Am
/- Reserved, for all words. -/
open Go.Proofs
namespace Go.Am

theorem pureRun_bind {α β : Type} (P : Program) (s : Sem α) (f : α → Sem β) : pureRun P (s >>= f) = (pureRun P s).bind fun a => pureRun P (f a) := by
  induction s with
  | pure x => rfl
  | program k ih => exact ih P
  | mark m k ih => exact ih
  | _ => rfl
theorem pureRun_pure {α : Type} (P : Program) (a : α) : pureRun P (pure a) = some a := rfl
theorem binA_eqs (o1 o2 : Operand) (a b : List UInt8) : binA PP .eql 9 o1 o2 (.string ⟨⟨a⟩⟩) (.string ⟨⟨b⟩⟩) = some (.bool (decide (a = b))) := by
  unfold binA
  rw [if_pos (by simp [ground, atomic])]
  simp only [eqGuard, binOp, pureRun_bind, Op.stringOp]
  simp [pureRun_pure]
  rw [Bool.eq_iff_iff]; simp

/-- The place of a word in a list; -1: it is not in it. -/
def findI (w : List UInt8) : List (List UInt8) → Nat → Int
  | [], _ => -1
  | x :: r, i => if w = x then (i : Int) else findI w r (i + 1)
def resI (w : List UInt8) : Int := if findI w wordsL 0 ≥ 0 then 30 + findI w wordsL 0 else 0
theorem wordsL_len : wordsL.length = 50 := rfl
theorem findI_bound (w : List UInt8) : ∀ (l : List (List UInt8)) (i : Nat), -1 ≤ findI w l i ∧ findI w l i < (i + l.length : Nat)
  | [], i => by simp [findI]; omega
  | x :: r, i => by
    unfold findI
    have := findI_bound w r (i + 1)
    split
    · simp; omega
    · simp only [List.length_cons]; omega
theorem und39 : PP.underlying 39 = some (.slice 9) := Tryd.underlying39
theorem sizeS : sizeT PP 9 = some 1 := by decide +kernel
theorem aggS : aggT PP 9 = some false := by decide +kernel
theorem index_words {q i : Nat} (h : i < 50) : indexAddrA PP 39 (.slice (some ⟨q, 0, none⟩) 50 50) (.int .i64 (i : Int)) = some (.pointer (some ⟨q, i, none⟩)) := by
  have e : (⟨q, 0, none⟩ : Addr).add i = ⟨q, i, none⟩ := by rw [Addr.add_lit, Nat.zero_add]
  simp [indexAddrA, sizeS, at_, e]
  omega
theorem load_word {H : Heap} {q i : Nat} (h : H.get q = some ⟨wordsV, true, 1, none⟩) (hi : i < 50) : loadA PP 9 (.pointer (some ⟨q, i, none⟩)) H = some (.string ⟨⟨wordsL.getD i []⟩⟩, H) := by
  have hl : i < wordsL.length := by rw [wordsL_len]; exact hi
  simp only [loadA, aggS]
  simp only [ld1, look, h]
  simp [wordsV, strV, List.getD, hl]
theorem code35 : codeOf Tryd.f35 = .seq (.region 0 (rgn Tryd.f35 0) false) (.seq (.seq (.region 1 (rgn Tryd.f35 1) false) (.block 0 (.loop (.seq (.region 2 (rgn Tryd.f35 2) false) (.seq (.cond (.tmp 9) (.skip) (.exit 0)) (.seq (.block 1 (.seq (.region 3 (rgn Tryd.f35 3) false) (.seq (.region 4 (rgn Tryd.f35 4) false) (.cond (.tmp 16) (.seq (.region 5 (rgn Tryd.f35 5) false) (.ret)) (.skip))))) (.region 6 (rgn Tryd.f35 6) false))))))) (.seq (.region 7 (rgn Tryd.f35 7) false) (.ret))) := by kernel_rfl
theorem code16 : codeOf Tryd.f16 = .seq (.region 0 (rgn Tryd.f16 0) false) (.seq (.seq (.region 1 (rgn Tryd.f16 1) false) (.seq (.region 2 (rgn Tryd.f16 2) false) (.cond (.tmp 8) (.seq (.region 3 (rgn Tryd.f16 3) false) (.ret)) (.skip)))) (.seq (.region 4 (rgn Tryd.f16 4) false) (.ret))) := by kernel_rfl

section
variable {K : Kf} {N : Nat} {H : Heap} {q : Nat} {w : List UInt8} {Q : R → Prop} {k : KOE}
theorem x_then (hq : H.get q = some ⟨wordsV, true, 1, none⟩) : ∀ (n i m : Nat) (_ : i + n = 50) (_ : n < m) {E : Env} (_ : E 0 = .slice (some ⟨q, 0, none⟩) 50 50) (_ : E 1 = .string ⟨⟨w⟩⟩) (_ : E 7 = .int .i64 50) (_ : E 8 = .int .i64 (i : Int))
    (_ : findI w (wordsL.drop i) i = -1 → ∀ E', Q (k (.exit 0) E' [] H)) (_ : findI w (wordsL.drop i) i ≥ 0 → ∀ E', E' 4 = .int .i64 (findI w (wordsL.drop i) i) → Q (k .ret E' [] H)), Q (loopE (execG PP XX K N noPr (.seq (.region 2 (rgn Tryd.f35 2) false) (.seq (.cond (.tmp 9) (.skip) (.exit 0)) (.seq (.block 1 (.seq (.region 3 (rgn Tryd.f35 3) false) (.seq (.region 4 (rgn Tryd.f35 4) false) (.cond (.tmp 16) (.seq (.region 5 (rgn Tryd.f35 5) false) (.ret)) (.skip))))) (.region 6 (rgn Tryd.f35 6) false)))) none) m E [] H k)
  | 0, i, m + 1, hn, hm, E, e0, e1, e7, e8, h1, h2 => by
    rw [loopE_succ]
    have hi : i = 50 := by omega
    subst hi
    have hlt : decide (((50 : Nat) : Int) < 50) = false := by decide
    have l2 := tl (rgn Tryd.f35 2)
    conv at l2 => rhs; simp only [rgn, opsAt, codeOf, Tryd.f35, gS, gN, reduceIte, Nat.reduceEqDiff, tA]
    simp (decide := true) only [↓execG_seq, ↓g_region, thenE_norm, ↓r_nil, ↓r_cons, ↓o_binOp, nextE_app, putG_bool, normK_app, evalE_tmp, bindO_ok, ↓reg_lit l2, e7, e8, binA_lss]
    exact h1 rfl _
  | n + 1, i, m + 1, hn, hm, E, e0, e1, e7, e8, h1, h2 => by
    rw [loopE_succ]
    have hi : i < 50 := by omega
    have hlt : decide ((i : Int) < 50) = true := decide_eq_true (by omega)
    have hix := index_words (q := q) hi
    have hld := load_word hq hi
    have hl : i < wordsL.length := by rw [wordsL_len]; exact hi
    have hd : wordsL.drop i = wordsL.getD i [] :: wordsL.drop (i + 1) := by
      rw [List.drop_eq_getElem_cons hl]; simp [List.getD, hl]
    have wr : IntKind.i64.wrap ((i : Int) + 1) = ((i + 1 : Nat) : Int) := by rw [wrap_i64 (by omega) (by omega)]; omega
    rw [hd] at h1 h2
    unfold findI at h1 h2
    have l2 := tl (rgn Tryd.f35 2)
    conv at l2 => rhs; simp only [rgn, opsAt, codeOf, Tryd.f35, gS, gN, reduceIte, Nat.reduceEqDiff, tA]
    have l3 := tl (rgn Tryd.f35 3)
    conv at l3 => rhs; simp only [rgn, opsAt, codeOf, Tryd.f35, gS, gN, reduceIte, Nat.reduceEqDiff, tA]
    have l4 := tl (rgn Tryd.f35 4)
    conv at l4 => rhs; simp only [rgn, opsAt, codeOf, Tryd.f35, gS, gN, reduceIte, Nat.reduceEqDiff, tA]
    have l5 := tl (rgn Tryd.f35 5)
    conv at l5 => rhs; simp only [rgn, opsAt, codeOf, Tryd.f35, gS, gN, reduceIte, Nat.reduceEqDiff, tA]
    have l6 := tl (rgn Tryd.f35 6)
    conv at l6 => rhs; simp only [rgn, opsAt, codeOf, Tryd.f35, gS, gN, reduceIte, Nat.reduceEqDiff, tA]
    by_cases hw : w = wordsL.getD i []
    · have he : decide (w = wordsL.getD i []) = true := decide_eq_true hw
      rw [if_pos hw] at h2
      simp (decide := true) only [↓execG_seq, ↓g_region, ↓execG_block, ↓execG_ret, ↓execG_skip, ↓g_if, thenE_norm, thenE_ret, leaveB_ret, ↓r_nil, ↓r_cons, ↓o_move, ↓o_assign, ↓o_load, ↓o_binOp, ↓o_indexAddr, nextE_app, putK_app, putO_app, putG_bool, normK_app, evalE_tmp, upd_some, bindO_ok, bindV_ok, reduceIte, ↓reg_lit l2, ↓reg_lit l3, ↓reg_lit l4, ↓reg_lit l5, e0, e1, e7, e8, binA_lss, hlt, hix, hld, binA_eqs, he]
      exact h2 (by omega) _ (by simp (decide := true) only [upd_some, reduceIte])
    · have he : decide (w = wordsL.getD i []) = false := decide_eq_false hw
      rw [if_neg hw] at h1 h2
      simp (decide := true) only [↓execG_seq, ↓g_region, ↓execG_block, ↓execG_skip, ↓g_if, ↓g_else, thenE_norm, leaveB_norm, ↓r_nil, ↓r_cons, ↓o_move, ↓o_assign, ↓o_load, ↓o_binOp, ↓o_indexAddr, nextE_app, putK_app, putO_app, putG_bool, putG_int, normK_app, evalE_tmp, evalE_const, upd_some, bindO_ok, bindV_ok, reduceIte, ↓reg_lit l2, ↓reg_lit l3, ↓reg_lit l4, ↓reg_lit l6, e0, e1, e7, e8, binA_lss, hlt, hix, hld, binA_eqs, he, binA_add, wr]
      exact x_then hq n (i + 1) m (by omega) (by omega) (by simp (decide := true) only [upd_some, reduceIte, e0]) (by simp (decide := true) only [upd_some, reduceIte, e1]) (by simp (decide := true) only [upd_some, reduceIte, e7]) (by simp (decide := true) only [upd_some, reduceIte]) h1 h2
end
theorem call_sidx {N : Nat} {hk : Hook} {d : Nat} {H : Heap} {q : Nat} (hq : H.get q = some ⟨wordsV, true, 1, none⟩) (w : List UInt8) (hN : 60 < N) (hh : ∀ f args H, okC f = true → hk f args H = none) :
    CG N hk (d + 1) 35 #[.slice (some ⟨q, 0, none⟩) 50 50, .string ⟨⟨w⟩⟩] H = some (.ret (.int .i64 (findI w wordsL 0)), H) := by
  have main : ∃ R0 : R, CG N hk (d + 1) 35 #[.slice (some ⟨q, 0, none⟩) 50 50, .string ⟨⟨w⟩⟩] H = R0 ∧ R0 = some (.ret (.int .i64 (findI w wordsL 0)), H) := by
    refine ⟨_, callG_fn (hh _ _ _ rfl) Tryd.func35 (c := codeOf Tryd.f35) rfl rfl rfl (pr := noPr) rfl, ?_⟩
    rw [code35]
    generalize hF : finE PP Tryd.f35 = F
    have l0 := tl (rgn Tryd.f35 0)
    conv at l0 => rhs; simp only [rgn, opsAt, codeOf, Tryd.f35, gS, gN, reduceIte, Nat.reduceEqDiff, tA]
    have l1 := tl (rgn Tryd.f35 1)
    conv at l1 => rhs; simp only [rgn, opsAt, codeOf, Tryd.f35, gS, gN, reduceIte, Nat.reduceEqDiff, tA]
    have l7 := tl (rgn Tryd.f35 7)
    conv at l7 => rhs; simp only [rgn, opsAt, codeOf, Tryd.f35, gS, gN, reduceIte, Nat.reduceEqDiff, tA]
    simp (decide := true) only [↓execG_seq, ↓g_region, ↓execG_block, thenE_norm, ↓r_nil, ↓r_cons, ↓o_move, ↓o_assign, ↓o_builtin, nextE_app, putK_app, normK_app, evalE_tmp, evalE_const, upd_some, reduceIte, map_one, startE_0, ↓reg_lit l0, ↓reg_lit l1, ↓execG_loop, len_slice (ts := #[39]) rfl und39]
    refine x_then (w := w) (Q := fun r => r = some (.ret (.int .i64 (findI w wordsL 0)), H)) hq 50 0 N rfl (by omega) ?_ ?_ ?_ ?_ (fun hf E' => ?_) (fun hf E' e4 => ?_)
    · simp (decide := true) only [upd_some, reduceIte, startE_0]
    · simp (decide := true) only [upd_some, reduceIte, startE_1]
    · simp (decide := true) only [upd_some, reduceIte]; rfl
    · simp (decide := true) only [upd_some, reduceIte]; rfl
    · rw [List.drop_zero] at hf
      simp (decide := true) only [↓execG_seq, ↓g_region, ↓execG_ret, thenE_norm, g_leave, ↓r_nil, ↓r_cons, ↓o_assign, nextE_app, normK_app, evalE_const, ↓reg_lit l7]
      rw [← hF, finE_ret (l := [.int .i64 (-1)]) (by simp (decide := true) [Tryd.f35, resE, upd_some]), hf]
      rfl
    · rw [List.drop_zero] at e4
      simp (decide := true) only [thenE_ret, leaveB_ret]
      rw [← hF, finE_ret (l := [.int .i64 (findI w wordsL 0)]) (by simp (decide := true) [Tryd.f35, resE, e4])]
      rfl
  obtain ⟨R0, m1, m2⟩ := main
  exact m1.trans m2
/-- The text of the reserved words, as it stands in the code. -/
noncomputable def litR : Value := match (rgn Tryd.f16 1).toList.head? with
  | some o => (match o.op with | Op.call c => (match c.args.toList with | .const v :: _ => v | _ => undef) | _ => undef)
  | none => undef
theorem litR_eq : litR = strV wordsB := by kernel_rfl
/-- What 'Reserved' tells, for all words. -/
theorem call_res {N : Nat} {hk : Hook} {d : Nat} {H : Heap} (hG : Ext GE H) (w : List UInt8) (hN : 60 < N) (hh : ∀ f args H, okC f = true → hk f args H = none)
    (hfld : ∀ H, Ext GE H → hk 36 #[strV wordsB] H = some (some (.ret (.slice (some ⟨H.next, 0, none⟩) 50 50), H.alloc 1 wordsV))) :
    ∃ H', Ext H H' ∧ CG N hk (d + 2) 16 #[.string ⟨⟨w⟩⟩] H = some (.ret (.int .i64 (resI w)), H') := by
  refine ⟨H.alloc 1 wordsV, .alloc hG.fresh _ _, ?_⟩
  have hq : (H.alloc 1 wordsV).get H.next = some ⟨wordsV, true, 1, none⟩ := by rw [Heap.get_alloc, if_pos rfl]
  have h36 : CG N hk (d + 1) 36 #[strV wordsB] H = some (.ret (.slice (some ⟨H.next, 0, none⟩) 50 50), H.alloc 1 wordsV) := callG_hook (hfld H hG)
  rw [← litR_eq] at h36
  simp only [litR, rgn, opsAt, codeOf, Tryd.f16, gS, reduceIte, Nat.reduceEqDiff, tA, List.head?_cons] at h36
  have h35 := call_sidx (N := N) (hk := hk) (d := d) hq w hN hh
  have hb := findI_bound w wordsL 0
  rw [wordsL_len] at hb
  refine (callG_fn (hh _ _ _ rfl) Tryd.func16 (c := codeOf Tryd.f16) rfl rfl rfl (pr := noPr) rfl).trans ?_
  rw [code16]
  generalize hF : finE PP Tryd.f16 = F
  have l0 := tl (rgn Tryd.f16 0)
  conv at l0 => rhs; simp only [rgn, opsAt, codeOf, Tryd.f16, gS, gN, reduceIte, Nat.reduceEqDiff, tA]
  have l1 := tl (rgn Tryd.f16 1)
  conv at l1 => rhs; simp only [rgn, opsAt, codeOf, Tryd.f16, gS, gN, reduceIte, Nat.reduceEqDiff, tA]
  have l2 := tl (rgn Tryd.f16 2)
  conv at l2 => rhs; simp only [rgn, opsAt, codeOf, Tryd.f16, gS, gN, reduceIte, Nat.reduceEqDiff, tA]
  have l3 := tl (rgn Tryd.f16 3)
  conv at l3 => rhs; simp only [rgn, opsAt, codeOf, Tryd.f16, gS, gN, reduceIte, Nat.reduceEqDiff, tA]
  have l4 := tl (rgn Tryd.f16 4)
  conv at l4 => rhs; simp only [rgn, opsAt, codeOf, Tryd.f16, gS, gN, reduceIte, Nat.reduceEqDiff, tA]
  by_cases hf : findI w wordsL 0 ≥ 0
  · have hge : decide (findI w wordsL 0 ≥ 0) = true := decide_eq_true hf
    have wr : IntKind.i64.wrap (30 + findI w wordsL 0) = 30 + findI w wordsL 0 := wrap_i64 (by omega) (by omega)
    simp (decide := true) only [↓execG_seq, ↓g_region, ↓execG_ret, ↓g_if, thenE_norm, thenE_ret, ↓r_nil, ↓r_cons, ↓o_move, ↓o_assign, ↓o_binOp, ↓o_callf, nextE_app, putK_app, putG_bool, putG_int, normK_app, evalE_tmp, evalE_const, upd_some, bindO_ok, reduceIte, map_one, map_two, startE_0, ↓reg_lit l0, ↓reg_lit l1, ↓reg_lit l2, ↓reg_lit l3, callK_fn Tryd.func36 rfl rfl h36, callK_fn Tryd.func35 rfl rfl h35, binA_geq, hge, binA_add, wr]
    rw [← hF, finE_ret (l := [.int .i64 (30 + findI w wordsL 0)]) (by simp (decide := true) [Tryd.f16, resE, upd_some])]
    simp [resI, hf, oneOf]
  · have hge : decide (findI w wordsL 0 ≥ 0) = false := decide_eq_false hf
    simp (decide := true) only [↓execG_seq, ↓g_region, ↓execG_ret, ↓execG_skip, ↓g_else, thenE_norm, ↓r_nil, ↓r_cons, ↓o_move, ↓o_assign, ↓o_binOp, ↓o_callf, nextE_app, putK_app, putG_bool, normK_app, evalE_tmp, evalE_const, upd_some, bindO_ok, reduceIte, map_one, map_two, startE_0, ↓reg_lit l0, ↓reg_lit l1, ↓reg_lit l2, ↓reg_lit l4, callK_fn Tryd.func36 rfl rfl h36, callK_fn Tryd.func35 rfl rfl h35, binA_geq, hge]
    rw [← hF, finE_ret (l := [.int .i64 0]) (by simp (decide := true) [Tryd.f16, resE, upd_some])]
    simp [resI, hf, oneOf]
end Go.Am
