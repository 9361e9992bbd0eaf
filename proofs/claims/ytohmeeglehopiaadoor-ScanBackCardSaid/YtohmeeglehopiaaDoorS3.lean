/- A lexeme: by its first byte. -/
import Derived.Test.YtohmeeglehopiaaDoorS2
open Go.Proofs
namespace Go.Am
theorem eq43 : (((4 : Int)) == 3) = false := rfl
theorem eq44 : (((4 : Int)) == 4) = true := rfl
theorem eq63 : (((6 : Int)) == 3) = false := rfl
theorem eq64 : (((6 : Int)) == 4) = false := rfl
theorem eq65 : (((6 : Int)) == 5) = false := rfl
theorem eq66 : (((6 : Int)) == 6) = true := rfl
theorem code25 : codeOf Tryd.f25 = .seq (.region 0 (rgn Tryd.f25 0) false) (.seq (.seq (.region 1 (rgn Tryd.f25 1) true) (.block 0 (.seq (.region 2 (rgn Tryd.f25 2) false) (.cond (.tmp 16) (.seq (.region 3 (rgn Tryd.f25 3) false) (.seq (.region 4 (rgn Tryd.f25 4) false) (.ret))) (.seq (.region 5 (rgn Tryd.f25 5) false) (.cond (.tmp 24) (.seq (.region 6 (rgn Tryd.f25 6) false) (.ret)) (.seq (.region 7 (rgn Tryd.f25 7) false) (.cond (.tmp 29) (.seq (.region 8 (rgn Tryd.f25 8) false) (.seq (.region 9 (rgn Tryd.f25 9) false) (.ret))) (.seq (.region 10 (rgn Tryd.f25 10) false) (.cond (.tmp 37) (.seq (.region 11 (rgn Tryd.f25 11) false) (.ret)) (.skip))))))))))) (.seq (.region 12 (rgn Tryd.f25 12) false) (.ret))) := by kernel_rfl

theorem lex_word {N : Nat} {hk : Hook} {d : Nat} {H H' : Heap} {a : Option Addr} {c : Nat} {s : List UInt8} {b t i : Nat} {r : Bool} (x : Ctx H a c s b) (hb : H.get b = some (cur a s.length c i)) (hi : i < s.length) (hcl : clsI s[i] = 4) (hh : ∀ f args H, okC f = true → hk f args H = none)
    (hr : CG N hk (d + 1) 40 #[.pointer (some ⟨b, 0, none⟩), .pointer (some ⟨t, 0, none⟩)] H = some (.ret (.bool r), H')) :
    CG N hk (d + 2) 25 #[.pointer (some ⟨b, 0, none⟩), .pointer (some ⟨t, 0, none⟩)] H = some (.ret (.bool r), H') := by
  refine (callG_fn (hh _ _ _ rfl) Tryd.func25 (c := codeOf Tryd.f25) rfl rfl rfl (pr := noPr) rfl).trans ?_
  rw [code25]
  generalize hF : finE PP Tryd.f25 = F
  have hcls := call_cls (N := N) (hk := hk) (d := d) x.gg s[i] (fun _ _ => hh _ _ _ rfl)
  rw [hcl] at hcls
  obtain ⟨y, rfl, hl⟩ := x.row.bts.cell i hi
  have hix := index_row (n := s.length) (c := c) (a := y) hi
  have l0 := tl (rgn Tryd.f25 0)
  conv at l0 => rhs; simp only [rgn, opsAt, codeOf, Tryd.f25, gS, gN, reduceIte, Nat.reduceEqDiff, tA]
  have l1 := tl (rgn Tryd.f25 1)
  conv at l1 => rhs; simp only [rgn, opsAt, codeOf, Tryd.f25, gS, gN, reduceIte, Nat.reduceEqDiff, tA]
  have l2 := tl (rgn Tryd.f25 2)
  conv at l2 => rhs; simp only [rgn, opsAt, codeOf, Tryd.f25, gS, gN, reduceIte, Nat.reduceEqDiff, tA]
  have l5 := tl (rgn Tryd.f25 5)
  conv at l5 => rhs; simp only [rgn, opsAt, codeOf, Tryd.f25, gS, gN, reduceIte, Nat.reduceEqDiff, tA]
  have l6 := tl (rgn Tryd.f25 6)
  conv at l6 => rhs; simp only [rgn, opsAt, codeOf, Tryd.f25, gS, gN, reduceIte, Nat.reduceEqDiff, tA]
  simp (decide := true) only [↓execG_seq, ↓g_region, ↓execG_block, ↓execG_ret, ↓g_if, ↓g_else, thenE_norm, thenE_ret, leaveB_ret, ↓r_nil, ↓r_cons, ↓o_move, ↓o_assign, ↓o_load, ↓o_nilCheck, ↓o_binOp, ↓o_fieldAddr, ↓o_indexAddr, ↓o_callf, nextE_app, putK_app, putO_app, putG_bool, normK_app, nilCheckA_ok, evalE_tmp, evalE_const, upd_some, bindO_ok, bindV_ok, reduceIte, map_one, map_two, startE_0, startE_1, ↓reg_lit l0, ↓reg_lit l1, ↓reg_lit l2, ↓reg_lit l5, ↓reg_lit l6, fld0, fld1, load_src hb, load_at hb, hix, load_byte hl, callK_fn Tryd.func26 rfl rfl hcls, binA_eql, eq43, eq44, callK_fn Tryd.func40 rfl rfl hr]
  rw [← hF, finE_ret (l := [.bool r]) (by simp (decide := true) [Tryd.f25, resE, upd_some])]
  rfl

theorem lex_sign {N : Nat} {hk : Hook} {d : Nat} {H H' : Heap} {a : Option Addr} {c : Nat} {s : List UInt8} {b t i : Nat} {r : Bool} (x : Ctx H a c s b) (hb : H.get b = some (cur a s.length c i)) (hi : i < s.length) (hcl : clsI s[i] = 6) (hh : ∀ f args H, okC f = true → hk f args H = none)
    (hr : CG N hk (d + 1) 42 #[.pointer (some ⟨b, 0, none⟩), .pointer (some ⟨t, 0, none⟩)] H = some (.ret (.bool r), H')) :
    CG N hk (d + 2) 25 #[.pointer (some ⟨b, 0, none⟩), .pointer (some ⟨t, 0, none⟩)] H = some (.ret (.bool r), H') := by
  refine (callG_fn (hh _ _ _ rfl) Tryd.func25 (c := codeOf Tryd.f25) rfl rfl rfl (pr := noPr) rfl).trans ?_
  rw [code25]
  generalize hF : finE PP Tryd.f25 = F
  have hcls := call_cls (N := N) (hk := hk) (d := d) x.gg s[i] (fun _ _ => hh _ _ _ rfl)
  rw [hcl] at hcls
  obtain ⟨y, rfl, hl⟩ := x.row.bts.cell i hi
  have hix := index_row (n := s.length) (c := c) (a := y) hi
  have l0 := tl (rgn Tryd.f25 0)
  conv at l0 => rhs; simp only [rgn, opsAt, codeOf, Tryd.f25, gS, gN, reduceIte, Nat.reduceEqDiff, tA]
  have l1 := tl (rgn Tryd.f25 1)
  conv at l1 => rhs; simp only [rgn, opsAt, codeOf, Tryd.f25, gS, gN, reduceIte, Nat.reduceEqDiff, tA]
  have l2 := tl (rgn Tryd.f25 2)
  conv at l2 => rhs; simp only [rgn, opsAt, codeOf, Tryd.f25, gS, gN, reduceIte, Nat.reduceEqDiff, tA]
  have l5 := tl (rgn Tryd.f25 5)
  conv at l5 => rhs; simp only [rgn, opsAt, codeOf, Tryd.f25, gS, gN, reduceIte, Nat.reduceEqDiff, tA]
  have l7 := tl (rgn Tryd.f25 7)
  conv at l7 => rhs; simp only [rgn, opsAt, codeOf, Tryd.f25, gS, gN, reduceIte, Nat.reduceEqDiff, tA]
  have l10 := tl (rgn Tryd.f25 10)
  conv at l10 => rhs; simp only [rgn, opsAt, codeOf, Tryd.f25, gS, gN, reduceIte, Nat.reduceEqDiff, tA]
  have l11 := tl (rgn Tryd.f25 11)
  conv at l11 => rhs; simp only [rgn, opsAt, codeOf, Tryd.f25, gS, gN, reduceIte, Nat.reduceEqDiff, tA]
  simp (decide := true) only [↓execG_seq, ↓g_region, ↓execG_block, ↓execG_ret, ↓g_if, ↓g_else, thenE_norm, thenE_ret, leaveB_ret, ↓r_nil, ↓r_cons, ↓o_move, ↓o_assign, ↓o_load, ↓o_nilCheck, ↓o_binOp, ↓o_fieldAddr, ↓o_indexAddr, ↓o_callf, nextE_app, putK_app, putO_app, putG_bool, normK_app, nilCheckA_ok, evalE_tmp, evalE_const, upd_some, bindO_ok, bindV_ok, reduceIte, map_one, map_two, startE_0, startE_1, ↓reg_lit l0, ↓reg_lit l1, ↓reg_lit l2, ↓reg_lit l5, ↓reg_lit l7, ↓reg_lit l10, ↓reg_lit l11, fld0, fld1, load_src hb, load_at hb, hix, load_byte hl, callK_fn Tryd.func26 rfl rfl hcls, binA_eql, eq63, eq64, eq65, eq66, callK_fn Tryd.func42 rfl rfl hr]
  rw [← hF, finE_ret (l := [.bool r]) (by simp (decide := true) [Tryd.f25, resE, upd_some])]
  rfl

end Go.Am
/- All lexemes of a text. -/
open Go.Proofs
namespace Go.Am

/-- A lexeme. -/
structure Tk where
  kind : Int
  n : Int
  w : ByteArray
  from_ : Nat
  to_ : Nat
def Tk.cells (k : Tk) : List Value := [.int .i64 k.kind, .int .u64 k.n, .string k.w, .int .i64 (k.from_ : Int), .int .i64 (k.to_ : Int)]
/-- The row of lexemes so far. -/
def TkRow (H : Heap) (v : Value) (ts : List Tk) (lo : Nat) : Prop :=
  (ts = [] ∧ v = .slice none 0 0) ∨ (ts ≠ [] ∧ ∃ q, v = .slice (some ⟨q, 0, none⟩) ts.length ts.length ∧ H.get q = some ⟨ts.flatMap Tk.cells, true, 5, none⟩ ∧ lo ≤ q)
theorem cells_len : ∀ ts : List Tk, (ts.flatMap Tk.cells).length = ts.length * 5
  | [] => rfl
  | k :: l => by simp [List.flatMap_cons, Tk.cells, cells_len l]; omega
theorem cells_plain : ∀ ts : List Tk, (ts.flatMap Tk.cells).all Value.oneCell' = true
  | [] => rfl
  | k :: l => by
    have := cells_plain l
    simp only [List.flatMap_cons, List.all_append, this, Bool.and_true]
    rfl
theorem undTs : PP.underlying 22 = some (.slice 29) := Tryd.underlying22
theorem infoT : ∃ i, PP.info? 29 = some i ∧ i.size = 5 ∧ i.bytes = 48 := by
  have h : (PP.info? 29).map (fun i => (i.size, i.bytes)) = some (5, 48) := by kernel_rfl
  cases hi : PP.info? 29 with
  | none => rw [hi] at h; cases h
  | some i => rw [hi] at h; simp at h; exact ⟨i, rfl, h.1, h.2⟩
theorem zeroT29 : zeroT PP 29 = some [.int .i64 0, .int .u64 0, .string .empty, .int .i64 0, .int .i64 0] := by kernel_rfl
theorem size29 : sizeT PP 29 = some 5 := by decide +kernel
theorem agg29 : aggT PP 29 = some true := by decide +kernel
theorem es29 : esT PP 29 = 1 := by decide +kernel
theorem esCur : esT PP 44 = 1 := by decide +kernel

theorem out_append {H : Heap} {v : Value} {ts : List Tk} {lo q1 : Nat} (ho : TkRow H v ts lo) (hf : Fresh H) (hlo : lo ≤ H.next) (tk : Tk) (hq : H.get q1 = some ⟨tk.cells, true, 5, none⟩) (hn : ts.length ≤ 1048576) :
    ∃ v' H', appendA PP #[22, 22] v (.slice (some ⟨q1, 0, none⟩) 1 1) H = some (v', H') ∧ TkRow H' v' (ts ++ [tk]) lo ∧ (∀ z w, z < lo → H.get z = some w → H'.get z = some w) ∧ H.next ≤ H'.next ∧ Fresh H' := by
  obtain ⟨i, h1, h2, h3⟩ := infoT
  have src : srcCells H 5 (.slice (some ⟨q1, 0, none⟩) 1 1) = some (1, tk.cells) := by simp [srcCells, look, hq, Tk.cells]
  have hA : appendA PP #[22, 22] v (.slice (some ⟨q1, 0, none⟩) 1 1) H = app H 5 48 v 1 tk.cells := by
    simp only [appendA]
    simp [h1, h2, h3, zeroT29, src]
  rw [hA]
  have al : ∀ (G : Heap) (cells : List Value), Fresh G → Fresh (G.alloc 5 cells) := fun G cells hG z hz => by
    have hz' : G.next + 1 ≤ z := hz
    rw [Heap.get_alloc, if_neg (by omega)]; exact hG z (by omega)
  rcases ho with ⟨rfl, rfl⟩ | ⟨hne, q, rfl, hg, hlq⟩
  · refine ⟨_, _, by simp only [app]; rw [if_neg (by decide), if_pos (by decide)]; rfl, .inr ⟨by simp, H.next, rfl, ?_, hlo⟩, fun z w hz hg => ?_, Nat.le_succ _, al _ _ hf⟩
    · rw [Heap.get_alloc, if_pos rfl]; simp
    · rw [Heap.get_alloc, if_neg (by omega)]; exact hg
  · have hlen : ts.length ≠ 0 := by simpa using hne
    have hl5 := cells_len ts
    have hlk : look H ⟨q, 0, none⟩ = some ⟨ts.flatMap Tk.cells, true, 5, none⟩ := by simp [look, hg]
    have hp : tk.cells.all Value.oneCell' = true := rfl
    have hqn : q < H.next := by
      by_cases c : H.next ≤ q
      · rw [hf q c] at hg; cases hg
      · omega
    have fd : Fresh (H.drop q) := fun z hz => by
      have hz' : H.next ≤ z := hz
      rw [Heap.get_drop]; split
      · rfl
      · exact hf z hz'
    refine ⟨_, (H.drop q).alloc 5 ((ts ++ [tk]).flatMap Tk.cells), ?_, .inr ⟨by simp, H.next, rfl, ?_, hlo⟩, fun z w hz hg => ?_, Nat.le_succ _, al (H.drop q) _ fd⟩
    · simp only [app, hlk]
      rw [if_pos ⟨trivial, trivial, by simp only [Nat.zero_add]; rw [hl5]; exact Nat.le_refl _, hp, by unfold most; omega, by unfold most; omega⟩, if_neg (by omega)]
      have e1 : (List.drop 0 (ts.flatMap Tk.cells)).take (ts.length * 5) = ts.flatMap Tk.cells := by rw [List.drop_zero, ← hl5, List.take_length]
      simp only [e1, mkRow, List.flatMap_append, List.length_append, List.length_cons, List.length_nil]
      have e2 : List.flatMap Tk.cells [tk] = tk.cells := by simp
      rw [e2]; rfl
    · rw [Heap.get_alloc]; exact if_pos rfl
    · rw [Heap.get_alloc, if_neg (by show ¬ z = H.next; omega), Heap.get_drop, if_neg (by omega)]; exact hg

theorem build_tok (i : Int) : buildA PP 29 #[(3, .int .i64 i)] = some (.agg #[.int .i64 0, .int .u64 0, .string .empty, .int .i64 i, .int .i64 0]) := by kernel_rfl
theorem build_cur (a : Option Addr) (n c : Nat) : buildA PP 44 #[(0, .slice a n c)] = some (.agg #[.slice a n c, .int .i64 0]) := by kernel_rfl
theorem box_new (H : Heap) (a : Option Addr) (n c : Nat) : boxA PP 44 (.agg #[.slice a n c, .int .i64 0]) H = some (.pointer (some ⟨H.next, 0, none⟩), H.alloc 1 [.slice a n c, .int .i64 0]) := by simp only [boxA, esCur, mk, Value.cells]
theorem alloc_tok (H : Heap) : allocA PP 29 H = some (.pointer (some ⟨H.next, 0, none⟩), H.alloc 1 [.int .i64 0, .int .u64 0, .string .empty, .int .i64 0, .int .i64 0]) := by simp only [allocA, zeroT29, es29, mk]
theorem store_tok {H : Heap} {b : Nat} {k n f e k' n' f' e' : Int} {w w' : ByteArray} (h : H.get b = some (tok k n w f e)) : storeA PP 29 (.pointer (some ⟨b, 0, none⟩)) (.agg #[.int .i64 k', .int .u64 n', .string w', .int .i64 f', .int .i64 e']) H = some (undef, H.set b (tok k' n' w' f' e')) := by
  simp only [storeA, size29, stV]
  simp [Value.cells, st, look, h, tok, over, Value.oneCell']
theorem load_tok {H : Heap} {b : Nat} {k n f e : Int} {w : ByteArray} (h : H.get b = some (tok k n w f e)) : loadA PP 29 (.pointer (some ⟨b, 0, none⟩)) H = some (.agg #[.int .i64 k, .int .u64 n, .string w, .int .i64 f, .int .i64 e], H) := by
  simp only [loadA, agg29, size29]
  simp [ldN, look, h, tok]
theorem bslice_tok (H : Heap) (k n f e : Int) (w : ByteArray) : buildSliceA PP 22 1 #[(0, .agg #[.int .i64 k, .int .u64 n, .string w, .int .i64 f, .int .i64 e])] H = some (.slice (some ⟨H.next, 0, none⟩) 1 1, H.alloc 5 [.int .i64 k, .int .u64 n, .string w, .int .i64 f, .int .i64 e]) := by
  have hf : Instr.fill (fun i => some (i * 5, 5)) (zeroRow [.int .i64 0, .int .u64 0, .string .empty, .int .i64 0, .int .i64 0] (1 * 5)).toArray [(0, .agg #[.int .i64 k, .int .u64 n, .string w, .int .i64 f, .int .i64 e])] = some #[.int .i64 k, .int .u64 n, .string w, .int .i64 f, .int .i64 e] := by rfl
  simp only [buildSliceA, undTs, size29, zeroT29, mkRow, hf]
  simp
theorem len_toks {H : Heap} (a : Option Addr) (n c : Nat) (k : Value → Heap → R) : builtinK PP .len #[22] #[.slice a n c] H k = k (.int .i64 n) H := len_slice (ts := #[22]) rfl undTs a n c H k

theorem Lexd.trans {A B C : Heap} {b t : Nat} {x y x' y' : Blk} (h : Lexd A B b x t y) (k : Lexd B C b x' t y') : Lexd A C b x' t y' :=
  ⟨Nat.le_trans h.next k.next, k.one, k.two, fun z w h1 h2 hz => k.there z w h1 h2 (h.there z w h1 h2 hz), k.fresh⟩
theorem lexd_start {H H1 : Heap} {b : Nat} {a : Option Addr} {n c i : Nat} (h : Curs H H1 b a n c i) (hf : Fresh H) (hb : b < H.next) (cs : List Value) (y : Blk) : Lexd H ((H1.alloc 1 cs).set H1.next y) b (cur a n c i) H1.next y := by
  have hn := h.next
  refine ⟨by show H.next ≤ H1.next + 1; omega, ?_, get_self _ _ _, fun z w h1 h2 hz => ?_, fun z hz => ?_⟩
  · rw [Heap.get_set, if_neg (by omega), Heap.get_alloc, if_neg (by omega)]; exact h.here
  · rw [Heap.get_set, if_neg h2, Heap.get_alloc, if_neg h2, h.there z h1]; exact hz
  · have hz' : H1.next + 1 ≤ z := hz
    rw [Heap.get_set, if_neg (by omega), Heap.get_alloc, if_neg (by omega), h.there z (by omega)]; exact hf z (by omega)

/-- The state of the rounds. -/
structure TS (H0 H : Heap) (b : Nat) (a : Option Addr) (n c i : Nat) (v : Value) (ts : List Tk) : Prop where
  ext : Ext H0 H
  here : H.get b = some (cur a n c i)
  lb : H0.next ≤ b
  bl : b < H.next
  out : TkRow H v ts (b + 1)
theorem TS.ctx {H0 H : Heap} {b : Nat} {a : Option Addr} {c i : Nat} {s : List UInt8} {v : Value} {ts : List Tk} (h : TS H0 H b a s.length c i v ts) (hG : Ext GE H0) (hr : Brow H0 a s) : Ctx H a c s b :=
  ⟨hG.trans h.ext, Nat.le_trans hG.next h.lb, h.bl, hr.ext h.ext, fun q hq e => by
    obtain ⟨z, h1, _⟩ := hr.row q hq
    have := h.lb
    unfold look at h1
    split at h1
    · cases h1
    · rw [e, hG.fresh b h.lb] at h1; cases h1⟩

def LexOk (N : Nat) (hk : Hook) (d : Nat) (a : Option Addr) (c : Nat) (s : List UInt8) (tk : Tk) : Prop :=
  ∀ H b t, Ctx H a c s b → H.get b = some (cur a s.length c tk.from_) → H.get t = some (tok 0 0 .empty (tk.from_ : Int) 0) → t ≠ b → t < H.next → GE.next ≤ t → (∀ q, a = some q → q.block ≠ t) →
    ∃ H', Lexd H H' b (cur a s.length c tk.to_) t (tok tk.kind tk.n tk.w (tk.from_ : Int) 0) ∧ CG N hk d 25 #[.pointer (some ⟨b, 0, none⟩), .pointer (some ⟨t, 0, none⟩)] H = some (.ret (.bool true), H')
def LexBad (N : Nat) (hk : Hook) (d : Nat) (a : Option Addr) (c : Nat) (s : List UInt8) (i e : Nat) : Prop :=
  ∀ H b t, Ctx H a c s b → H.get b = some (cur a s.length c i) → H.get t = some (tok 0 0 .empty (i : Int) 0) → t ≠ b → t < H.next → GE.next ≤ t → (∀ q, a = some q → q.block ≠ t) →
    ∃ H' y, Lexd H H' b (cur a s.length c e) t y ∧ CG N hk d 25 #[.pointer (some ⟨b, 0, none⟩), .pointer (some ⟨t, 0, none⟩)] H = some (.ret (.bool false), H')
/-- The lexemes from a place on; or the first wrong byte. -/
inductive TRun (s : List UInt8) (ok : Tk → Prop) (bad : Nat → Nat → Prop) : Nat → List Tk → Option Nat → Prop
  | stop (i : Nat) (h : ¬ skipTo s (s.length - i) i < s.length) : TRun s ok bad i [] none
  | wrong (i e : Nat) (h : skipTo s (s.length - i) i < s.length) (hb : bad (skipTo s (s.length - i) i) e) : TRun s ok bad i [] (some e)
  | step (i : Nat) (tk : Tk) (l : List Tk) (r : Option Nat) (h : skipTo s (s.length - i) i < s.length) (hf : tk.from_ = skipTo s (s.length - i) i) (ht : tk.to_ ≤ s.length) (hl : ok tk) (hr : TRun s ok bad tk.to_ l r) : TRun s ok bad i (tk :: l) r
theorem code9 : codeOf Tryd.f9 = .seq (.region 0 (rgn Tryd.f9 0) false) (.seq (.seq (.region 1 (rgn Tryd.f9 1) false) (.cond (.tmp 10) (.seq (.region 2 (rgn Tryd.f9 2) false) (.ret)) (.skip))) (.seq (.region 3 (rgn Tryd.f9 3) false) (.seq (.region 4 (rgn Tryd.f9 4) false) (.seq (.block 0 (.loop (.seq (.seq (.region 5 (rgn Tryd.f9 5) false) (.cond (.tmp 15) (.skip) (.exit 0))) (.block 1 (.seq (.region 6 (rgn Tryd.f9 6) false) (.seq (.seq (.region 7 (rgn Tryd.f9 7) false) (.cond (.tmp 23) (.seq (.region 8 (rgn Tryd.f9 8) true) (.ret)) (.skip))) (.seq (.region 9 (rgn Tryd.f9 9) false) (.region 10 (rgn Tryd.f9 10) false)))))))) (.seq (.region 11 (rgn Tryd.f9 11) false) (.ret)))))) := by kernel_rfl

theorem not_f : unA PP .not (.bool false) = some (.bool true) := by kernel_rfl
theorem not_t : unA PP .not (.bool true) = some (.bool false) := by kernel_rfl
theorem app_builtin (s x : Value) (H : Heap) (k : Value → Heap → R) : builtinK PP .append #[22, 22] #[s, x] H k = bindV (appendA PP #[22, 22] s x H) k := by simp [builtinK]
theorem parts_one (E : Env) (i : Nat) (x : Operand) : (#[(i, x)] : Array (Nat × Operand)).map (fun (i, x) => (i, evalE E x)) = #[(i, evalE E x)] := by simp
theorem agg_cells (k : Tk) : tok k.kind k.n k.w (k.from_ : Int) (k.to_ : Int) = ⟨k.cells, true, 1, none⟩ := rfl
section
variable {N : Nat} {hk : Hook} {d : Nat} {H0 : Heap} {a : Option Addr} {c : Nat} {s : List UInt8} {b : Nat} {Q : R → Prop} {k : KOE}
theorem t_skip (hG : Ext GE H0) (hr : Brow H0 a s) (hh : ∀ f args H, okC f = true → hk f args H = none) (hN : s.length < N) {H : Heap} {i : Nat} {v : Value} {ts : List Tk} (h : TS H0 H b a s.length c i v ts) (hi : i ≤ s.length) :
    ∃ H1, Curs H H1 b a s.length c (skipTo s (s.length - i) i) ∧ TS H0 H1 b a s.length c (skipTo s (s.length - i) i) v ts ∧ CG N hk (d + 4) 24 #[.pointer (some ⟨b, 0, none⟩)] H = some (.ret (.bool (decide (skipTo s (s.length - i) i < s.length))), H1) := by
  have x := h.ctx hG hr
  obtain ⟨H1, h1, h2⟩ := call_skip (N := N) (hk := hk) (d := d + 1) x ⟨rfl, h.here, fun _ _ => rfl⟩ hh hi hN
  have g := h1.gg x
  refine ⟨H1, h1, ⟨⟨by rw [h1.next]; exact h.ext.next, fun z w hz => ?_, g.fresh⟩, h1.here, h.lb, by rw [h1.next]; exact h.bl, ?_⟩, h2⟩
  · have hzb : z ≠ b := fun e => by rw [e, hG.fresh b h.lb] at hz; cases hz
    rw [h1.there z hzb]; exact h.ext.keep z w hz
  · rcases h.out with o | ⟨o1, q, o2, o3, o4⟩
    · exact .inl o
    · exact .inr ⟨o1, q, o2, by rw [h1.there q (by omega)]; exact o3, o4⟩
theorem tl_stop (hG : Ext GE H0) (hr : Brow H0 a s) (hh : ∀ f args H, okC f = true → hk f args H = none) (hN : s.length < N) {H : Heap} {i : Nat} {v : Value} {ts : List Tk} {E : Env} (h : TS H0 H b a s.length c i v ts) (hi : i ≤ s.length) (e5 : E 5 = .pointer (some ⟨b, 0, none⟩)) (e6 : E 6 = v)
    (hs : ¬ skipTo s (s.length - i) i < s.length) (hx : ∀ E' H', E' 6 = v → TS H0 H' b a s.length c (skipTo s (s.length - i) i) v ts → Q (k (.exit 0) E' [] H')) :
    Q (execG PP XX (CG N hk (d + 4)) N noPr (.seq (.seq (.region 5 (rgn Tryd.f9 5) false) (.cond (.tmp 15) (.skip) (.exit 0))) (.block 1 (.seq (.region 6 (rgn Tryd.f9 6) false) (.seq (.seq (.region 7 (rgn Tryd.f9 7) false) (.cond (.tmp 23) (.seq (.region 8 (rgn Tryd.f9 8) true) (.ret)) (.skip))) (.seq (.region 9 (rgn Tryd.f9 9) false) (.region 10 (rgn Tryd.f9 10) false)))))) none E [] H k) := by
  obtain ⟨H1, _, h2, h3⟩ := t_skip (d := d) hG hr hh hN h hi
  rw [decide_eq_false hs] at h3
  have l5 := tl (rgn Tryd.f9 5)
  conv at l5 => rhs; simp only [rgn, opsAt, codeOf, Tryd.f9, gS, gN, reduceIte, Nat.reduceEqDiff, tA]
  simp (decide := true) only [↓execG_seq, ↓g_region, ↓execG_exit, ↓g_else, thenE_norm, thenE_exit, ↓r_nil, ↓r_cons, ↓o_move, ↓o_callf, nextE_app, putK_app, normK_app, evalE_tmp, upd_some, reduceIte, map_one, ↓reg_lit l5, e5, callK_fn Tryd.func24 rfl rfl h3]
  exact hx _ H1 (by simp (decide := true) only [upd_some, reduceIte, e6]) h2
theorem tl_wrong (hG : Ext GE H0) (hr : Brow H0 a s) (hh : ∀ f args H, okC f = true → hk f args H = none) (hN : s.length < N) {H : Heap} {i e : Nat} {v : Value} {ts : List Tk} {E : Env} (h : TS H0 H b a s.length c i v ts) (hi : i ≤ s.length) (e5 : E 5 = .pointer (some ⟨b, 0, none⟩))
    (hs : skipTo s (s.length - i) i < s.length) (hb : LexBad N hk (d + 4) a c s (skipTo s (s.length - i) i) e) (hx : ∀ E' H', E' 2 = .slice none 0 0 → E' 3 = .int .i64 (e : Int) → E' 4 = .int .i64 60 → Ext H0 H' → Q (k .ret E' [] H')) :
    Q (execG PP XX (CG N hk (d + 4)) N noPr (.seq (.seq (.region 5 (rgn Tryd.f9 5) false) (.cond (.tmp 15) (.skip) (.exit 0))) (.block 1 (.seq (.region 6 (rgn Tryd.f9 6) false) (.seq (.seq (.region 7 (rgn Tryd.f9 7) false) (.cond (.tmp 23) (.seq (.region 8 (rgn Tryd.f9 8) true) (.ret)) (.skip))) (.seq (.region 9 (rgn Tryd.f9 9) false) (.region 10 (rgn Tryd.f9 10) false)))))) none E [] H k) := by
  obtain ⟨H1, h1, h2, h3⟩ := t_skip (d := d) hG hr hh hN h hi
  rw [decide_eq_true hs] at h3
  have x0 := h.ctx hG hr
  have st := lexd_start h1 x0.gg.fresh h.bl [.int .i64 0, .int .u64 0, .string .empty, .int .i64 0, .int .i64 0] (tok 0 0 .empty (skipTo s (s.length - i) i : Nat) 0)
  have g0 : (H1.alloc 1 [.int .i64 0, .int .u64 0, .string .empty, .int .i64 0, .int .i64 0]).get H1.next = some (tok 0 0 .empty 0 0) := by rw [Heap.get_alloc]; exact if_pos rfl
  have hlt : H.next = H1.next := h1.next.symm
  have hbl := h.bl
  have hnt : ∀ q, a = some q → q.block ≠ H1.next := fun q hq e' => by
    obtain ⟨z, z1, _⟩ := x0.row.row q hq
    unfold look at z1
    split at z1
    · cases z1
    · rw [e', x0.gg.fresh _ (by omega)] at z1; cases z1
  have gl : GE.next ≤ H1.next := by have := x0.low; omega
  have x3 : Ctx ((H1.alloc 1 [.int .i64 0, .int .u64 0, .string .empty, .int .i64 0, .int .i64 0]).set H1.next (tok 0 0 .empty (skipTo s (s.length - i) i : Nat) 0)) a c s b := ⟨st.gg x0 gl, x0.low, by show b < H1.next + 1; omega, st.row x0 hnt, x0.ne⟩
  obtain ⟨H4, y, h4, hc⟩ := hb _ b H1.next x3 st.one st.two (by omega) (by show H1.next < H1.next + 1; omega) gl hnt
  have l4 := st.trans h4
  have l5 := tl (rgn Tryd.f9 5)
  conv at l5 => rhs; simp only [rgn, opsAt, codeOf, Tryd.f9, gS, gN, reduceIte, Nat.reduceEqDiff, tA]
  have l6 := tl (rgn Tryd.f9 6)
  conv at l6 => rhs; simp only [rgn, opsAt, codeOf, Tryd.f9, gS, gN, reduceIte, Nat.reduceEqDiff, tA]
  have l7 := tl (rgn Tryd.f9 7)
  conv at l7 => rhs; simp only [rgn, opsAt, codeOf, Tryd.f9, gS, gN, reduceIte, Nat.reduceEqDiff, tA]
  have l8 := tl (rgn Tryd.f9 8)
  conv at l8 => rhs; simp only [rgn, opsAt, codeOf, Tryd.f9, gS, gN, reduceIte, Nat.reduceEqDiff, tA]
  simp (decide := true) only [↓execG_seq, ↓g_region, ↓execG_block, ↓execG_ret, ↓execG_skip, ↓g_if, thenE_norm, thenE_ret, leaveB_ret, ↓r_nil, ↓r_cons, ↓o_move, ↓o_assign, ↓o_alloc, ↓o_build, ↓o_load, ↓o_store, ↓o_nilCheck, ↓o_unOp, ↓o_fieldAddr, ↓o_callf, nextE_app, putK_app, putO_app, putG_bool, normK_app, nilCheckA_ok, evalE_tmp, evalE_const, upd_some, upd_none, bindO_ok, bindV_ok, reduceIte, map_one, map_two, ↓reg_lit l5, ↓reg_lit l6, ↓reg_lit l7, ↓reg_lit l8, e5, callK_fn Tryd.func24 rfl rfl h3, fld1, load_at h2.here, build_tok, alloc_tok, store_tok g0, callK_fn Tryd.func25 rfl rfl hc, not_f, load_at h4.one]
  exact hx _ H4 (by simp (decide := true) only [upd_some, reduceIte]) (by simp (decide := true) only [upd_some, reduceIte]) (by simp (decide := true) only [upd_some, reduceIte])
    ⟨Nat.le_trans h.ext.next l4.next, fun z w hz => l4.there z w (fun e' => by rw [e', hG.fresh b h.lb] at hz; cases hz) (fun e' => by rw [e', hG.fresh _ (by have := h.ext.next; omega)] at hz; cases hz) (h.ext.keep z w hz), l4.fresh⟩
theorem tl_step (hG : Ext GE H0) (hr : Brow H0 a s) (hh : ∀ f args H, okC f = true → hk f args H = none) (hN : s.length < N) {H : Heap} {i : Nat} {v : Value} {ts : List Tk} {tk : Tk} {E : Env} (h : TS H0 H b a s.length c i v ts) (hi : i ≤ s.length) (e5 : E 5 = .pointer (some ⟨b, 0, none⟩)) (e6 : E 6 = v) (hts : ts.length ≤ 1048576)
    (hs : skipTo s (s.length - i) i < s.length) (hfr : tk.from_ = skipTo s (s.length - i) i) (hb : LexOk N hk (d + 4) a c s tk) (hx : ∀ E' H' v', E' 5 = .pointer (some ⟨b, 0, none⟩) → E' 6 = v' → TS H0 H' b a s.length c tk.to_ v' (ts ++ [tk]) → Q (k .norm E' [] H')) :
    Q (execG PP XX (CG N hk (d + 4)) N noPr (.seq (.seq (.region 5 (rgn Tryd.f9 5) false) (.cond (.tmp 15) (.skip) (.exit 0))) (.block 1 (.seq (.region 6 (rgn Tryd.f9 6) false) (.seq (.seq (.region 7 (rgn Tryd.f9 7) false) (.cond (.tmp 23) (.seq (.region 8 (rgn Tryd.f9 8) true) (.ret)) (.skip))) (.seq (.region 9 (rgn Tryd.f9 9) false) (.region 10 (rgn Tryd.f9 10) false)))))) none E [] H k) := by
  obtain ⟨H1, h1, h2, h3⟩ := t_skip (d := d) hG hr hh hN h hi
  rw [decide_eq_true hs] at h3
  have x0 := h.ctx hG hr
  rw [← hfr] at h1 h2
  have st := lexd_start h1 x0.gg.fresh h.bl [.int .i64 0, .int .u64 0, .string .empty, .int .i64 0, .int .i64 0] (tok 0 0 .empty (tk.from_ : Int) 0)
  have g0 : (H1.alloc 1 [.int .i64 0, .int .u64 0, .string .empty, .int .i64 0, .int .i64 0]).get H1.next = some (tok 0 0 .empty 0 0) := by rw [Heap.get_alloc]; exact if_pos rfl
  have hlt : H.next = H1.next := h1.next.symm
  have hbl := h.bl
  have hnt : ∀ q, a = some q → q.block ≠ H1.next := fun q hq e' => by
    obtain ⟨z, z1, _⟩ := x0.row.row q hq
    unfold look at z1
    split at z1
    · cases z1
    · rw [e', x0.gg.fresh _ (by omega)] at z1; cases z1
  have gl : GE.next ≤ H1.next := by have := x0.low; omega
  have x3 : Ctx ((H1.alloc 1 [.int .i64 0, .int .u64 0, .string .empty, .int .i64 0, .int .i64 0]).set H1.next (tok 0 0 .empty (tk.from_ : Int) 0)) a c s b := ⟨st.gg x0 gl, x0.low, by show b < H1.next + 1; omega, st.row x0 hnt, x0.ne⟩
  obtain ⟨H4, h4, hc⟩ := hb _ b H1.next x3 st.one st.two (by omega) (by show H1.next < H1.next + 1; omega) gl hnt
  have l4 := st.trans h4
  have n4 : H1.next < H4.next := Nat.lt_of_lt_of_le (by show H1.next < H1.next + 1; omega) h4.next
  have m5 := l4.set2 (by omega) n4 (tok tk.kind tk.n tk.w (tk.from_ : Int) (tk.to_ : Int))
  generalize hH5 : H4.set H1.next (tok tk.kind tk.n tk.w (tk.from_ : Int) (tk.to_ : Int)) = H5 at m5
  have q1 : (H5.alloc 5 [.int .i64 tk.kind, .int .u64 tk.n, .string tk.w, .int .i64 (tk.from_ : Int), .int .i64 (tk.to_ : Int)]).get H5.next = some ⟨tk.cells, true, 5, none⟩ := by rw [Heap.get_alloc, if_pos rfl]; rfl
  have n5 : H.next ≤ H5.next := m5.next
  have f6 : Fresh (H5.alloc 5 [.int .i64 tk.kind, .int .u64 tk.n, .string tk.w, .int .i64 (tk.from_ : Int), .int .i64 (tk.to_ : Int)]) := (Ext.alloc m5.fresh 5 _).fresh
  have o6 : TkRow (H5.alloc 5 [.int .i64 tk.kind, .int .u64 tk.n, .string tk.w, .int .i64 (tk.from_ : Int), .int .i64 (tk.to_ : Int)]) v ts (b + 1) := by
    rcases h.out with o | ⟨o1, q, o2, o3, o4⟩
    · exact .inl o
    · have hqn : q < H.next := by
        by_cases cq : H.next ≤ q
        · rw [x0.gg.fresh q cq] at o3; cases o3
        · omega
      exact .inr ⟨o1, q, o2, by rw [Heap.get_alloc, if_neg (by omega)]; exact m5.there q _ (by omega) (by omega) o3, o4⟩
  obtain ⟨v', H7, a1, a2, a3, a4, a5⟩ := out_append (lo := b + 1) o6 f6 (by show b + 1 ≤ H5.next + 1; omega) tk q1 hts
  have two5 := m5.two
  have one5 := m5.one
  have l5 := tl (rgn Tryd.f9 5)
  conv at l5 => rhs; simp only [rgn, opsAt, codeOf, Tryd.f9, gS, gN, reduceIte, Nat.reduceEqDiff, tA]
  have l6 := tl (rgn Tryd.f9 6)
  conv at l6 => rhs; simp only [rgn, opsAt, codeOf, Tryd.f9, gS, gN, reduceIte, Nat.reduceEqDiff, tA]
  have l7 := tl (rgn Tryd.f9 7)
  conv at l7 => rhs; simp only [rgn, opsAt, codeOf, Tryd.f9, gS, gN, reduceIte, Nat.reduceEqDiff, tA]
  have l9 := tl (rgn Tryd.f9 9)
  conv at l9 => rhs; simp only [rgn, opsAt, codeOf, Tryd.f9, gS, gN, reduceIte, Nat.reduceEqDiff, tA]
  have l10 := tl (rgn Tryd.f9 10)
  conv at l10 => rhs; simp only [rgn, opsAt, codeOf, Tryd.f9, gS, gN, reduceIte, Nat.reduceEqDiff, tA]
  simp (decide := true) only [↓execG_seq, ↓g_region, ↓execG_block, ↓execG_skip, ↓g_if, ↓g_else, thenE_norm, leaveB_norm, ↓r_nil, ↓r_cons, ↓o_move, ↓o_assign, ↓o_alloc, ↓o_build, ↓o_buildSlice, ↓o_load, ↓o_store, ↓o_nilCheck, ↓o_unOp, ↓o_fieldAddr, ↓o_builtin, ↓o_callf, nextE_app, putK_app, putO_app, putG_bool, normK_app, nilCheckA_ok, evalE_tmp, upd_some, upd_none, bindO_ok, bindV_ok, reduceIte, map_one, map_two, ↓reg_lit l5, ↓reg_lit l6, ↓reg_lit l7, ↓reg_lit l9, ↓reg_lit l10, e5, e6, callK_fn Tryd.func24 rfl rfl h3, fld1, load_at h2.here, build_tok, alloc_tok, store_tok g0, callK_fn Tryd.func25 rfl rfl hc, not_t, load_at h4.one, tf4, store_end h4.two, hH5, load_tok two5, bslice_tok, app_builtin, a1]
  refine hx _ H7 v' (by simp (decide := true) only [upd_some, reduceIte, e5]) (by simp (decide := true) only [upd_some, reduceIte]) ⟨⟨?_, fun z w hz => ?_, a5⟩, ?_, h.lb, ?_, a2⟩
  · have := h.ext.next
    have n6 : H5.next + 1 ≤ H7.next := a4
    omega
  · have hzb : z < b := by
      have := h.lb
      by_cases cz : H0.next ≤ z
      · rw [hG.fresh z cz] at hz; cases hz
      · omega
    refine a3 z w (by omega) ?_
    rw [Heap.get_alloc, if_neg (by omega)]
    exact m5.there z w (by omega) (by omega) (h.ext.keep z w hz)
  · refine a3 b _ (by omega) ?_
    rw [Heap.get_alloc, if_neg (by omega)]; exact one5
  · have n6 : H5.next + 1 ≤ H7.next := a4
    omega
end
end Go.Am
/- Tokens. -/
open Go.Proofs
namespace Go.Am
section
variable {N : Nat} {hk : Hook} {d : Nat} {H0 : Heap} {a : Option Addr} {c : Nat} {s : List UInt8}
theorem tok_then {b : Nat} {Q : R → Prop} {k : KOE} (hG : Ext GE H0) (hr : Brow H0 a s) (hh : ∀ f args H, okC f = true → hk f args H = none) (hN : s.length < N) {i : Nat} {l : List Tk} {r : Option Nat} (run : TRun s (LexOk N hk (d + 4) a c s) (LexBad N hk (d + 4) a c s) i l r) :
    ∀ (m : Nat) (_ : i ≤ s.length) (_ : l.length < m) {H : Heap} {E : Env} {v : Value} {ts : List Tk} (_ : TS H0 H b a s.length c i v ts) (_ : E 5 = .pointer (some ⟨b, 0, none⟩)) (_ : E 6 = v) (_ : ts.length + l.length ≤ 1048576)
      (_ : r = none → ∀ E' H' v' j, E' 6 = v' → TS H0 H' b a s.length c j v' (ts ++ l) → Q (k (.exit 0) E' [] H'))
      (_ : ∀ e : Nat, r = some e → ∀ E' H', E' 2 = .slice none 0 0 → E' 3 = .int .i64 (e : Int) → E' 4 = .int .i64 60 → Ext H0 H' → Q (k .ret E' [] H')),
      Q (loopE (execG PP XX (CG N hk (d + 4)) N noPr (.seq (.seq (.region 5 (rgn Tryd.f9 5) false) (.cond (.tmp 15) (.skip) (.exit 0))) (.block 1 (.seq (.region 6 (rgn Tryd.f9 6) false) (.seq (.seq (.region 7 (rgn Tryd.f9 7) false) (.cond (.tmp 23) (.seq (.region 8 (rgn Tryd.f9 8) true) (.ret)) (.skip))) (.seq (.region 9 (rgn Tryd.f9 9) false) (.region 10 (rgn Tryd.f9 10) false)))))) none) m E [] H k) := by
  induction run with
  | stop i hs =>
    intro m hi hm H E v ts h e5 e6 hts h1 h2
    obtain ⟨m, rfl⟩ : ∃ q, m = q + 1 := ⟨m - 1, by simp at hm; omega⟩
    rw [loopE_succ]
    exact tl_stop hG hr hh hN h hi e5 e6 hs fun E' H' e h' => h1 rfl E' H' v _ e (by rw [List.append_nil]; exact h')
  | wrong i e hs hb =>
    intro m hi hm H E v ts h e5 e6 hts h1 h2
    obtain ⟨m, rfl⟩ : ∃ q, m = q + 1 := ⟨m - 1, by simp at hm; omega⟩
    rw [loopE_succ]
    exact tl_wrong hG hr hh hN h hi e5 hs hb fun E' H' a2 a3 a4 x => h2 e rfl E' H' a2 a3 a4 x
  | step i tk l r hs hf ht hl hrun ih =>
    intro m hi hm H E v ts h e5 e6 hts h1 h2
    simp only [List.length_cons] at hm hts
    obtain ⟨m, rfl⟩ : ∃ q, m = q + 1 := ⟨m - 1, by omega⟩
    rw [loopE_succ]
    refine tl_step hG hr hh hN h hi e5 e6 (by omega) hs hf hl fun E' H' v' e5' e6' h' => ?_
    rw [thenE_norm]
    refine ih m ht (by omega) h' e5' e6' (by simp only [List.length_append, List.length_cons, List.length_nil]; omega) (fun hn E2 H2 v2 j x y => h1 hn E2 H2 v2 j x ?_) h2
    rw [List.append_assoc] at y
    exact y
theorem tok_start (hf : Fresh H0) : TS H0 (H0.alloc 1 [.slice a s.length c, .int .i64 0]) H0.next a s.length c 0 (.slice none 0 0) [] :=
  ⟨.alloc hf _ _, by rw [Heap.get_alloc, if_pos rfl]; rfl, Nat.le_refl _, by show H0.next < H0.next + 1; omega, .inl ⟨rfl, rfl⟩⟩
/-- What 'Tokens' answers of a text that is not too long. -/
theorem call_tokens (hG : Ext GE H0) (hr : Brow H0 a s) (hh : ∀ f args H, okC f = true → hk f args H = none) (hN : s.length + 1 < N) (hl : s.length ≤ 1048576) {l : List Tk} {r : Option Nat} (run : TRun s (LexOk N hk (d + 4) a c s) (LexBad N hk (d + 4) a c s) 0 l r) (hlen : l.length ≤ s.length) :
    ∃ H', Ext H0 H' ∧ ∃ v e q, CG N hk (d + 5) 9 #[.slice a s.length c] H0 = some (.ret (.tuple #[v, .int .i64 e, .int .i64 q]), H') ∧
      ((r = none ∧ TkRow H' v l (H0.next + 1) ∧ e = 0 ∧ q = 0) ∨ (∃ w : Nat, r = some w ∧ v = .slice none 0 0 ∧ e = (w : Int) ∧ q = 60)) := by
  have main : ∃ R0 : R, CG N hk (d + 5) 9 #[.slice a s.length c] H0 = R0 ∧ ∃ H', Ext H0 H' ∧ ∃ v e q, R0 = some (.ret (.tuple #[v, .int .i64 e, .int .i64 q]), H') ∧
      ((r = none ∧ TkRow H' v l (H0.next + 1) ∧ e = 0 ∧ q = 0) ∨ (∃ w : Nat, r = some w ∧ v = .slice none 0 0 ∧ e = (w : Int) ∧ q = 60)) := by
    refine ⟨_, callG_fn (hh _ _ _ rfl) Tryd.func9 (c := codeOf Tryd.f9) rfl rfl rfl (pr := noPr) rfl, ?_⟩
    rw [code9]
    generalize hF : finE PP Tryd.f9 = F
    have hgt : decide ((s.length : Int) > 1048576) = false := decide_eq_false (by omega)
    have l0 := tl (rgn Tryd.f9 0)
    conv at l0 => rhs; simp only [rgn, opsAt, codeOf, Tryd.f9, gS, gN, reduceIte, Nat.reduceEqDiff, tA]
    have l1 := tl (rgn Tryd.f9 1)
    conv at l1 => rhs; simp only [rgn, opsAt, codeOf, Tryd.f9, gS, gN, reduceIte, Nat.reduceEqDiff, tA]
    have l2 := tl (rgn Tryd.f9 2)
    conv at l2 => rhs; simp only [rgn, opsAt, codeOf, Tryd.f9, gS, gN, reduceIte, Nat.reduceEqDiff, tA]
    have l3 := tl (rgn Tryd.f9 3)
    conv at l3 => rhs; simp only [rgn, opsAt, codeOf, Tryd.f9, gS, gN, reduceIte, Nat.reduceEqDiff, tA]
    have l4 := tl (rgn Tryd.f9 4)
    conv at l4 => rhs; simp only [rgn, opsAt, codeOf, Tryd.f9, gS, gN, reduceIte, Nat.reduceEqDiff, tA]
    have l11 := tl (rgn Tryd.f9 11)
    conv at l11 => rhs; simp only [rgn, opsAt, codeOf, Tryd.f9, gS, gN, reduceIte, Nat.reduceEqDiff, tA]
    simp (decide := true) only [↓execG_seq, ↓g_region, ↓execG_block, ↓execG_skip, ↓g_else, thenE_norm, ↓r_nil, ↓r_cons, ↓o_move, ↓o_assign, ↓o_box, ↓o_build, ↓o_binOp, ↓o_builtin, nextE_app, putK_app, putO_app, putG_bool, normK_app, evalE_tmp, evalE_const, upd_some, bindO_ok, bindV_ok, reduceIte, map_one, startE_0, ↓reg_lit l0, ↓reg_lit l1, ↓reg_lit l3, ↓reg_lit l4, ↓execG_loop, len_slice (ts := #[26]) rfl und34, binA_gtr, hgt, build_cur, box_new]
    refine tok_then (Q := fun x => ∃ H', Ext H0 H' ∧ ∃ v e q, x = some (.ret (.tuple #[v, .int .i64 e, .int .i64 q]), H') ∧ ((r = none ∧ TkRow H' v l (H0.next + 1) ∧ e = 0 ∧ q = 0) ∨ (∃ w : Nat, r = some w ∧ v = .slice none 0 0 ∧ e = (w : Int) ∧ q = 60)))
      hG hr hh (by omega) run N (Nat.zero_le _) (by omega) (tok_start hG.fresh) ?_ ?_ (by simp only [List.length_nil]; omega) (fun hn E' H' v' j e6 h' => ?_) (fun e he E' H' e2 e3 e4 x => ?_)
    · simp (decide := true) only [upd_some, reduceIte]
    · simp (decide := true) only [upd_some, reduceIte]
    · simp (decide := true) only [↓execG_seq, ↓g_region, ↓execG_ret, thenE_norm, g_leave, ↓r_nil, ↓r_cons, ↓o_move, ↓o_assign, nextE_app, normK_app, evalE_tmp, evalE_const, upd_some, reduceIte, ↓reg_lit l11, e6]
      refine ⟨H', h'.ext, v', 0, 0, ?_, .inl ⟨hn, h'.out, rfl, rfl⟩⟩
      rw [← hF, finE_ret (l := [v', .int .i64 0, .int .i64 0]) (by simp (decide := true) [Tryd.f9, resE, upd_some])]
      rfl
    · simp (decide := true) only [thenE_ret, leaveB_ret]
      refine ⟨H', x, .slice none 0 0, (e : Int), 60, ?_, .inr ⟨e, he, rfl, rfl, rfl⟩⟩
      rw [← hF, finE_ret (l := [.slice none 0 0, .int .i64 (e : Int), .int .i64 60]) (by simp (decide := true) [Tryd.f9, resE, e2, e3, e4])]
      rfl
  obtain ⟨R0, m1, H', m2, v, e, q, m3, m4⟩ := main
  exact ⟨H', m2, v, e, q, m1.trans m3, m4⟩
/-- A text that is too long. -/
theorem call_tokens_long (hh : ∀ f args H, okC f = true → hk f args H = none) (hl : 1048576 < s.length) :
    CG N hk (d + 1) 9 #[.slice a s.length c] H0 = some (.ret (.tuple #[.slice none 0 0, .int .i64 0, .int .i64 3]), H0) := by
  refine (callG_fn (hh _ _ _ rfl) Tryd.func9 (c := codeOf Tryd.f9) rfl rfl rfl (pr := noPr) rfl).trans ?_
  rw [code9]
  generalize hF : finE PP Tryd.f9 = F
  have hgt : decide ((s.length : Int) > 1048576) = true := decide_eq_true (by omega)
  have l0 := tl (rgn Tryd.f9 0)
  conv at l0 => rhs; simp only [rgn, opsAt, codeOf, Tryd.f9, gS, gN, reduceIte, Nat.reduceEqDiff, tA]
  have l1 := tl (rgn Tryd.f9 1)
  conv at l1 => rhs; simp only [rgn, opsAt, codeOf, Tryd.f9, gS, gN, reduceIte, Nat.reduceEqDiff, tA]
  have l2 := tl (rgn Tryd.f9 2)
  conv at l2 => rhs; simp only [rgn, opsAt, codeOf, Tryd.f9, gS, gN, reduceIte, Nat.reduceEqDiff, tA]
  simp (decide := true) only [↓execG_seq, ↓g_region, ↓execG_ret, ↓g_if, thenE_norm, thenE_ret, ↓r_nil, ↓r_cons, ↓o_move, ↓o_assign, ↓o_binOp, ↓o_builtin, nextE_app, putK_app, putG_bool, normK_app, evalE_tmp, evalE_const, upd_some, bindO_ok, reduceIte, map_one, startE_0, ↓reg_lit l0, ↓reg_lit l1, ↓reg_lit l2, len_slice (ts := #[26]) rfl und34, binA_gtr, hgt]
  rw [← hF, finE_ret (l := [.slice none 0 0, .int .i64 0, .int .i64 3]) (by simp (decide := true) [Tryd.f9, resE, upd_some])]
  rfl
end
end Go.Am
/- Reserved, for all words. -/
open Go.Proofs
namespace Go.Am

theorem pureRun_bind {α β : Type} (P : Program) (s : Sem α) (f : α → Sem β) : pureRun P (s >>= f) = (pureRun P s).bind fun a => pureRun P (f a) := by
  induction s with
  | pure x => rfl
  | program k ih => exact ih P
  | mark m k ih => exact ih
  | _ => rfl
theorem pureRun_pure {α : Type} (P : Program) (a : α) : pureRun P (pure a) = some a := rfl
theorem pureRun_prog (P : Program) : pureRun P program = some P := rfl
theorem binA_eqs (o1 o2 : Operand) (a b : List UInt8) : binA PP .eql 9 o1 o2 (.string ⟨⟨a⟩⟩) (.string ⟨⟨b⟩⟩) = some (.bool (decide (a = b))) := by
  unfold binA
  rw [if_pos (by simp [ground, atomic])]
  simp only [eqGuard, binOp, pureRun_bind, Op.stringOp]
  simp [pureRun_pure]
  rw [Bool.eq_iff_iff]; simp

/-- The place of a word in a list; -1: it is not in it. -/
def findI (w : List UInt8) : List (List UInt8) → Nat → Int
  | [], _ => -1
  | x :: r, i => if w = x then (i : Int) else findI w r (i + 1)
def resI (w : List UInt8) : Int := if findI w wordsL 0 ≥ 0 then 30 + findI w wordsL 0 else 0
theorem wordsL_len : wordsL.length = 50 := rfl
theorem findI_bound (w : List UInt8) : ∀ (l : List (List UInt8)) (i : Nat), -1 ≤ findI w l i ∧ findI w l i < (i + l.length : Nat)
  | [], i => by simp [findI]; omega
  | x :: r, i => by
    unfold findI
    have := findI_bound w r (i + 1)
    split
    · simp; omega
    · simp only [List.length_cons]; omega
theorem und39 : PP.underlying 39 = some (.slice 9) := Tryd.underlying39
theorem sizeS : sizeT PP 9 = some 1 := by decide +kernel
theorem aggS : aggT PP 9 = some false := by decide +kernel
theorem index_words {q i : Nat} (h : i < 50) : indexAddrA PP 39 (.slice (some ⟨q, 0, none⟩) 50 50) (.int .i64 (i : Int)) = some (.pointer (some ⟨q, i, none⟩)) := by
  have e : (⟨q, 0, none⟩ : Addr).add i = ⟨q, i, none⟩ := by rw [Addr.add_lit, Nat.zero_add]
  simp [indexAddrA, sizeS, at_, e]
  omega
theorem load_word {H : Heap} {q i : Nat} (h : H.get q = some ⟨wordsV, true, 1, none⟩) (hi : i < 50) : loadA PP 9 (.pointer (some ⟨q, i, none⟩)) H = some (.string ⟨⟨wordsL.getD i []⟩⟩, H) := by
  have hl : i < wordsL.length := by rw [wordsL_len]; exact hi
  simp only [loadA, aggS]
  simp only [ld1, look, h]
  simp [wordsV, strV, List.getD, hl]
theorem code35 : codeOf Tryd.f35 = .seq (.region 0 (rgn Tryd.f35 0) false) (.seq (.seq (.region 1 (rgn Tryd.f35 1) false) (.block 0 (.loop (.seq (.region 2 (rgn Tryd.f35 2) false) (.seq (.cond (.tmp 9) (.skip) (.exit 0)) (.seq (.block 1 (.seq (.region 3 (rgn Tryd.f35 3) false) (.seq (.region 4 (rgn Tryd.f35 4) false) (.cond (.tmp 16) (.seq (.region 5 (rgn Tryd.f35 5) false) (.ret)) (.skip))))) (.region 6 (rgn Tryd.f35 6) false))))))) (.seq (.region 7 (rgn Tryd.f35 7) false) (.ret))) := by kernel_rfl
theorem code16 : codeOf Tryd.f16 = .seq (.region 0 (rgn Tryd.f16 0) false) (.seq (.seq (.region 1 (rgn Tryd.f16 1) false) (.seq (.region 2 (rgn Tryd.f16 2) false) (.cond (.tmp 8) (.seq (.region 3 (rgn Tryd.f16 3) false) (.ret)) (.skip)))) (.seq (.region 4 (rgn Tryd.f16 4) false) (.ret))) := by kernel_rfl

section
variable {K : Kf} {N : Nat} {H : Heap} {q : Nat} {w : List UInt8} {Q : R → Prop} {k : KOE}
theorem x_then (hq : H.get q = some ⟨wordsV, true, 1, none⟩) : ∀ (n i m : Nat) (_ : i + n = 50) (_ : n < m) {E : Env} (_ : E 0 = .slice (some ⟨q, 0, none⟩) 50 50) (_ : E 1 = .string ⟨⟨w⟩⟩) (_ : E 7 = .int .i64 50) (_ : E 8 = .int .i64 (i : Int))
    (_ : findI w (wordsL.drop i) i = -1 → ∀ E', Q (k (.exit 0) E' [] H)) (_ : findI w (wordsL.drop i) i ≥ 0 → ∀ E', E' 4 = .int .i64 (findI w (wordsL.drop i) i) → Q (k .ret E' [] H)), Q (loopE (execG PP XX K N noPr (.seq (.region 2 (rgn Tryd.f35 2) false) (.seq (.cond (.tmp 9) (.skip) (.exit 0)) (.seq (.block 1 (.seq (.region 3 (rgn Tryd.f35 3) false) (.seq (.region 4 (rgn Tryd.f35 4) false) (.cond (.tmp 16) (.seq (.region 5 (rgn Tryd.f35 5) false) (.ret)) (.skip))))) (.region 6 (rgn Tryd.f35 6) false)))) none) m E [] H k)
  | 0, i, m + 1, hn, hm, E, e0, e1, e7, e8, h1, h2 => by
    rw [loopE_succ]
    have hi : i = 50 := by omega
    subst hi
    have hlt : decide (((50 : Nat) : Int) < 50) = false := by decide
    have l2 := tl (rgn Tryd.f35 2)
    conv at l2 => rhs; simp only [rgn, opsAt, codeOf, Tryd.f35, gS, gN, reduceIte, Nat.reduceEqDiff, tA]
    simp (decide := true) only [↓execG_seq, ↓g_region, thenE_norm, ↓r_nil, ↓r_cons, ↓o_binOp, nextE_app, putG_bool, normK_app, evalE_tmp, bindO_ok, ↓reg_lit l2, e7, e8, binA_lss]
    exact h1 rfl _
  | n + 1, i, m + 1, hn, hm, E, e0, e1, e7, e8, h1, h2 => by
    rw [loopE_succ]
    have hi : i < 50 := by omega
    have hlt : decide ((i : Int) < 50) = true := decide_eq_true (by omega)
    have hix := index_words (q := q) hi
    have hld := load_word hq hi
    have hl : i < wordsL.length := by rw [wordsL_len]; exact hi
    have hd : wordsL.drop i = wordsL.getD i [] :: wordsL.drop (i + 1) := by
      rw [List.drop_eq_getElem_cons hl]; simp [List.getD, hl]
    have wr : IntKind.i64.wrap ((i : Int) + 1) = ((i + 1 : Nat) : Int) := by rw [wrap_i64 (by omega) (by omega)]; omega
    rw [hd] at h1 h2
    unfold findI at h1 h2
    have l2 := tl (rgn Tryd.f35 2)
    conv at l2 => rhs; simp only [rgn, opsAt, codeOf, Tryd.f35, gS, gN, reduceIte, Nat.reduceEqDiff, tA]
    have l3 := tl (rgn Tryd.f35 3)
    conv at l3 => rhs; simp only [rgn, opsAt, codeOf, Tryd.f35, gS, gN, reduceIte, Nat.reduceEqDiff, tA]
    have l4 := tl (rgn Tryd.f35 4)
    conv at l4 => rhs; simp only [rgn, opsAt, codeOf, Tryd.f35, gS, gN, reduceIte, Nat.reduceEqDiff, tA]
    have l5 := tl (rgn Tryd.f35 5)
    conv at l5 => rhs; simp only [rgn, opsAt, codeOf, Tryd.f35, gS, gN, reduceIte, Nat.reduceEqDiff, tA]
    have l6 := tl (rgn Tryd.f35 6)
    conv at l6 => rhs; simp only [rgn, opsAt, codeOf, Tryd.f35, gS, gN, reduceIte, Nat.reduceEqDiff, tA]
    by_cases hw : w = wordsL.getD i []
    · have he : decide (w = wordsL.getD i []) = true := decide_eq_true hw
      rw [if_pos hw] at h2
      simp (decide := true) only [↓execG_seq, ↓g_region, ↓execG_block, ↓execG_ret, ↓execG_skip, ↓g_if, thenE_norm, thenE_ret, leaveB_ret, ↓r_nil, ↓r_cons, ↓o_move, ↓o_assign, ↓o_load, ↓o_binOp, ↓o_indexAddr, nextE_app, putK_app, putO_app, putG_bool, normK_app, evalE_tmp, upd_some, bindO_ok, bindV_ok, reduceIte, ↓reg_lit l2, ↓reg_lit l3, ↓reg_lit l4, ↓reg_lit l5, e0, e1, e7, e8, binA_lss, hlt, hix, hld, binA_eqs, he]
      exact h2 (by omega) _ (by simp (decide := true) only [upd_some, reduceIte])
    · have he : decide (w = wordsL.getD i []) = false := decide_eq_false hw
      rw [if_neg hw] at h1 h2
      simp (decide := true) only [↓execG_seq, ↓g_region, ↓execG_block, ↓execG_skip, ↓g_if, ↓g_else, thenE_norm, leaveB_norm, ↓r_nil, ↓r_cons, ↓o_move, ↓o_assign, ↓o_load, ↓o_binOp, ↓o_indexAddr, nextE_app, putK_app, putO_app, putG_bool, putG_int, normK_app, evalE_tmp, evalE_const, upd_some, bindO_ok, bindV_ok, reduceIte, ↓reg_lit l2, ↓reg_lit l3, ↓reg_lit l4, ↓reg_lit l6, e0, e1, e7, e8, binA_lss, hlt, hix, hld, binA_eqs, he, binA_add, wr]
      exact x_then hq n (i + 1) m (by omega) (by omega) (by simp (decide := true) only [upd_some, reduceIte, e0]) (by simp (decide := true) only [upd_some, reduceIte, e1]) (by simp (decide := true) only [upd_some, reduceIte, e7]) (by simp (decide := true) only [upd_some, reduceIte]) h1 h2
end
theorem call_sidx {N : Nat} {hk : Hook} {d : Nat} {H : Heap} {q : Nat} (hq : H.get q = some ⟨wordsV, true, 1, none⟩) (w : List UInt8) (hN : 60 < N) (hh : ∀ f args H, okC f = true → hk f args H = none) :
    CG N hk (d + 1) 35 #[.slice (some ⟨q, 0, none⟩) 50 50, .string ⟨⟨w⟩⟩] H = some (.ret (.int .i64 (findI w wordsL 0)), H) := by
  have main : ∃ R0 : R, CG N hk (d + 1) 35 #[.slice (some ⟨q, 0, none⟩) 50 50, .string ⟨⟨w⟩⟩] H = R0 ∧ R0 = some (.ret (.int .i64 (findI w wordsL 0)), H) := by
    refine ⟨_, callG_fn (hh _ _ _ rfl) Tryd.func35 (c := codeOf Tryd.f35) rfl rfl rfl (pr := noPr) rfl, ?_⟩
    rw [code35]
    generalize hF : finE PP Tryd.f35 = F
    have l0 := tl (rgn Tryd.f35 0)
    conv at l0 => rhs; simp only [rgn, opsAt, codeOf, Tryd.f35, gS, gN, reduceIte, Nat.reduceEqDiff, tA]
    have l1 := tl (rgn Tryd.f35 1)
    conv at l1 => rhs; simp only [rgn, opsAt, codeOf, Tryd.f35, gS, gN, reduceIte, Nat.reduceEqDiff, tA]
    have l7 := tl (rgn Tryd.f35 7)
    conv at l7 => rhs; simp only [rgn, opsAt, codeOf, Tryd.f35, gS, gN, reduceIte, Nat.reduceEqDiff, tA]
    simp (decide := true) only [↓execG_seq, ↓g_region, ↓execG_block, thenE_norm, ↓r_nil, ↓r_cons, ↓o_move, ↓o_assign, ↓o_builtin, nextE_app, putK_app, normK_app, evalE_tmp, evalE_const, upd_some, reduceIte, map_one, startE_0, ↓reg_lit l0, ↓reg_lit l1, ↓execG_loop, len_slice (ts := #[39]) rfl und39]
    refine x_then (w := w) (Q := fun r => r = some (.ret (.int .i64 (findI w wordsL 0)), H)) hq 50 0 N rfl (by omega) ?_ ?_ ?_ ?_ (fun hf E' => ?_) (fun hf E' e4 => ?_)
    · simp (decide := true) only [upd_some, reduceIte, startE_0]
    · simp (decide := true) only [upd_some, reduceIte, startE_1]
    · simp (decide := true) only [upd_some, reduceIte]; rfl
    · simp (decide := true) only [upd_some, reduceIte]; rfl
    · rw [List.drop_zero] at hf
      simp (decide := true) only [↓execG_seq, ↓g_region, ↓execG_ret, thenE_norm, g_leave, ↓r_nil, ↓r_cons, ↓o_assign, nextE_app, normK_app, evalE_const, ↓reg_lit l7]
      rw [← hF, finE_ret (l := [.int .i64 (-1)]) (by simp (decide := true) [Tryd.f35, resE, upd_some]), hf]
      rfl
    · rw [List.drop_zero] at e4
      simp (decide := true) only [thenE_ret, leaveB_ret]
      rw [← hF, finE_ret (l := [.int .i64 (findI w wordsL 0)]) (by simp (decide := true) [Tryd.f35, resE, e4])]
      rfl
  obtain ⟨R0, m1, m2⟩ := main
  exact m1.trans m2
/-- The text of the reserved words, as it stands in the code. -/
noncomputable def litR : Value := match (rgn Tryd.f16 1).toList.head? with
  | some o => (match o.op with | Op.call c => (match c.args.toList with | .const v :: _ => v | _ => undef) | _ => undef)
  | none => undef
theorem litR_eq : litR = strV wordsB := by kernel_rfl
/-- What 'Reserved' tells, for all words. -/
theorem call_res {N : Nat} {hk : Hook} {d : Nat} {H : Heap} (hG : Ext GE H) (w : List UInt8) (hN : 60 < N) (hh : ∀ f args H, okC f = true → hk f args H = none)
    (hfld : ∀ H, Ext GE H → hk 36 #[strV wordsB] H = some (some (.ret (.slice (some ⟨H.next, 0, none⟩) 50 50), H.alloc 1 wordsV))) :
    ∃ H', Ext H H' ∧ CG N hk (d + 2) 16 #[.string ⟨⟨w⟩⟩] H = some (.ret (.int .i64 (resI w)), H') := by
  refine ⟨H.alloc 1 wordsV, .alloc hG.fresh _ _, ?_⟩
  have hq : (H.alloc 1 wordsV).get H.next = some ⟨wordsV, true, 1, none⟩ := by rw [Heap.get_alloc, if_pos rfl]
  have h36 : CG N hk (d + 1) 36 #[strV wordsB] H = some (.ret (.slice (some ⟨H.next, 0, none⟩) 50 50), H.alloc 1 wordsV) := callG_hook (hfld H hG)
  rw [← litR_eq] at h36
  simp only [litR, rgn, opsAt, codeOf, Tryd.f16, gS, reduceIte, Nat.reduceEqDiff, tA, List.head?_cons] at h36
  have h35 := call_sidx (N := N) (hk := hk) (d := d) hq w hN hh
  have hb := findI_bound w wordsL 0
  rw [wordsL_len] at hb
  refine (callG_fn (hh _ _ _ rfl) Tryd.func16 (c := codeOf Tryd.f16) rfl rfl rfl (pr := noPr) rfl).trans ?_
  rw [code16]
  generalize hF : finE PP Tryd.f16 = F
  have l0 := tl (rgn Tryd.f16 0)
  conv at l0 => rhs; simp only [rgn, opsAt, codeOf, Tryd.f16, gS, gN, reduceIte, Nat.reduceEqDiff, tA]
  have l1 := tl (rgn Tryd.f16 1)
  conv at l1 => rhs; simp only [rgn, opsAt, codeOf, Tryd.f16, gS, gN, reduceIte, Nat.reduceEqDiff, tA]
  have l2 := tl (rgn Tryd.f16 2)
  conv at l2 => rhs; simp only [rgn, opsAt, codeOf, Tryd.f16, gS, gN, reduceIte, Nat.reduceEqDiff, tA]
  have l3 := tl (rgn Tryd.f16 3)
  conv at l3 => rhs; simp only [rgn, opsAt, codeOf, Tryd.f16, gS, gN, reduceIte, Nat.reduceEqDiff, tA]
  have l4 := tl (rgn Tryd.f16 4)
  conv at l4 => rhs; simp only [rgn, opsAt, codeOf, Tryd.f16, gS, gN, reduceIte, Nat.reduceEqDiff, tA]
  by_cases hf : findI w wordsL 0 ≥ 0
  · have hge : decide (findI w wordsL 0 ≥ 0) = true := decide_eq_true hf
    have wr : IntKind.i64.wrap (30 + findI w wordsL 0) = 30 + findI w wordsL 0 := wrap_i64 (by omega) (by omega)
    simp (decide := true) only [↓execG_seq, ↓g_region, ↓execG_ret, ↓g_if, thenE_norm, thenE_ret, ↓r_nil, ↓r_cons, ↓o_move, ↓o_assign, ↓o_binOp, ↓o_callf, nextE_app, putK_app, putG_bool, putG_int, normK_app, evalE_tmp, evalE_const, upd_some, bindO_ok, reduceIte, map_one, map_two, startE_0, ↓reg_lit l0, ↓reg_lit l1, ↓reg_lit l2, ↓reg_lit l3, callK_fn Tryd.func36 rfl rfl h36, callK_fn Tryd.func35 rfl rfl h35, binA_geq, hge, binA_add, wr]
    rw [← hF, finE_ret (l := [.int .i64 (30 + findI w wordsL 0)]) (by simp (decide := true) [Tryd.f16, resE, upd_some])]
    simp [resI, hf, oneOf]
  · have hge : decide (findI w wordsL 0 ≥ 0) = false := decide_eq_false hf
    simp (decide := true) only [↓execG_seq, ↓g_region, ↓execG_ret, ↓execG_skip, ↓g_else, thenE_norm, ↓r_nil, ↓r_cons, ↓o_move, ↓o_assign, ↓o_binOp, ↓o_callf, nextE_app, putK_app, putG_bool, normK_app, evalE_tmp, evalE_const, upd_some, bindO_ok, reduceIte, map_one, map_two, startE_0, ↓reg_lit l0, ↓reg_lit l1, ↓reg_lit l2, ↓reg_lit l4, callK_fn Tryd.func36 rfl rfl h36, callK_fn Tryd.func35 rfl rfl h35, binA_geq, hge]
    rw [← hF, finE_ret (l := [.int .i64 0]) (by simp (decide := true) [Tryd.f16, resE, upd_some])]
    simp [resI, hf, oneOf]
end Go.Am
