/- Rows of bytes in heaps that grow. -/
import Derived.Test.YtohmeeglehopiaaDoorD1
import Derived.Test.YtohmeeglehopiaaDoorG1
open Go.Proofs
namespace Go.Am

/-- A row of bytes in the heap. -/
structure Bts (H : Heap) (a : Option Addr) (s : List UInt8) : Prop where
  cell : ∀ j (h : j < s.length), ∃ b, a = some b ∧ ld1 H (b.add j) = some (.int .u8 (s[j]).toNat, H)
  str : strOf H a s.length = some ⟨s.toArray⟩
  small : s.length < 9223372036854775808

theorem und34 : PP.underlying 26 = some (.slice 5) := Tryd.underlying26
theorem size5 : sizeT PP 5 = some 1 := by decide +kernel
theorem agg5 : aggT PP 5 = some false := by decide +kernel
theorem index_row {a : Addr} {n c : Nat} {j : Nat} (h : j < n) : indexAddrA PP 26 (.slice (some a) n c) (.int .i64 (j : Int)) = some (.pointer (some (a.add j))) := by
  simp [indexAddrA, size5, at_, h]
theorem load_byte {H : Heap} {a : Addr} {v : Value} (h : ld1 H a = some (v, H)) : loadA PP 5 (.pointer (some a)) H = some (v, H) := by
  simp [loadA, agg5, h]
theorem wrap_i64 {x : Int} (h0 : -9223372036854775808 ≤ x) (h1 : x < 9223372036854775808) : IntKind.i64.wrap x = x := by
  simp only [IntKind.wrap, IntKind.bits, IntKind.signed]
  simp
  split <;> omega
theorem toNat_eq (x z : UInt8) : (((x.toNat : Int) == (z.toNat : Int)) : Bool) = decide (x = z) := by
  rw [Bool.eq_iff_iff]
  simp only [beq_iff_eq, decide_eq_true_eq]
  constructor
  · intro h; exact UInt8.toNat_inj.mp (by omega)
  · intro h; rw [h]

def Fresh (H : Heap) : Prop := ∀ b, H.next ≤ b → H.get b = none
/-- All that was there is there. -/
structure Ext (H H' : Heap) : Prop where
  next : H.next ≤ H'.next
  keep : ∀ b x, H.get b = some x → H'.get b = some x
  fresh : Fresh H'
theorem Ext.trans {A B C : Heap} (h : Ext A B) (k : Ext B C) : Ext A C := ⟨Nat.le_trans h.next k.next, fun b x e => k.keep b x (h.keep b x e), k.fresh⟩
theorem Ext.alloc {H : Heap} (h : Fresh H) (es : Nat) (cells : List Value) : Ext H (H.alloc es cells) := by
  refine ⟨Nat.le_succ _, fun b x e => ?_, fun b hb => ?_⟩
  · rw [Heap.get_alloc]
    by_cases c : b = H.next
    · rw [c, h _ (Nat.le_refl _)] at e; cases e
    · rw [if_neg c]; exact e
  · have hb' : H.next + 1 ≤ b := hb
    rw [Heap.get_alloc, if_neg (by omega)]
    exact h b (by omega)
/-- A row beyond all that was there may change. -/
theorem Ext.set {H H' : Heap} (h : Ext H H') {b : Nat} (hb : H.next ≤ b) (hf : Fresh H) (hl : b < H'.next) (x : Blk) : Ext H (H'.set b x) := by
  refine ⟨h.next, fun k y e => ?_, fun k hk => ?_⟩
  · rw [Heap.get_set]
    by_cases c : k = b
    · rw [c, hf _ hb] at e; cases e
    · rw [if_neg c]; exact h.keep k y e
  · have hk' : H'.next ≤ k := hk
    rw [Heap.get_set, if_neg (by omega)]
    exact h.fresh k hk'
theorem Ext.look {H H' : Heap} (h : Ext H H') {a : Addr} {x : Blk} (e : look H a = some x) : look H' a = some x := by
  unfold Am.look at e ⊢
  split at e
  · cases e
  · rename_i hs
    cases hg : H.get a.block with
    | none => simp [hg] at e
    | some y =>
      rw [h.keep _ _ hg]
      simpa [hg] using e

structure Brow (H : Heap) (a : Option Addr) (s : List UInt8) : Prop where
  row : ∀ b, a = some b → ∃ x, look H b = some x ∧ x.es = 1 ∧ b.off + s.length ≤ x.cells.length ∧ (x.cells.drop b.off).take s.length = s.map fun u => .int .u8 (u.toNat : Int)
  nil : a = none → s = []
  small : s.length < 9223372036854775808
theorem Brow.ext {H H' : Heap} {a : Option Addr} {s : List UInt8} (h : Brow H a s) (e : Ext H H') : Brow H' a s :=
  ⟨fun b hb => let ⟨x, h1, h2⟩ := h.row b hb; ⟨x, e.look h1, h2⟩, h.nil, h.small⟩
theorem look_spot {H : Heap} {a : Addr} {x : Blk} (e : look H a = some x) : a.spot = none := by
  unfold Am.look at e
  split at e
  · cases e
  · rename_i hs; exact hs
theorem look_add {H : Heap} {a : Addr} {x : Blk} (e : look H a = some x) (j : Nat) : look H (a.add j) = some x ∧ (a.add j).off = a.off + j := by
  have hs := look_spot e
  obtain ⟨b, off, spot⟩ := a
  simp only at hs
  subst hs
  unfold Addr.add
  by_cases hj : j = 0
  · subst hj; simp [e]
  · simp only [hj, if_false, and_true]
    exact e
theorem bytesOf_map : ∀ s : List UInt8, bytesOf (s.map fun u => Value.int .u8 (u.toNat : Int)) = some s
  | [] => rfl
  | u :: s => by simp [bytesOf, bytesOf_map s]
theorem Brow.bts {H : Heap} {a : Option Addr} {s : List UInt8} (h : Brow H a s) : Bts H a s := by
  refine ⟨fun j hj => ?_, ?_, h.small⟩
  · cases a with
    | none => rw [h.nil rfl] at hj; simp at hj
    | some b =>
      obtain ⟨x, h1, h2, h3, h4⟩ := h.row b rfl
      refine ⟨b, rfl, ?_⟩
      obtain ⟨k1, k2⟩ := look_add h1 j
      unfold ld1
      rw [k1]
      simp only [k2]
      have : ((x.cells.drop b.off).take s.length)[j]? = some (.int .u8 (s[j].toNat : Int)) := by rw [h4]; simp [hj]
      rw [List.getElem?_take_of_lt hj, List.getElem?_drop] at this
      rw [this]
  · cases a with
    | none => rw [h.nil rfl]; rfl
    | some b =>
      obtain ⟨x, h1, h2, h3, h4⟩ := h.row b rfl
      unfold strOf
      by_cases h0 : s.length = 0
      · have : s = [] := List.length_eq_zero_iff.mp h0
        subst this; rfl
      · simp only [if_neg h0, h1, if_pos h3, h4, bytesOf_map]
theorem Brow.take {H : Heap} {a : Option Addr} {s : List UInt8} (h : Brow H a s) {k : Nat} (hk : k ≤ s.length) : Brow H a (s.take k) := by
  refine ⟨fun b hb => ?_, fun e => by rw [h.nil e]; simp, by simp; have := h.small; omega⟩
  obtain ⟨x, h1, h2, h3, h4⟩ := h.row b hb
  refine ⟨x, h1, h2, by simp; omega, ?_⟩
  have hl : (s.take k).length = k := by simp; omega
  rw [hl, List.map_take, ← h4, List.take_take, Nat.min_eq_left hk]

theorem size3 : sizeT PP 3 = some 1 := by decide +kernel
theorem agg3 : aggT PP 3 = some false := by decide +kernel
theorem fresh_GE : Fresh GE := fun b hb => tabs_GE.fresh b hb
theorem get_self (H : Heap) (p : Nat) (x : Blk) : (H.set p x).get p = some x := by rw [Heap.get_set, if_pos rfl]
end Go.Am
/- The class of a byte; is a byte of a class next? -/
open Go.Proofs
namespace Go.Am

def okC (f : FuncId) : Bool := f == 26 || f == 38 || f == 24 || f == 25 || f == 40 || f == 42 || f == 56 || f == 9 || f == 8 || f == 12 || f == 21 || f == 27 || f == 28 || f == 29 || f == 37 || f == 43 || f == 53 || f == 58 || f == 71 || f == 4 || f == 11 || f == 16 || f == 35 || f == 39 || f == 41 || f == 54
def pr1 : Nat → List (Nat × Nat) := fun i => if i = 1 then [(0, 10), (3, 10), (4, 10), (7, 10), (9, 10)] else if i = 21 then [(0, 2)] else []
def prS : FuncId → Nat → List (Nat × Nat) := fun f => if f = 42 then pr1 else noPr
noncomputable abbrev CG (N : Nat) (hk : Hook) (d : Nat) : Kf := callG PP okC prS XX N hk d

/-- The class of a byte. -/
def clsI (u : UInt8) : Int := if 127 < u.toNat then 0 else classesL.getD u.toNat 0
theorem undTab : PP.underlying 63 = some (.array 128 5) := Tryd.underlying63
theorem index_tab {u : UInt8} (h : u.toNat ≤ 127) : indexAddrA PP 63 (.pointer (some ⟨1, 0, none⟩)) (.int .u8 (u.toNat : Int)) = some (.pointer (some ⟨1, u.toNat, none⟩)) := by
  have h' : (u.toNat : Int) < 128 := by omega
  by_cases h0 : u.toNat = 0
  · simp [indexAddrA, size5, at_, Addr.add, h0]
  · simp [indexAddrA, size5, at_, Addr.add, h', h0]
theorem load_tab {H : Heap} (hG : Ext GE H) {j : Nat} (h : j ≤ 127) : loadA PP 5 (.pointer (some ⟨1, j, none⟩)) H = some (.int .u8 (classesL.getD j 0), H) := by
  have g := hG.keep 1 _ (show GE.get 1 = some ⟨classesL.map fun z => .int .u8 z, false, 1, none⟩ from rfl)
  have hl : classesL.length = 128 := rfl
  apply load_byte
  simp only [ld1, look, g]
  have : j < classesL.length := by omega
  simp [List.getD, this]
theorem code26 : codeOf Tryd.f26 = .seq (.region 0 (rgn Tryd.f26 0) false) (.seq (.seq (.region 1 (rgn Tryd.f26 1) false) (.cond (.tmp 4) (.seq (.region 2 (rgn Tryd.f26 2) false) (.ret)) (.skip))) (.seq (.region 3 (rgn Tryd.f26 3) false) (.ret))) := by kernel_rfl
theorem code38 : codeOf Tryd.f38 = .seq (.region 0 (rgn Tryd.f38 0) false) (.seq (.region 1 (rgn Tryd.f38 1) true) (.ret)) := by kernel_rfl
theorem gd38_1_10 : ((rgn Tryd.f38 1)[10]?).bind (·.dst) = some 15 := by kernel_rfl

theorem call_cls {N : Nat} {hk : Hook} {d : Nat} {H : Heap} (hG : Ext GE H) (u : UInt8) (hh : ∀ args H, hk 26 args H = none) :
    CG N hk (d + 1) 26 #[.int .u8 (u.toNat : Int)] H = some (.ret (.int .u8 (clsI u)), H) := by
  refine (callG_fn (hh _ _) Tryd.func26 (c := codeOf Tryd.f26) rfl rfl rfl (pr := noPr) rfl).trans ?_
  have l0 := tl (rgn Tryd.f26 0)
  conv at l0 => rhs; simp only [rgn, opsAt, codeOf, Tryd.f26, gS, gN, reduceIte, Nat.reduceEqDiff, tA]
  have l1 := tl (rgn Tryd.f26 1)
  conv at l1 => rhs; simp only [rgn, opsAt, codeOf, Tryd.f26, gS, gN, reduceIte, Nat.reduceEqDiff, tA]
  have l2 := tl (rgn Tryd.f26 2)
  conv at l2 => rhs; simp only [rgn, opsAt, codeOf, Tryd.f26, gS, gN, reduceIte, Nat.reduceEqDiff, tA]
  have l3 := tl (rgn Tryd.f26 3)
  conv at l3 => rhs; simp only [rgn, opsAt, codeOf, Tryd.f26, gS, gN, reduceIte, Nat.reduceEqDiff, tA]
  rw [code26]
  generalize hF : finE PP Tryd.f26 = F
  by_cases h : 127 < u.toNat
  · have hgt : decide ((u.toNat : Int) > 127) = true := decide_eq_true (by omega)
    simp (decide := true) only [↓execG_seq, ↓g_region, ↓execG_ret, ↓g_if, thenE_norm, thenE_ret, ↓r_nil, ↓r_cons, ↓o_move, ↓o_assign, ↓o_binOp, nextE_app, putG_bool, normK_app, evalE_tmp, evalE_const, upd_some, bindO_ok, reduceIte, startE_0, ↓reg_lit l0, ↓reg_lit l1, ↓reg_lit l2, binA_gtr, hgt]
    rw [← hF, finE_ret (l := [.int .u8 0]) (by simp (decide := true) [Tryd.f26, resE, upd_some])]
    simp [clsI, h, oneOf]
  · have hgt : decide ((u.toNat : Int) > 127) = false := decide_eq_false (by omega)
    simp (decide := true) only [↓execG_seq, ↓g_region, ↓execG_ret, ↓execG_skip, ↓g_else, thenE_norm, ↓r_nil, ↓r_cons, ↓o_move, ↓o_assign, ↓o_load, ↓o_binOp, ↓o_indexAddr, nextE_app, putK_app, putO_app, putG_bool, normK_app, evalE_tmp, evalE_const, evalE_global, upd_some, bindO_ok, bindV_ok, reduceIte, startE_0, ↓reg_lit l0, ↓reg_lit l1, ↓reg_lit l3, binA_gtr, hgt, index_tab (u := u) (by omega), load_tab hG (j := u.toNat) (by omega)]
    rw [← hF, finE_ret (l := [.int .u8 (classesL.getD u.toNat 0)]) (by simp (decide := true) [Tryd.f26, resE, upd_some])]
    simp [clsI, h, oneOf]

/-- The cursor's block. -/
def cur (a : Option Addr) (n c : Nat) (at_ : Nat) : Blk := ⟨[.slice a n c, .int .i64 (at_ : Int)], true, 1, none⟩
theorem fld0 (b : Nat) : fieldAddrA PP 44 (.pointer (some ⟨b, 0, none⟩)) 0 = some (.pointer (some ⟨b, 0, none⟩)) := by kernel_rfl
theorem fld1 (b : Nat) : fieldAddrA PP 44 (.pointer (some ⟨b, 0, none⟩)) 1 = some (.pointer (some ⟨b, 1, none⟩)) := by kernel_rfl
theorem aggB : aggT PP 26 = some false := by decide +kernel
theorem load_src {H : Heap} {b : Nat} {a : Option Addr} {n c at_ : Nat} (h : H.get b = some (cur a n c at_)) : loadA PP 26 (.pointer (some ⟨b, 0, none⟩)) H = some (.slice a n c, H) := by
  simp only [loadA, aggB]
  simp [ld1, look, h, cur]
theorem load_at {H : Heap} {b : Nat} {a : Option Addr} {n c at_ : Nat} (h : H.get b = some (cur a n c at_)) : loadA PP 3 (.pointer (some ⟨b, 1, none⟩)) H = some (.int .i64 (at_ : Int), H) := by
  simp only [loadA, agg3]
  simp [ld1, look, h, cur]
theorem store_at {H : Heap} {b : Nat} {a : Option Addr} {n c at_ at' : Nat} (h : H.get b = some (cur a n c at_)) : storeA PP 3 (.pointer (some ⟨b, 1, none⟩)) (.int .i64 (at' : Int)) H = some (undef, H.set b (cur a n c at')) := by
  simp only [storeA, size3, stV]
  simp [Value.cells, st, look, h, cur, over, Value.oneCell']

/-- Is a byte of that class next? -/
def isI (s : List UInt8) (i : Nat) (k : Int) : Bool := decide (i < s.length) && (clsI (s.getD i 0) == k)
theorem call_is {N : Nat} {hk : Hook} {d : Nat} {H : Heap} {a : Option Addr} {c : Nat} {s : List UInt8} {b i : Nat} (hG : Ext GE H) (hb : Brow H a s) (hc : H.get b = some (cur a s.length c i)) (k : Int) (hh : ∀ f args H, okC f = true → hk f args H = none) :
    CG N hk (d + 2) 38 #[.pointer (some ⟨b, 0, none⟩), .int .u8 k] H = some (.ret (.bool (isI s i k)), H) := by
  refine (callG_fn (hh _ _ _ rfl) Tryd.func38 (c := codeOf Tryd.f38) rfl rfl rfl (pr := noPr) rfl).trans ?_
  have l0 := tl (rgn Tryd.f38 0)
  conv at l0 => rhs; simp only [rgn, opsAt, codeOf, Tryd.f38, gS, gN, reduceIte, Nat.reduceEqDiff, tA]
  have l1 := tl (rgn Tryd.f38 1)
  conv at l1 => rhs; simp only [rgn, opsAt, codeOf, Tryd.f38, gS, gN, reduceIte, Nat.reduceEqDiff, tA]
  rw [code38]
  generalize hF : finE PP Tryd.f38 = F
  by_cases h : i < s.length
  · have hlt : decide ((i : Int) < (s.length : Int)) = true := decide_eq_true (by omega)
    have hcls := call_cls (N := N) (hk := hk) (d := d) hG s[i] (fun _ _ => hh _ _ _ rfl)
    obtain ⟨b0, rfl, hl⟩ := hb.bts.cell i h
    have hix := index_row (n := s.length) (c := c) (a := b0) h
    simp (decide := true) only [↓execG_seq, ↓g_region, ↓execG_ret, thenE_norm, ↓r_nil, ↓r_cons, ↓o_move, ↓o_assign, ↓o_pickt, ↓o_load, ↓o_nilCheck, ↓o_binOp, ↓o_fieldAddr, ↓o_indexAddr, ↓o_builtin, ↓o_callf, nextE_app, putK_app, putO_app, putG_bool, normK_app, nilCheckA_ok, evalE_tmp, evalE_const, upd_some, bindO_ok, bindV_ok, reduceIte, map_one, startE_0, startE_1, ↓reg_lit l0, ↓reg_lit l1, ↓r_yes _ 10 true 15 _ gd38_1_10, binA_lss, hlt, fld0, fld1, load_src hc, load_at hc, len_slice (ts := #[26]) rfl und34, hix, load_byte hl, callK_fn Tryd.func26 rfl rfl hcls, binA_eql]
    have e : s.getD i 0 = s[i] := by simp [List.getD, h]
    rw [← hF, finE_ret (l := [.bool (clsI s[i] == k)]) (by simp (decide := true) [Tryd.f38, resE, upd_some])]
    simp [isI, h, oneOf]
  · have hlt : decide ((i : Int) < (s.length : Int)) = false := decide_eq_false (by omega)
    simp (decide := true) only [↓execG_seq, ↓g_region, ↓execG_ret, thenE_norm, ↓r_nil, ↓r_cons, ↓o_move, ↓o_assign, ↓o_pickf, ↓o_load, ↓o_nilCheck, ↓o_binOp, ↓o_fieldAddr, ↓o_builtin, nextE_app, putK_app, putO_app, putG_bool, normK_app, nilCheckA_ok, evalE_tmp, evalE_const, upd_some, bindO_ok, bindV_ok, reduceIte, map_one, startE_0, Bool.not_true, ↓reg_lit l0, ↓reg_lit l1, ↓r_no _ 10 true 15 _ gd38_1_10, binA_lss, hlt, fld0, fld1, load_src hc, load_at hc, len_slice (ts := #[26]) rfl und34]
    rw [← hF, finE_ret (l := [.bool false]) (by simp (decide := true) [Tryd.f38, resE, upd_some])]
    simp [isI, h, oneOf]
end Go.Am
/- Blanks and comments are passed over. -/
open Go.Proofs
namespace Go.Am

/-- A cursor and its text. -/
structure Ctx (H0 : Heap) (a : Option Addr) (c : Nat) (s : List UInt8) (b : Nat) : Prop where
  gg : Ext GE H0
  low : GE.next ≤ b
  lt : b < H0.next
  row : Brow H0 a s
  ne : ∀ x, a = some x → x.block ≠ b
/-- The cursor stands at a place, all else is as it was. -/
structure Curs (H0 H : Heap) (b : Nat) (a : Option Addr) (n c i : Nat) : Prop where
  next : H.next = H0.next
  here : H.get b = some (cur a n c i)
  there : ∀ x, x ≠ b → H.get x = H0.get x
theorem Curs.set {H0 H : Heap} {b : Nat} {a : Option Addr} {n c i : Nat} (h : Curs H0 H b a n c i) (j : Nat) : Curs H0 (H.set b (cur a n c j)) b a n c j :=
  ⟨h.next, by rw [Heap.get_set, if_pos rfl], fun x hx => by rw [Heap.get_set, if_neg hx]; exact h.there x hx⟩
theorem Curs.trans {A B C : Heap} {b : Nat} {a : Option Addr} {n c i j : Nat} (h : Curs A B b a n c i) (k : Curs B C b a n c j) : Curs A C b a n c j :=
  ⟨k.next.trans h.next, k.here, fun x hx => (k.there x hx).trans (h.there x hx)⟩
theorem Curs.gg {H0 H : Heap} {b : Nat} {a : Option Addr} {n c i : Nat} {s : List UInt8} (h : Curs H0 H b a n c i) (x : Ctx H0 a c s b) : Ext GE H := by
  refine ⟨by rw [h.next]; exact x.gg.next, fun y z e => ?_, fun y hy => ?_⟩
  · by_cases e' : y = b
    · rw [e', fresh_GE b x.low] at e; cases e
    · rw [h.there y e']; exact x.gg.keep y z e
  · rw [h.next] at hy
    have := x.lt
    rw [h.there y (by omega)]
    exact x.gg.fresh y hy
theorem Curs.row {H0 H : Heap} {b : Nat} {a : Option Addr} {n c i : Nat} {s : List UInt8} (h : Curs H0 H b a n c i) (x : Ctx H0 a c s b) : Brow H a s := by
  refine ⟨fun y hy => ?_, x.row.nil, x.row.small⟩
  obtain ⟨z, h1, h2⟩ := x.row.row y hy
  refine ⟨z, ?_, h2⟩
  have hn := h.there y.block (x.ne y hy)
  unfold look at h1 ⊢
  rw [hn]; exact h1
theorem Curs.ctx {H0 H : Heap} {b : Nat} {a : Option Addr} {n c i : Nat} {s : List UInt8} (h : Curs H0 H b a n c i) (x : Ctx H0 a c s b) : Ctx H a c s b :=
  ⟨h.gg x, x.low, by rw [h.next]; exact x.lt, h.row x, x.ne⟩

/-- The end of the line. -/
def lineEnd (s : List UInt8) : Nat → Nat → Nat
  | 0, i => i
  | n + 1, i => if s.getD i 0 = 10 then i else lineEnd s n (i + 1)
theorem lineEnd_ge (s : List UInt8) : ∀ n i, i ≤ lineEnd s n i ∧ lineEnd s n i ≤ i + n
  | 0, i => by simp [lineEnd]
  | n + 1, i => by
    unfold lineEnd
    have := lineEnd_ge s n (i + 1)
    split <;> omega
/-- Behind blanks and comments. -/
def skipTo (s : List UInt8) : Nat → Nat → Nat
  | 0, i => i
  | n + 1, i => if isI s i 1 then skipTo s n (i + 1) else if isI s i 2 then skipTo s n (lineEnd s (s.length - i) i) else i
theorem clsI_ten : clsI 10 = 1 := by decide +kernel

theorem code24 : codeOf Tryd.f24 = .seq (.region 0 (rgn Tryd.f24 0) false) (.seq (.block 0 (.loop (.seq (.seq (.region 1 (rgn Tryd.f24 1) false) (.cond (.tmp 8) (.skip) (.exit 0))) (.block 1 (.seq (.seq (.region 2 (rgn Tryd.f24 2) false) (.cond (.tmp 10) (.seq (.block 2 (.loop (.seq (.seq (.region 3 (rgn Tryd.f24 3) true) (.cond (.tmp 33) (.skip) (.exit 2))) (.block 3 (.region 4 (rgn Tryd.f24 4) false))))) (.exit 1)) (.skip))) (.region 5 (rgn Tryd.f24 5) false)))))) (.seq (.region 6 (rgn Tryd.f24 6) true) (.ret))) := by kernel_rfl
theorem gd24_1_2 : ((rgn Tryd.f24 1)[2]?).bind (·.dst) = some 5 := by kernel_rfl
theorem gd24_3_10 : ((rgn Tryd.f24 3)[10]?).bind (·.dst) = some 21 := by kernel_rfl

theorem in_step {K : Kf} {N : Nat} {H0 H : Heap} {a : Option Addr} {c : Nat} {s : List UInt8} {b i : Nat} {E : Env} {Q : R → Prop} {k : KOE} (x : Ctx H0 a c s b) (h : Curs H0 H b a s.length c i) (e0 : E 0 = .pointer (some ⟨b, 0, none⟩)) (hi : i < s.length) (hne : s[i] ≠ 10) (hx : ∀ E', E' 0 = .pointer (some ⟨b, 0, none⟩) → Q (k .norm E' [] (H.set b (cur a s.length c (i + 1))))) :
    Q (execG PP XX K N noPr (.seq (.seq (.region 3 (rgn Tryd.f24 3) true) (.cond (.tmp 33) (.skip) (.exit 2))) (.block 3 (.region 4 (rgn Tryd.f24 4) false))) none E [] H k) := by
  have hlt : decide ((i : Int) < (s.length : Int)) = true := decide_eq_true (by omega)
  have hsm := x.row.small
  obtain ⟨b0, rfl, hl⟩ := (h.row x).bts.cell i hi
  have hix := index_row (n := s.length) (c := c) (a := b0) hi
  have h10 : ((s[i].toNat : Int) != 10) = true := by
    have := toNat_eq s[i] 10
    have e : ((10 : UInt8).toNat : Int) = 10 := rfl
    rw [e] at this
    simp only [bne, this, decide_eq_false hne, Bool.not_false]
  have w : IntKind.i64.wrap ((i : Int) + 1) = ((i + 1 : Nat) : Int) := by rw [wrap_i64 (by omega) (by omega)]; omega
  have l3 := tl (rgn Tryd.f24 3)
  conv at l3 => rhs; simp only [rgn, opsAt, codeOf, Tryd.f24, gS, gN, reduceIte, Nat.reduceEqDiff, tA]
  have l4 := tl (rgn Tryd.f24 4)
  conv at l4 => rhs; simp only [rgn, opsAt, codeOf, Tryd.f24, gS, gN, reduceIte, Nat.reduceEqDiff, tA]
  simp (decide := true) only [↓execG_seq, ↓g_region, ↓execG_block, ↓execG_skip, ↓g_if, thenE_norm, leaveB_norm, ↓r_nil, ↓r_cons, ↓o_move, ↓o_pickt, ↓o_load, ↓o_store, ↓o_nilCheck, ↓o_binOp, ↓o_fieldAddr, ↓o_indexAddr, ↓o_builtin, nextE_app, putK_app, putO_app, putG_bool, putG_int, normK_app, nilCheckA_ok, evalE_tmp, evalE_const, upd_some, upd_none, bindO_ok, bindV_ok, reduceIte, map_one, ↓reg_lit l3, ↓reg_lit l4, ↓r_yes _ 10 true 21 _ gd24_3_10, e0, binA_lss, binA_neq, binA_add, hlt, h10, w, fld0, fld1, load_src h.here, load_at h.here, store_at h.here, len_slice (ts := #[26]) rfl und34, hix, load_byte hl]
  exact hx _ (by simp (decide := true) only [upd_some, reduceIte, e0])
theorem in_stop {K : Kf} {N : Nat} {H0 H : Heap} {a : Option Addr} {c : Nat} {s : List UInt8} {b i : Nat} {E : Env} {Q : R → Prop} {k : KOE} (x : Ctx H0 a c s b) (h : Curs H0 H b a s.length c i) (e0 : E 0 = .pointer (some ⟨b, 0, none⟩)) (hs : i < s.length → s.getD i 0 = 10) (hx : ∀ E', E' 0 = .pointer (some ⟨b, 0, none⟩) → Q (k (.exit 2) E' [] H)) :
    Q (execG PP XX K N noPr (.seq (.seq (.region 3 (rgn Tryd.f24 3) true) (.cond (.tmp 33) (.skip) (.exit 2))) (.block 3 (.region 4 (rgn Tryd.f24 4) false))) none E [] H k) := by
  by_cases hi : i < s.length
  · have hlt : decide ((i : Int) < (s.length : Int)) = true := decide_eq_true (by omega)
    obtain ⟨b0, rfl, hl⟩ := (h.row x).bts.cell i hi
    have hix := index_row (n := s.length) (c := c) (a := b0) hi
    have he : s[i] = 10 := by have := hs hi; simpa [List.getD, hi] using this
    have h10 : ((s[i].toNat : Int) != 10) = false := by rw [he]; rfl
    have l3 := tl (rgn Tryd.f24 3)
    conv at l3 => rhs; simp only [rgn, opsAt, codeOf, Tryd.f24, gS, gN, reduceIte, Nat.reduceEqDiff, tA]
    have l4 := tl (rgn Tryd.f24 4)
    conv at l4 => rhs; simp only [rgn, opsAt, codeOf, Tryd.f24, gS, gN, reduceIte, Nat.reduceEqDiff, tA]
    simp (decide := true) only [↓execG_seq, ↓g_region, ↓execG_exit, ↓g_else, thenE_norm, thenE_exit, ↓r_nil, ↓r_cons, ↓o_move, ↓o_pickt, ↓o_load, ↓o_nilCheck, ↓o_binOp, ↓o_fieldAddr, ↓o_indexAddr, ↓o_builtin, nextE_app, putK_app, putO_app, putG_bool, normK_app, nilCheckA_ok, evalE_tmp, evalE_const, upd_some, bindO_ok, bindV_ok, reduceIte, map_one, ↓reg_lit l3, ↓r_yes _ 10 true 21 _ gd24_3_10, e0, binA_lss, binA_neq, hlt, h10, fld0, fld1, load_src h.here, load_at h.here, len_slice (ts := #[26]) rfl und34, hix, load_byte hl]
    exact hx _ (by simp (decide := true) only [upd_some, reduceIte, e0])
  · have hlt : decide ((i : Int) < (s.length : Int)) = false := decide_eq_false (by omega)
    have l3 := tl (rgn Tryd.f24 3)
    conv at l3 => rhs; simp only [rgn, opsAt, codeOf, Tryd.f24, gS, gN, reduceIte, Nat.reduceEqDiff, tA]
    have l4 := tl (rgn Tryd.f24 4)
    conv at l4 => rhs; simp only [rgn, opsAt, codeOf, Tryd.f24, gS, gN, reduceIte, Nat.reduceEqDiff, tA]
    simp (decide := true) only [↓execG_seq, ↓g_region, ↓execG_exit, ↓g_else, thenE_norm, thenE_exit, ↓r_nil, ↓r_cons, ↓o_move, ↓o_pickf, ↓o_load, ↓o_nilCheck, ↓o_binOp, ↓o_fieldAddr, ↓o_builtin, nextE_app, putK_app, putO_app, putG_bool, normK_app, nilCheckA_ok, evalE_tmp, evalE_const, upd_some, bindO_ok, bindV_ok, reduceIte, map_one, Bool.not_true, ↓reg_lit l3, ↓r_no _ 10 true 21 _ gd24_3_10, e0, binA_lss, hlt, fld0, fld1, load_src h.here, load_at h.here, len_slice (ts := #[26]) rfl und34]
    exact hx _ (by simp (decide := true) only [upd_some, reduceIte, e0])
theorem in_then {K : Kf} {N : Nat} {H0 : Heap} {a : Option Addr} {c : Nat} {s : List UInt8} {b : Nat} {Q : R → Prop} {k : KOE} (x : Ctx H0 a c s b) :
    ∀ (n i m : Nat) (_ : i + n = s.length) (_ : n < m) {H : Heap} {E : Env} (_ : Curs H0 H b a s.length c i) (_ : E 0 = .pointer (some ⟨b, 0, none⟩)) (_ : ∀ E' H', E' 0 = .pointer (some ⟨b, 0, none⟩) → Curs H0 H' b a s.length c (lineEnd s n i) → Q (k (.exit 2) E' [] H')),
      Q (loopE (execG PP XX K N noPr (.seq (.seq (.region 3 (rgn Tryd.f24 3) true) (.cond (.tmp 33) (.skip) (.exit 2))) (.block 3 (.region 4 (rgn Tryd.f24 4) false))) none) m E [] H k)
  | 0, i, m + 1, hn, hm, H, E, h, e0, hx => by
    rw [loopE_succ]
    exact in_stop x h e0 (fun hi => by omega) fun E' e' => hx E' H e' h
  | n + 1, i, m + 1, hn, hm, H, E, h, e0, hx => by
    rw [loopE_succ]
    by_cases h10 : s.getD i 0 = 10
    · have e : lineEnd s (n + 1) i = i := by unfold lineEnd; rw [if_pos h10]
      rw [e] at hx
      exact in_stop x h e0 (fun _ => h10) fun E' e' => hx E' H e' h
    · have e : lineEnd s (n + 1) i = lineEnd s n (i + 1) := by rw [lineEnd, if_neg h10]
      rw [e] at hx
      have hi : i < s.length := by omega
      refine in_step x h e0 hi (by simpa [List.getD, hi] using h10) fun E' e' => ?_
      rw [thenE_norm]
      exact in_then x n (i + 1) m (by omega) (by omega) (h.set (i + 1)) e' hx

theorem out_stop {N : Nat} {H0 H : Heap} {a : Option Addr} {c : Nat} {s : List UInt8} {b i : Nat} {E : Env} {Q : R → Prop} {k : KOE} {hk : Hook} {d : Nat} (x : Ctx H0 a c s b) (h : Curs H0 H b a s.length c i) (e0 : E 0 = .pointer (some ⟨b, 0, none⟩)) (hh : ∀ f args H, okC f = true → hk f args H = none) (h1 : isI s i 1 = false) (h2 : isI s i 2 = false) (hx : ∀ E', E' 0 = .pointer (some ⟨b, 0, none⟩) → Q (k (.exit 0) E' [] H)) :
    Q (execG PP XX (CG N hk (d + 2)) N noPr (.seq (.seq (.region 1 (rgn Tryd.f24 1) false) (.cond (.tmp 8) (.skip) (.exit 0))) (.block 1 (.seq (.seq (.region 2 (rgn Tryd.f24 2) false) (.cond (.tmp 10) (.seq (.block 2 (.loop (.seq (.seq (.region 3 (rgn Tryd.f24 3) true) (.cond (.tmp 33) (.skip) (.exit 2))) (.block 3 (.region 4 (rgn Tryd.f24 4) false))))) (.exit 1)) (.skip))) (.region 5 (rgn Tryd.f24 5) false)))) none E [] H k) := by
  have r1 := call_is (N := N) (hk := hk) (d := d) (h.gg x) (h.row x) h.here 1 hh
  have r2 := call_is (N := N) (hk := hk) (d := d) (h.gg x) (h.row x) h.here 2 hh
  rw [h1] at r1
  rw [h2] at r2
  have l1 := tl (rgn Tryd.f24 1)
  conv at l1 => rhs; simp only [rgn, opsAt, codeOf, Tryd.f24, gS, gN, reduceIte, Nat.reduceEqDiff, tA]
  simp (decide := true) only [↓execG_seq, ↓g_region, ↓execG_exit, ↓g_else, thenE_norm, thenE_exit, ↓r_nil, ↓r_cons, ↓o_move, ↓o_pickf, ↓o_callf, nextE_app, putK_app, normK_app, evalE_tmp, evalE_const, upd_some, reduceIte, map_two, ↓reg_lit l1, ↓r_yes _ 2 false 5 _ gd24_1_2, e0, callK_fn Tryd.func38 rfl rfl r1, callK_fn Tryd.func38 rfl rfl r2]
  exact hx _ (by simp (decide := true) only [upd_some, reduceIte, e0])
theorem out_blank {N : Nat} {H0 H : Heap} {a : Option Addr} {c : Nat} {s : List UInt8} {b i : Nat} {E : Env} {Q : R → Prop} {k : KOE} {hk : Hook} {d : Nat} (x : Ctx H0 a c s b) (h : Curs H0 H b a s.length c i) (e0 : E 0 = .pointer (some ⟨b, 0, none⟩)) (hh : ∀ f args H, okC f = true → hk f args H = none) (h1 : isI s i 1 = true) (h2 : isI s i 2 = false) (hi : i < s.length) (hx : ∀ E', E' 0 = .pointer (some ⟨b, 0, none⟩) → Q (k .norm E' [] (H.set b (cur a s.length c (i + 1))))) :
    Q (execG PP XX (CG N hk (d + 2)) N noPr (.seq (.seq (.region 1 (rgn Tryd.f24 1) false) (.cond (.tmp 8) (.skip) (.exit 0))) (.block 1 (.seq (.seq (.region 2 (rgn Tryd.f24 2) false) (.cond (.tmp 10) (.seq (.block 2 (.loop (.seq (.seq (.region 3 (rgn Tryd.f24 3) true) (.cond (.tmp 33) (.skip) (.exit 2))) (.block 3 (.region 4 (rgn Tryd.f24 4) false))))) (.exit 1)) (.skip))) (.region 5 (rgn Tryd.f24 5) false)))) none E [] H k) := by
  have r1 := call_is (N := N) (hk := hk) (d := d) (h.gg x) (h.row x) h.here 1 hh
  have r2 := call_is (N := N) (hk := hk) (d := d) (h.gg x) (h.row x) h.here 2 hh
  rw [h1] at r1
  rw [h2] at r2
  have hsm := x.row.small
  have w : IntKind.i64.wrap ((i : Int) + 1) = ((i + 1 : Nat) : Int) := by rw [wrap_i64 (by omega) (by omega)]; omega
  have l1 := tl (rgn Tryd.f24 1)
  conv at l1 => rhs; simp only [rgn, opsAt, codeOf, Tryd.f24, gS, gN, reduceIte, Nat.reduceEqDiff, tA]
  have l2 := tl (rgn Tryd.f24 2)
  conv at l2 => rhs; simp only [rgn, opsAt, codeOf, Tryd.f24, gS, gN, reduceIte, Nat.reduceEqDiff, tA]
  have l5 := tl (rgn Tryd.f24 5)
  conv at l5 => rhs; simp only [rgn, opsAt, codeOf, Tryd.f24, gS, gN, reduceIte, Nat.reduceEqDiff, tA]
  simp (decide := true) only [↓execG_seq, ↓g_region, ↓execG_block, ↓execG_skip, ↓g_if, ↓g_else, thenE_norm, leaveB_norm, ↓r_nil, ↓r_cons, ↓o_move, ↓o_pickt, ↓o_load, ↓o_store, ↓o_nilCheck, ↓o_binOp, ↓o_fieldAddr, ↓o_callf, nextE_app, putK_app, putO_app, putG_int, normK_app, nilCheckA_ok, evalE_tmp, evalE_const, upd_some, upd_none, bindO_ok, bindV_ok, reduceIte, map_two, Bool.not_false, ↓reg_lit l1, ↓reg_lit l2, ↓reg_lit l5, ↓r_no _ 2 false 5 _ gd24_1_2, e0, callK_fn Tryd.func38 rfl rfl r1, callK_fn Tryd.func38 rfl rfl r2, fld1, load_at h.here, store_at h.here, binA_add, w]
  exact hx _ (by simp (decide := true) only [upd_some, reduceIte, e0])
theorem out_hash {N : Nat} {H0 H : Heap} {a : Option Addr} {c : Nat} {s : List UInt8} {b i : Nat} {E : Env} {Q : R → Prop} {k : KOE} {hk : Hook} {d : Nat} (x : Ctx H0 a c s b) (h : Curs H0 H b a s.length c i) (e0 : E 0 = .pointer (some ⟨b, 0, none⟩)) (hh : ∀ f args H, okC f = true → hk f args H = none) (h1 : isI s i 1 = false) (h2 : isI s i 2 = true) (hi : i < s.length) (hN : s.length < N) (hx : ∀ E' H', E' 0 = .pointer (some ⟨b, 0, none⟩) → Curs H0 H' b a s.length c (lineEnd s (s.length - i) i) → Q (k .norm E' [] H')) :
    Q (execG PP XX (CG N hk (d + 2)) N noPr (.seq (.seq (.region 1 (rgn Tryd.f24 1) false) (.cond (.tmp 8) (.skip) (.exit 0))) (.block 1 (.seq (.seq (.region 2 (rgn Tryd.f24 2) false) (.cond (.tmp 10) (.seq (.block 2 (.loop (.seq (.seq (.region 3 (rgn Tryd.f24 3) true) (.cond (.tmp 33) (.skip) (.exit 2))) (.block 3 (.region 4 (rgn Tryd.f24 4) false))))) (.exit 1)) (.skip))) (.region 5 (rgn Tryd.f24 5) false)))) none E [] H k) := by
  have r1 := call_is (N := N) (hk := hk) (d := d) (h.gg x) (h.row x) h.here 1 hh
  have r2 := call_is (N := N) (hk := hk) (d := d) (h.gg x) (h.row x) h.here 2 hh
  rw [h1] at r1
  rw [h2] at r2
  have l1 := tl (rgn Tryd.f24 1)
  conv at l1 => rhs; simp only [rgn, opsAt, codeOf, Tryd.f24, gS, gN, reduceIte, Nat.reduceEqDiff, tA]
  have l2 := tl (rgn Tryd.f24 2)
  conv at l2 => rhs; simp only [rgn, opsAt, codeOf, Tryd.f24, gS, gN, reduceIte, Nat.reduceEqDiff, tA]
  simp (decide := true) only [↓execG_seq, ↓g_region, ↓execG_block, ↓execG_skip, ↓g_if, thenE_norm, ↓r_nil, ↓r_cons, ↓o_move, ↓o_pickf, ↓o_callf, nextE_app, putK_app, normK_app, evalE_tmp, evalE_const, upd_some, reduceIte, map_two, ↓reg_lit l1, ↓reg_lit l2, ↓r_yes _ 2 false 5 _ gd24_1_2, e0, callK_fn Tryd.func38 rfl rfl r1, callK_fn Tryd.func38 rfl rfl r2, ↓execG_loop]
  refine in_then x (s.length - i) i N (by omega) (by omega) h ?_ fun E' H' e' h' => ?_
  · simp (decide := true) only [upd_some, reduceIte, e0]
  simp (decide := true) only [↓execG_exit, thenE_norm, thenE_exit, g_leave]
  exact hx E' H' e' h'
theorem out_then {N : Nat} {H0 : Heap} {a : Option Addr} {c : Nat} {s : List UInt8} {b : Nat} {Q : R → Prop} {k : KOE} {hk : Hook} {d : Nat} (x : Ctx H0 a c s b) (hh : ∀ f args H, okC f = true → hk f args H = none) (hN : s.length < N) :
    ∀ (n i m : Nat) (_ : i ≤ s.length) (_ : s.length ≤ i + n) (_ : n < m) {H : Heap} {E : Env} (_ : Curs H0 H b a s.length c i) (_ : E 0 = .pointer (some ⟨b, 0, none⟩)) (_ : ∀ E' H', E' 0 = .pointer (some ⟨b, 0, none⟩) → Curs H0 H' b a s.length c (skipTo s n i) → Q (k (.exit 0) E' [] H')),
      Q (loopE (execG PP XX (CG N hk (d + 2)) N noPr (.seq (.seq (.region 1 (rgn Tryd.f24 1) false) (.cond (.tmp 8) (.skip) (.exit 0))) (.block 1 (.seq (.seq (.region 2 (rgn Tryd.f24 2) false) (.cond (.tmp 10) (.seq (.block 2 (.loop (.seq (.seq (.region 3 (rgn Tryd.f24 3) true) (.cond (.tmp 33) (.skip) (.exit 2))) (.block 3 (.region 4 (rgn Tryd.f24 4) false))))) (.exit 1)) (.skip))) (.region 5 (rgn Tryd.f24 5) false)))) none) m E [] H k)
  | 0, i, m + 1, hi, hn, hm, H, E, h, e0, hx => by
    rw [loopE_succ]
    have z : ∀ q, isI s i q = false := fun q => by simp [isI]; omega
    exact out_stop x h e0 hh (z 1) (z 2) fun E' e' => hx E' H e' h
  | n + 1, i, m + 1, hi, hn, hm, H, E, h, e0, hx => by
    rw [loopE_succ]
    by_cases h1 : isI s i 1 = true
    · have e : skipTo s (n + 1) i = skipTo s n (i + 1) := by rw [skipTo, if_pos h1]
      rw [e] at hx
      have q : i < s.length ∧ clsI (s.getD i 0) = 1 := by simpa [isI] using h1
      have h2 : isI s i 2 = false := by simp only [isI, q.2]; simp
      refine out_blank x h e0 hh h1 h2 q.1 fun E' e' => ?_
      rw [thenE_norm]
      exact out_then x hh hN n (i + 1) m (by omega) (by omega) (by omega) (h.set (i + 1)) e' hx
    · have h1' : isI s i 1 = false := by simpa using h1
      by_cases h2 : isI s i 2 = true
      · have e : skipTo s (n + 1) i = skipTo s n (lineEnd s (s.length - i) i) := by rw [skipTo, if_neg h1, if_pos h2]
        rw [e] at hx
        have q : i < s.length ∧ clsI (s.getD i 0) = 2 := by simpa [isI] using h2
        have hge : i + 1 ≤ lineEnd s (s.length - i) i ∧ lineEnd s (s.length - i) i ≤ s.length := by
          obtain ⟨r, hr⟩ : ∃ r, s.length - i = r + 1 := ⟨s.length - i - 1, by omega⟩
          have h10 : ¬ s.getD i 0 = 10 := fun e => by
            have := q.2
            rw [e, clsI_ten] at this
            exact absurd this (by decide)
          rw [hr, lineEnd, if_neg h10]
          have := lineEnd_ge s r (i + 1)
          omega
        refine out_hash x h e0 hh h1' h2 q.1 hN fun E' H' e' h' => ?_
        rw [thenE_norm]
        exact out_then x hh hN n _ m hge.2 (by omega) (by omega) h' e' hx
      · have h2' : isI s i 2 = false := by simpa using h2
        have e : skipTo s (n + 1) i = i := by rw [skipTo, if_neg h1, if_neg h2]
        rw [e] at hx
        exact out_stop x h e0 hh h1' h2' fun E' e' => hx E' H e' h

theorem call_skip {N : Nat} {hk : Hook} {d : Nat} {H0 H : Heap} {a : Option Addr} {c : Nat} {s : List UInt8} {b i : Nat} (x : Ctx H0 a c s b) (h : Curs H0 H b a s.length c i) (hh : ∀ f args H, okC f = true → hk f args H = none) (hi : i ≤ s.length) (hN : s.length < N) :
    ∃ H', Curs H0 H' b a s.length c (skipTo s (s.length - i) i) ∧ CG N hk (d + 3) 24 #[.pointer (some ⟨b, 0, none⟩)] H = some (.ret (.bool (decide (skipTo s (s.length - i) i < s.length))), H') := by
  have main : ∃ R0 : R, CG N hk (d + 3) 24 #[.pointer (some ⟨b, 0, none⟩)] H = R0 ∧ ∃ H', Curs H0 H' b a s.length c (skipTo s (s.length - i) i) ∧ R0 = some (.ret (.bool (decide (skipTo s (s.length - i) i < s.length))), H') := by
    refine ⟨_, callG_fn (hh _ _ _ rfl) Tryd.func24 (c := codeOf Tryd.f24) rfl rfl rfl (pr := noPr) rfl, ?_⟩
    rw [code24]
    generalize hF : finE PP Tryd.f24 = F
    have l0 := tl (rgn Tryd.f24 0)
    conv at l0 => rhs; simp only [rgn, opsAt, codeOf, Tryd.f24, gS, gN, reduceIte, Nat.reduceEqDiff, tA]
    have l6 := tl (rgn Tryd.f24 6)
    conv at l6 => rhs; simp only [rgn, opsAt, codeOf, Tryd.f24, gS, gN, reduceIte, Nat.reduceEqDiff, tA]
    simp (decide := true) only [↓execG_seq, ↓g_region, ↓execG_block, thenE_norm, ↓r_nil, ↓r_cons, ↓o_assign, nextE_app, normK_app, evalE_const, ↓reg_lit l0, ↓execG_loop]
    refine out_then (Q := fun r => ∃ H', Curs H0 H' b a s.length c (skipTo s (s.length - i) i) ∧ r = some (.ret (.bool (decide (skipTo s (s.length - i) i < s.length))), H')) x hh hN (s.length - i) i N hi (by omega) (by omega) h ?_ fun E' H' e' h' => ?_
    · simp (decide := true) only [upd_some, reduceIte, startE_0]
    have hlt : decide (((skipTo s (s.length - i) i : Nat) : Int) < (s.length : Int)) = decide (skipTo s (s.length - i) i < s.length) := by
      by_cases q : skipTo s (s.length - i) i < s.length
      · rw [decide_eq_true q]; exact decide_eq_true (by omega)
      · rw [decide_eq_false q]; exact decide_eq_false (by omega)
    refine ⟨H', h', ?_⟩
    simp (decide := true) only [↓execG_seq, ↓g_region, ↓execG_ret, thenE_norm, g_leave, ↓r_nil, ↓r_cons, ↓o_move, ↓o_assign, ↓o_load, ↓o_nilCheck, ↓o_binOp, ↓o_fieldAddr, ↓o_builtin, nextE_app, putK_app, putO_app, putG_bool, normK_app, nilCheckA_ok, evalE_tmp, upd_some, bindO_ok, bindV_ok, reduceIte, map_one, ↓reg_lit l6, e', binA_lss, hlt, fld0, fld1, load_src h'.here, load_at h'.here, len_slice (ts := #[26]) rfl und34]
    rw [← hF, finE_ret (l := [.bool (decide (skipTo s (s.length - i) i < s.length))]) (by simp (decide := true) [Tryd.f24, resE, upd_some])]
    rfl
  obtain ⟨R0, m1, H', m2, m3⟩ := main
  exact ⟨H', m2, m1.trans m3⟩
end Go.Am
/- A word. -/
open Go.Proofs
namespace Go.Am

theorem Brow.mid {H : Heap} {x : Addr} {s : List UInt8} (h : Brow H (some x) s) {i j : Nat} (hij : i ≤ j) (hj : j ≤ s.length) : Brow H (some (x.add i)) ((s.drop i).take (j - i)) := by
  have hl : ((s.drop i).take (j - i)).length = j - i := by simp; omega
  refine ⟨fun y hy => ?_, (fun e => by cases e), by have := h.small; omega⟩
  obtain rfl := Option.some.inj hy
  obtain ⟨z, h1, h2, h3, h4⟩ := h.row x rfl
  obtain ⟨k1, k2⟩ := look_add h1 i
  refine ⟨z, k1, h2, by rw [k2, hl]; omega, ?_⟩
  rw [k2, hl, List.map_take, List.map_drop, ← h4, List.drop_take, List.drop_drop, List.take_take]
  congr 1
  omega
theorem slice_mid {H : Heap} {x : Addr} {s : List UInt8} (h : Brow H (some x) s) {i j c : Nat} (hij : i ≤ j) (hj : j ≤ s.length) (hc : s.length ≤ c) :
    ∃ q, sliceOpA PP 26 (.slice (some x) s.length c) (some (.int .i64 (i : Int))) (some (.int .i64 (j : Int))) none H = some (.slice (some (x.add i)) (j - i) q) := by
  obtain ⟨z, h1, h2, h3, _⟩ := h.row x rfl
  refine ⟨c - i, ?_⟩
  simp only [sliceOpA, und34, size5, sliceA]
  have hi : (0 : Int) ≤ (i : Int) ∧ (i : Int) ≤ (j : Int) ∧ (j : Int) ≤ (c : Int) := by omega
  rw [if_pos hi]
  simp only [h1, h2]
  have e1 : ((j : Int) - (i : Int)).toNat = j - i := by omega
  have e2 : ((c : Int) - (i : Int)).toNat = c - i := by omega
  simp [e1]
theorem undStr : PP.underlying 9 = some .string := Tryd.underlying9
theorem undU8 : PP.underlying 5 = some (.int .u8) := Tryd.underlying5
theorem conv_str {H : Heap} {x : Addr} {s : List UInt8} {q : Nat} (h : Brow H (some x) s) : convertA PP 26 9 (.slice (some x) s.length q) H = some (.string ⟨s.toArray⟩, H) := by
  simp only [convertA, und34, undStr, undU8, h.bts.str]

/-- A token's block. -/
def tok (kind n : Int) (w : ByteArray) (from_ to_ : Int) : Blk := ⟨[.int .i64 kind, .int .u64 n, .string w, .int .i64 from_, .int .i64 to_], true, 1, none⟩
theorem tf0 (b : Nat) : fieldAddrA PP 29 (.pointer (some ⟨b, 0, none⟩)) 0 = some (.pointer (some ⟨b, 0, none⟩)) := by kernel_rfl
theorem tf2 (b : Nat) : fieldAddrA PP 29 (.pointer (some ⟨b, 0, none⟩)) 2 = some (.pointer (some ⟨b, 2, none⟩)) := by kernel_rfl
theorem tf4 (b : Nat) : fieldAddrA PP 29 (.pointer (some ⟨b, 0, none⟩)) 4 = some (.pointer (some ⟨b, 4, none⟩)) := by kernel_rfl
theorem sizeStr : sizeT PP 9 = some 1 := by decide +kernel
theorem load_kind {H : Heap} {b : Nat} {k n f e : Int} {w : ByteArray} (h : H.get b = some (tok k n w f e)) : loadA PP 3 (.pointer (some ⟨b, 0, none⟩)) H = some (.int .i64 k, H) := by
  simp only [loadA, agg3]
  simp [ld1, look, h, tok]
theorem store_kind {H : Heap} {b : Nat} {k n f e : Int} {w : ByteArray} (h : H.get b = some (tok k n w f e)) (k' : Int) : storeA PP 3 (.pointer (some ⟨b, 0, none⟩)) (.int .i64 k') H = some (undef, H.set b (tok k' n w f e)) := by
  simp only [storeA, size3, stV]
  simp [Value.cells, st, look, h, tok, over, Value.oneCell']
theorem store_text {H : Heap} {b : Nat} {k n f e : Int} {w : ByteArray} (h : H.get b = some (tok k n w f e)) (w' : ByteArray) : storeA PP 9 (.pointer (some ⟨b, 2, none⟩)) (.string w') H = some (undef, H.set b (tok k n w' f e)) := by
  simp only [storeA, sizeStr, stV]
  simp [Value.cells, st, look, h, tok, over, Value.oneCell']
theorem store_end {H : Heap} {b : Nat} {k n f e : Int} {w : ByteArray} (h : H.get b = some (tok k n w f e)) (e' : Int) : storeA PP 3 (.pointer (some ⟨b, 4, none⟩)) (.int .i64 e') H = some (undef, H.set b (tok k n w f e')) := by
  simp only [storeA, size3, stV]
  simp [Value.cells, st, look, h, tok, over, Value.oneCell']

/-- Two blocks have changed. -/
structure Two (H0 H : Heap) (b : Nat) (x : Blk) (t : Nat) (y : Blk) : Prop where
  next : H.next = H0.next
  one : H.get b = some x
  two : H.get t = some y
  there : ∀ z, z ≠ b → z ≠ t → H.get z = H0.get z
theorem Curs.two {H0 H : Heap} {b t : Nat} {a : Option Addr} {n c i : Nat} (h : Curs H0 H b a n c i) (hbt : t ≠ b) {y : Blk} (hy : H0.get t = some y) : Two H0 H b (cur a n c i) t y :=
  ⟨h.next, h.here, (h.there t hbt).trans hy, fun z h1 _ => h.there z h1⟩
theorem Two.set {H0 H : Heap} {b t : Nat} {x y : Blk} (h : Two H0 H b x t y) (hbt : t ≠ b) (y' : Blk) : Two H0 (H.set t y') b x t y' :=
  ⟨h.next, by rw [Heap.get_set, if_neg (Ne.symm hbt)]; exact h.one, by rw [Heap.get_set, if_pos rfl], fun z h1 h2 => by rw [Heap.get_set, if_neg h2]; exact h.there z h1 h2⟩
theorem Two.set1 {H0 H : Heap} {b t : Nat} {x y : Blk} (h : Two H0 H b x t y) (hbt : t ≠ b) (x' : Blk) : Two H0 (H.set b x') b x' t y :=
  ⟨h.next, by rw [Heap.get_set, if_pos rfl], by rw [Heap.get_set, if_neg hbt]; exact h.two, fun z h1 h2 => by rw [Heap.get_set, if_neg h1]; exact h.there z h1 h2⟩

/-- May it stand in a word? -/
def isW (s : List UInt8) (i : Nat) : Bool := isI s i 4 || isI s i 3
/-- The end of the word. -/
def runTo (s : List UInt8) : Nat → Nat → Nat
  | 0, i => i
  | n + 1, i => if isW s i then runTo s n (i + 1) else i
theorem runTo_ge (s : List UInt8) : ∀ n i, i ≤ runTo s n i ∧ runTo s n i ≤ i + n
  | 0, i => by simp [runTo]
  | n + 1, i => by
    unfold runTo
    have := runTo_ge s n (i + 1)
    split <;> omega

theorem code40 : codeOf Tryd.f40 = .seq (.region 0 (rgn Tryd.f40 0) false) (.seq (.region 1 (rgn Tryd.f40 1) false) (.seq (.block 0 (.loop (.seq (.seq (.region 2 (rgn Tryd.f40 2) false) (.cond (.tmp 16) (.skip) (.exit 0))) (.block 1 (.seq (.seq (.region 3 (rgn Tryd.f40 3) false) (.cond (.tmp 23) (.seq (.region 4 (rgn Tryd.f40 4) false) (.ret)) (.skip))) (.region 5 (rgn Tryd.f40 5) false)))))) (.seq (.region 6 (rgn Tryd.f40 6) true) (.seq (.region 7 (rgn Tryd.f40 7) false) (.seq (.seq (.region 8 (rgn Tryd.f40 8) false) (.cond (.tmp 51) (.region 9 (rgn Tryd.f40 9) false) (.skip))) (.seq (.region 10 (rgn Tryd.f40 10) false) (.ret))))))) := by kernel_rfl
theorem gd40_2_2 : ((rgn Tryd.f40 2)[2]?).bind (·.dst) = some 13 := by kernel_rfl

theorem w_stop {N : Nat} {H0 H : Heap} {a : Option Addr} {c : Nat} {s : List UInt8} {b t i j : Nat} {E : Env} {Q : R → Prop} {k : KOE} {hk : Hook} {d : Nat} (x : Ctx H0 a c s b) (h : Curs H0 H b a s.length c i) (e0 : E 0 = .pointer (some ⟨b, 0, none⟩)) (e1 : E 1 = .pointer (some ⟨t, 0, none⟩)) (e5 : E 5 = .int .i64 (j : Int)) (hh : ∀ f args H, okC f = true → hk f args H = none) (h4 : isI s i 4 = false) (h3 : isI s i 3 = false) (hx : ∀ E', E' 0 = .pointer (some ⟨b, 0, none⟩) ∧ E' 1 = .pointer (some ⟨t, 0, none⟩) ∧ E' 5 = .int .i64 (j : Int) → Q (k (.exit 0) E' [] H)) :
    Q (execG PP XX (CG N hk (d + 2)) N noPr (.seq (.seq (.region 2 (rgn Tryd.f40 2) false) (.cond (.tmp 16) (.skip) (.exit 0))) (.block 1 (.seq (.seq (.region 3 (rgn Tryd.f40 3) false) (.cond (.tmp 23) (.seq (.region 4 (rgn Tryd.f40 4) false) (.ret)) (.skip))) (.region 5 (rgn Tryd.f40 5) false)))) none E [] H k) := by
  have r1 := call_is (N := N) (hk := hk) (d := d) (h.gg x) (h.row x) h.here 4 hh
  have r2 := call_is (N := N) (hk := hk) (d := d) (h.gg x) (h.row x) h.here 3 hh
  rw [h4] at r1
  rw [h3] at r2
  have l2 := tl (rgn Tryd.f40 2)
  conv at l2 => rhs; simp only [rgn, opsAt, codeOf, Tryd.f40, gS, gN, reduceIte, Nat.reduceEqDiff, tA]
  simp (decide := true) only [↓execG_seq, ↓g_region, ↓execG_exit, ↓g_else, thenE_norm, thenE_exit, ↓r_nil, ↓r_cons, ↓o_move, ↓o_pickf, ↓o_callf, nextE_app, putK_app, normK_app, evalE_tmp, evalE_const, upd_some, reduceIte, map_two, ↓reg_lit l2, ↓r_yes _ 2 false 13 _ gd40_2_2, e0, callK_fn Tryd.func38 rfl rfl r1, callK_fn Tryd.func38 rfl rfl r2]
  exact hx _ ⟨by simp (decide := true) only [upd_some, reduceIte, e0], by simp (decide := true) only [upd_some, reduceIte, e1], by simp (decide := true) only [upd_some, reduceIte, e5]⟩
theorem w_step {N : Nat} {H0 H : Heap} {a : Option Addr} {c : Nat} {s : List UInt8} {b t i j : Nat} {E : Env} {Q : R → Prop} {k : KOE} {hk : Hook} {d : Nat} (x : Ctx H0 a c s b) (h : Curs H0 H b a s.length c i) (e0 : E 0 = .pointer (some ⟨b, 0, none⟩)) (e1 : E 1 = .pointer (some ⟨t, 0, none⟩)) (e5 : E 5 = .int .i64 (j : Int)) (hh : ∀ f args H, okC f = true → hk f args H = none) (hw : isW s i = true) (hji : j ≤ i) (hi : i < j + 32) (hl : i < s.length) (hx : ∀ E', E' 0 = .pointer (some ⟨b, 0, none⟩) ∧ E' 1 = .pointer (some ⟨t, 0, none⟩) ∧ E' 5 = .int .i64 (j : Int) → Q (k .norm E' [] (H.set b (cur a s.length c (i + 1))))) :
    Q (execG PP XX (CG N hk (d + 2)) N noPr (.seq (.seq (.region 2 (rgn Tryd.f40 2) false) (.cond (.tmp 16) (.skip) (.exit 0))) (.block 1 (.seq (.seq (.region 3 (rgn Tryd.f40 3) false) (.cond (.tmp 23) (.seq (.region 4 (rgn Tryd.f40 4) false) (.ret)) (.skip))) (.region 5 (rgn Tryd.f40 5) false)))) none E [] H k) := by
  have r1 := call_is (N := N) (hk := hk) (d := d) (h.gg x) (h.row x) h.here 4 hh
  have r2 := call_is (N := N) (hk := hk) (d := d) (h.gg x) (h.row x) h.here 3 hh
  have hsm := x.row.small
  have w : IntKind.i64.wrap ((i : Int) + 1) = ((i + 1 : Nat) : Int) := by rw [wrap_i64 (by omega) (by omega)]; omega
  have w2 : IntKind.i64.wrap ((i : Int) - (j : Int)) = (i : Int) - (j : Int) := wrap_i64 (by omega) (by omega)
  have hne : (((i : Int) - (j : Int)) == 32) = false := by
    have : ¬ ((i : Int) - (j : Int)) = 32 := by omega
    simpa using this
  have l2 := tl (rgn Tryd.f40 2)
  conv at l2 => rhs; simp only [rgn, opsAt, codeOf, Tryd.f40, gS, gN, reduceIte, Nat.reduceEqDiff, tA]
  have l3 := tl (rgn Tryd.f40 3)
  conv at l3 => rhs; simp only [rgn, opsAt, codeOf, Tryd.f40, gS, gN, reduceIte, Nat.reduceEqDiff, tA]
  have l5 := tl (rgn Tryd.f40 5)
  conv at l5 => rhs; simp only [rgn, opsAt, codeOf, Tryd.f40, gS, gN, reduceIte, Nat.reduceEqDiff, tA]
  cases h4 : isI s i 4 with
  | true =>
    rw [h4] at r1
    simp (decide := true) only [↓execG_seq, ↓g_region, ↓execG_block, ↓execG_skip, ↓g_if, ↓g_else, thenE_norm, leaveB_norm, ↓r_nil, ↓r_cons, ↓o_move, ↓o_pickt, ↓o_load, ↓o_store, ↓o_nilCheck, ↓o_binOp, ↓o_fieldAddr, ↓o_callf, nextE_app, putK_app, putO_app, putG_bool, putG_int, normK_app, nilCheckA_ok, evalE_tmp, evalE_const, upd_some, upd_none, bindO_ok, bindV_ok, reduceIte, map_two, Bool.not_false, ↓reg_lit l2, ↓reg_lit l3, ↓reg_lit l5, ↓r_no _ 2 false 13 _ gd40_2_2, e0, e5, callK_fn Tryd.func38 rfl rfl r1, fld1, load_at h.here, store_at h.here, binA_sub, binA_eql, binA_add, w, w2, hne]
    exact hx _ ⟨by simp (decide := true) only [upd_some, reduceIte, e0], by simp (decide := true) only [upd_some, reduceIte, e1], by simp (decide := true) only [upd_some, reduceIte, e5]⟩
  | false =>
    have h3 : isI s i 3 = true := by simpa [isW, h4] using hw
    rw [h4] at r1
    rw [h3] at r2
    simp (decide := true) only [↓execG_seq, ↓g_region, ↓execG_block, ↓execG_skip, ↓g_if, ↓g_else, thenE_norm, leaveB_norm, ↓r_nil, ↓r_cons, ↓o_move, ↓o_pickf, ↓o_load, ↓o_store, ↓o_nilCheck, ↓o_binOp, ↓o_fieldAddr, ↓o_callf, nextE_app, putK_app, putO_app, putG_bool, putG_int, normK_app, nilCheckA_ok, evalE_tmp, evalE_const, upd_some, upd_none, bindO_ok, bindV_ok, reduceIte, map_two, ↓reg_lit l2, ↓reg_lit l3, ↓reg_lit l5, ↓r_yes _ 2 false 13 _ gd40_2_2, e0, e5, callK_fn Tryd.func38 rfl rfl r1, callK_fn Tryd.func38 rfl rfl r2, fld1, load_at h.here, store_at h.here, binA_sub, binA_eql, binA_add, w, w2, hne]
    exact hx _ ⟨by simp (decide := true) only [upd_some, reduceIte, e0], by simp (decide := true) only [upd_some, reduceIte, e1], by simp (decide := true) only [upd_some, reduceIte, e5]⟩
theorem w_then {N : Nat} {H0 : Heap} {a : Option Addr} {c : Nat} {s : List UInt8} {b t j : Nat} {Q : R → Prop} {k : KOE} {hk : Hook} {d : Nat} (x : Ctx H0 a c s b) (hh : ∀ f args H, okC f = true → hk f args H = none) :
    ∀ (n i m : Nat) (_ : j ≤ i) (_ : i + n = s.length) (_ : n < m) (_ : runTo s n i ≤ j + 32) {H : Heap} {E : Env} (_ : Curs H0 H b a s.length c i) (_ : E 0 = .pointer (some ⟨b, 0, none⟩) ∧ E 1 = .pointer (some ⟨t, 0, none⟩) ∧ E 5 = .int .i64 (j : Int)) (_ : ∀ E' H', (E' 0 = .pointer (some ⟨b, 0, none⟩) ∧ E' 1 = .pointer (some ⟨t, 0, none⟩) ∧ E' 5 = .int .i64 (j : Int)) → Curs H0 H' b a s.length c (runTo s n i) → Q (k (.exit 0) E' [] H')),
      Q (loopE (execG PP XX (CG N hk (d + 2)) N noPr (.seq (.seq (.region 2 (rgn Tryd.f40 2) false) (.cond (.tmp 16) (.skip) (.exit 0))) (.block 1 (.seq (.seq (.region 3 (rgn Tryd.f40 3) false) (.cond (.tmp 23) (.seq (.region 4 (rgn Tryd.f40 4) false) (.ret)) (.skip))) (.region 5 (rgn Tryd.f40 5) false)))) none) m E [] H k)
  | 0, i, m + 1, hj, hn, hm, hr, H, E, h, ⟨e0, e1, e5⟩, hx => by
    rw [loopE_succ]
    have z : ∀ q, isI s i q = false := fun q => by simp [isI]; omega
    exact w_stop x h e0 e1 e5 hh (z 4) (z 3) fun E' e' => hx E' H e' h
  | n + 1, i, m + 1, hj, hn, hm, hr, H, E, h, ⟨e0, e1, e5⟩, hx => by
    rw [loopE_succ]
    by_cases hw : isW s i = true
    · have e : runTo s (n + 1) i = runTo s n (i + 1) := by rw [runTo, if_pos hw]
      rw [e] at hx hr
      have := runTo_ge s n (i + 1)
      refine w_step x h e0 e1 e5 hh hw hj (by omega) (by omega) fun E' e' => ?_
      rw [thenE_norm]
      exact w_then x hh n (i + 1) m (by omega) (by omega) (by omega) hr (h.set (i + 1)) e' hx
    · have e : runTo s (n + 1) i = i := by rw [runTo, if_neg hw]
      rw [e] at hx
      have h43 : isI s i 4 = false ∧ isI s i 3 = false := by simpa [isW] using hw
      exact w_stop x h e0 e1 e5 hh h43.1 h43.2 fun E' e' => hx E' H e' h

/-- What a word answers that is not too long; 'r' is what 'Reserved' tells of it. -/
theorem call_word {N : Nat} {hk : Hook} {d : Nat} {H0 H : Heap} {a : Option Addr} {c : Nat} {s : List UInt8} {b t i e : Nat} {f0 t0 n0 : Int} (x : Ctx H0 a c s b) (h : Curs H0 H b a s.length c i) (hbt : t ≠ b) (ht : H0.get t = some (tok 0 n0 .empty f0 t0))
    (hh : ∀ f args H, okC f = true → hk f args H = none) (hi : i < s.length) (hc : s.length ≤ c) (hN : s.length < N) (he : e = runTo s (s.length - i) i) (he2 : e ≤ i + 32) (w : ByteArray) (hw : w = ⟨((s.drop i).take (e - i)).toArray⟩) (hres : ∀ H, Ext GE H → hk 16 #[.string w] H = some (some (.ret (.int .i64 0), H))) :
    ∃ H', Two H0 H' b (cur a s.length c e) t (tok 1 n0 w f0 t0) ∧ CG N hk (d + 3) 40 #[.pointer (some ⟨b, 0, none⟩), .pointer (some ⟨t, 0, none⟩)] H = some (.ret (.bool true), H') := by
  have main : ∃ R0 : R, CG N hk (d + 3) 40 #[.pointer (some ⟨b, 0, none⟩), .pointer (some ⟨t, 0, none⟩)] H = R0 ∧ ∃ H', Two H0 H' b (cur a s.length c e) t (tok 1 n0 w f0 t0) ∧ R0 = some (.ret (.bool true), H') := by
    refine ⟨_, callG_fn (hh _ _ _ rfl) Tryd.func40 (c := codeOf Tryd.f40) rfl rfl rfl (pr := noPr) rfl, ?_⟩
    rw [code40]
    generalize hF : finE PP Tryd.f40 = F
    have l0 := tl (rgn Tryd.f40 0)
    conv at l0 => rhs; simp only [rgn, opsAt, codeOf, Tryd.f40, gS, gN, reduceIte, Nat.reduceEqDiff, tA]
    have l1 := tl (rgn Tryd.f40 1)
    conv at l1 => rhs; simp only [rgn, opsAt, codeOf, Tryd.f40, gS, gN, reduceIte, Nat.reduceEqDiff, tA]
    have l6 := tl (rgn Tryd.f40 6)
    conv at l6 => rhs; simp only [rgn, opsAt, codeOf, Tryd.f40, gS, gN, reduceIte, Nat.reduceEqDiff, tA]
    have l7 := tl (rgn Tryd.f40 7)
    conv at l7 => rhs; simp only [rgn, opsAt, codeOf, Tryd.f40, gS, gN, reduceIte, Nat.reduceEqDiff, tA]
    have l8 := tl (rgn Tryd.f40 8)
    conv at l8 => rhs; simp only [rgn, opsAt, codeOf, Tryd.f40, gS, gN, reduceIte, Nat.reduceEqDiff, tA]
    have l9 := tl (rgn Tryd.f40 9)
    conv at l9 => rhs; simp only [rgn, opsAt, codeOf, Tryd.f40, gS, gN, reduceIte, Nat.reduceEqDiff, tA]
    have l10 := tl (rgn Tryd.f40 10)
    conv at l10 => rhs; simp only [rgn, opsAt, codeOf, Tryd.f40, gS, gN, reduceIte, Nat.reduceEqDiff, tA]
    simp (decide := true) only [↓execG_seq, ↓g_region, ↓execG_block, thenE_norm, ↓r_nil, ↓r_cons, ↓o_move, ↓o_assign, ↓o_load, ↓o_nilCheck, ↓o_fieldAddr, nextE_app, putK_app, putO_app, normK_app, nilCheckA_ok, evalE_tmp, evalE_const, upd_some, bindO_ok, bindV_ok, reduceIte, startE_0, ↓reg_lit l0, ↓reg_lit l1, ↓execG_loop, fld1, load_at h.here]
    refine w_then (Q := fun r => ∃ H', Two H0 H' b (cur a s.length c e) t (tok 1 n0 w f0 t0) ∧ r = some (.ret (.bool true), H')) (j := i) (t := t) x hh (s.length - i) i N (Nat.le_refl _) (by omega) (by omega) (by rw [← he]; exact he2) h ?_ fun E' H' e' h' => ?_
    · exact ⟨by simp (decide := true) only [upd_some, reduceIte, startE_0], by simp (decide := true) only [upd_some, reduceIte, startE_1], by simp (decide := true) only [upd_some, reduceIte]⟩
    rw [← he] at h'
    obtain ⟨e0, e1, e5⟩ := e'
    have hle := runTo_ge s (s.length - i) i
    rw [← he] at hle
    have hel : e ≤ s.length := by omega
    have two := h'.two hbt ht
    have row := h'.row x
    obtain ⟨y, rfl⟩ : ∃ y, a = some y := by
      cases a with
      | none => exact absurd (row.nil rfl) (by intro e; rw [e] at hi; simp at hi)
      | some y => exact ⟨y, rfl⟩
    obtain ⟨q, hsl⟩ := slice_mid row hle.1 hel hc
    have hcv := conv_str (q := q) (row.mid hle.1 hel)
    have hlen : ((s.drop i).take (e - i)).length = e - i := by simp; omega
    rw [hlen, ← hw] at hcv
    have hg := hres H' (h'.gg x)
    have hcall : CG N hk (d + 2) 16 #[.string w] H' = some (.ret (.int .i64 0), H') := callG_hook hg
    have two1 := two.set hbt (tok 0 n0 .empty f0 t0)
    have two2 := two1.set hbt (tok 1 n0 .empty f0 t0)
    have two3 := two2.set hbt (tok 1 n0 w f0 t0)
    have z0 : ((0 : Int) == 0) = true := rfl
    refine ⟨_, two3, ?_⟩
    simp (decide := true) only [↓execG_seq, ↓g_region, ↓execG_ret, ↓g_if, thenE_norm, g_leave, ↓r_nil, ↓r_cons, ↓o_move, ↓o_assign, ↓o_load, ↓o_store, ↓o_nilCheck, ↓o_binOp, ↓o_convert, ↓o_slice, ↓o_fieldAddr, ↓o_callf, nextE_app, putK_app, putO_app, putG_bool, normK_app, nilCheckA_ok, evalE_tmp, evalE_const, upd_some, upd_none, bindO_ok, bindV_ok, reduceIte, map_one, ↓reg_lit l6, ↓reg_lit l7, ↓reg_lit l8, ↓reg_lit l9, ↓reg_lit l10, e0, e1, e5, fld0, fld1, tf0, tf2, load_src h'.here, load_at h'.here, Option.map_some, Option.map_none, hsl, hcv, callK_fn Tryd.func16 rfl rfl hcall, store_kind two.two, load_kind two1.two, binA_eql, z0, store_kind two1.two, store_text two2.two]
    rw [← hF, finE_ret (l := [.bool true]) (by simp (decide := true) [Tryd.f40, resE, upd_some])]
    rfl
  obtain ⟨R0, m1, H', m2, m3⟩ := main
  exact ⟨H', m2, m1.trans m3⟩
end Go.Am
