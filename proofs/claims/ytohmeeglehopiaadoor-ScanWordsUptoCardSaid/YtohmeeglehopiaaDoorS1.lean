/- Rows of bytes in heaps that grow. -/
import Derived.Test.YtohmeeglehopiaaDoorD1
import Derived.Test.YtohmeeglehopiaaDoorG1
open Go.Proofs
namespace Go.Am

/-- A row of bytes in the heap. -/
structure Bts (H : Heap) (a : Option Addr) (s : List UInt8) : Prop where
  cell : ∀ j (h : j < s.length), ∃ b, a = some b ∧ ld1 H (b.add j) = some (.int .u8 (s[j]).toNat, H)
  str : strOf H a s.length = some ⟨s.toArray⟩
  small : s.length < 9223372036854775808

theorem und34 : PP.underlying 26 = some (.slice 5) := Tryd.underlying26
theorem size5 : sizeT PP 5 = some 1 := by decide +kernel
theorem agg5 : aggT PP 5 = some false := by decide +kernel
theorem index_row {a : Addr} {n c : Nat} {j : Nat} (h : j < n) : indexAddrA PP 26 (.slice (some a) n c) (.int .i64 (j : Int)) = some (.pointer (some (a.add j))) := by
  simp [indexAddrA, size5, at_, h]
theorem load_byte {H : Heap} {a : Addr} {v : Value} (h : ld1 H a = some (v, H)) : loadA PP 5 (.pointer (some a)) H = some (v, H) := by
  simp [loadA, agg5, h]
theorem wrap_i64 {x : Int} (h0 : -9223372036854775808 ≤ x) (h1 : x < 9223372036854775808) : IntKind.i64.wrap x = x := by
  simp only [IntKind.wrap, IntKind.bits, IntKind.signed]
  simp
  split <;> omega
theorem toNat_eq (x z : UInt8) : (((x.toNat : Int) == (z.toNat : Int)) : Bool) = decide (x = z) := by
  rw [Bool.eq_iff_iff]
  simp only [beq_iff_eq, decide_eq_true_eq]
  constructor
  · intro h; exact UInt8.toNat_inj.mp (by omega)
  · intro h; rw [h]

def Fresh (H : Heap) : Prop := ∀ b, H.next ≤ b → H.get b = none
/-- All that was there is there. -/
structure Ext (H H' : Heap) : Prop where
  next : H.next ≤ H'.next
  keep : ∀ b x, H.get b = some x → H'.get b = some x
  fresh : Fresh H'
theorem Ext.trans {A B C : Heap} (h : Ext A B) (k : Ext B C) : Ext A C := ⟨Nat.le_trans h.next k.next, fun b x e => k.keep b x (h.keep b x e), k.fresh⟩
theorem Ext.alloc {H : Heap} (h : Fresh H) (es : Nat) (cells : List Value) : Ext H (H.alloc es cells) := by
  refine ⟨Nat.le_succ _, fun b x e => ?_, fun b hb => ?_⟩
  · rw [Heap.get_alloc]
    by_cases c : b = H.next
    · rw [c, h _ (Nat.le_refl _)] at e; cases e
    · rw [if_neg c]; exact e
  · have hb' : H.next + 1 ≤ b := hb
    rw [Heap.get_alloc, if_neg (by omega)]
    exact h b (by omega)
/-- A row beyond all that was there may change. -/
theorem Ext.set {H H' : Heap} (h : Ext H H') {b : Nat} (hb : H.next ≤ b) (hf : Fresh H) (hl : b < H'.next) (x : Blk) : Ext H (H'.set b x) := by
  refine ⟨h.next, fun k y e => ?_, fun k hk => ?_⟩
  · rw [Heap.get_set]
    by_cases c : k = b
    · rw [c, hf _ hb] at e; cases e
    · rw [if_neg c]; exact h.keep k y e
  · have hk' : H'.next ≤ k := hk
    rw [Heap.get_set, if_neg (by omega)]
    exact h.fresh k hk'
theorem Ext.look {H H' : Heap} (h : Ext H H') {a : Addr} {x : Blk} (e : look H a = some x) : look H' a = some x := by
  unfold Am.look at e ⊢
  split at e
  · cases e
  · rename_i hs
    cases hg : H.get a.block with
    | none => simp [hg] at e
    | some y =>
      rw [h.keep _ _ hg]
      simpa [hg] using e

structure Brow (H : Heap) (a : Option Addr) (s : List UInt8) : Prop where
  row : ∀ b, a = some b → ∃ x, look H b = some x ∧ x.es = 1 ∧ b.off + s.length ≤ x.cells.length ∧ (x.cells.drop b.off).take s.length = s.map fun u => .int .u8 (u.toNat : Int)
  nil : a = none → s = []
  small : s.length < 9223372036854775808
theorem Brow.ext {H H' : Heap} {a : Option Addr} {s : List UInt8} (h : Brow H a s) (e : Ext H H') : Brow H' a s :=
  ⟨fun b hb => let ⟨x, h1, h2⟩ := h.row b hb; ⟨x, e.look h1, h2⟩, h.nil, h.small⟩
theorem look_spot {H : Heap} {a : Addr} {x : Blk} (e : look H a = some x) : a.spot = none := by
  unfold Am.look at e
  split at e
  · cases e
  · rename_i hs; exact hs
theorem look_add {H : Heap} {a : Addr} {x : Blk} (e : look H a = some x) (j : Nat) : look H (a.add j) = some x ∧ (a.add j).off = a.off + j := by
  have hs := look_spot e
  obtain ⟨b, off, spot⟩ := a
  simp only at hs
  subst hs
  unfold Addr.add
  by_cases hj : j = 0
  · subst hj; simp [e]
  · simp only [hj, if_false, and_true]
    exact e
theorem bytesOf_map : ∀ s : List UInt8, bytesOf (s.map fun u => Value.int .u8 (u.toNat : Int)) = some s
  | [] => rfl
  | u :: s => by simp [bytesOf, bytesOf_map s]
theorem Brow.bts {H : Heap} {a : Option Addr} {s : List UInt8} (h : Brow H a s) : Bts H a s := by
  refine ⟨fun j hj => ?_, ?_, h.small⟩
  · cases a with
    | none => rw [h.nil rfl] at hj; simp at hj
    | some b =>
      obtain ⟨x, h1, h2, h3, h4⟩ := h.row b rfl
      refine ⟨b, rfl, ?_⟩
      obtain ⟨k1, k2⟩ := look_add h1 j
      unfold ld1
      rw [k1]
      simp only [k2]
      have : ((x.cells.drop b.off).take s.length)[j]? = some (.int .u8 (s[j].toNat : Int)) := by rw [h4]; simp [hj]
      rw [List.getElem?_take_of_lt hj, List.getElem?_drop] at this
      rw [this]
  · cases a with
    | none => rw [h.nil rfl]; rfl
    | some b =>
      obtain ⟨x, h1, h2, h3, h4⟩ := h.row b rfl
      unfold strOf
      by_cases h0 : s.length = 0
      · have : s = [] := List.length_eq_zero_iff.mp h0
        subst this; rfl
      · simp only [if_neg h0, h1, if_pos h3, h4, bytesOf_map]
theorem Brow.take {H : Heap} {a : Option Addr} {s : List UInt8} (h : Brow H a s) {k : Nat} (hk : k ≤ s.length) : Brow H a (s.take k) := by
  refine ⟨fun b hb => ?_, fun e => by rw [h.nil e]; simp, by simp; have := h.small; omega⟩
  obtain ⟨x, h1, h2, h3, h4⟩ := h.row b hb
  refine ⟨x, h1, h2, by simp; omega, ?_⟩
  have hl : (s.take k).length = k := by simp; omega
  rw [hl, List.map_take, ← h4, List.take_take, Nat.min_eq_left hk]

theorem fresh_GE : Fresh GE := fun b hb => tabs_GE.fresh b hb
theorem get_self (H : Heap) (p : Nat) (x : Blk) : (H.set p x).get p = some x := by rw [Heap.get_set, if_pos rfl]
end Go.Am
/- The class of a byte; is a byte of a class next? -/
open Go.Proofs
namespace Go.Am

def okC (f : FuncId) : Bool := f == 26 || f == 38 || f == 24 || f == 25 || f == 40 || f == 42 || f == 56 || f == 9 || f == 33 || f == 49 || f == 5 || f == 13 || f == 14 || f == 15 || f == 17 || f == 18 || f == 20 || f == 22 || f == 30 || f == 34 || f == 8 || f == 12 || f == 21 || f == 27 || f == 28 || f == 29 || f == 37 || f == 43 || f == 53 || f == 58 || f == 71 || f == 4 || f == 11 || f == 16 || f == 35 || f == 39 || f == 41 || f == 54
def pr1 : Nat → List (Nat × Nat) := fun i => if i = 1 then [(0, 10), (3, 10), (4, 10), (7, 10), (9, 10)] else if i = 21 then [(0, 2)] else []
def prN : Nat → List (Nat × Nat) := fun i => if i = 13 then [(10, 4)] else []
def prS : FuncId → Nat → List (Nat × Nat) := fun f => if f = 42 then pr1 else if f = 15 then prN else noPr
noncomputable abbrev CG (N : Nat) (hk : Hook) (d : Nat) : Kf := callG PP okC prS XX N hk d

/-- The class of a byte. -/
def clsI (u : UInt8) : Int := if 127 < u.toNat then 0 else classesL.getD u.toNat 0
theorem index_tab {u : UInt8} (h : u.toNat ≤ 127) : indexAddrA PP 63 (.pointer (some ⟨1, 0, none⟩)) (.int .u8 (u.toNat : Int)) = some (.pointer (some ⟨1, u.toNat, none⟩)) := by
  have h' : (u.toNat : Int) < 128 := by omega
  by_cases h0 : u.toNat = 0
  · simp [indexAddrA, size5, at_, Addr.add, h0]
  · simp [indexAddrA, size5, at_, Addr.add, h', h0]
theorem load_tab {H : Heap} (hG : Ext GE H) {j : Nat} (h : j ≤ 127) : loadA PP 5 (.pointer (some ⟨1, j, none⟩)) H = some (.int .u8 (classesL.getD j 0), H) := by
  have g := hG.keep 1 _ (show GE.get 1 = some ⟨classesL.map fun z => .int .u8 z, false, 1, none⟩ from rfl)
  have hl : classesL.length = 128 := rfl
  apply load_byte
  simp only [ld1, look, g]
  have : j < classesL.length := by omega
  simp [List.getD, this]
theorem code26 : codeOf Tryd.f26 = .seq (.region 0 (rgn Tryd.f26 0) false) (.seq (.seq (.region 1 (rgn Tryd.f26 1) false) (.cond (.tmp 4) (.seq (.region 2 (rgn Tryd.f26 2) false) (.ret)) (.skip))) (.seq (.region 3 (rgn Tryd.f26 3) false) (.ret))) := by kernel_rfl
theorem call_cls {N : Nat} {hk : Hook} {d : Nat} {H : Heap} (hG : Ext GE H) (u : UInt8) (hh : ∀ args H, hk 26 args H = none) :
    CG N hk (d + 1) 26 #[.int .u8 (u.toNat : Int)] H = some (.ret (.int .u8 (clsI u)), H) := by
  refine (callG_fn (hh _ _) Tryd.func26 (c := codeOf Tryd.f26) rfl rfl rfl (pr := noPr) rfl).trans ?_
  have l0 := tl (rgn Tryd.f26 0)
  conv at l0 => rhs; simp only [rgn, opsAt, codeOf, Tryd.f26, gS, gN, reduceIte, Nat.reduceEqDiff, tA]
  have l1 := tl (rgn Tryd.f26 1)
  conv at l1 => rhs; simp only [rgn, opsAt, codeOf, Tryd.f26, gS, gN, reduceIte, Nat.reduceEqDiff, tA]
  have l2 := tl (rgn Tryd.f26 2)
  conv at l2 => rhs; simp only [rgn, opsAt, codeOf, Tryd.f26, gS, gN, reduceIte, Nat.reduceEqDiff, tA]
  have l3 := tl (rgn Tryd.f26 3)
  conv at l3 => rhs; simp only [rgn, opsAt, codeOf, Tryd.f26, gS, gN, reduceIte, Nat.reduceEqDiff, tA]
  rw [code26]
  generalize hF : finE PP Tryd.f26 = F
  by_cases h : 127 < u.toNat
  · have hgt : decide ((u.toNat : Int) > 127) = true := decide_eq_true (by omega)
    simp (decide := true) only [↓execG_seq, ↓g_region, ↓execG_ret, ↓g_if, thenE_norm, thenE_ret, ↓r_nil, ↓r_cons, ↓o_move, ↓o_assign, ↓o_binOp, nextE_app, putG_bool, normK_app, evalE_tmp, evalE_const, upd_some, bindO_ok, reduceIte, startE_0, ↓reg_lit l0, ↓reg_lit l1, ↓reg_lit l2, binA_gtr, hgt]
    rw [← hF, finE_ret (l := [.int .u8 0]) (by simp (decide := true) [Tryd.f26, resE, upd_some])]
    simp [clsI, h, oneOf]
  · have hgt : decide ((u.toNat : Int) > 127) = false := decide_eq_false (by omega)
    simp (decide := true) only [↓execG_seq, ↓g_region, ↓execG_ret, ↓execG_skip, ↓g_else, thenE_norm, ↓r_nil, ↓r_cons, ↓o_move, ↓o_assign, ↓o_load, ↓o_binOp, ↓o_indexAddr, nextE_app, putK_app, putO_app, putG_bool, normK_app, evalE_tmp, evalE_const, evalE_global, upd_some, bindO_ok, bindV_ok, reduceIte, startE_0, ↓reg_lit l0, ↓reg_lit l1, ↓reg_lit l3, binA_gtr, hgt, index_tab (u := u) (by omega), load_tab hG (j := u.toNat) (by omega)]
    rw [← hF, finE_ret (l := [.int .u8 (classesL.getD u.toNat 0)]) (by simp (decide := true) [Tryd.f26, resE, upd_some])]
    simp [clsI, h, oneOf]

/-- The cursor's block. -/
def cur (a : Option Addr) (n c : Nat) (at_ : Nat) : Blk := ⟨[.slice a n c, .int .i64 (at_ : Int)], true, 1, none⟩
/-- Is a byte of that class next? -/
def isI (s : List UInt8) (i : Nat) (k : Int) : Bool := decide (i < s.length) && (clsI (s.getD i 0) == k)
end Go.Am
/- Blanks and comments are passed over. -/
open Go.Proofs
namespace Go.Am

/-- A cursor and its text. -/
structure Ctx (H0 : Heap) (a : Option Addr) (c : Nat) (s : List UInt8) (b : Nat) : Prop where
  gg : Ext GE H0
  low : GE.next ≤ b
  lt : b < H0.next
  row : Brow H0 a s
  ne : ∀ x, a = some x → x.block ≠ b
/-- The cursor stands at a place, all else is as it was. -/
structure Curs (H0 H : Heap) (b : Nat) (a : Option Addr) (n c i : Nat) : Prop where
  next : H.next = H0.next
  here : H.get b = some (cur a n c i)
  there : ∀ x, x ≠ b → H.get x = H0.get x
theorem Curs.set {H0 H : Heap} {b : Nat} {a : Option Addr} {n c i : Nat} (h : Curs H0 H b a n c i) (j : Nat) : Curs H0 (H.set b (cur a n c j)) b a n c j :=
  ⟨h.next, by rw [Heap.get_set, if_pos rfl], fun x hx => by rw [Heap.get_set, if_neg hx]; exact h.there x hx⟩
theorem Curs.trans {A B C : Heap} {b : Nat} {a : Option Addr} {n c i j : Nat} (h : Curs A B b a n c i) (k : Curs B C b a n c j) : Curs A C b a n c j :=
  ⟨k.next.trans h.next, k.here, fun x hx => (k.there x hx).trans (h.there x hx)⟩
theorem Curs.gg {H0 H : Heap} {b : Nat} {a : Option Addr} {n c i : Nat} {s : List UInt8} (h : Curs H0 H b a n c i) (x : Ctx H0 a c s b) : Ext GE H := by
  refine ⟨by rw [h.next]; exact x.gg.next, fun y z e => ?_, fun y hy => ?_⟩
  · by_cases e' : y = b
    · rw [e', fresh_GE b x.low] at e; cases e
    · rw [h.there y e']; exact x.gg.keep y z e
  · rw [h.next] at hy
    have := x.lt
    rw [h.there y (by omega)]
    exact x.gg.fresh y hy
theorem Curs.row {H0 H : Heap} {b : Nat} {a : Option Addr} {n c i : Nat} {s : List UInt8} (h : Curs H0 H b a n c i) (x : Ctx H0 a c s b) : Brow H a s := by
  refine ⟨fun y hy => ?_, x.row.nil, x.row.small⟩
  obtain ⟨z, h1, h2⟩ := x.row.row y hy
  refine ⟨z, ?_, h2⟩
  have hn := h.there y.block (x.ne y hy)
  unfold look at h1 ⊢
  rw [hn]; exact h1
/-- The end of the line. -/
def lineEnd (s : List UInt8) : Nat → Nat → Nat
  | 0, i => i
  | n + 1, i => if s.getD i 0 = 10 then i else lineEnd s n (i + 1)
/-- Behind blanks and comments. -/
def skipTo (s : List UInt8) : Nat → Nat → Nat
  | 0, i => i
  | n + 1, i => if isI s i 1 then skipTo s n (i + 1) else if isI s i 2 then skipTo s n (lineEnd s (s.length - i) i) else i
end Go.Am
/- A word. -/
open Go.Proofs
namespace Go.Am

theorem undStr : PP.underlying 9 = some .string := Tryd.underlying9
theorem undU8 : PP.underlying 5 = some (.int .u8) := Tryd.underlying5
/-- A token's block. -/
def tok (kind n : Int) (w : ByteArray) (from_ to_ : Int) : Blk := ⟨[.int .i64 kind, .int .u64 n, .string w, .int .i64 from_, .int .i64 to_], true, 1, none⟩
/-- Two blocks have changed. -/
structure Two (H0 H : Heap) (b : Nat) (x : Blk) (t : Nat) (y : Blk) : Prop where
  next : H.next = H0.next
  one : H.get b = some x
  two : H.get t = some y
  there : ∀ z, z ≠ b → z ≠ t → H.get z = H0.get z
theorem Curs.two {H0 H : Heap} {b t : Nat} {a : Option Addr} {n c i : Nat} (h : Curs H0 H b a n c i) (hbt : t ≠ b) {y : Blk} (hy : H0.get t = some y) : Two H0 H b (cur a n c i) t y :=
  ⟨h.next, h.here, (h.there t hbt).trans hy, fun z h1 _ => h.there z h1⟩
theorem Two.set {H0 H : Heap} {b t : Nat} {x y : Blk} (h : Two H0 H b x t y) (hbt : t ≠ b) (y' : Blk) : Two H0 (H.set t y') b x t y' :=
  ⟨h.next, by rw [Heap.get_set, if_neg (Ne.symm hbt)]; exact h.one, by rw [Heap.get_set, if_pos rfl], fun z h1 h2 => by rw [Heap.get_set, if_neg h2]; exact h.there z h1 h2⟩
/-- May it stand in a word? -/
def isW (s : List UInt8) (i : Nat) : Bool := isI s i 4 || isI s i 3
/-- The end of the word. -/
def runTo (s : List UInt8) : Nat → Nat → Nat
  | 0, i => i
  | n + 1, i => if isW s i then runTo s n (i + 1) else i
end Go.Am
