/- Abstract values against concrete ones, abstract heaps against worlds. -/
import Derived.Test.YtpfpfpeockbbpaaGreatDoorAmH
namespace Go.Am

/-- Where an abstract block lies: a concrete block, the place of its first cell, its elements' size, how many cells the concrete block has. -/
structure Loc where
  c : Nat
  base : Nat
  es : Nat
  e : Nat

abbrev Mp := Nat → Option Loc

/-- Values that bear no address. -/
def atomic : Value → Bool
  | .bool _ | .int _ _ | .float _ _ | .complex _ _ _ | .string _ | .pointer none | .map none | .chan none | .nilFunc | .nilIface => true
  | .slice none l c => l == 0 && c == 0
  | _ => false

inductive VR (m : Mp) : Value → Value → Prop where
  | atom (v : Value) (h : atomic v = true) : VR m v v
  | ptr (b off : Nat) (L : Loc) (h : m b = some L) : VR m (.pointer (some ⟨b, off, none⟩)) (.pointer (some ⟨L.c, L.base + off, none⟩))
  | slice (b off : Nat) (L : Loc) (a' : Addr) (len cap cap' : Nat) (h : m b = some L) (hl : len ≤ cap) (hc : cap ≤ cap')
      (hblk : a'.block = L.c) (hsp : a'.spot = none) (ha : cap' = 0 ∨ (a'.off = L.base + off ∧ a'.off + cap' * L.es ≤ L.e)) :
      VR m (.slice (some ⟨b, off, none⟩) len cap) (.slice (some a') len cap')
  | map (b : Nat) (L : Loc) (h : m b = some L) : VR m (.map (some b)) (.map (some L.c))
  | func (fn : Fn) (xs xs' ys ys' : Array Value) (hx : xs.size = xs'.size) (hy : ys.size = ys'.size)
      (kx : ∀ (i : Nat) (h : i < xs.size) (h' : i < xs'.size), VR m xs[i] xs'[i])
      (ky : ∀ (i : Nat) (h : i < ys.size) (h' : i < ys'.size), VR m ys[i] ys'[i]) : VR m (.func fn xs ys) (.func fn xs' ys')
  | iface (t : TypeId) (v v' : Value) (h : VR m v v') : VR m (.iface t v) (.iface t v')
  | agg (xs xs' : Array Value) (hx : xs.size = xs'.size)
      (kx : ∀ (i : Nat) (h : i < xs.size) (h' : i < xs'.size), VR m xs[i] xs'[i]) : VR m (.agg xs) (.agg xs')
  | tuple (xs xs' : Array Value) (hx : xs.size = xs'.size)
      (kx : ∀ (i : Nat) (h : i < xs.size) (h' : i < xs'.size), VR m xs[i] xs'[i]) : VR m (.tuple xs) (.tuple xs')

/-- m' knows all that m knows. -/
def Mp.le (m m' : Mp) : Prop := ∀ b x, m b = some x → m' b = some x
theorem Mp.le_refl (m : Mp) : m.le m := fun _ _ h => h
theorem Mp.le_trans {a b c : Mp} (h : a.le b) (k : b.le c) : a.le c := fun x y hx => k x y (h x y hx)

theorem VR.mono {m m' : Mp} (hm : m.le m') {v v' : Value} (h : VR m v v') : VR m' v v' := by
  induction h with
  | atom v h => exact .atom v h
  | ptr b off L h => exact .ptr b off L (hm _ _ h)
  | slice b off L a' len cap cap' h hl hc hb hs ha => exact .slice b off L a' len cap cap' (hm _ _ h) hl hc hb hs ha
  | map b L h => exact .map b L (hm _ _ h)
  | func fn xs xs' ys ys' hx hy _ _ kx ky => exact .func fn xs xs' ys ys' hx hy kx ky
  | iface t v v' _ k => exact .iface t v v' k
  | agg xs xs' hx _ k => exact .agg xs xs' hx k
  | tuple xs xs' hx _ k => exact .tuple xs xs' hx k

/-- Rows of values, one by one. -/
def VRs (m : Mp) (xs ys : List Value) : Prop := xs.length = ys.length ∧ ∀ i (h : i < xs.length) (h' : i < ys.length), VR m xs[i] ys[i]
def VRa (m : Mp) (xs ys : Array Value) : Prop := xs.size = ys.size ∧ ∀ i (h : i < xs.size) (h' : i < ys.size), VR m xs[i] ys[i]

theorem VRa.mono {m m' : Mp} (hm : m.le m') {xs ys : Array Value} (h : VRa m xs ys) : VRa m' xs ys := ⟨h.1, fun i a b => (h.2 i a b).mono hm⟩
theorem VRs.mono {m m' : Mp} (hm : m.le m') {xs ys : List Value} (h : VRs m xs ys) : VRs m' xs ys := ⟨h.1, fun i a b => (h.2 i a b).mono hm⟩

theorem VR.undef (m : Mp) : VR m undef undef := .tuple _ _ rfl (fun i h => absurd h (by simp))

theorem VRa.getD {m : Mp} {xs ys : Array Value} (h : VRa m xs ys) (i : Nat) {d d' : Value} (hd : VR m d d') : VR m (xs.getD i d) (ys.getD i d') := by
  by_cases hi : i < xs.size
  · have hi' : i < ys.size := h.1 ▸ hi
    have := h.2 i hi hi'
    simpa [Array.getD, hi, hi'] using this
  · have hi' : ¬ i < ys.size := h.1 ▸ hi
    simpa [Array.getD, hi, hi'] using hd

theorem VRa.set {m : Mp} {xs ys : Array Value} (h : VRa m xs ys) (i : Nat) {v v' : Value} (hv : VR m v v') : VRa m (xs.setIfInBounds i v) (ys.setIfInBounds i v') := by
  refine ⟨by simpa using h.1, fun j hj hj' => ?_⟩
  have k1 : j < xs.size := by simpa using hj
  have k2 : j < ys.size := by simpa using hj'
  by_cases e : i = j
  · subst e
    simpa [Array.getElem_setIfInBounds, k1, k2] using hv
  · simpa [Array.getElem_setIfInBounds, k1, k2, e] using h.2 j k1 k2

theorem VRa.push {m : Mp} {xs ys : Array Value} (h : VRa m xs ys) {v v' : Value} (hv : VR m v v') : VRa m (xs.push v) (ys.push v') := by
  refine ⟨by simp [h.1], fun j hj hj' => ?_⟩
  simp only [Array.size_push] at hj hj'
  have hs := h.1
  by_cases e : j < xs.size
  · have e' : j < ys.size := h.1 ▸ e
    simp only [Array.getElem_push_lt e, Array.getElem_push_lt e']
    exact h.2 j e e'
  · have e1 : j = xs.size := by omega
    have e2 : j = ys.size := by omega
    subst e1
    simp only [Array.getElem_push_eq]
    simp only [e2, Array.getElem_push_eq]
    exact hv

theorem VRa.append {m : Mp} {xs ys us vs : Array Value} (h : VRa m xs ys) (k : VRa m us vs) : VRa m (xs ++ us) (ys ++ vs) := by
  refine ⟨by simp [h.1, k.1], fun j hj hj' => ?_⟩
  simp only [Array.size_append] at hj hj'
  by_cases e : j < xs.size
  · have e' : j < ys.size := h.1 ▸ e
    simp only [Array.getElem_append, e, e', dif_pos]
    exact h.2 j e e'
  · have e' : ¬ j < ys.size := h.1 ▸ e
    simp only [Array.getElem_append, e, e', dif_neg, not_false_eq_true]
    have hs := h.1
    simp only [← hs]
    exact k.2 _ (by omega) (by have := k.1; omega)

theorem VRa.replicate {m : Mp} (n : Nat) {v v' : Value} (hv : VR m v v') : VRa m (Array.replicate n v) (Array.replicate n v') :=
  ⟨by simp, fun i hi hi' => by simpa using hv⟩

theorem VRa.extract {m : Mp} {xs ys : Array Value} (h : VRa m xs ys) (lo hi : Nat) : VRa m (xs.extract lo hi) (ys.extract lo hi) := by
  refine ⟨by simp [h.1], fun i hi hi' => ?_⟩
  simp only [Array.getElem_extract]
  simp only [Array.size_extract] at hi hi'
  exact h.2 _ (by omega) (by omega)

theorem VRa.toList {m : Mp} {xs ys : Array Value} (h : VRa m xs ys) : VRs m xs.toList ys.toList :=
  ⟨by simpa using h.1, fun i hi hi' => by simp only [Array.getElem_toList]; exact h.2 i (by simpa using hi) (by simpa using hi')⟩

theorem VRs.toArray {m : Mp} {xs ys : List Value} (h : VRs m xs ys) : VRa m xs.toArray ys.toArray :=
  ⟨by simpa using h.1, fun i hi hi' => by simp only [List.getElem_toArray]; exact h.2 i (by simpa using hi) (by simpa using hi')⟩

theorem VRs.nil (m : Mp) : VRs m [] [] := ⟨rfl, fun i h => absurd h (by simp)⟩
theorem VRs.cons {m : Mp} {x y : Value} {xs ys : List Value} (h : VR m x y) (k : VRs m xs ys) : VRs m (x :: xs) (y :: ys) := by
  refine ⟨by simp [k.1], fun i hi hi' => ?_⟩
  cases i with
  | zero => simpa using h
  | succ i => simpa using k.2 i (by simpa using hi) (by simpa using hi')
theorem VRs.head {m : Mp} {x y : Value} {xs ys : List Value} (h : VRs m (x :: xs) (y :: ys)) : VR m x y := h.2 0 (by simp) (by simp)
theorem VRs.tail {m : Mp} {x y : Value} {xs ys : List Value} (h : VRs m (x :: xs) (y :: ys)) : VRs m xs ys :=
  ⟨by simpa using h.1, fun i hi hi' => by have := h.2 (i + 1) (by simpa using hi) (by simpa using hi'); simpa using this⟩
theorem VRs.append {m : Mp} {xs ys us vs : List Value} (h : VRs m xs ys) (k : VRs m us vs) : VRs m (xs ++ us) (ys ++ vs) := by
  have := (h.toArray.append k.toArray).toList
  simpa using this

theorem VRa.empty (m : Mp) : VRa m #[] #[] := ⟨rfl, fun i h => absurd h (by simp)⟩
theorem VRa.one {m : Mp} {x y : Value} (h : VR m x y) : VRa m #[x] #[y] := (VRs.cons h (VRs.nil m)).toArray

theorem VR.cells {m : Mp} {v v' : Value} (h : VR m v v') : VRa m v.cells v'.cells := by
  cases h with
  | agg xs xs' hx k => exact ⟨hx, k⟩
  | atom v hv => cases v <;> simp [atomic] at hv <;> exact VRa.one (.atom _ (by simp [atomic, hv]))
  | ptr b off L h => exact VRa.one (.ptr b off L h)
  | slice b off L a' len cap cap' h hl hc hb hs ha => exact VRa.one (.slice b off L a' len cap cap' h hl hc hb hs ha)
  | map b L h => exact VRa.one (.map b L h)
  | func fn xs xs' ys ys' hx hy kx ky => exact VRa.one (.func fn xs xs' ys ys' hx hy kx ky)
  | iface t v v' h => exact VRa.one (.iface t v v' h)
  | tuple xs xs' hx k => exact VRa.one (.tuple xs xs' hx k)

/-- Wholly without addresses: one value stands for itself alone. -/
theorem VR.eq_of_atomic {m : Mp} {v v' : Value} (h : VR m v v') (ha : atomic v = true) : v' = v := by
  cases h <;> first | rfl | simp [atomic] at ha

/-- Things of the heap that are no rows of cells. -/
inductive OR (m : Mp) : Obj → Obj → Prop where
  | iter (s : ByteArray) (pos : Nat) : OR m (.stringIter s pos) (.stringIter s pos)
  | map (xs ys : Array MapEntry) (clock : Nat) (hs : xs.size = ys.size)
      (h : ∀ (i : Nat) (a : i < xs.size) (b : i < ys.size), VR m xs[i].key ys[i].key ∧ VR m xs[i].val ys[i].val ∧ xs[i].born = ys[i].born) : OR m (.map xs clock) (.map ys clock)

theorem OR.mono {m m' : Mp} (hm : m.le m') {o o' : Obj} (h : OR m o o') : OR m' o o' := by
  cases h with
  | iter s pos => exact .iter s pos
  | map xs ys clock hs h => exact .map xs ys clock hs (fun i a b => ⟨(h i a b).1.mono hm, (h i a b).2.1.mono hm, (h i a b).2.2⟩)

theorem OR.notCells {m : Mp} {o o' : Obj} (h : OR m o o') : (∀ cs e f, o' ≠ .cells cs e f) := by
  intro cs e f; cases h <;> simp

/-- Keys that are told apart at once. -/
def keyKind (d : TypeDesc) (k : Value) : Bool := match d, k with | .int _, .int _ _ => true | .string, .string _ => true | _, _ => false
/-- Two mappings that answer alike, in whatever order their entries came. -/
def LkR (m : Mp) (o o' : Obj) : Prop := ∃ es clock es' clock', o = .map es clock ∧ o' = .map es' clock' ∧ es.size = es'.size ∧
  ∀ (d : TypeDesc) (k : Value), keyKind d k = true → ∀ r, Instr.findNow d k es.toList 0 = some r →
    ∃ r', Instr.findNow d k es'.toList 0 = some r' ∧ (match r with | none => r' = none | some (_, v) => ∃ j v', r' = some (j, v') ∧ VR m v v')
theorem LkR.mono {m m' : Mp} (hm : m.le m') {o o' : Obj} (h : LkR m o o') : LkR m' o o' := by
  obtain ⟨es, c, es', c', e1, e2, e3, h⟩ := h
  refine ⟨es, c, es', c', e1, e2, e3, fun d k hk r hr => ?_⟩
  obtain ⟨r', h1, h2⟩ := h d k hk r hr
  refine ⟨r', h1, ?_⟩
  cases r with
  | none => exact h2
  | some r => obtain ⟨j, v', g1, g2⟩ := h2; exact ⟨j, v', g1, g2.mono hm⟩
/-- A thing that is no row, as a block holds it: what is not written may be alike in its look-ups alone. -/
def ObR (m : Mp) (rw : Bool) (o o' : Obj) : Prop := OR m o o' ∨ (rw = false ∧ LkR m o o')
theorem ObR.mono {m m' : Mp} (hm : m.le m') {rw : Bool} {o o' : Obj} (h : ObR m rw o o') : ObR m' rw o o' := by
  rcases h with h | ⟨h1, h2⟩
  · exact .inl (h.mono hm)
  · exact .inr ⟨h1, h2.mono hm⟩
theorem ObR.notCells {m : Mp} {rw : Bool} {o o' : Obj} (h : ObR m rw o o') : (∀ cs e f, o' ≠ .cells cs e f) := by
  rcases h with h | ⟨_, _, _, es', c', _, e2, _⟩
  · exact h.notCells
  · intro cs e f; rw [e2]; simp

structure Blk where
  cells : List Value
  rw : Bool
  es : Nat
  o : Option Obj := none
  /-- The type of the concrete block's elements and how many cells it has (0: not told). -/
  ty : Option (TypeId × Nat) := none

structure Heap where
  m : Tr Blk
  next : Nat

namespace Heap
def get (H : Heap) (b : Nat) : Option Blk := H.m.get b
def set (H : Heap) (b : Nat) (x : Blk) : Heap := { H with m := H.m.set b (some x) }
def drop (H : Heap) (b : Nat) : Heap := { H with m := H.m.set b none }
def allocT (H : Heap) (es : Nat) (ty : Option (TypeId × Nat)) (cells : List Value) : Heap := { m := H.m.set H.next (some ⟨cells, true, es, none, ty⟩), next := H.next + 1 }
def alloc (H : Heap) (es : Nat) (cells : List Value) : Heap := H.allocT es none cells
theorem get_set (H : Heap) (b k : Nat) (x : Blk) : (H.set b x).get k = if k = b then some x else H.get k := Tr.get_set _ _ _ _
theorem get_drop (H : Heap) (b k : Nat) : (H.drop b).get k = if k = b then none else H.get k := Tr.get_set _ _ _ _
theorem get_allocT (H : Heap) (es : Nat) (ty : Option (TypeId × Nat)) (cells : List Value) (k : Nat) : (H.allocT es ty cells).get k = if k = H.next then some ⟨cells, true, es, none, ty⟩ else H.get k := Tr.get_set _ _ _ _
theorem get_alloc (H : Heap) (es : Nat) (cells : List Value) (k : Nat) : (H.alloc es cells).get k = if k = H.next then some ⟨cells, true, es, none, none⟩ else H.get k := get_allocT _ _ _ _ _
end Heap

/-- A live abstract block as it lies in the world. -/
structure Lies (m : Mp) (w : World) (x : Blk) (L : Loc) : Prop where
  es : L.es = x.es
  fits : L.base + x.cells.length ≤ L.e
  ex : x.o = none → ∃ cs elem fz, w.heap[L.c]? = some (.cells cs elem fz) ∧ cs.size = L.e ∧
    (∀ i (h : i < x.cells.length) (h' : L.base + i < cs.size), VR m x.cells[i] cs[L.base + i]) ∧
    (x.rw = true → fz.1 = fz.2 ∨ cs.size ≤ fz.1)
  ob : ∀ o, x.o = some o → L.base = 0 ∧ ∃ o', w.heap[L.c]? = some o' ∧ ObR m x.rw o o'
  ty : ∀ t n, x.ty = some (t, n) → L.base = 0 ∧ ∃ cs fz, w.heap[L.c]? = some (.cells cs t fz) ∧ (n = 0 ∨ cs.size = n)

structure Rel (m : Mp) (H : Heap) (w : World) : Prop where
  blk : ∀ b x, H.get b = some x → ∃ L, m b = some L ∧ Lies m w x L
  apart : ∀ b x, H.get b = some x → x.rw = true → ∀ b' x' L L', H.get b' = some x' → m b = some L → m b' = some L' → L'.c = L.c → b' = b
  bound : ∀ b L, m b = some L → L.c < w.heap.size
  fresh : ∀ b, H.next ≤ b → m b = none ∧ H.get b = none

/-- The concrete blocks that the abstract heap owns. -/
def Owns (m : Mp) (H : Heap) (c : Nat) : Prop := ∃ b x L, H.get b = some x ∧ x.rw = true ∧ m b = some L ∧ L.c = c

/-- From one world to a later one: what is not owned stays. -/
structure Keep (m : Mp) (H : Heap) (w w' : World) : Prop where
  os : w'.os = w.os
  tape : w'.tape = w.tape
  output : w'.output = w.output
  size : w.heap.size ≤ w'.heap.size
  block : ∀ c, c < w.heap.size → ¬ Owns m H c → w'.heap[c]? = w.heap[c]?

/-- What a later abstract heap owns, it owned, or it is new. -/
def Later (m : Mp) (H : Heap) (w : World) (m' : Mp) (H' : Heap) : Prop := m.le m' ∧ (∀ c, c < w.heap.size → Owns m' H' c → Owns m H c) ∧ ∀ b L, m' b = some L → (∃ b0 L0, m b0 = some L0 ∧ L0.c = L.c) ∨ w.heap.size ≤ L.c
theorem later_same {m : Mp} {n : Nat} : ∀ b L, m b = some L → (∃ b0 L0, m b0 = some L0 ∧ L0.c = L.c) ∨ n ≤ L.c := fun b L e => .inl ⟨b, L, e, rfl⟩
theorem Keep.refl (m : Mp) (H : Heap) (w : World) : Keep m H w w := ⟨rfl, rfl, rfl, Nat.le_refl _, fun _ _ _ => rfl⟩
theorem Later.refl (m : Mp) (H : Heap) (w : World) : Later m H w m H := ⟨Mp.le_refl m, fun _ _ h => h, later_same⟩
theorem Later.trans {m m' m'' : Mp} {H H' H'' : Heap} {w w' : World} (h : Later m H w m' H') (k : Later m' H' w' m'' H'') (hs : w.heap.size ≤ w'.heap.size) : Later m H w m'' H'' :=
  ⟨Mp.le_trans h.1 k.1, fun c hc ho => h.2.1 c hc (k.2.1 c (Nat.lt_of_lt_of_le hc hs) ho), fun b L e => by
    rcases k.2.2 b L e with ⟨b1, L1, e1, c1⟩ | g
    · rcases h.2.2 b1 L1 e1 with ⟨b0, L0, e0, c0⟩ | g
      · exact .inl ⟨b0, L0, e0, c0.trans c1⟩
      · exact .inr (c1 ▸ g)
    · exact .inr (Nat.le_trans hs g)⟩
theorem Keep.trans {m m' : Mp} {H H' : Heap} {w w' w'' : World} (h : Keep m H w w') (l : Later m H w m' H') (k : Keep m' H' w' w'') : Keep m H w w'' :=
  ⟨k.os.trans h.os, k.tape.trans h.tape, k.output.trans h.output, Nat.le_trans h.size k.size,
    fun c hc ho => (k.block c (Nat.lt_of_lt_of_le hc h.size) (fun o => ho (l.2.1 c hc o))).trans (h.block c hc ho)⟩

/-- The whole of what one step leaves: a later relation. -/
structure Step (m : Mp) (H : Heap) (w : World) (m' : Mp) (H' : Heap) (w' : World) : Prop where
  rel : Rel m' H' w'
  later : Later m H w m' H'
  keep : Keep m H w w'

theorem Step.refl {m : Mp} {H : Heap} {w : World} (h : Rel m H w) : Step m H w m H w := ⟨h, .refl .., .refl ..⟩
theorem Step.trans {m m' m'' : Mp} {H H' H'' : Heap} {w w' w'' : World} (h : Step m H w m' H' w') (k : Step m' H' w' m'' H'' w'') : Step m H w m'' H'' w'' :=
  ⟨k.rel, h.later.trans k.later h.keep.size, h.keep.trans h.later k.keep⟩

/-- Draws change nothing. -/
theorem Rel.drawn {m : Mp} {H : Heap} {w : World} (h : Rel m H w) (n : Nat) : Rel m H { w with drawn := n } :=
  ⟨fun b x hb => let ⟨L, hm, hl⟩ := h.blk b x hb; ⟨L, hm, ⟨hl.es, hl.fits, hl.ex, hl.ob, hl.ty⟩⟩, h.apart, h.bound, h.fresh⟩
theorem Step.drawn {m : Mp} {H : Heap} {w : World} (h : Rel m H w) (n : Nat) : Step m H w m H { w with drawn := n } :=
  ⟨h.drawn n, .refl .., ⟨rfl, rfl, rfl, Nat.le_refl _, fun _ _ _ => rfl⟩⟩

/-- One abstract block more in the map. -/
def Mp.add (m : Mp) (b : Nat) (L : Loc) : Mp := fun k => if k = b then some L else m k
theorem Mp.le_add {m : Mp} {b : Nat} {L : Loc} (h : m b = none) : m.le (m.add b L) := by
  intro k x hk
  by_cases e : k = b
  · subst e; simp [h] at hk
  · simp [Mp.add, e, hk]

theorem Lies.mono {m m' : Mp} {w w' : World} {x : Blk} {L : Loc} (hm : m.le m') (hw : w'.heap[L.c]? = w.heap[L.c]?) (h : Lies m w x L) : Lies m' w' x L := by
  refine ⟨h.es, h.fits, fun ho => ?_, fun o ho => ?_, fun t n ht => ?_⟩
  · obtain ⟨cs, elem, fz, h1, h2, h3, h4⟩ := h.ex ho
    exact ⟨cs, elem, fz, hw.trans h1, h2, fun i a b => (h3 i a b).mono hm, h4⟩
  · obtain ⟨h0, o', h1, h2⟩ := h.ob o ho
    exact ⟨h0, o', hw.trans h1, h2.mono hm⟩
  · obtain ⟨h0, cs, fz, h1, h2⟩ := h.ty t n ht
    exact ⟨h0, cs, fz, hw.trans h1, h2⟩

theorem later_add {m : Mp} {n b1 : Nat} {L1 : Loc} (h : (∃ b0 L0, m b0 = some L0 ∧ L0.c = L1.c) ∨ n ≤ L1.c) : ∀ b L, (m.add b1 L1) b = some L → (∃ b0 L0, m b0 = some L0 ∧ L0.c = L.c) ∨ n ≤ L.c := fun b L e => by
  by_cases e' : b = b1
  · subst e'
    simp only [Mp.add, if_true, Option.some.injEq] at e
    subst e; exact h
  · simp only [Mp.add, e', if_false] at e
    exact .inl ⟨b, L, e, rfl⟩
/-- A new row. -/
theorem Step.allocT {m : Mp} {H : Heap} {w w' : World} (h : Rel m H w) (es : Nat) (ty : Option (TypeId × Nat)) (xs : List Value) (ys : Array Value) (elem : TypeId) (hx : xs.length ≤ ys.size)
    (hty : ∀ t n, ty = some (t, n) → elem = t ∧ (n = 0 ∨ ys.size = n))
    (hv : ∀ i (a : i < xs.length) (b : i < ys.size), VR m xs[i] ys[i]) (hw : w'.heap = w.heap.push (.cells ys elem))
    (ho : w'.os = w.os) (ht : w'.tape = w.tape) (hp : w'.output = w.output) :
    Step m H w (m.add H.next ⟨w.heap.size, 0, es, ys.size⟩) (H.allocT es ty xs) w' := by
  have hfr := h.fresh H.next (Nat.le_refl _)
  have hle : m.le (m.add H.next ⟨w.heap.size, 0, es, ys.size⟩) := Mp.le_add hfr.1
  have hold : ∀ c, c < w.heap.size → w'.heap[c]? = w.heap[c]? := by
    intro c hc; rw [hw, Array.getElem?_push]; simp [Nat.ne_of_lt hc]
  have hsz : w'.heap.size = w.heap.size + 1 := by rw [hw]; simp
  refine ⟨⟨?_, ?_, ?_, ?_⟩, ⟨hle, ?_, later_add (.inr (Nat.le_refl _))⟩, ⟨ho, ht, hp, by omega, fun c hc _ => hold c hc⟩⟩
  · intro b x hb
    rw [Heap.get_allocT] at hb
    by_cases e : b = H.next
    · subst e
      simp only [if_true, Option.some.injEq] at hb
      subst hb
      refine ⟨_, by simp [Mp.add]; rfl, rfl, by simpa using hx, fun _ => ⟨ys, elem, (0, 0), ?_, rfl, ?_, fun _ => .inl rfl⟩, fun o ho => by simp at ho, fun t n e => ?_⟩
      · rw [hw]; simp
      · intro i a b
        simp only [Nat.zero_add]
        exact (hv i a (by simpa using b)).mono hle
      · obtain ⟨e1, e2⟩ := hty t n e
        subst e1
        exact ⟨rfl, ys, (0, 0), by rw [hw]; simp, e2⟩
    · simp only [e, if_false] at hb
      obtain ⟨L, h1, h2⟩ := h.blk b x hb
      exact ⟨L, by simp [Mp.add, e, h1], h2.mono hle (hold _ (h.bound _ _ h1))⟩
  · intro b x hb hrw b' x' L L' hb' hm hm' hc
    rw [Heap.get_allocT] at hb hb'
    by_cases e : b = H.next <;> by_cases e' : b' = H.next
    · rw [e, e']
    · subst e
      simp only [Mp.add, if_true, Option.some.injEq, e', if_false] at hm hm'
      subst hm
      have := h.bound _ _ hm'
      simp at hc; omega
    · subst e'
      simp only [Mp.add, if_true, Option.some.injEq, e, if_false] at hm hm'
      subst hm'
      have := h.bound _ _ hm
      simp at hc; omega
    · simp only [Mp.add, e, e', if_false] at hb hb' hm hm'
      exact h.apart b x hb hrw b' x' L L' hb' hm hm' hc
  · intro b L hm
    by_cases e : b = H.next
    · subst e; simp only [Mp.add, if_true, Option.some.injEq] at hm; subst hm; simp; omega
    · simp only [Mp.add, e, if_false] at hm
      have := h.bound _ _ hm; omega
  · intro b hb
    have hb' : H.next + 1 ≤ b := hb
    have e : b ≠ H.next := by omega
    rw [Heap.get_allocT]
    simp only [Mp.add, e, if_false]
    exact h.fresh b (by omega)
  · intro c hc ⟨b, x, L, hb, hrw, hm, hcl⟩
    rw [Heap.get_allocT] at hb
    by_cases e : b = H.next
    · subst e; simp only [Mp.add, if_true, Option.some.injEq] at hm; subst hm; simp at hcl; omega
    · simp only [Mp.add, e, if_false] at hb hm
      exact ⟨b, x, L, hb, hrw, hm, hcl⟩

theorem Step.alloc {m : Mp} {H : Heap} {w w' : World} (h : Rel m H w) (es : Nat) (xs : List Value) (ys : Array Value) (elem : TypeId) (hx : xs.length ≤ ys.size)
    (hv : ∀ i (a : i < xs.length) (b : i < ys.size), VR m xs[i] ys[i]) (hw : w'.heap = w.heap.push (.cells ys elem))
    (ho : w'.os = w.os) (ht : w'.tape = w.tape) (hp : w'.output = w.output) :
    Step m H w (m.add H.next ⟨w.heap.size, 0, es, ys.size⟩) (H.alloc es xs) w' :=
  Step.allocT h es none xs ys elem hx (fun _ _ e => by cases e) hv hw ho ht hp

/-- A block is given up, or no longer written. -/
theorem Step.drop {m : Mp} {H : Heap} {w : World} (h : Rel m H w) (b : Nat) : Step m H w m (H.drop b) w := by
  have key : ∀ k x, (H.drop b).get k = some x → H.get k = some x := by
    intro k x hk; rw [Heap.get_drop] at hk
    by_cases e : k = b
    · simp [e] at hk
    · simpa [e] using hk
  refine ⟨⟨fun k x hk => h.blk k x (key k x hk), ?_, h.bound, ?_⟩, ⟨Mp.le_refl m, ?_, later_same⟩, .refl ..⟩
  · intro k x hk hrw k' x' L L' hk' hm hm' hc
    exact h.apart k x (key _ _ hk) hrw k' x' L L' (key _ _ hk') hm hm' hc
  · intro k hk
    refine ⟨(h.fresh k hk).1, ?_⟩
    rw [Heap.get_drop]; by_cases e : k = b <;> simp [e]
    exact (h.fresh k hk).2
  · intro c _ ⟨k, x, L, hk, hrw, hm, hc⟩
    exact ⟨k, x, L, key _ _ hk, hrw, hm, hc⟩

/-- An owned block is written: its cells are turned, one of them or many. -/
theorem Step.write {m : Mp} {H : Heap} {w w' : World} (h : Rel m H w) {b : Nat} {x : Blk} {L : Loc} (hb : H.get b = some x) (hrw : x.rw = true) (hno : x.o = none) (hm : m b = some L)
    (xs : List Value) (hlen : xs.length = x.cells.length) (cs cs' : Array Value) (elem : TypeId) (fz : Nat × Nat)
    (h0 : w.heap[L.c]? = some (.cells cs elem fz)) (hsz : cs'.size = cs.size)
    (hv : ∀ i (a : i < xs.length) (c : L.base + i < cs'.size), VR m xs[i] cs'[L.base + i])
    (hw : w'.heap = w.heap.setIfInBounds L.c (.cells cs' elem fz))
    (ho : w'.os = w.os) (ht : w'.tape = w.tape) (hp : w'.output = w.output) :
    Step m H w m (H.set b { x with cells := xs }) w' := by
  have hbd := h.bound _ _ hm
  have hother : ∀ c, c ≠ L.c → w'.heap[c]? = w.heap[c]? := by
    intro c hc; rw [hw, Array.getElem?_setIfInBounds]; simp [Ne.symm hc]
  have hthis : w'.heap[L.c]? = some (.cells cs' elem fz) := by rw [hw, Array.getElem?_setIfInBounds]; simp [hbd]
  have hws : w'.heap.size = w.heap.size := by rw [hw]; simp
  obtain ⟨L1, hm1, hl1⟩ := h.blk b x hb
  have : L1 = L := by rw [hm] at hm1; exact (Option.some.inj hm1).symm
  subst this
  obtain ⟨hes, hfit, hex, _, hty⟩ := hl1
  obtain ⟨cs0, elem0, fz0, g1, g2, g3, g4⟩ := hex hno
  rw [h0] at g1
  simp only [Option.some.injEq, Obj.cells.injEq] at g1
  obtain ⟨rfl, rfl, rfl⟩ := g1
  refine ⟨⟨?_, ?_, ?_, ?_⟩, ⟨Mp.le_refl m, ?_, later_same⟩, ⟨ho, ht, hp, by omega, ?_⟩⟩
  · intro k y hk
    rw [Heap.get_set] at hk
    by_cases e : k = b
    · subst e
      simp only [if_true, Option.some.injEq] at hk
      subst hk
      exact ⟨L1, hm, hes, by simpa [hlen] using hfit, fun _ => ⟨cs', elem, fz, hthis, hsz.trans g2, hv, by rw [hsz]; exact g4⟩, fun o ho => by rw [show ({ x with cells := xs } : Blk).o = x.o from rfl, hno] at ho; simp at ho, fun t n e => by
        obtain ⟨q0, cs2, fz2, q1, q2⟩ := hty t n e
        rw [h0] at q1
        simp only [Option.some.injEq, Obj.cells.injEq] at q1
        obtain ⟨rfl, rfl, rfl⟩ := q1
        exact ⟨q0, cs', fz, hthis, by rw [hsz]; exact q2⟩⟩
    · simp only [e, if_false] at hk
      obtain ⟨L2, k1, k2⟩ := h.blk k y hk
      refine ⟨L2, k1, k2.mono (Mp.le_refl m) (hother _ ?_)⟩
      intro hc
      exact e (h.apart b x hb hrw k y L1 L2 hk hm k1 hc)
  · intro k y hk hrw' k' y' L2 L3 hk' hm2 hm3 hc
    rw [Heap.get_set] at hk hk'
    by_cases e : k = b <;> by_cases e' : k' = b
    · rw [e, e']
    · subst e
      simp only [e', if_false] at hk'
      exact h.apart k x hb hrw k' y' L2 L3 hk' hm2 hm3 hc
    · subst e'
      simp only [e, if_false] at hk
      exact (h.apart k y hk hrw' k' x L2 L3 hb hm2 hm3 hc)
    · simp only [e, e', if_false] at hk hk'
      exact h.apart k y hk hrw' k' y' L2 L3 hk' hm2 hm3 hc
  · intro k L2 hk; have := h.bound _ _ hk; omega
  · intro k hk
    refine ⟨(h.fresh k hk).1, ?_⟩
    rw [Heap.get_set]
    have := (h.fresh k hk).2
    by_cases e : k = b
    · subst e; rw [hb] at this; simp at this
    · simp [e, this]
  · intro c _ ⟨k, y, L2, hk, hrw', hm2, hc⟩
    rw [Heap.get_set] at hk
    by_cases e : k = b
    · subst e; exact ⟨k, x, L2, hb, hrw, hm2, hc⟩
    · simp only [e, if_false] at hk; exact ⟨k, y, L2, hk, hrw', hm2, hc⟩
  · intro c _ hown
    exact hother c (fun e => hown ⟨b, x, L1, hb, hrw, hm, e.symm⟩)


/-- Written behind its end, where there is room: the block is given up, a new one stands for what lies there now. -/
theorem Step.regrow {m : Mp} {H : Heap} {w w' : World} (h : Rel m H w) {b : Nat} {x : Blk} {L : Loc} (hb : H.get b = some x) (hrw : x.rw = true) (hno : x.o = none) (hm : m b = some L)
    (xs : List Value) (base : Nat) (cs cs' : Array Value) (elem : TypeId) (fz : Nat × Nat) (ty : Option (TypeId × Nat)) (hty : ∀ t n, ty = some (t, n) → base = 0 ∧ elem = t ∧ (n = 0 ∨ cs'.size = n))
    (h0 : w.heap[L.c]? = some (.cells cs elem fz)) (hsz : cs'.size = cs.size) (hfit : base + xs.length ≤ L.e)
    (hv : ∀ i (a : i < xs.length) (c : base + i < cs'.size), VR m xs[i] cs'[base + i])
    (hw : w'.heap = w.heap.setIfInBounds L.c (.cells cs' elem fz))
    (ho : w'.os = w.os) (ht : w'.tape = w.tape) (hp : w'.output = w.output) :
    Step m H w (m.add H.next ⟨L.c, base, L.es, L.e⟩) ((H.drop b).allocT x.es ty xs) w' := by
  have hfr := h.fresh H.next (Nat.le_refl _)
  have hle : m.le (m.add H.next ⟨L.c, base, L.es, L.e⟩) := Mp.le_add hfr.1
  have hbd := h.bound _ _ hm
  have hbn : b ≠ H.next := by intro e; rw [e, hfr.2] at hb; simp at hb
  have hother : ∀ c, c ≠ L.c → w'.heap[c]? = w.heap[c]? := by
    intro c hc; rw [hw, Array.getElem?_setIfInBounds]; simp [Ne.symm hc]
  have hthis : w'.heap[L.c]? = some (.cells cs' elem fz) := by rw [hw, Array.getElem?_setIfInBounds]; simp [hbd]
  have hws : w'.heap.size = w.heap.size := by rw [hw]; simp
  obtain ⟨L1, hm1, hl1⟩ := h.blk b x hb
  have : L1 = L := by rw [hm] at hm1; exact (Option.some.inj hm1).symm
  subst this
  obtain ⟨hes, _, hex, _⟩ := hl1
  obtain ⟨cs0, elem0, fz0, g1, g2, g3, g4⟩ := hex hno
  rw [h0] at g1
  simp only [Option.some.injEq, Obj.cells.injEq] at g1
  obtain ⟨rfl, rfl, rfl⟩ := g1
  have hget : ∀ k, ((H.drop b).allocT x.es ty xs).get k = if k = H.next then some ⟨xs, true, x.es, none, ty⟩ else if k = b then none else H.get k := by
    intro k; rw [Heap.get_allocT, Heap.get_drop]; rfl
  refine ⟨⟨?_, ?_, ?_, ?_⟩, ⟨hle, ?_, later_add (.inl ⟨b, L1, hm, rfl⟩)⟩, ⟨ho, ht, hp, by omega, ?_⟩⟩
  · intro k y hk
    rw [hget] at hk
    by_cases e : k = H.next
    · subst e
      simp only [if_true, Option.some.injEq] at hk
      subst hk
      exact ⟨⟨L1.c, base, L1.es, L1.e⟩, by simp [Mp.add], hes, hfit, fun _ => ⟨cs', elem, fz, hthis, hsz.trans g2, fun i a c => (hv i a c).mono hle, fun _ => by rw [hsz]; exact g4 hrw⟩, fun o ho => by simp at ho, fun t n e => by
        obtain ⟨q0, rfl, q2⟩ := hty t n e
        exact ⟨q0, cs', fz, hthis, q2⟩⟩
    · simp only [e, if_false] at hk
      by_cases e' : k = b
      · simp [e'] at hk
      · simp only [e', if_false] at hk
        obtain ⟨L2, k1, k2⟩ := h.blk k y hk
        refine ⟨L2, by simp [Mp.add, e, k1], k2.mono hle (hother _ ?_)⟩
        intro hc
        exact e' (h.apart b x hb hrw k y L1 L2 hk hm k1 hc)
  · intro k y hk hrw' k' y' L2 L3 hk' hm2 hm3 hc
    rw [hget] at hk hk'
    by_cases e : k = H.next <;> by_cases e' : k' = H.next
    · rw [e, e']
    · subst e
      simp only [Mp.add, if_true, Option.some.injEq, e', if_false] at hm2 hm3
      subst hm2
      by_cases e2 : k' = b
      · rw [if_neg e', if_pos e2] at hk'; simp at hk'
      · simp only [e', e2, if_false] at hk'
        exact absurd (h.apart b x hb hrw k' y' L1 L3 hk' hm hm3 hc) e2
    · subst e'
      simp only [Mp.add, if_true, Option.some.injEq, e, if_false] at hm2 hm3
      subst hm3
      by_cases e2 : k = b
      · rw [if_neg e, if_pos e2] at hk; simp at hk
      · simp only [e, e2, if_false] at hk
        exact absurd (h.apart b x hb hrw k y L1 L2 hk hm hm2 hc.symm) e2
    · simp only [Mp.add, e, e', if_false] at hk hk' hm2 hm3
      by_cases e2 : k = b
      · simp [e2] at hk
      · by_cases e3 : k' = b
        · simp [e3] at hk'
        · simp only [e2, e3, if_false] at hk hk'
          exact h.apart k y hk hrw' k' y' L2 L3 hk' hm2 hm3 hc
  · intro k L2 hk
    by_cases e : k = H.next
    · subst e; simp only [Mp.add, if_true, Option.some.injEq] at hk; subst hk; simp; omega
    · simp only [Mp.add, e, if_false] at hk; have := h.bound _ _ hk; omega
  · intro k hk
    have hk' : H.next + 1 ≤ k := hk
    have e : k ≠ H.next := by omega
    refine ⟨by simp [Mp.add, e]; exact (h.fresh k (by omega)).1, ?_⟩
    rw [hget]; simp only [e, if_false]
    by_cases e' : k = b
    · simp [e']
    · simp only [e', if_false]; exact (h.fresh k (by omega)).2
  · intro c _ ⟨k, y, L2, hk, hrw', hm2, hc⟩
    rw [hget] at hk
    by_cases e : k = H.next
    · subst e; simp only [Mp.add, if_true, Option.some.injEq] at hm2; subst hm2; exact ⟨b, x, L1, hb, hrw, hm, hc⟩
    · simp only [Mp.add, e, if_false] at hk hm2
      by_cases e' : k = b
      · simp [e'] at hk
      · simp only [e', if_false] at hk; exact ⟨k, y, L2, hk, hrw', hm2, hc⟩
  · intro c _ hown
    exact hother c (fun e => hown ⟨b, x, L1, hb, hrw, hm, e.symm⟩)

/-- A new thing that is no row. -/
def Heap.allocO (H : Heap) (o : Obj) : Heap := { m := H.m.set H.next (some ⟨[], true, 0, some o, none⟩), next := H.next + 1 }
theorem Heap.get_allocO (H : Heap) (o : Obj) (k : Nat) : (H.allocO o).get k = if k = H.next then some ⟨[], true, 0, some o, none⟩ else H.get k := Tr.get_set _ _ _ _

theorem Step.allocO {m : Mp} {H : Heap} {w w' : World} (h : Rel m H w) (o o' : Obj) (hor : OR m o o') (hw : w'.heap = w.heap.push o')
    (ho : w'.os = w.os) (ht : w'.tape = w.tape) (hp : w'.output = w.output) :
    Step m H w (m.add H.next ⟨w.heap.size, 0, 0, 0⟩) (H.allocO o) w' := by
  have hfr := h.fresh H.next (Nat.le_refl _)
  have hle : m.le (m.add H.next ⟨w.heap.size, 0, 0, 0⟩) := Mp.le_add hfr.1
  have hold : ∀ c, c < w.heap.size → w'.heap[c]? = w.heap[c]? := by
    intro c hc; rw [hw, Array.getElem?_push]; simp [Nat.ne_of_lt hc]
  have hsz : w'.heap.size = w.heap.size + 1 := by rw [hw]; simp
  refine ⟨⟨?_, ?_, ?_, ?_⟩, ⟨hle, ?_, later_add (.inr (Nat.le_refl _))⟩, ⟨ho, ht, hp, by omega, fun c hc _ => hold c hc⟩⟩
  · intro b x hb
    rw [Heap.get_allocO] at hb
    by_cases e : b = H.next
    · subst e
      simp only [if_true, Option.some.injEq] at hb
      subst hb
      refine ⟨_, by simp [Mp.add]; rfl, rfl, by simp, fun ho => by simp at ho, fun o2 ho2 => ?_, fun t n e => by cases e⟩
      simp only [Option.some.injEq] at ho2
      subst ho2
      exact ⟨rfl, o', by rw [hw]; simp, .inl (hor.mono hle)⟩
    · simp only [e, if_false] at hb
      obtain ⟨L, h1, h2⟩ := h.blk b x hb
      exact ⟨L, by simp [Mp.add, e, h1], h2.mono hle (hold _ (h.bound _ _ h1))⟩
  · intro b x hb hrw b' x' L L' hb' hm hm' hc
    rw [Heap.get_allocO] at hb hb'
    by_cases e : b = H.next <;> by_cases e' : b' = H.next
    · rw [e, e']
    · subst e
      simp only [Mp.add, if_true, Option.some.injEq, e', if_false] at hm hm'
      subst hm
      have := h.bound _ _ hm'
      simp at hc; omega
    · subst e'
      simp only [Mp.add, if_true, Option.some.injEq, e, if_false] at hm hm'
      subst hm'
      have := h.bound _ _ hm
      simp at hc; omega
    · simp only [Mp.add, e, e', if_false] at hb hb' hm hm'
      exact h.apart b x hb hrw b' x' L L' hb' hm hm' hc
  · intro b L hm
    by_cases e : b = H.next
    · subst e; simp only [Mp.add, if_true, Option.some.injEq] at hm; subst hm; simp; omega
    · simp only [Mp.add, e, if_false] at hm
      have := h.bound _ _ hm; omega
  · intro b hb
    have hb' : H.next + 1 ≤ b := hb
    have e : b ≠ H.next := by omega
    rw [Heap.get_allocO]
    simp only [Mp.add, e, if_false]
    exact h.fresh b (by omega)
  · intro c hc ⟨b, x, L, hb, hrw, hm, hcl⟩
    rw [Heap.get_allocO] at hb
    by_cases e : b = H.next
    · subst e; simp only [Mp.add, if_true, Option.some.injEq] at hm; subst hm; simp at hcl; omega
    · simp only [Mp.add, e, if_false] at hb hm
      exact ⟨b, x, L, hb, hrw, hm, hcl⟩

/-- A thing that is no row is turned. -/
theorem Step.setO {m : Mp} {H : Heap} {w w' : World} (h : Rel m H w) {b : Nat} {x : Blk} {L : Loc} {o : Obj} (hb : H.get b = some x) (hrw : x.rw = true) (hx : x.o = some o) (hm : m b = some L)
    (o1 o1' : Obj) (hor : OR m o1 o1') (hw : w'.heap = w.heap.setIfInBounds L.c o1')
    (ho : w'.os = w.os) (ht : w'.tape = w.tape) (hp : w'.output = w.output) :
    Step m H w m (H.set b { x with o := some o1 }) w' := by
  have hbd := h.bound _ _ hm
  have hother : ∀ c, c ≠ L.c → w'.heap[c]? = w.heap[c]? := by
    intro c hc; rw [hw, Array.getElem?_setIfInBounds]; simp [Ne.symm hc]
  have hthis : w'.heap[L.c]? = some o1' := by rw [hw, Array.getElem?_setIfInBounds]; simp [hbd]
  have hws : w'.heap.size = w.heap.size := by rw [hw]; simp
  obtain ⟨L1, hm1, hl1⟩ := h.blk b x hb
  have : L1 = L := by rw [hm] at hm1; exact (Option.some.inj hm1).symm
  subst this
  refine ⟨⟨?_, ?_, ?_, ?_⟩, ⟨Mp.le_refl m, ?_, later_same⟩, ⟨ho, ht, hp, by omega, ?_⟩⟩
  · intro k y hk
    rw [Heap.get_set] at hk
    by_cases e : k = b
    · subst e
      simp only [if_true, Option.some.injEq] at hk
      subst hk
      refine ⟨L1, hm, hl1.es, hl1.fits, fun h0 => by simp at h0, fun o2 ho2 => ?_, fun t n e => ?_⟩
      simp only [Option.some.injEq] at ho2
      subst ho2
      exact ⟨(hl1.ob _ hx).1, o1', hthis, .inl hor⟩
      obtain ⟨_, o9, q1, q2⟩ := hl1.ob _ hx
      obtain ⟨_, cs9, fz9, q3, _⟩ := hl1.ty t n e
      rw [q1] at q3
      simp only [Option.some.injEq] at q3
      exact absurd q3 (q2.notCells _ _ _)
    · simp only [e, if_false] at hk
      obtain ⟨L2, k1, k2⟩ := h.blk k y hk
      refine ⟨L2, k1, k2.mono (Mp.le_refl m) (hother _ ?_)⟩
      intro hc
      exact e (h.apart b x hb hrw k y L1 L2 hk hm k1 hc)
  · intro k y hk hrw' k' y' L2 L3 hk' hm2 hm3 hc
    rw [Heap.get_set] at hk hk'
    by_cases e : k = b <;> by_cases e' : k' = b
    · rw [e, e']
    · subst e
      simp only [e', if_false] at hk'
      exact h.apart k x hb hrw k' y' L2 L3 hk' hm2 hm3 hc
    · subst e'
      simp only [e, if_false] at hk
      exact (h.apart k y hk hrw' k' x L2 L3 hb hm2 hm3 hc)
    · simp only [e, e', if_false] at hk hk'
      exact h.apart k y hk hrw' k' y' L2 L3 hk' hm2 hm3 hc
  · intro k L2 hk; have := h.bound _ _ hk; omega
  · intro k hk
    refine ⟨(h.fresh k hk).1, ?_⟩
    rw [Heap.get_set]
    have := (h.fresh k hk).2
    by_cases e : k = b
    · subst e; rw [hb] at this; simp at this
    · simp [e, this]
  · intro c _ ⟨k, y, L2, hk, hrw', hm2, hc⟩
    rw [Heap.get_set] at hk
    by_cases e : k = b
    · subst e; exact ⟨k, x, L2, hb, hrw, hm2, hc⟩
    · simp only [e, if_false] at hk; exact ⟨k, y, L2, hk, hrw', hm2, hc⟩
  · intro c _ hown
    exact hother c (fun e => hown ⟨b, x, L1, hb, hrw, hm, e.symm⟩)

end Go.Am
