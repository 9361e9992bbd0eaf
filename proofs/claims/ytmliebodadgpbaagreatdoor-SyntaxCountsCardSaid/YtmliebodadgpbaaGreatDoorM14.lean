/- Abstract values against concrete ones, abstract heaps against worlds. -/
import Derived.Test.YtmliebodadgpbaaGreatDoorM13
import Derived.Laws.Sem
import Derived.Laws.Cells
import Derived.Laws.Append
import Derived.Laws.AppendOwn
import Derived.Laws.Rows
namespace Go.Aw
variable {xs ys : Array Value} {x y : Value} {w w' : World}
structure Loc where
 c : Nat
 base : Nat
 es : Nat
 e : Nat
abbrev Mp := Nat → Option Loc
def atomic : Value → Bool
 | .bool _ | .int _ _ | .float _ _ | .complex _ _ _ | .string _ | .pointer none | .map none | .chan none | .nilFunc | .nilIface => true
 | .slice none l c => l == 0 && c == 0
 | _ => false
inductive VR (m : Mp) : Value → Value → Prop where
 | atom (v : Value) (h : atomic v = true) : VR m v v
 | ptr (b off : Nat) (L : Loc) (h : m b = some L) : VR m (.pointer (some ⟨b, off, none⟩)) (.pointer (some ⟨L.c, L.base + off, none⟩))
 | slice (b off : Nat) (L : Loc) (a' : Addr) (len cap cap' : Nat) (h : m b = some L) (hl : len ≤ cap) (hc : cap ≤ cap')
     (hblk : a'.block = L.c) (hsp : a'.spot = none) (ha : cap' = 0 ∨ (a'.off = L.base + off ∧ a'.off + cap' * L.es ≤ L.e)) :
     VR m (.slice (some ⟨b, off, none⟩) len cap) (.slice (some a') len cap')
 | map (b : Nat) (L : Loc) (h : m b = some L) : VR m (.map (some b)) (.map (some L.c))
 | func (fn : Fn) (xs xs' ys ys' : Array Value) (hx : xs.size = xs'.size) (hy : ys.size = ys'.size)
     (kx : ∀ (i : Nat) (h : i < xs.size) (h' : i < xs'.size), VR m xs[i] xs'[i])
     (ky : ∀ (i : Nat) (h : i < ys.size) (h' : i < ys'.size), VR m ys[i] ys'[i]) : VR m (.func fn xs ys) (.func fn xs' ys')
 | iface (t : TypeId) (v v' : Value) (h : VR m v v') : VR m (.iface t v) (.iface t v')
 | agg (xs xs' : Array Value) (hx : xs.size = xs'.size)
     (kx : ∀ (i : Nat) (h : i < xs.size) (h' : i < xs'.size), VR m xs[i] xs'[i]) : VR m (.agg xs) (.agg xs')
 | tuple (xs xs' : Array Value) (hx : xs.size = xs'.size)
     (kx : ∀ (i : Nat) (h : i < xs.size) (h' : i < xs'.size), VR m xs[i] xs'[i]) : VR m (.tuple xs) (.tuple xs')
def Mp.le (m m' : Mp) : Prop := ∀ b x, m b = some x → m' b = some x
theorem Mp.le_refl (m : Mp) : m.le m := fun _ _ h => h
theorem Mp.le_trans {a b c : Mp} (h : a.le b) (k : b.le c) : a.le c := fun x y hx => k x y (h x y hx)
theorem VR.mono {m m' : Mp} (hm : m.le m') {v v' : Value} (h : VR m v v') : VR m' v v' := by
 induction h with
 | atom v h => exact .atom v h
 | ptr b off L h => exact .ptr b off L (hm _ _ h)
 | slice b off L a' len cap cap' h hl hc hb hs ha => exact .slice b off L a' len cap cap' (hm _ _ h) hl hc hb hs ha
 | map b L h => exact .map b L (hm _ _ h)
 | func fn xs xs' ys ys' hx hy _ _ kx ky => exact .func fn xs xs' ys ys' hx hy kx ky
 | iface t v v' _ k => exact .iface t v v' k
 | agg xs xs' hx _ k => exact .agg xs xs' hx k
 | tuple xs xs' hx _ k => exact .tuple xs xs' hx k
def VRs (m : Mp) (xs ys : List Value) : Prop := xs.length = ys.length ∧ ∀ i (h : i < xs.length) (h' : i < ys.length), VR m xs[i] ys[i]
def VRa (m : Mp) (xs ys : Array Value) : Prop := xs.size = ys.size ∧ ∀ i (h : i < xs.size) (h' : i < ys.size), VR m xs[i] ys[i]
theorem VRa.mono {m m' : Mp} (hm : m.le m') {xs ys : Array Value} (h : VRa m xs ys) : VRa m' xs ys := ⟨h.1, fun i a b => (h.2 i a b).mono hm⟩
theorem VRs.mono {m m' : Mp} (hm : m.le m') {xs ys : List Value} (h : VRs m xs ys) : VRs m' xs ys := ⟨h.1, fun i a b => (h.2 i a b).mono hm⟩
theorem VR.undef (m : Mp) : VR m undef undef := .tuple _ _ rfl (fun i h => absurd h (by simp))
theorem VRa.getD {m : Mp} (h : VRa m xs ys) (i : Nat) {d d' : Value} (hd : VR m d d') : VR m (xs.getD i d) (ys.getD i d') := by
 by_cases hi : i < xs.size
 · have hi' : i < ys.size := h.1 ▸ hi
   have := h.2 i hi hi'
   simpa [Array.getD, hi, hi'] using this
 · have hi' : ¬ i < ys.size := h.1 ▸ hi
   simpa [Array.getD, hi, hi'] using hd
theorem VRa.set {m : Mp} (h : VRa m xs ys) (i : Nat) {v v' : Value} (hv : VR m v v') : VRa m (xs.setIfInBounds i v) (ys.setIfInBounds i v') := by
 refine ⟨by simpa using h.1, fun j hj hj' => ?_⟩
 have k1 : j < xs.size := by simpa using hj
 have k2 : j < ys.size := by simpa using hj'
 by_cases e : i = j
 · subst e
   simpa [Array.getElem_setIfInBounds, k1, k2] using hv
 · simpa [Array.getElem_setIfInBounds, k1, k2, e] using h.2 j k1 k2
theorem VRa.push {m : Mp} (h : VRa m xs ys) {v v' : Value} (hv : VR m v v') : VRa m (xs.push v) (ys.push v') := by
 refine ⟨by simp [h.1], fun j hj hj' => ?_⟩
 simp only [Array.size_push] at hj hj'
 have hs := h.1
 by_cases e : j < xs.size
 · have e' : j < ys.size := h.1 ▸ e
   simp only [Array.getElem_push_lt e, Array.getElem_push_lt e']
   exact h.2 j e e'
 · have e1 : j = xs.size := by omega
   have e2 : j = ys.size := by omega
   subst e1
   simp only [Array.getElem_push_eq]
   simp only [e2, Array.getElem_push_eq]
   exact hv
theorem VRa.append {m : Mp} {us vs : Array Value} (h : VRa m xs ys) (k : VRa m us vs) : VRa m (xs ++ us) (ys ++ vs) := by
 refine ⟨by simp [h.1, k.1], fun j hj hj' => ?_⟩
 simp only [Array.size_append] at hj hj'
 by_cases e : j < xs.size
 · have e' : j < ys.size := h.1 ▸ e
   simp only [Array.getElem_append, e, e', dif_pos]
   exact h.2 j e e'
 · have e' : ¬ j < ys.size := h.1 ▸ e
   simp only [Array.getElem_append, e, e', dif_neg, not_false_eq_true]
   have hs := h.1
   simp only [← hs]
   exact k.2 _ (by omega) (by have := k.1; omega)
theorem VRa.replicate {m : Mp} (n : Nat) {v v' : Value} (hv : VR m v v') : VRa m (Array.replicate n v) (Array.replicate n v') :=
 ⟨by simp, fun i hi hi' => by simpa using hv⟩
theorem VRa.extract {m : Mp} (h : VRa m xs ys) (lo hi : Nat) : VRa m (xs.extract lo hi) (ys.extract lo hi) := by
 refine ⟨by simp [h.1], fun i hi hi' => ?_⟩
 simp only [Array.getElem_extract]
 simp only [Array.size_extract] at hi hi'
 exact h.2 _ (by omega) (by omega)
theorem VRa.toList {m : Mp} (h : VRa m xs ys) : VRs m xs.toList ys.toList :=
 ⟨by simpa using h.1, fun i hi hi' => by simp only [Array.getElem_toList]; exact h.2 i (by simpa using hi) (by simpa using hi')⟩
theorem VRs.toArray {m : Mp} {xs ys : List Value} (h : VRs m xs ys) : VRa m xs.toArray ys.toArray :=
 ⟨by simpa using h.1, fun i hi hi' => by simp only [List.getElem_toArray]; exact h.2 i (by simpa using hi) (by simpa using hi')⟩
theorem VRs.nil (m : Mp) : VRs m [] [] := ⟨rfl, fun i h => absurd h (by simp)⟩
theorem VRs.cons {m : Mp} {xs ys : List Value} (h : VR m x y) (k : VRs m xs ys) : VRs m (x :: xs) (y :: ys) := by
 refine ⟨by simp [k.1], fun i hi hi' => ?_⟩
 cases i with
 | zero => simpa using h
 | succ i => simpa using k.2 i (by simpa using hi) (by simpa using hi')
theorem VRs.head {m : Mp} {xs ys : List Value} (h : VRs m (x :: xs) (y :: ys)) : VR m x y := h.2 0 (by simp) (by simp)
theorem VRs.tail {m : Mp} {xs ys : List Value} (h : VRs m (x :: xs) (y :: ys)) : VRs m xs ys :=
 ⟨by simpa using h.1, fun i hi hi' => by have := h.2 (i + 1) (by simpa using hi) (by simpa using hi'); simpa using this⟩
theorem VRs.append {m : Mp} {xs ys us vs : List Value} (h : VRs m xs ys) (k : VRs m us vs) : VRs m (xs ++ us) (ys ++ vs) := by
 have := (h.toArray.append k.toArray).toList
 simpa using this
theorem VRa.empty (m : Mp) : VRa m #[] #[] := ⟨rfl, fun i h => absurd h (by simp)⟩
theorem VRa.one {m : Mp} (h : VR m x y) : VRa m #[x] #[y] := (VRs.cons h (VRs.nil m)).toArray
theorem VR.cells {m : Mp} {v v' : Value} (h : VR m v v') : VRa m v.cells v'.cells := by
 cases h with
 | agg xs xs' hx k => exact ⟨hx, k⟩
 | atom v hv => cases v <;> simp [atomic] at hv <;> exact VRa.one (.atom _ (by simp [atomic, hv]))
 | ptr b off L h => exact VRa.one (.ptr b off L h)
 | slice b off L a' len cap cap' h hl hc hb hs ha => exact VRa.one (.slice b off L a' len cap cap' h hl hc hb hs ha)
 | map b L h => exact VRa.one (.map b L h)
 | func fn xs xs' ys ys' hx hy kx ky => exact VRa.one (.func fn xs xs' ys ys' hx hy kx ky)
 | iface t v v' h => exact VRa.one (.iface t v v' h)
 | tuple xs xs' hx k => exact VRa.one (.tuple xs xs' hx k)
theorem VR.eq_of_atomic {m : Mp} {v v' : Value} (h : VR m v v') (ha : atomic v = true) : v' = v := by
 cases h <;> first | rfl | simp [atomic] at ha
inductive OR (m : Mp) : Obj → Obj → Prop where
 | iter (s : ByteArray) (pos : Nat) : OR m (.stringIter s pos) (.stringIter s pos)
 | map (xs ys : Array MapEntry) (clock : Nat) (hs : xs.size = ys.size)
     (h : ∀ (i : Nat) (a : i < xs.size) (b : i < ys.size), VR m xs[i].key ys[i].key ∧ VR m xs[i].val ys[i].val ∧ xs[i].born = ys[i].born) : OR m (.map xs clock) (.map ys clock)
theorem OR.mono {m m' : Mp} (hm : m.le m') {o o' : Obj} (h : OR m o o') : OR m' o o' := by
 cases h with
 | iter s pos => exact .iter s pos
 | map xs ys clock hs h => exact .map xs ys clock hs (fun i a b => ⟨(h i a b).1.mono hm, (h i a b).2.1.mono hm, (h i a b).2.2⟩)
structure Blk where
 cells : List Value
 rw : Bool
 es : Nat
 o : Option Obj := none
structure Heap where
 m : Tr Blk
 next : Nat
namespace Heap
def get (H : Heap) (b : Nat) : Option Blk := H.m.get b
def set (H : Heap) (b : Nat) (x : Blk) : Heap := { H with m := H.m.set b (some x) }
def drop (H : Heap) (b : Nat) : Heap := { H with m := H.m.set b none }
def alloc (H : Heap) (es : Nat) (cells : List Value) : Heap := { m := H.m.set H.next (some ⟨cells, true, es, none⟩), next := H.next + 1 }
theorem get_set (H : Heap) (b k : Nat) (x : Blk) : (H.set b x).get k = if k = b then some x else H.get k := Tr.get_set _ _ _ _
theorem get_drop (H : Heap) (b k : Nat) : (H.drop b).get k = if k = b then none else H.get k := Tr.get_set _ _ _ _
theorem get_alloc (H : Heap) (es : Nat) (cells : List Value) (k : Nat) : (H.alloc es cells).get k = if k = H.next then some ⟨cells, true, es, none⟩ else H.get k := Tr.get_set _ _ _ _
end Heap
structure Lies (m : Mp) (w : World) (x : Blk) (L : Loc) : Prop where
 es : L.es = x.es
 fits : L.base + x.cells.length ≤ L.e
 ex : x.o = none → ∃ cs elem fz, w.heap[L.c]? = some (.cells cs elem fz) ∧ cs.size = L.e ∧
   (∀ i (h : i < x.cells.length) (h' : L.base + i < cs.size), VR m x.cells[i] cs[L.base + i]) ∧
   (x.rw = true → fz.1 = fz.2 ∨ cs.size ≤ fz.1)
 ob : ∀ o, x.o = some o → L.base = 0 ∧ ∃ o', w.heap[L.c]? = some o' ∧ OR m o o'
structure Rel (m : Mp) (H : Heap) (w : World) : Prop where
 blk : ∀ b x, H.get b = some x → ∃ L, m b = some L ∧ Lies m w x L
 apart : ∀ b x, H.get b = some x → x.rw = true → ∀ b' x' L L', H.get b' = some x' → m b = some L → m b' = some L' → L'.c = L.c → b' = b
 bound : ∀ b L, m b = some L → L.c < w.heap.size
 fresh : ∀ b, H.next ≤ b → m b = none ∧ H.get b = none
def Owns (m : Mp) (H : Heap) (c : Nat) : Prop := ∃ b x L, H.get b = some x ∧ x.rw = true ∧ m b = some L ∧ L.c = c
structure Keep (m : Mp) (H : Heap) (w w' : World) : Prop where
 os : w'.os = w.os
 tape : w'.tape = w.tape
 output : w'.output = w.output
 size : w.heap.size ≤ w'.heap.size
 block : ∀ c, c < w.heap.size → ¬ Owns m H c → w'.heap[c]? = w.heap[c]?
def Later (m : Mp) (H : Heap) (w : World) (m' : Mp) (H' : Heap) : Prop := m.le m' ∧ ∀ c, c < w.heap.size → Owns m' H' c → Owns m H c
theorem Keep.refl (m : Mp) (H : Heap) (w : World) : Keep m H w w := ⟨rfl, rfl, rfl, Nat.le_refl _, fun _ _ _ => rfl⟩
theorem Later.refl (m : Mp) (H : Heap) (w : World) : Later m H w m H := ⟨Mp.le_refl m, fun _ _ h => h⟩
theorem Later.trans {m m' m'' : Mp} {H H' H'' : Heap} (h : Later m H w m' H') (k : Later m' H' w' m'' H'') (hs : w.heap.size ≤ w'.heap.size) : Later m H w m'' H'' :=
 ⟨Mp.le_trans h.1 k.1, fun c hc ho => h.2 c hc (k.2 c (Nat.lt_of_lt_of_le hc hs) ho)⟩
theorem Keep.trans {m m' : Mp} {H H' : Heap} {w'' : World} (h : Keep m H w w') (l : Later m H w m' H') (k : Keep m' H' w' w'') : Keep m H w w'' :=
 ⟨k.os.trans h.os, k.tape.trans h.tape, k.output.trans h.output, Nat.le_trans h.size k.size,
   fun c hc ho => (k.block c (Nat.lt_of_lt_of_le hc h.size) (fun o => ho (l.2 c hc o))).trans (h.block c hc ho)⟩
structure Step (m : Mp) (H : Heap) (w : World) (m' : Mp) (H' : Heap) (w' : World) : Prop where
 rel : Rel m' H' w'
 later : Later m H w m' H'
 keep : Keep m H w w'
theorem Step.refl {m : Mp} {H : Heap} (h : Rel m H w) : Step m H w m H w := ⟨h, .refl .., .refl ..⟩
theorem Step.trans {m m' m'' : Mp} {H H' H'' : Heap} {w'' : World} (h : Step m H w m' H' w') (k : Step m' H' w' m'' H'' w'') : Step m H w m'' H'' w'' :=
 ⟨k.rel, h.later.trans k.later h.keep.size, h.keep.trans h.later k.keep⟩
theorem Rel.drawn {m : Mp} {H : Heap} (h : Rel m H w) (n : Nat) : Rel m H { w with drawn := n } :=
 ⟨fun b x hb => let ⟨L, hm, hl⟩ := h.blk b x hb; ⟨L, hm, ⟨hl.es, hl.fits, hl.ex, hl.ob⟩⟩, h.apart, h.bound, h.fresh⟩
theorem Step.drawn {m : Mp} {H : Heap} (h : Rel m H w) (n : Nat) : Step m H w m H { w with drawn := n } :=
 ⟨h.drawn n, .refl .., ⟨rfl, rfl, rfl, Nat.le_refl _, fun _ _ _ => rfl⟩⟩
def Mp.add (m : Mp) (b : Nat) (L : Loc) : Mp := fun k => if k = b then some L else m k
theorem Mp.le_add {m : Mp} {b : Nat} {L : Loc} (h : m b = none) : m.le (m.add b L) := by
 intro k x hk
 by_cases e : k = b
 · subst e; simp [h] at hk
 · simp [Mp.add, e, hk]
theorem Lies.mono {m m' : Mp} {x : Blk} {L : Loc} (hm : m.le m') (hw : w'.heap[L.c]? = w.heap[L.c]?) (h : Lies m w x L) : Lies m' w' x L := by
 refine ⟨h.es, h.fits, fun ho => ?_, fun o ho => ?_⟩
 · obtain ⟨cs, elem, fz, h1, h2, h3, h4⟩ := h.ex ho
   exact ⟨cs, elem, fz, hw.trans h1, h2, fun i a b => (h3 i a b).mono hm, h4⟩
 · obtain ⟨h0, o', h1, h2⟩ := h.ob o ho
   exact ⟨h0, o', hw.trans h1, h2.mono hm⟩
theorem Step.alloc {m : Mp} {H : Heap} (h : Rel m H w) (es : Nat) (xs : List Value) (ys : Array Value) (elem : TypeId) (hx : xs.length ≤ ys.size)
   (hv : ∀ i (a : i < xs.length) (b : i < ys.size), VR m xs[i] ys[i]) (hw : w'.heap = w.heap.push (.cells ys elem))
   (ho : w'.os = w.os) (ht : w'.tape = w.tape) (hp : w'.output = w.output) :
   Step m H w (m.add H.next ⟨w.heap.size, 0, es, ys.size⟩) (H.alloc es xs) w' := by
 have hfr := h.fresh H.next (Nat.le_refl _)
 have hle : m.le (m.add H.next ⟨w.heap.size, 0, es, ys.size⟩) := Mp.le_add hfr.1
 have hold : ∀ c, c < w.heap.size → w'.heap[c]? = w.heap[c]? := by
   intro c hc; rw [hw, Array.getElem?_push]; simp [Nat.ne_of_lt hc]
 have hsz : w'.heap.size = w.heap.size + 1 := by rw [hw]; simp
 refine ⟨⟨?_, ?_, ?_, ?_⟩, ⟨hle, ?_⟩, ⟨ho, ht, hp, by omega, fun c hc _ => hold c hc⟩⟩
 · intro b x hb
   rw [Heap.get_alloc] at hb
   by_cases e : b = H.next
   · subst e
     simp only [if_true, Option.some.injEq] at hb
     subst hb
     refine ⟨_, by simp [Mp.add]; rfl, rfl, by simpa using hx, fun _ => ⟨ys, elem, (0, 0), ?_, rfl, ?_, fun _ => .inl rfl⟩, fun o ho => by simp at ho⟩
     · rw [hw]; simp
     · intro i a b
       simp only [Nat.zero_add]
       exact (hv i a (by simpa using b)).mono hle
   · simp only [e, if_false] at hb
     obtain ⟨L, h1, h2⟩ := h.blk b x hb
     exact ⟨L, by simp [Mp.add, e, h1], h2.mono hle (hold _ (h.bound _ _ h1))⟩
 · intro b x hb hrw b' x' L L' hb' hm hm' hc
   rw [Heap.get_alloc] at hb hb'
   by_cases e : b = H.next <;> by_cases e' : b' = H.next
   · rw [e, e']
   · subst e
     simp only [Mp.add, if_true, Option.some.injEq, e', if_false] at hm hm'
     subst hm
     have := h.bound _ _ hm'
     simp at hc; omega
   · subst e'
     simp only [Mp.add, if_true, Option.some.injEq, e, if_false] at hm hm'
     subst hm'
     have := h.bound _ _ hm
     simp at hc; omega
   · simp only [Mp.add, e, e', if_false] at hb hb' hm hm'
     exact h.apart b x hb hrw b' x' L L' hb' hm hm' hc
 · intro b L hm
   by_cases e : b = H.next
   · subst e; simp only [Mp.add, if_true, Option.some.injEq] at hm; subst hm; simp; omega
   · simp only [Mp.add, e, if_false] at hm
     have := h.bound _ _ hm; omega
 · intro b hb
   have hb' : H.next + 1 ≤ b := hb
   have e : b ≠ H.next := by omega
   rw [Heap.get_alloc]
   simp only [Mp.add, e, if_false]
   exact h.fresh b (by omega)
 · intro c hc ⟨b, x, L, hb, hrw, hm, hcl⟩
   rw [Heap.get_alloc] at hb
   by_cases e : b = H.next
   · subst e; simp only [Mp.add, if_true, Option.some.injEq] at hm; subst hm; simp at hcl; omega
   · simp only [Mp.add, e, if_false] at hb hm
     exact ⟨b, x, L, hb, hrw, hm, hcl⟩
theorem Step.drop {m : Mp} {H : Heap} (h : Rel m H w) (b : Nat) : Step m H w m (H.drop b) w := by
 have key : ∀ k x, (H.drop b).get k = some x → H.get k = some x := by
   intro k x hk; rw [Heap.get_drop] at hk
   by_cases e : k = b
   · simp [e] at hk
   · simpa [e] using hk
 refine ⟨⟨fun k x hk => h.blk k x (key k x hk), ?_, h.bound, ?_⟩, ⟨Mp.le_refl m, ?_⟩, .refl ..⟩
 · intro k x hk hrw k' x' L L' hk' hm hm' hc
   exact h.apart k x (key _ _ hk) hrw k' x' L L' (key _ _ hk') hm hm' hc
 · intro k hk
   refine ⟨(h.fresh k hk).1, ?_⟩
   rw [Heap.get_drop]; by_cases e : k = b <;> simp [e]
   exact (h.fresh k hk).2
 · intro c _ ⟨k, x, L, hk, hrw, hm, hc⟩
   exact ⟨k, x, L, key _ _ hk, hrw, hm, hc⟩
theorem Step.write {m : Mp} {H : Heap} (h : Rel m H w) {b : Nat} {x : Blk} {L : Loc} (hb : H.get b = some x) (hrw : x.rw = true) (hno : x.o = none) (hm : m b = some L)
   (xs : List Value) (hlen : xs.length = x.cells.length) (cs cs' : Array Value) (elem : TypeId) (fz : Nat × Nat)
   (h0 : w.heap[L.c]? = some (.cells cs elem fz)) (hsz : cs'.size = cs.size)
   (hv : ∀ i (a : i < xs.length) (c : L.base + i < cs'.size), VR m xs[i] cs'[L.base + i])
   (hw : w'.heap = w.heap.setIfInBounds L.c (.cells cs' elem fz))
   (ho : w'.os = w.os) (ht : w'.tape = w.tape) (hp : w'.output = w.output) :
   Step m H w m (H.set b { x with cells := xs }) w' := by
 have hbd := h.bound _ _ hm
 have hother : ∀ c, c ≠ L.c → w'.heap[c]? = w.heap[c]? := by
   intro c hc; rw [hw, Array.getElem?_setIfInBounds]; simp [Ne.symm hc]
 have hthis : w'.heap[L.c]? = some (.cells cs' elem fz) := by rw [hw, Array.getElem?_setIfInBounds]; simp [hbd]
 have hws : w'.heap.size = w.heap.size := by rw [hw]; simp
 obtain ⟨L1, hm1, hl1⟩ := h.blk b x hb
 have : L1 = L := by rw [hm] at hm1; exact (Option.some.inj hm1).symm
 subst this
 obtain ⟨hes, hfit, hex, _⟩ := hl1
 obtain ⟨cs0, elem0, fz0, g1, g2, g3, g4⟩ := hex hno
 rw [h0] at g1
 simp only [Option.some.injEq, Obj.cells.injEq] at g1
 obtain ⟨rfl, rfl, rfl⟩ := g1
 refine ⟨⟨?_, ?_, ?_, ?_⟩, ⟨Mp.le_refl m, ?_⟩, ⟨ho, ht, hp, by omega, ?_⟩⟩
 · intro k y hk
   rw [Heap.get_set] at hk
   by_cases e : k = b
   · subst e
     simp only [if_true, Option.some.injEq] at hk
     subst hk
     exact ⟨L1, hm, hes, by simpa [hlen] using hfit, fun _ => ⟨cs', elem, fz, hthis, hsz.trans g2, hv, by rw [hsz]; exact g4⟩, fun o ho => by rw [show ({ x with cells := xs } : Blk).o = x.o from rfl, hno] at ho; simp at ho⟩
   · simp only [e, if_false] at hk
     obtain ⟨L2, k1, k2⟩ := h.blk k y hk
     refine ⟨L2, k1, k2.mono (Mp.le_refl m) (hother _ ?_)⟩
     intro hc
     exact e (h.apart b x hb hrw k y L1 L2 hk hm k1 hc)
 · intro k y hk hrw' k' y' L2 L3 hk' hm2 hm3 hc
   rw [Heap.get_set] at hk hk'
   by_cases e : k = b <;> by_cases e' : k' = b
   · rw [e, e']
   · subst e
     simp only [e', if_false] at hk'
     exact h.apart k x hb hrw k' y' L2 L3 hk' hm2 hm3 hc
   · subst e'
     simp only [e, if_false] at hk
     exact (h.apart k y hk hrw' k' x L2 L3 hb hm2 hm3 hc)
   · simp only [e, e', if_false] at hk hk'
     exact h.apart k y hk hrw' k' y' L2 L3 hk' hm2 hm3 hc
 · intro k L2 hk; have := h.bound _ _ hk; omega
 · intro k hk
   refine ⟨(h.fresh k hk).1, ?_⟩
   rw [Heap.get_set]
   have := (h.fresh k hk).2
   by_cases e : k = b
   · subst e; rw [hb] at this; simp at this
   · simp [e, this]
 · intro c _ ⟨k, y, L2, hk, hrw', hm2, hc⟩
   rw [Heap.get_set] at hk
   by_cases e : k = b
   · subst e; exact ⟨k, x, L2, hb, hrw, hm2, hc⟩
   · simp only [e, if_false] at hk; exact ⟨k, y, L2, hk, hrw', hm2, hc⟩
 · intro c _ hown
   exact hother c (fun e => hown ⟨b, x, L1, hb, hrw, hm, e.symm⟩)
theorem Step.regrow {m : Mp} {H : Heap} (h : Rel m H w) {b : Nat} {x : Blk} {L : Loc} (hb : H.get b = some x) (hrw : x.rw = true) (hno : x.o = none) (hm : m b = some L)
   (xs : List Value) (base : Nat) (cs cs' : Array Value) (elem : TypeId) (fz : Nat × Nat)
   (h0 : w.heap[L.c]? = some (.cells cs elem fz)) (hsz : cs'.size = cs.size) (hfit : base + xs.length ≤ L.e)
   (hv : ∀ i (a : i < xs.length) (c : base + i < cs'.size), VR m xs[i] cs'[base + i])
   (hw : w'.heap = w.heap.setIfInBounds L.c (.cells cs' elem fz))
   (ho : w'.os = w.os) (ht : w'.tape = w.tape) (hp : w'.output = w.output) :
   Step m H w (m.add H.next ⟨L.c, base, L.es, L.e⟩) ((H.drop b).alloc x.es xs) w' := by
 have hfr := h.fresh H.next (Nat.le_refl _)
 have hle : m.le (m.add H.next ⟨L.c, base, L.es, L.e⟩) := Mp.le_add hfr.1
 have hbd := h.bound _ _ hm
 have hbn : b ≠ H.next := by intro e; rw [e, hfr.2] at hb; simp at hb
 have hother : ∀ c, c ≠ L.c → w'.heap[c]? = w.heap[c]? := by
   intro c hc; rw [hw, Array.getElem?_setIfInBounds]; simp [Ne.symm hc]
 have hthis : w'.heap[L.c]? = some (.cells cs' elem fz) := by rw [hw, Array.getElem?_setIfInBounds]; simp [hbd]
 have hws : w'.heap.size = w.heap.size := by rw [hw]; simp
 obtain ⟨L1, hm1, hl1⟩ := h.blk b x hb
 have : L1 = L := by rw [hm] at hm1; exact (Option.some.inj hm1).symm
 subst this
 obtain ⟨hes, _, hex, _⟩ := hl1
 obtain ⟨cs0, elem0, fz0, g1, g2, g3, g4⟩ := hex hno
 rw [h0] at g1
 simp only [Option.some.injEq, Obj.cells.injEq] at g1
 obtain ⟨rfl, rfl, rfl⟩ := g1
 have hget : ∀ k, ((H.drop b).alloc x.es xs).get k = if k = H.next then some ⟨xs, true, x.es, none⟩ else if k = b then none else H.get k := by
   intro k; rw [Heap.get_alloc, Heap.get_drop]; rfl
 refine ⟨⟨?_, ?_, ?_, ?_⟩, ⟨hle, ?_⟩, ⟨ho, ht, hp, by omega, ?_⟩⟩
 · intro k y hk
   rw [hget] at hk
   by_cases e : k = H.next
   · subst e
     simp only [if_true, Option.some.injEq] at hk
     subst hk
     exact ⟨⟨L1.c, base, L1.es, L1.e⟩, by simp [Mp.add], hes, hfit, fun _ => ⟨cs', elem, fz, hthis, hsz.trans g2, fun i a c => (hv i a c).mono hle, fun _ => by rw [hsz]; exact g4 hrw⟩, fun o ho => by simp at ho⟩
   · simp only [e, if_false] at hk
     by_cases e' : k = b
     · simp [e'] at hk
     · simp only [e', if_false] at hk
       obtain ⟨L2, k1, k2⟩ := h.blk k y hk
       refine ⟨L2, by simp [Mp.add, e, k1], k2.mono hle (hother _ ?_)⟩
       intro hc
       exact e' (h.apart b x hb hrw k y L1 L2 hk hm k1 hc)
 · intro k y hk hrw' k' y' L2 L3 hk' hm2 hm3 hc
   rw [hget] at hk hk'
   by_cases e : k = H.next <;> by_cases e' : k' = H.next
   · rw [e, e']
   · subst e
     simp only [Mp.add, if_true, Option.some.injEq, e', if_false] at hm2 hm3
     subst hm2
     by_cases e2 : k' = b
     · rw [if_neg e', if_pos e2] at hk'; simp at hk'
     · simp only [e', e2, if_false] at hk'
       exact absurd (h.apart b x hb hrw k' y' L1 L3 hk' hm hm3 hc) e2
   · subst e'
     simp only [Mp.add, if_true, Option.some.injEq, e, if_false] at hm2 hm3
     subst hm3
     by_cases e2 : k = b
     · rw [if_neg e, if_pos e2] at hk; simp at hk
     · simp only [e, e2, if_false] at hk
       exact absurd (h.apart b x hb hrw k y L1 L2 hk hm hm2 hc.symm) e2
   · simp only [Mp.add, e, e', if_false] at hk hk' hm2 hm3
     by_cases e2 : k = b
     · simp [e2] at hk
     · by_cases e3 : k' = b
       · simp [e3] at hk'
       · simp only [e2, e3, if_false] at hk hk'
         exact h.apart k y hk hrw' k' y' L2 L3 hk' hm2 hm3 hc
 · intro k L2 hk
   by_cases e : k = H.next
   · subst e; simp only [Mp.add, if_true, Option.some.injEq] at hk; subst hk; simp; omega
   · simp only [Mp.add, e, if_false] at hk; have := h.bound _ _ hk; omega
 · intro k hk
   have hk' : H.next + 1 ≤ k := hk
   have e : k ≠ H.next := by omega
   refine ⟨by simp [Mp.add, e]; exact (h.fresh k (by omega)).1, ?_⟩
   rw [hget]; simp only [e, if_false]
   by_cases e' : k = b
   · simp [e']
   · simp only [e', if_false]; exact (h.fresh k (by omega)).2
 · intro c _ ⟨k, y, L2, hk, hrw', hm2, hc⟩
   rw [hget] at hk
   by_cases e : k = H.next
   · subst e; simp only [Mp.add, if_true, Option.some.injEq] at hm2; subst hm2; exact ⟨b, x, L1, hb, hrw, hm, hc⟩
   · simp only [Mp.add, e, if_false] at hk hm2
     by_cases e' : k = b
     · simp [e'] at hk
     · simp only [e', if_false] at hk; exact ⟨k, y, L2, hk, hrw', hm2, hc⟩
 · intro c _ hown
   exact hother c (fun e => hown ⟨b, x, L1, hb, hrw, hm, e.symm⟩)
def Heap.allocO (H : Heap) (o : Obj) : Heap := { m := H.m.set H.next (some ⟨[], true, 0, some o⟩), next := H.next + 1 }
theorem Heap.get_allocO (H : Heap) (o : Obj) (k : Nat) : (H.allocO o).get k = if k = H.next then some ⟨[], true, 0, some o⟩ else H.get k := Tr.get_set _ _ _ _
theorem Step.allocO {m : Mp} {H : Heap} (h : Rel m H w) (o o' : Obj) (hor : OR m o o') (hw : w'.heap = w.heap.push o')
   (ho : w'.os = w.os) (ht : w'.tape = w.tape) (hp : w'.output = w.output) :
   Step m H w (m.add H.next ⟨w.heap.size, 0, 0, 0⟩) (H.allocO o) w' := by
 have hfr := h.fresh H.next (Nat.le_refl _)
 have hle : m.le (m.add H.next ⟨w.heap.size, 0, 0, 0⟩) := Mp.le_add hfr.1
 have hold : ∀ c, c < w.heap.size → w'.heap[c]? = w.heap[c]? := by
   intro c hc; rw [hw, Array.getElem?_push]; simp [Nat.ne_of_lt hc]
 have hsz : w'.heap.size = w.heap.size + 1 := by rw [hw]; simp
 refine ⟨⟨?_, ?_, ?_, ?_⟩, ⟨hle, ?_⟩, ⟨ho, ht, hp, by omega, fun c hc _ => hold c hc⟩⟩
 · intro b x hb
   rw [Heap.get_allocO] at hb
   by_cases e : b = H.next
   · subst e
     simp only [if_true, Option.some.injEq] at hb
     subst hb
     refine ⟨_, by simp [Mp.add]; rfl, rfl, by simp, fun ho => by simp at ho, fun o2 ho2 => ?_⟩
     simp only [Option.some.injEq] at ho2
     subst ho2
     exact ⟨rfl, o', by rw [hw]; simp, hor.mono hle⟩
   · simp only [e, if_false] at hb
     obtain ⟨L, h1, h2⟩ := h.blk b x hb
     exact ⟨L, by simp [Mp.add, e, h1], h2.mono hle (hold _ (h.bound _ _ h1))⟩
 · intro b x hb hrw b' x' L L' hb' hm hm' hc
   rw [Heap.get_allocO] at hb hb'
   by_cases e : b = H.next <;> by_cases e' : b' = H.next
   · rw [e, e']
   · subst e
     simp only [Mp.add, if_true, Option.some.injEq, e', if_false] at hm hm'
     subst hm
     have := h.bound _ _ hm'
     simp at hc; omega
   · subst e'
     simp only [Mp.add, if_true, Option.some.injEq, e, if_false] at hm hm'
     subst hm'
     have := h.bound _ _ hm
     simp at hc; omega
   · simp only [Mp.add, e, e', if_false] at hb hb' hm hm'
     exact h.apart b x hb hrw b' x' L L' hb' hm hm' hc
 · intro b L hm
   by_cases e : b = H.next
   · subst e; simp only [Mp.add, if_true, Option.some.injEq] at hm; subst hm; simp; omega
   · simp only [Mp.add, e, if_false] at hm
     have := h.bound _ _ hm; omega
 · intro b hb
   have hb' : H.next + 1 ≤ b := hb
   have e : b ≠ H.next := by omega
   rw [Heap.get_allocO]
   simp only [Mp.add, e, if_false]
   exact h.fresh b (by omega)
 · intro c hc ⟨b, x, L, hb, hrw, hm, hcl⟩
   rw [Heap.get_allocO] at hb
   by_cases e : b = H.next
   · subst e; simp only [Mp.add, if_true, Option.some.injEq] at hm; subst hm; simp at hcl; omega
   · simp only [Mp.add, e, if_false] at hb hm
     exact ⟨b, x, L, hb, hrw, hm, hcl⟩
theorem Step.setO {m : Mp} {H : Heap} (h : Rel m H w) {b : Nat} {x : Blk} {L : Loc} {o : Obj} (hb : H.get b = some x) (hrw : x.rw = true) (hx : x.o = some o) (hm : m b = some L)
   (o1 o1' : Obj) (hor : OR m o1 o1') (hw : w'.heap = w.heap.setIfInBounds L.c o1')
   (ho : w'.os = w.os) (ht : w'.tape = w.tape) (hp : w'.output = w.output) :
   Step m H w m (H.set b { x with o := some o1 }) w' := by
 have hbd := h.bound _ _ hm
 have hother : ∀ c, c ≠ L.c → w'.heap[c]? = w.heap[c]? := by
   intro c hc; rw [hw, Array.getElem?_setIfInBounds]; simp [Ne.symm hc]
 have hthis : w'.heap[L.c]? = some o1' := by rw [hw, Array.getElem?_setIfInBounds]; simp [hbd]
 have hws : w'.heap.size = w.heap.size := by rw [hw]; simp
 obtain ⟨L1, hm1, hl1⟩ := h.blk b x hb
 have : L1 = L := by rw [hm] at hm1; exact (Option.some.inj hm1).symm
 subst this
 refine ⟨⟨?_, ?_, ?_, ?_⟩, ⟨Mp.le_refl m, ?_⟩, ⟨ho, ht, hp, by omega, ?_⟩⟩
 · intro k y hk
   rw [Heap.get_set] at hk
   by_cases e : k = b
   · subst e
     simp only [if_true, Option.some.injEq] at hk
     subst hk
     refine ⟨L1, hm, hl1.es, hl1.fits, fun h0 => by simp at h0, fun o2 ho2 => ?_⟩
     simp only [Option.some.injEq] at ho2
     subst ho2
     exact ⟨(hl1.ob _ hx).1, o1', hthis, hor⟩
   · simp only [e, if_false] at hk
     obtain ⟨L2, k1, k2⟩ := h.blk k y hk
     refine ⟨L2, k1, k2.mono (Mp.le_refl m) (hother _ ?_)⟩
     intro hc
     exact e (h.apart b x hb hrw k y L1 L2 hk hm k1 hc)
 · intro k y hk hrw' k' y' L2 L3 hk' hm2 hm3 hc
   rw [Heap.get_set] at hk hk'
   by_cases e : k = b <;> by_cases e' : k' = b
   · rw [e, e']
   · subst e
     simp only [e', if_false] at hk'
     exact h.apart k x hb hrw k' y' L2 L3 hk' hm2 hm3 hc
   · subst e'
     simp only [e, if_false] at hk
     exact (h.apart k y hk hrw' k' x L2 L3 hb hm2 hm3 hc)
   · simp only [e, e', if_false] at hk hk'
     exact h.apart k y hk hrw' k' y' L2 L3 hk' hm2 hm3 hc
 · intro k L2 hk; have := h.bound _ _ hk; omega
 · intro k hk
   refine ⟨(h.fresh k hk).1, ?_⟩
   rw [Heap.get_set]
   have := (h.fresh k hk).2
   by_cases e : k = b
   · subst e; rw [hb] at this; simp at this
   · simp [e, this]
 · intro c _ ⟨k, y, L2, hk, hrw', hm2, hc⟩
   rw [Heap.get_set] at hk
   by_cases e : k = b
   · subst e; exact ⟨k, x, L2, hb, hrw, hm2, hc⟩
   · simp only [e, if_false] at hk; exact ⟨k, y, L2, hk, hrw', hm2, hc⟩
 · intro c _ hown
   exact hother c (fun e => hown ⟨b, x, L1, hb, hrw, hm, e.symm⟩)
end Go.Aw
namespace Go.Aw
abbrev VH := Option (Value × Heap)
def pureRun {α : Type} (P : Program) : Sem α → Option α
 | .pure a => some a
 | .program k => pureRun P (k P)
 | .mark _ k => pureRun P k
 | _ => none
theorem pureRun_run {α : Type} {P : Program} {s : Sem α} {a : α} (h : pureRun P s = some a) (w : World) : s.run P w = .ok a w := by
 induction s with
 | pure x => simp only [pureRun, Option.some.injEq] at h; subst h; rfl
 | program k ih => exact ih P h
 | mark m k ih => exact ih h
 | load => simp [pureRun] at h
 | store => simp [pureRun] at h
 | new => simp [pureRun] at h
 | shape => simp [pureRun] at h
 | freeze => simp [pureRun] at h
 | frozen => simp [pureRun] at h
 | getObj => simp [pureRun] at h
 | setObj => simp [pureRun] at h
 | choose => simp [pureRun] at h
 | sys => simp [pureRun] at h
 | halt => simp [pureRun] at h
def look (H : Heap) (a : Addr) : Option Blk :=
 match a.spot with
 | some _ => none
 | none =>
   match H.get a.block with
   | some x => match x.o with | none => some x | some _ => none
   | none => none
def ld1 (H : Heap) (a : Addr) : VH :=
 match look H a with
 | some x => match x.cells[a.off]? with | some v => some (v, H) | none => none
 | none => none
def ldN (H : Heap) (a : Addr) (n : Nat) : VH :=
 match look H a with
 | some x => if a.off + n ≤ x.cells.length then some (.agg ((x.cells.drop a.off).take n).toArray, H) else none
 | none => none
def over (xs : List Value) (i : Nat) (vs : List Value) : List Value := xs.take i ++ vs ++ xs.drop (i + vs.length)
def st (H : Heap) (a : Addr) (vs : List Value) : VH :=
 match look H a with
 | some x => if x.rw = true ∧ a.off + vs.length ≤ x.cells.length ∧ vs.all Value.oneCell' = true then some (undef, H.set a.block { x with cells := over x.cells a.off vs }) else none
 | none => none
def mk (H : Heap) (es : Nat) (cells : List Value) : VH := some (.pointer (some ⟨H.next, 0, none⟩), H.alloc es cells)
def mkRow (H : Heap) (es : Nat) (cells : List Value) (len : Nat) : VH := some (.slice (some ⟨H.next, 0, none⟩) len len, H.alloc es cells)
def sliceS (s : ByteArray) (l h : Int) : Option ByteArray := if 0 ≤ l ∧ l ≤ h ∧ h ≤ s.size then some (s.extract l.toNat h.toNat) else none
def sliceA (H : Heap) (es : Nat) (a : Option Addr) (cap : Nat) (l h : Int) : Option Value :=
 if 0 ≤ l ∧ l ≤ h ∧ h ≤ cap then
   match a with
   | none => some (.slice none 0 0)
   | some a => match look H a with
     | some x => if x.es = es then some (.slice (some (a.add (l.toNat * es))) (h - l).toNat (cap - l.toNat)) else none
     | none => none
 else none
def sliceP (H : Heap) (es n : Nat) (a : Addr) (l h : Int) : Option Value :=
 if 0 ≤ l ∧ l ≤ h ∧ h ≤ n then
   match look H a with
   | some x => if x.es = es ∧ a.off + n * es ≤ x.cells.length then some (.slice (some (a.add (l.toNat * es))) (h - l).toNat (n - l.toNat)) else none
   | none => none
 else none
def srcCells (H : Heap) (es : Nat) : Value → Option (Nat × List Value)
 | .slice none _ _ => some (0, [])
 | .slice (some a) n _ => match look H a with
   | some x => if a.off + n * es ≤ x.cells.length then some (n, (x.cells.drop a.off).take (n * es)) else none
   | none => if n = 0 then some (0, []) else none
 | .string s => if es = 1 then some (s.size, s.data.toList.map fun b => .int .u8 b.toNat) else none
 | _ => none
def most : Nat := 2 ^ 40
def app (H : Heap) (es bytes : Nat) (s : Value) (n : Nat) (news : List Value) : VH :=
 match s with
 | .slice none _ _ => if n = 0 then some (.slice none 0 0, H) else if n * bytes ≤ most ∧ n ≤ most then mkRow H es news n else none
 | .slice (some a) len cap =>
   match look H a with
   | some x =>
     if x.rw = true ∧ x.es = es ∧ a.off + len * es ≤ x.cells.length ∧ news.all Value.oneCell' = true ∧ (len + n) * bytes ≤ most ∧ len + n ≤ most then
       if len + n ≤ cap then
         if a.off + cap * es ≤ x.cells.length then some (.slice (some a) (len + n) cap, H.set a.block { x with cells := over x.cells (a.off + len * es) news }) else none
       else mkRow (H.drop a.block) es ((x.cells.drop a.off).take (len * es) ++ news) (len + n)
     else none
   | none => none
 | _ => none
def aggT (P : Program) (t : TypeId) : Option Bool :=
 match P.underlying t with
 | some (.struct _) => some true
 | some (.array _ _) => some true
 | some _ => some false
 | none => none
def sizeT (P : Program) (t : TypeId) : Option Nat := (P.info? t).map (·.size)
def loadA (P : Program) (t : TypeId) (x : Value) (H : Heap) : VH :=
 match x with
 | .pointer (some a) =>
   match aggT P t with
   | some true => match sizeT P t with | some n => ldN H a n | none => none
   | some false => ld1 H a
   | none => none
 | _ => none
def stV (H : Heap) (a : Addr) (n : Nat) (v : Value) : VH := if v.cells.size = n then st H a v.cells.toList else none
def storeA (P : Program) (t : TypeId) (x v : Value) (H : Heap) : VH :=
 match x with
 | .pointer (some a) => match sizeT P t with | some n => stV H a n v | none => none
 | _ => none
def esT (P : Program) (t : TypeId) : Nat :=
 match P.underlying t with
 | some (.array _ e) => (sizeT P e).getD 1
 | _ => 1
def zeroT (P : Program) (t : TypeId) : Option (List Value) :=
 match P.info? t with
 | some i => match i.zero with
   | some z => if z.cells.toList.all atomic = true then some z.cells.toList else none
   | none => none
 | none => none
def allocA (P : Program) (t : TypeId) (H : Heap) : VH :=
 match zeroT P t with | some z => mk H (esT P t) z | none => none
def boxA (P : Program) (t : TypeId) (v : Value) (H : Heap) : VH := mk H (esT P t) v.cells.toList
def placeA (P : Program) (fields : Array Field) (i : Nat) : Option (Nat × Nat) :=
 match fields[i]? with
 | some f => match sizeT P f.type with
   | some n => some (f.offset, n)
   | none => none
 | none => none
def buildA (P : Program) (t : TypeId) (parts : Array (Nat × Value)) : Option Value :=
 match zeroT P t with
 | some z =>
   match P.underlying t with
   | some (.struct fields) =>
     match Instr.fill (placeA P fields) z.toArray parts.toList with
     | some cells => if fields.all (fun f => (sizeT P f.type).isSome) = true then some (.agg cells) else none
     | none => none
   | some (.array _ e) =>
     match sizeT P e with
     | some n => match Instr.fill (fun i => some (i * n, n)) z.toArray parts.toList with
       | some cells => some (.agg cells)
       | none => none
     | none => none
   | _ => none
 | none => none
def zeroRow (z : List Value) (n : Nat) : List Value := (List.range n).map fun i => z.toArray[i % z.toArray.size]!
def buildSliceA (P : Program) (t : TypeId) (len : Nat) (parts : Array (Nat × Value)) (H : Heap) : VH :=
 match P.underlying t with
 | some (.slice e) =>
   match sizeT P e, zeroT P e with
   | some n, some z =>
     if len * n ≤ 2 ^ 24 ∧ z.length = n ∧ 0 < len * n then
       match Instr.fill (fun i => some (i * n, n)) (zeroRow z (len * n)).toArray parts.toList with
       | some cells => mkRow H n cells.toList len
       | none => none
     else none
   | _, _ => none
 | _ => none
def makeA (H : Heap) (z : List Value) (bytes : Nat) (l c : Int) : VH :=
 if 0 ≤ l ∧ l ≤ c ∧ c ≤ most ∧ bytes * c ≤ most then
   some (.slice (some ⟨H.next, 0, none⟩) l.toNat c.toNat, H.alloc z.length (zeroRow z (c.toNat * z.length)))
 else none
def makeSliceA (P : Program) (t : TypeId) (l c : Value) (H : Heap) : VH :=
 match P.underlying t, l, c with
 | some (.slice e), .int _ l, .int _ c =>
   match P.info? e, zeroT P e with
   | some i, some z => if z.length = i.size then makeA H z i.bytes l c else none
   | _, _ => none
 | _, _, _ => none
def fieldAddrA (P : Program) (s : TypeId) (x : Value) (f : Nat) : Option Value :=
 match x with
 | .pointer (some a) =>
   match P.underlying s with
   | some (.struct fields) =>
     match fields[f]? with
     | some g => match sizeT P g.type with
       | some (_ + 1) => some (.pointer (some (a.add g.offset)))
       | _ => none
     | none => none
   | _ => none
 | _ => none
def at_ (a : Addr) (len : Nat) (es : Nat) (i : Int) : Option Value := if 0 ≤ i ∧ i < len then some (.pointer (some (a.add (i.toNat * es)))) else none
def indexAddrA (P : Program) (t : TypeId) (x i : Value) : Option Value :=
 match i with
 | .int _ i =>
   match P.underlying t, x with
   | some (.array n e), .pointer (some a) => match sizeT P e with | some s => at_ a n s i | none => none
   | some (.slice e), .slice (some a) n _ => match sizeT P e with | some s => at_ a n s i | none => none
   | _, _ => none
 | _ => none
def partA (P : Program) (t : TypeId) (cs : Array Value) (off : Nat) : Option Value :=
 match aggT P t with
 | some true => match sizeT P t with | some n => some (.agg (cs.extract off (off + n))) | none => none
 | some false => cs[off]?
 | none => none
def fieldA (P : Program) (t : TypeId) (x : Value) (f : Nat) : Option Value :=
 match P.underlying t, x with
 | some (.struct fields), .agg cs => match fields[f]? with | some g => partA P g.type cs g.offset | none => none
 | _, _ => none
def byteAt (s : ByteArray) (i : Int) : Option UInt8 := if 0 ≤ i then s[i.toNat]? else none
def indexA (P : Program) (t : TypeId) (x i : Value) : Option Value :=
 match i with
 | .int _ i =>
   match P.underlying t, x with
   | some .string, .string s => match byteAt s i with | some b => some (.int .u8 b.toNat) | none => none
   | some (.array n e), .agg cs => match sizeT P e with | some s => if 0 ≤ i ∧ i < n then partA P e cs (i.toNat * s) else none | none => none
   | _, _ => none
 | _ => none
def extractA (x : Value) (i : Nat) : Option Value :=
 match x with
 | .tuple vs => vs[i]?
 | _ => none
def ground : Value → Bool
 | .agg cs => cs.toList.all atomic
 | .iface _ v => atomic v
 | v => atomic v
def nilEq (P : Program) (t : TypeId) (a b : Value) : Option Bool :=
 match P.underlying t, a, b with
 | some (.pointer _), .pointer (some _), .pointer none => some false
 | some (.pointer _), .pointer none, .pointer (some _) => some false
 | some (.interface _), .iface _ _, .nilIface => some false
 | some (.interface _), .nilIface, .iface _ _ => some false
 | some (.slice _), .slice (some _) _ _, .slice none _ _ => some false
 | some (.slice _), .slice none _ _, .slice (some _) _ _ => some false
 | some (.map _ _), .map (some _), .map none => some false
 | some (.map _ _), .map none, .map (some _) => some false
 | some (.func _ _ _), .func _ _ _, .nilFunc => some false
 | some (.func _ _ _), .nilFunc, .func _ _ _ => some false
 | _, _, _ => none
def binA (P : Program) (op : BinOp) (t : TypeId) (x y : Operand) (a b : Value) : Option Value :=
 if ground a && ground b then pureRun P (do eqGuard op t x y a b; binOp op t a b)
 else match op with
   | .eql => match nilEq P t a b with | some r => some (.bool r) | none => none
   | .neq => match nilEq P t a b with | some r => some (.bool !r) | none => none
   | _ => none
def unA (P : Program) (op : UnOp) (a : Value) : Option Value := if atomic a then pureRun P (Op.unary op a) else none
def bytesOf : List Value → Option (List UInt8)
 | [] => some []
 | .int .u8 n :: r => match bytesOf r with | some l => some (UInt8.ofNat n.toNat :: l) | none => none
 | _ => none
def strOf (H : Heap) (a : Option Addr) (len : Nat) : Option ByteArray :=
 match a with
 | none => some .empty
 | some a => if len = 0 then some .empty else match look H a with
   | some x => if a.off + len ≤ x.cells.length then match bytesOf ((x.cells.drop a.off).take len) with | some l => some ⟨l.toArray⟩ | none => none else none
   | none => none
def convertA (P : Program) (src dst : TypeId) (x : Value) (H : Heap) : VH :=
 match P.underlying src, P.underlying dst, x with
 | some _, some (.int k), .int _ n => some (.int k (k.wrap n), H)
 | some _, some .string, .int _ n => some (.string (Utf8.encode n), H)
 | some _, some .string, .string s => some (.string s, H)
 | some _, some (.slice e), .string s =>
   match P.underlying e with
   | some (.int .u8) => if s.size ≤ most then mkRow H 1 (s.data.toList.map fun b => .int .u8 b.toNat) s.size else none
   | _ => none
 | some (.slice _), some (.slice e), .slice (some a) l c =>
   if src == dst then
     match P.underlying e with
     | some (.int .u8) => match look H a with | some x => if x.rw = true then some (.slice (some a) l c, H) else none | none => none
     | _ => none
   else none
 | some (.slice e), some .string, .slice a l _ =>
   match P.underlying e with
   | some (.int .u8) => match strOf H a l with | some s => some (.string s, H) | none => none
   | _ => none
 | _, _, _ => none
def lenA (P : Program) (t : TypeId) (x : Value) (H : Heap) : Option Value :=
 match P.underlying t, x with
 | some .string, .string s => some (.int .i64 s.size)
 | some (.array n _), _ => some (.int .i64 n)
 | some (.pointer arr), _ => match P.underlying arr with | some (.array n _) => some (.int .i64 n) | _ => none
 | some (.slice _), .slice _ n _ => some (.int .i64 n)
 | some (.map _ _), .map none => some (.int .i64 0)
 | some (.map _ _), .map (some r) => match H.get r with
   | some x => match x.o with | some (.map es _) => some (.int .i64 es.size) | _ => none
   | none => none
 | _, _ => none
def sliceOpA (P : Program) (t : TypeId) (x : Value) (lo hi mx : Option Value) (H : Heap) : Option Value :=
 match mx with
 | some _ => none
 | none =>
   match P.underlying t, x with
   | some .string, .string s =>
     match lo, hi with
     | none, none => match sliceS s 0 s.size with | some r => some (.string r) | none => none
     | some (.int _ l), none => match sliceS s l s.size with | some r => some (.string r) | none => none
     | none, some (.int _ h) => match sliceS s 0 h with | some r => some (.string r) | none => none
     | some (.int _ l), some (.int _ h) => match sliceS s l h with | some r => some (.string r) | none => none
     | _, _ => none
   | some (.slice e), .slice a n c =>
     match sizeT P e with
     | some es =>
       match lo, hi with
       | none, none => sliceA H es a c 0 n
       | some (.int _ l), none => sliceA H es a c l n
       | none, some (.int _ h) => sliceA H es a c 0 h
       | some (.int _ l), some (.int _ h) => sliceA H es a c l h
       | _, _ => none
     | none => none
   | some (.array n e), .pointer (some a) =>
     match sizeT P e with
     | some es =>
       match lo, hi with
       | none, none => sliceP H es n a 0 n
       | some (.int _ l), none => sliceP H es n a l n
       | none, some (.int _ h) => sliceP H es n a 0 h
       | some (.int _ l), some (.int _ h) => sliceP H es n a l h
       | _, _ => none
     | none => none
   | _, _ => none
def appendA (P : Program) (ts : Array TypeId) (s x : Value) (H : Heap) : VH :=
 match ts[0]?, ts[1]? with
 | some t, some u =>
   match P.underlying t, P.underlying u with
   | some (.slice e), some (.slice _) | some (.slice e), some .string =>
     match P.info? e, zeroT P e with
     | some i, some z => if z.length = i.size ∧ 0 < i.size then match srcCells H i.size x with
       | some (n, news) => app H i.size i.bytes s n news
       | none => none
       else none
     | _, _ => none
   | _, _ => none
 | _, _ => none
def copyA (_ : Program) (_ : Array TypeId) (_ _ : Value) (_ : Heap) : VH := none
def rangeA (P : Program) (t : TypeId) (x : Value) (H : Heap) : VH :=
 match P.underlying t, x with
 | some .string, .string s => some (.pointer (some ⟨H.next, 0, none⟩), H.allocO (.stringIter s 0))
 | _, _ => none
def nextA (x : Value) (str : Bool) (H : Heap) : VH :=
 match x, str with
 | .pointer (some ⟨r, 0, none⟩), true =>
   match H.get r with
   | some b => if b.rw = true then
       match b.o with
       | some (.stringIter s pos) =>
         if pos < s.size then some (.tuple #[.bool true, .int .i64 pos, .int .i32 (Utf8.decode s pos).1], H.set r { b with o := some (.stringIter s (pos + (Utf8.decode s pos).2)) })
         else some (.tuple #[.bool false], H)
       | _ => none
     else none
   | none => none
 | _, _ => none
def assertA (P : Program) (x : Value) (_xType asserted : TypeId) (commaOk : Bool) : Option Value :=
 match P.underlying asserted with
 | some (.interface _) => none
 | none => none
 | some _ =>
   match x, commaOk with
   | .iface t v, true => if t = asserted then some (.tuple #[v, .bool true]) else match P.info? asserted with
     | some i => match i.zero with
       | some z => if ground z then some (.tuple #[z, .bool false]) else none
       | none => none
     | none => none
   | .iface t v, false => if t = asserted then some v else none
   | _, _ => none
def nilCheckA (x : Value) : Option Value :=
 match x with
 | .pointer (some a) => some (.pointer (some a))
 | .func (.func f) a b => some (.func (.func f) a b)
 | .slice a l c => some (.slice a l c)
 | .map m => some (.map m)
 | .iface t v => some (.iface t v)
 | _ => none
def makeMapA (_ : Program) (_ : TypeId) (_ : Option Value) (_ : Heap) : VH := none
def lookupA (_ : Program) (_ : TypeId) (_ _ : Value) (_ : Bool) (_ : Heap) : Option Value := none
def mapUpdateA (_ : Program) (_ : TypeId) (_ _ _ : Value) (_ : Heap) : VH := none
end Go.Aw
namespace Go.Aw
def Snd (P : Program) (s : Sem Value) (m : Mp) (H : Heap) (w : World) (v : Value) (H' : Heap) : Prop :=
 ∃ m' v' w', s.run P w = .ok v' w' ∧ VR m' v v' ∧ Step m H w m' H' w'
theorem run_und {P : Program} {t : TypeId} {d : TypeDesc} (h : P.underlying t = some d) (w : World) : (underlying t).run P w = .ok d w := by
 simp [underlying, h]
theorem run_info {P : Program} {t : TypeId} {i : TypeInfo} (h : P.info? t = some i) (w : World) : (typeInfo t).run P w = .ok i w := by
 simp [typeInfo, h]
theorem run_size {P : Program} {t : TypeId} {n : Nat} (h : sizeT P t = some n) (w : World) : (sizeOf t).run P w = .ok n w := by
 unfold sizeT at h
 cases hi : P.info? t with
 | none => simp [hi] at h
 | some i => simp [hi] at h; simp [sizeOf, typeInfo, hi, h]
theorem run_agg {P : Program} {t : TypeId} {b : Bool} (h : aggT P t = some b) (w : World) : (isAgg t).run P w = .ok b w := by
 unfold aggT at h
 cases hu : P.underlying t with
 | none => simp [hu] at h
 | some d =>
   simp only [isAgg, Sem.run_bind, run_und hu, Result.andThen_ok]
   cases d <;> simp [hu] at h <;> subst h <;> rfl
theorem zeroT_spec {P : Program} {t : TypeId} {z : List Value} (h : zeroT P t = some z) : ∃ (i : TypeInfo) (v : Value), P.info? t = some i ∧ i.zero = some v ∧ z = v.cells.toList ∧ z.all atomic = true := by
 unfold zeroT at h
 cases hi : P.info? t with
 | none => simp [hi] at h
 | some i =>
   cases hz : i.zero with
   | none => simp [hi, hz] at h
   | some v =>
     simp only [hi, hz] at h
     by_cases ha : v.cells.toList.all atomic = true
     · rw [if_pos ha] at h; simp only [Option.some.injEq] at h; subst h; exact ⟨i, v, rfl, hz, rfl, ha⟩
     · rw [if_neg ha] at h; simp at h
theorem run_zero {P : Program} {t : TypeId} {i : TypeInfo} {v : Value} (h : P.info? t = some i) (hz : i.zero = some v) (w : World) : (zeroValue t).run P w = .ok v w := by
 simp [zeroValue, typeInfo, h, hz]
theorem VRs.refl_of_atomic {m : Mp} {xs : List Value} (h : xs.all atomic = true) : VRs m xs xs :=
 ⟨rfl, fun _ a _ => .atom _ (List.all_eq_true.1 h _ (List.getElem_mem a))⟩
theorem Rel.look {m : Mp} {H : Heap} {w : World} (h : Rel m H w) {b off : Nat} {L : Loc} {x : Blk} (hm : m b = some L) (hl : look H ⟨b, off, none⟩ = some x) :
   H.get b = some x ∧ x.o = none ∧ L.es = x.es ∧ L.base + x.cells.length ≤ L.e ∧ ∃ cs elem fz, w.heap[L.c]? = some (.cells cs elem fz) ∧ cs.size = L.e ∧
     (∀ i (h : i < x.cells.length) (h' : L.base + i < cs.size), VR m x.cells[i] cs[L.base + i]) ∧ (x.rw = true → fz.1 = fz.2 ∨ cs.size ≤ fz.1) := by
 simp only [Aw.look] at hl
 cases hg : H.get b with
 | none => simp [hg] at hl
 | some y =>
   simp only [hg] at hl
   cases ho : y.o with
   | some o => simp [ho] at hl
   | none =>
     simp only [ho, Option.some.injEq] at hl
     subst hl
     obtain ⟨L', hm', hl'⟩ := h.blk b y hg
     rw [hm] at hm'
     simp only [Option.some.injEq] at hm'
     subst hm'
     exact ⟨rfl, ho, hl'.es, hl'.fits, hl'.ex ho⟩
theorem VR.ptr_inv {m : Mp} {a : Addr} {v' : Value} (h : VR m (.pointer (some a)) v') : ∃ L, a.spot = none ∧ m a.block = some L ∧ v' = .pointer (some ⟨L.c, L.base + a.off, none⟩) := by
 cases h with
 | atom v h => simp [atomic] at h
 | ptr b off L h => exact ⟨L, rfl, h, rfl⟩
theorem Rel.look' {m : Mp} {H : Heap} {w : World} (h : Rel m H w) {a : Addr} {L : Loc} {x : Blk} (hm : m a.block = some L) (hl : Aw.look H a = some x) :
   a.spot = none ∧ H.get a.block = some x ∧ x.o = none ∧ L.es = x.es ∧ L.base + x.cells.length ≤ L.e ∧ ∃ cs elem fz, w.heap[L.c]? = some (.cells cs elem fz) ∧ cs.size = L.e ∧
     (∀ i (h : i < x.cells.length) (h' : L.base + i < cs.size), VR m x.cells[i] cs[L.base + i]) ∧ (x.rw = true → fz.1 = fz.2 ∨ cs.size ≤ fz.1) := by
 obtain ⟨b, off, spot⟩ := a
 cases spot with
 | some s => simp [Aw.look] at hl
 | none => exact ⟨rfl, h.look hm hl⟩
theorem Addr.add_eq (c o i : Nat) : (⟨c, o, none⟩ : Addr).add i = ⟨c, o + i, none⟩ := by
 unfold Addr.add; split
 · rename_i h; subst h; rfl
 · rfl
theorem ld1_sound {m : Mp} {H H' : Heap} {w : World} (h : Rel m H w) {a : Addr} {x' v : Value} (hx : VR m (.pointer (some a)) x') (he : ld1 H a = some (v, H')) :
   ∃ a' v', x' = .pointer (some a') ∧ w.cell? a' = some v' ∧ VR m v v' ∧ H' = H := by
 obtain ⟨L, hsp, hm, rfl⟩ := hx.ptr_inv
 unfold ld1 at he
 cases hl : look H a with
 | none => simp [hl] at he
 | some x =>
   simp only [hl] at he
   obtain ⟨_, hg, ho, hes, hfit, cs, elem, fz, h1, h2, h3, h4⟩ := h.look' hm hl
   cases hc : x.cells[a.off]? with
   | none => simp [hc] at he
   | some u =>
     simp only [hc, Option.some.injEq, Prod.mk.injEq] at he
     obtain ⟨rfl, rfl⟩ := he
     obtain ⟨hlt, rfl⟩ := List.getElem?_eq_some_iff.1 hc
     have hb : L.base + a.off < cs.size := by omega
     refine ⟨_, cs[L.base + a.off], rfl, ?_, h3 _ hlt hb, rfl⟩
     rw [cell_of_row w L.c _ cs elem fz h1]
     simp [hb]
theorem cells_at {m : Mp} {w : World} {x : Blk} {L : Loc} {cs : Array Value} {elem : TypeId} {fz : Nat × Nat} (h1 : w.heap[L.c]? = some (.cells cs elem fz)) (h2 : cs.size = L.e)
   (hfit : L.base + x.cells.length ≤ L.e) (h3 : ∀ i (h : i < x.cells.length) (h' : L.base + i < cs.size), VR m x.cells[i] cs[L.base + i])
   (off n : Nat) (hn : off + n ≤ x.cells.length) :
   ∃ ys : List Value, ys.length = n ∧ VRs m ((x.cells.drop off).take n) ys ∧ ∀ j v, ys[j]? = some v → w.cell? ((⟨L.c, L.base + off, none⟩ : Addr).add j) = some v := by
 refine ⟨(cs.toList.drop (L.base + off)).take n, ?_, ⟨?_, ?_⟩, ?_⟩
 · simp; omega
 · simp; omega
 · intro i hi hi'
   simp only [List.getElem_take, List.getElem_drop]
   simp only [List.length_take, List.length_drop] at hi hi'
   have := h3 (off + i) (by omega) (by omega)
   simpa [Nat.add_assoc] using this
 · intro j v hj
   rw [Addr.add_eq, cell_of_row w L.c _ cs elem fz h1]
   rw [List.getElem?_take] at hj
   by_cases hjn : j < n
   · simp only [hjn, if_true, List.getElem?_drop] at hj
     simpa using hj
   · simp [hjn] at hj
theorem run_loadCells_ys {P : Program} {w : World} {a : Addr} {ys : List Value} {n : Nat} (hn : ys.length = n) (h : ∀ j v, ys[j]? = some v → w.cell? (a.add j) = some v) :
   (loadCells a n).run P w = .ok ys.toArray w := by
 subst hn; exact run_loadCells_list w a ys h
theorem loadA_read {P : Program} {m : Mp} {H H' : Heap} {w : World} (h : Rel m H w) {t : TypeId} {x x' v : Value} (hx : VR m x x') (he : loadA P t x H = some (v, H')) :
   ∃ v', (Instr.loadAt t x').run P w = .ok v' w ∧ VR m v v' ∧ H' = H := by
 unfold loadA at he
 split at he
 · rename_i a
   split at he
   · rename_i hagg
     cases hsz : sizeT P t with
     | none => simp [hsz] at he
     | some n =>
       simp only [hsz] at he
       obtain ⟨L, hsp, hm, rfl⟩ := hx.ptr_inv
       unfold ldN at he
       cases hl : look H a with
       | none => simp [hl] at he
       | some y =>
         simp only [hl] at he
         by_cases hin : a.off + n ≤ y.cells.length
         · rw [if_pos hin] at he
           simp only [Option.some.injEq, Prod.mk.injEq] at he
           obtain ⟨rfl, rfl⟩ := he
           obtain ⟨_, hg, ho, hes, hfit, cs, elem, fz, h1, h2, h3, h4⟩ := h.look' hm hl
           obtain ⟨ys, k1, k2, k3⟩ := cells_at h1 h2 hfit h3 a.off n hin
           refine ⟨.agg ys.toArray, ?_, ?_, rfl⟩
           · simp [Instr.loadAt, Instr.sureAddr, loadVar, run_agg hagg, run_size hsz, run_loadCells_ys k1 k3]
           · exact .agg _ _ k2.toArray.1 k2.toArray.2
         · rw [if_neg hin] at he; simp at he
   · rename_i hagg
     obtain ⟨a', v', rfl, hc, hv, rfl⟩ := ld1_sound h hx he
     exact ⟨v', by simp [Instr.loadAt, Instr.sureAddr, loadVar, run_agg hagg, hc], hv, rfl⟩
   · simp at he
 · simp at he
theorem loadA_sound {P : Program} {m : Mp} {H H' : Heap} {w : World} (h : Rel m H w) {t : TypeId} {x x' v : Value} (hx : VR m x x') (he : loadA P t x H = some (v, H')) :
   Snd P (Instr.loadAt t x') m H w v H' := by
 obtain ⟨v', k1, k2, k3⟩ := loadA_read h hx he
 subst k3
 exact ⟨m, v', w, k1, k2, .refl h⟩
def setRowW (w : World) (c : Nat) (cs : Array Value) (elem : TypeId) (fz : Nat × Nat) : World := { w with heap := w.heap.setIfInBounds c (.cells cs elem fz) }
def overA (cs : Array Value) (i : Nat) (vs : List Value) : Array Value := (cs.toList.take i ++ vs ++ cs.toList.drop (i + vs.length)).toArray
theorem overA_size {cs : Array Value} {i : Nat} {vs : List Value} (h : i + vs.length ≤ cs.size) : (overA cs i vs).size = cs.size := by
 simp [overA]; omega
theorem overA_get {cs : Array Value} {i : Nat} {vs : List Value} (h : i + vs.length ≤ cs.size) (j : Nat) :
   (overA cs i vs)[j]? = if j < i then cs[j]? else if j < i + vs.length then vs[j - i]? else cs[j]? := by
 simp only [overA, List.getElem?_toArray, List.getElem?_append, List.length_append, List.length_take, Array.length_toList, List.getElem?_take, List.getElem?_drop, Array.getElem?_toList]
 have : min i cs.size = i := by omega
 simp only [this]
 by_cases h1 : j < i
 · simp [h1, show j < i + vs.length by omega]
 · by_cases h2 : j < i + vs.length
   · simp [h1, h2]
   · simp only [h1, h2, if_false]
     congr 1; omega
theorem over_get {xs : List Value} {i : Nat} {vs : List Value} (h : i + vs.length ≤ xs.length) (j : Nat) :
   (over xs i vs)[j]? = if j < i then xs[j]? else if j < i + vs.length then vs[j - i]? else xs[j]? := by
 simp only [over, List.getElem?_append, List.length_append, List.length_take, List.getElem?_take, List.getElem?_drop]
 have : min i xs.length = i := by omega
 simp only [this]
 by_cases h1 : j < i
 · simp [h1, show j < i + vs.length by omega]
 · by_cases h2 : j < i + vs.length
   · simp [h1, h2]
   · simp only [h1, h2, if_false]
     congr 1; omega
theorem over_length {xs : List Value} {i : Nat} {vs : List Value} (h : i + vs.length ≤ xs.length) : (over xs i vs).length = xs.length := by
 simp [over]; omega
theorem run_storeCells' {P : Program} (c o : Nat) (elem : TypeId) (fz : Nat × Nat) : ∀ (vs : List Value) (i : Nat) (cs : Array Value) (w : World),
   w.heap[c]? = some (.cells cs elem fz) → o + i + vs.length ≤ cs.size → (∀ v ∈ vs, v.oneCell' = true) → (fz.1 = fz.2 ∨ cs.size ≤ fz.1) →
   (storeCells ⟨c, o, none⟩ vs i).run P w = .ok () (setRowW w c (overA cs (o + i) vs) elem fz)
 | [], i, cs, w, hg, _, _, _ => by
   have hlt : c < w.heap.size := (Array.getElem?_eq_some_iff.1 hg).1
   have e1 : overA cs (o + i) [] = cs := by simp [overA, List.take_append_drop]
   have e2 : w.heap.setIfInBounds c (.cells cs elem fz) = w.heap := by
     apply Array.ext_getElem?
     intro j
     rw [Array.getElem?_setIfInBounds]
     by_cases e : c = j
     · subst e; rw [if_pos rfl, if_pos hlt, hg]
     · simp [e]
   simp only [storeCells, Sem.run_pure, e1, setRowW, e2]
 | v :: rest, i, cs, w, hg, hl, h1, hf => by
   have hi : o + i < cs.size := by simp at hl; omega
   have hlt : c < w.heap.size := (Array.getElem?_eq_some_iff.1 hg).1
   have hcell : w.cell? ⟨c, o + i, none⟩ = some cs[o + i] := by rw [cell_of_row w c _ cs elem fz hg]; simp [hi]
   have hfr : w.frozen? ⟨c, o + i, none⟩ = false := by
     simp only [World.frozen?, hg]
     rcases hf with e | e
     · rw [show fz = (fz.1, fz.2) from rfl]; simp only [e, Bool.and_eq_false_iff, decide_eq_false_iff_not]; omega
     · rw [show fz = (fz.1, fz.2) from rfl]; simp only [Bool.and_eq_false_iff, decide_eq_false_iff_not]; omega
   have hset : w.setCell ⟨c, o + i, none⟩ v = setRowW w c (cs.setIfInBounds (o + i) v) elem fz := by
     unfold World.setCell setRowW
     congr 1
     apply Array.ext_getElem?
     intro j
     rw [Array.getElem?_modify, Array.getElem?_setIfInBounds]
     by_cases e : c = j
     · subst e; rw [if_pos rfl, if_pos rfl, if_pos hlt, hg]; rfl
     · simp [e]
   have hst : (store ⟨c, o + i, none⟩ v).run P w = .ok () (setRowW w c (cs.setIfInBounds (o + i) v) elem fz) := by
     rw [run_store P w _ v _ (h1 v (by simp))]
     simp [hcell, hfr, hset]
   have hg' : (setRowW w c (cs.setIfInBounds (o + i) v) elem fz).heap[c]? = some (.cells (cs.setIfInBounds (o + i) v) elem fz) := by
     simp [setRowW, hlt]
   have ih := run_storeCells' (P := P) c o elem fz rest (i + 1) (cs.setIfInBounds (o + i) v) _ hg' (by simp at hl ⊢; omega) (fun x hx => h1 x (by simp [hx])) (by simpa using hf)
   simp only [storeCells, Sem.run_bind, Addr.add_eq, hst, Result.andThen_ok, ih]
   congr 1
   simp only [setRowW, Array.setIfInBounds_setIfInBounds]
   congr 3
   apply Array.ext_getElem?
   intro j
   have hl' : o + i + (v :: rest).length ≤ cs.size := hl
   rw [overA_get hl', ← Nat.add_assoc, overA_get (by simp at hl ⊢; omega), Array.getElem?_setIfInBounds]
   simp only [List.length_cons] at *
   by_cases a1 : j < o + i
   · simp [a1, show j < o + i + 1 by omega, show ¬ (o + i = j) by omega]
   · by_cases a2 : j = o + i
     · subst a2; simp [hi]
     · by_cases a3 : j < o + i + (rest.length + 1)
       · simp only [show ¬ j < o + i + 1 by omega, show j < o + i + 1 + rest.length by omega, a1, a3, if_false, if_true]
         rw [show j - (o + i) = (j - (o + i + 1)) + 1 by omega, List.getElem?_cons_succ]
       · simp [show ¬ j < o + i + 1 by omega, show ¬ j < o + i + 1 + rest.length by omega, a1, a3, show ¬ (o + i = j) by omega]
theorem Step.overwrite {m : Mp} {H : Heap} {w : World} (h : Rel m H w) {b off : Nat} {x : Blk} {L : Loc} (hm : m b = some L) (hl : look H ⟨b, off, none⟩ = some x) (hrw : x.rw = true)
   (k : Nat) (vs vs' : List Value) (hv : VRs m vs vs') (hk : k + vs.length ≤ x.cells.length) (h1 : vs.all Value.oneCell' = true) (P : Program) :
   ∃ w', (storeCells ⟨L.c, L.base + k, none⟩ vs').run P w = .ok () w' ∧ Step m H w m (H.set b { x with cells := over x.cells k vs }) w' := by
 obtain ⟨hg, ho, hes, hfit, cs, elem, fz, g1, g2, g3, g4⟩ := h.look hm hl
 have hone : ∀ v ∈ vs', v.oneCell' = true := by
   intro v hvm
   obtain ⟨i, hi, rfl⟩ := List.getElem_of_mem hvm
   have hi' : i < vs.length := by have := hv.1; omega
   have a1 := List.all_eq_true.1 h1 _ (List.getElem_mem hi')
   have a2 := hv.2 i hi' hi
   generalize vs[i] = p at a1 a2
   generalize vs'[i] = q at a2
   cases a2 <;> simp_all [Value.oneCell']
 have hlen : vs'.length = vs.length := hv.1.symm
 have hst := run_storeCells' (P := P) L.c (L.base + k) elem fz vs' 0 cs w g1 (by omega) hone (g4 hrw)
 simp only [Nat.add_zero] at hst
 refine ⟨_, hst, ?_⟩
 refine Step.write h hg hrw ho hm (over x.cells k vs) (over_length hk) cs (overA cs (L.base + k) vs') elem fz g1 (overA_size (by omega)) ?_ rfl rfl rfl rfl
 intro i hi hi'
 have e1 := over_get hk i
 have e2 := overA_get (cs := cs) (i := L.base + k) (vs := vs') (by omega) (L.base + i)
 rw [List.getElem?_eq_getElem hi] at e1
 rw [Array.getElem?_eq_getElem hi'] at e2
 have hi2 : i < x.cells.length := by rw [over_length hk] at hi; exact hi
 have hi3 : L.base + i < cs.size := by omega
 by_cases a1 : i < k
 · simp only [a1, if_true, List.getElem?_eq_getElem hi2, Option.some.injEq] at e1
   simp only [show L.base + i < L.base + k by omega, if_true, Array.getElem?_eq_getElem hi3, Option.some.injEq] at e2
   rw [e1, e2]; exact g3 i hi2 hi3
 · by_cases a2 : i < k + vs.length
   · have b1 : i - k < vs.length := by omega
     have b2 : i - k < vs'.length := by omega
     simp only [a1, a2, if_false, if_true, List.getElem?_eq_getElem b1, Option.some.injEq] at e1
     simp only [show ¬ L.base + i < L.base + k by omega, show L.base + i < L.base + k + vs'.length by omega, if_false, if_true,
       show L.base + i - (L.base + k) = i - k by omega, List.getElem?_eq_getElem b2, Option.some.injEq] at e2
     rw [e1, e2]; exact hv.2 _ b1 b2
   · simp only [a1, a2, if_false, List.getElem?_eq_getElem hi2, Option.some.injEq] at e1
     simp only [show ¬ L.base + i < L.base + k by omega, show ¬ L.base + i < L.base + k + vs'.length by omega, if_false, Array.getElem?_eq_getElem hi3, Option.some.injEq] at e2
     rw [e1, e2]; exact g3 i hi2 hi3
theorem storeA_sound {P : Program} {m : Mp} {H H' : Heap} {w : World} (h : Rel m H w) {t : TypeId} {x x' u u' v : Value} (hx : VR m x x') (hu : VR m u u') (he : storeA P t x u H = some (v, H')) :
   v = undef ∧ ∃ m' w', (Instr.storeAt t x' u').run P w = .ok () w' ∧ Step m H w m' H' w' := by
 unfold storeA at he
 split at he
 · rename_i a
   cases hsz : sizeT P t with
   | none => simp [hsz] at he
   | some n =>
     simp only [hsz, stV] at he
     by_cases hc : u.cells.size = n
     · rw [if_pos hc] at he
       obtain ⟨L, hsp, hm, rfl⟩ := hx.ptr_inv
       obtain ⟨b, off, sp⟩ := a
       simp only at hsp; subst hsp
       unfold st at he
       cases hl : look H ⟨b, off, none⟩ with
       | none => simp [hl] at he
       | some y =>
         simp only [hl] at he
         by_cases hok : y.rw = true ∧ off + u.cells.toList.length ≤ y.cells.length ∧ u.cells.toList.all Value.oneCell' = true
         · rw [if_pos hok] at he
           simp only [Option.some.injEq, Prod.mk.injEq] at he
           obtain ⟨rfl, rfl⟩ := he
           obtain ⟨w', k1, k2⟩ := Step.overwrite h hm hl hok.1 off _ _ hu.cells.toList hok.2.1 hok.2.2 P
           refine ⟨rfl, m, w', ?_, k2⟩
           have hs' : u'.cells.size = n := by rw [← hu.cells.1]; exact hc
           simp [Instr.storeAt, Instr.sureAddr, storeVar, run_size hsz, hs', k1]
         · rw [if_neg hok] at he; simp at he
     · rw [if_neg hc] at he; simp at he
 · simp at he
end Go.Aw
namespace Go.Aw
variable {P : Program} {m : Mp} {H H' : Heap} {w : World} {v' : Value}
theorem Snd.pure {s : Sem Value} {v : Value} (h : Rel m H w) (hr : s.run P w = .ok v' w) (hv : VR m v v') : Snd P s m H w v H :=
 ⟨m, v', w, hr, hv, .refl h⟩
theorem mk_sound (h : Rel m H w) (es : Nat) (xs : List Value) (ys : Array Value) (elem : TypeId) (hv : VRs m xs ys.toList) :
   ∃ m', (newRow elem ys).run P w = .ok ⟨w.heap.size, 0, none⟩ { w with heap := w.heap.push (.cells ys elem) } ∧ m' H.next = some ⟨w.heap.size, 0, es, ys.size⟩ ∧
     Step m H w m' (H.alloc es xs) { w with heap := w.heap.push (.cells ys elem) } := by
 refine ⟨_, by simp [newRow], ?_, Step.alloc h es xs ys elem (by have := hv.1; simp at this; omega) (fun i a b => by have := hv.2 i a (by simpa using b); rwa [Array.getElem_toList] at this) rfl rfl rfl rfl⟩
 simp [Mp.add]
theorem boxA_sound (h : Rel m H w) {t : TypeId} {u u' v : Value} (hu : VR m u u') (he : boxA P t u H = some (v, H')) :
   Snd P (Instr.box t u') m H w v H' := by
 simp only [boxA, mk, Option.some.injEq, Prod.mk.injEq] at he
 obtain ⟨rfl, rfl⟩ := he
 obtain ⟨m', k1, k2, k3⟩ := mk_sound (P := P) h (esT P t) u.cells.toList u'.cells t hu.cells.toList
 refine ⟨m', .pointer (some ⟨w.heap.size, 0, none⟩), _, ?_, .ptr H.next 0 _ k2, k3⟩
 simp [Instr.box, newVar, k1]
theorem allocA_sound (h : Rel m H w) {t : TypeId} {v : Value} (he : allocA P t H = some (v, H')) :
   Snd P (Instr.alloc t true (.tuple #[])) m H w v H' := by
 unfold allocA at he
 cases hz : zeroT P t with
 | none => simp [hz] at he
 | some z =>
   simp only [hz, mk, Option.some.injEq, Prod.mk.injEq] at he
   obtain ⟨rfl, rfl⟩ := he
   obtain ⟨i, zv, h1, h2, rfl, h4⟩ := zeroT_spec hz
   obtain ⟨m', k1, k2, k3⟩ := mk_sound (P := P) h (esT P t) zv.cells.toList zv.cells t (VRs.refl_of_atomic h4)
   refine ⟨m', .pointer (some ⟨w.heap.size, 0, none⟩), _, ?_, .ptr H.next 0 _ k2, k3⟩
   simp [Instr.alloc, run_zero h1 h2, newVar, k1]
theorem fill_cells_sound (off : Nat) : ∀ (vs vs' : List (Value × Nat)) (cs cs' : Array Value), VRa m cs cs' → vs.length = vs'.length →
   (∀ i (a : i < vs.length) (b : i < vs'.length), VR m vs[i].1 vs'[i].1 ∧ vs[i].2 = vs'[i].2) →
   VRa m (vs.foldl (fun cs (c, j) => cs.setIfInBounds (off + j) c) cs) (vs'.foldl (fun cs (c, j) => cs.setIfInBounds (off + j) c) cs')
 | [], [], _, _, h, _, _ => h
 | [], _ :: _, _, _, _, h, _ => by simp at h
 | _ :: _, [], _, _, _, h, _ => by simp at h
 | x :: r, y :: r', cs, cs', h, hl, hv => by
   simp only [List.foldl_cons]
   have h0 := hv 0 (by simp) (by simp)
   simp only [List.getElem_cons_zero] at h0
   refine fill_cells_sound off r r' _ _ ?_ (by simpa using hl) (fun i a b => ?_)
   · rw [h0.2]; exact h.set _ h0.1
   · have := hv (i + 1) (by simpa using a) (by simpa using b)
     simpa using this
def VRp (m : Mp) (ps ps' : List (Nat × Value)) : Prop := ps.length = ps'.length ∧ ∀ i (a : i < ps.length) (b : i < ps'.length), ps[i].1 = ps'[i].1 ∧ VR m ps[i].2 ps'[i].2
theorem fill_sound (place : Nat → Option (Nat × Nat)) : ∀ (ps ps' : List (Nat × Value)) (cs cs' out : Array Value), VRa m cs cs' → VRp m ps ps' → Instr.fill place cs ps = some out →
   ∃ out', Instr.fill place cs' ps' = some out' ∧ VRa m out out'
 | [], [], cs, cs', out, h, _, he => by simp only [Instr.fill, Option.some.injEq] at he; subst he; exact ⟨cs', rfl, h⟩
 | [], _ :: _, _, _, _, _, hp, _ => by have := hp.1; simp at this
 | _ :: _, [], _, _, _, _, hp, _ => by have := hp.1; simp at this
 | (i, v) :: r, (i', v') :: r', cs, cs', out, h, hp, he => by
   have h0 := hp.2 0 (by simp) (by simp)
   simp only [List.getElem_cons_zero] at h0
   obtain ⟨rfl, hv⟩ := h0
   have hc := hv.cells
   simp only [Instr.fill] at he ⊢
   cases hpl : place i with
   | none => simp [hpl] at he
   | some x =>
     obtain ⟨off, size⟩ := x
     simp only [hpl] at he ⊢
     rw [← hc.1, ← h.1]
     by_cases hb : (decide (v.cells.size ≠ size) || decide (off + v.cells.size > cs.size)) = true
     · rw [if_pos hb] at he; simp at he
     · rw [if_neg hb] at he ⊢
       refine fill_sound place r r' _ _ out ?_ ⟨by have := hp.1; simpa using this, fun j a b => ?_⟩ he
       · have e1 : ∀ (zs : Array Value) (xs : Array Value), (zs.zipIdx.foldl (fun cs (c, j) => cs.setIfInBounds (off + j) c) xs) = (zs.zipIdx.toList.foldl (fun cs (c, j) => cs.setIfInBounds (off + j) c) xs) := by
           intro zs xs; rw [Array.foldl_toList]
         rw [e1, e1]
         refine fill_cells_sound off _ _ _ _ h (by simp [hc.1]) (fun k a b => ?_)
         simp only [Array.toList_zipIdx, List.getElem_zipIdx, Array.getElem_toList, and_true] at a b ⊢
         exact hc.2 k (by simpa using a) (by simpa using b)
       · have := hp.2 (j + 1) (by simpa using a) (by simpa using b)
         simpa using this
theorem buildA_sound (h : Rel m H w) {t : TypeId} {ps ps' : Array (Nat × Value)} {v : Value} (hp : VRp m ps.toList ps'.toList) (he : buildA P t ps = some v) :
   Snd P (Instr.build t ps') m H w v H := by
 unfold buildA at he
 cases hz : zeroT P t with
 | none => simp [hz] at he
 | some z =>
   obtain ⟨i, zv, h1, h2, rfl, h4⟩ := zeroT_spec hz
   have hzz : VRa m zv.cells zv.cells := by have := (VRs.refl_of_atomic (m := m) h4).toArray; simpa using this
   simp only [hz] at he
   split at he
   · rename_i fields hu
     split at he
     · rename_i cells hf
       by_cases hall : fields.all (fun f => (sizeT P f.type).isSome) = true
       · rw [if_pos hall] at he
         simp only [Option.some.injEq] at he
         subst he
         obtain ⟨out', k1, k2⟩ := fill_sound (m := m) _ ps.toList ps'.toList _ zv.cells cells (by simpa using hzz) hp hf
         refine .pure h (v' := .agg out') ?_ (.agg _ _ k2.1 k2.2)
         have hmap : ∀ (l : List Field), (∀ f ∈ l, (sizeT P f.type).isSome = true) → (List.mapM (fun f : Field => do Pure.pure (f.offset, ← sizeOf f.type)) l : Sem (List (Nat × Nat))).run P w = .ok (l.map fun f => (f.offset, (sizeT P f.type).getD 0)) w := by
           intro l
           induction l with
           | nil => intro _; simp
           | cons f r ih =>
             intro hr
             have hf0 := hr f (by simp)
             cases hsz : sizeT P f.type with
             | none => simp [hsz] at hf0
             | some n =>
               simp only [List.mapM_cons, Sem.run_bind, run_size hsz, Result.andThen_ok, Sem.run_pure, ih (fun g hg => hr g (by simp [hg])), List.map_cons, hsz, Option.getD_some]
         have hall' : ∀ f ∈ fields.toList, (sizeT P f.type).isSome = true := by
           intro f hfm
           rw [Array.all_eq_true'] at hall
           exact hall f (by simpa using hfm)
         have hpl : (fun i => (fields.toList.map fun f => (f.offset, (sizeT P f.type).getD 0)).toArray[i]?) = placeA P fields := by
           funext k
           simp only [placeA, List.getElem?_toArray, List.getElem?_map, Array.getElem?_toList]
           cases hk : fields[k]? with
           | none => rfl
           | some f =>
             have hfm : f ∈ fields.toList := by have := Array.mem_of_getElem? hk; simpa using this
             have := hall' f hfm
             cases hsz : sizeT P f.type with
             | none => simp [hsz] at this
             | some n => simp [hsz]
         simp only [Instr.build, Sem.run_bind, run_zero h1 h2, Result.andThen_ok, run_und hu, Array.mapM_eq_mapM_toList, Sem.run_map, hmap _ hall']
         simp only [hpl, k1, Sem.run_pure]
       · rw [if_neg hall] at he; simp at he
     · simp at he
   · rename_i n e hu
     cases hsz : sizeT P e with
     | none => simp [hsz] at he
     | some s =>
       simp only [hsz] at he
       split at he
       · rename_i cells hf
         simp only [Option.some.injEq] at he
         subst he
         obtain ⟨out', k1, k2⟩ := fill_sound (m := m) _ ps.toList ps'.toList _ zv.cells cells (by simpa using hzz) hp hf
         refine .pure h (v' := .agg out') ?_ (.agg _ _ k2.1 k2.2)
         simp [Instr.build, run_zero h1 h2, run_und hu, run_size hsz, k1]
       · simp at he
   · simp at he
theorem zeroRow_atomic {z : List Value} (n : Nat) (h : z.all atomic = true) (hz : 0 < z.length ∨ n = 0) : (zeroRow z n).all atomic = true := by
 rw [List.all_eq_true]
 intro x hx
 simp only [zeroRow, List.mem_map, List.mem_range] at hx
 obtain ⟨i, hi, rfl⟩ := hx
 have hp : 0 < z.length := by omega
 have hlt : i % z.toArray.size < z.toArray.size := Nat.mod_lt _ (by simpa using hp)
 rw [getElem!_pos z.toArray _ hlt]
 simp only [List.getElem_toArray]
 exact List.all_eq_true.1 h _ (List.getElem_mem _)
theorem zeroRow_model (z : Array Value) (n : Nat) : (zeroRow z.toList n).toArray = (Array.range n).map (z[· % z.size]!) := by
 apply Array.ext'
 simp [zeroRow]
theorem buildSliceA_sound (h : Rel m H w) {t : TypeId} {len : Nat} {ps ps' : Array (Nat × Value)} {v : Value} (hp : VRp m ps.toList ps'.toList)
   (he : buildSliceA P t len ps H = some (v, H')) : Snd P (Instr.buildSlice t len ps') m H w v H' := by
 unfold buildSliceA at he
 split at he
 · rename_i e hu
   split at he
   · rename_i n z hsz hz
     by_cases hc : len * n ≤ 2 ^ 24 ∧ z.length = n ∧ 0 < len * n
     · rw [if_pos hc] at he
       obtain ⟨i, zv, h1, h2, rfl, h4⟩ := zeroT_spec hz
       split at he
       · rename_i cells hf
         simp only [mkRow, Option.some.injEq, Prod.mk.injEq] at he
         obtain ⟨rfl, rfl⟩ := he
         have hn : 0 < n := Nat.pos_of_mul_pos_left hc.2.2
         have hzr := zeroRow_atomic (len * n) h4 (.inl (by omega))
         have hzz : VRa m (zeroRow zv.cells.toList (len * n)).toArray (zeroRow zv.cells.toList (len * n)).toArray := (VRs.refl_of_atomic hzr).toArray
         obtain ⟨out', k1, k2⟩ := fill_sound (m := m) _ ps.toList ps'.toList _ _ cells hzz hp hf
         rw [zeroRow_model] at k1
         have hos : out'.size = len * n := by
           have e2 : ∀ (ps : List (Nat × Value)) (cs o : Array Value), Instr.fill (fun i => some (i * n, n)) cs ps = some o → o.size = cs.size := by
             intro ps
             induction ps with
             | nil => intro cs o ho; simp only [Instr.fill, Option.some.injEq] at ho; rw [ho]
             | cons p r ih =>
               intro cs o ho
               obtain ⟨pi, pv⟩ := p
               simp only [Instr.fill] at ho
               split at ho
               · simp at ho
               · have := ih _ _ ho
                 rw [this]
                 have e3 : ∀ (zs : List (Value × Nat)) (xs : Array Value), (zs.foldl (fun cs (c, j) => cs.setIfInBounds (pi * n + j) c) xs).size = xs.size := by
                   intro zs
                   induction zs with
                   | nil => intro xs; rfl
                   | cons y ys ih2 => intro xs; simp only [List.foldl_cons, ih2]; simp
                 rw [← Array.foldl_toList]; exact e3 _ _
           rw [e2 _ _ _ k1]; simp
         obtain ⟨m', g1, g2, g3⟩ := mk_sound (P := P) h n cells.toList out' e k2.toList
         refine ⟨m', .slice (some ⟨w.heap.size, 0, none⟩) len len, _, ?_, .slice H.next 0 _ _ len len len g2 (Nat.le_refl _) (Nat.le_refl _) rfl rfl (.inr ⟨rfl, by simp [hos]⟩), g3⟩
         have hlen0 : ¬ (len * n = 0) := by omega
         have hbig : ¬ (len * n > 2 ^ 24) := by omega
         simp only [Instr.buildSlice, Sem.run_bind, run_und hu, Result.andThen_ok, run_size hsz, hbig, hlen0, if_false, run_zero h1 h2, Sem.run_pure, k1, g1]
       · simp at he
     · rw [if_neg hc] at he; simp at he
   · simp at he
 · simp at he
theorem VR.int_inv {k : IntKind} {n : Int} (h : VR m (.int k n) v') : v' = .int k n := h.eq_of_atomic rfl
theorem VR.bool_inv {b : Bool} (h : VR m (.bool b) v') : v' = .bool b := h.eq_of_atomic rfl
theorem VR.str_inv {s : ByteArray} (h : VR m (.string s) v') : v' = .string s := h.eq_of_atomic rfl
theorem VR.int (m : Mp) (k : IntKind) (n : Int) : VR m (.int k n) (.int k n) := .atom _ rfl
theorem VR.bool (m : Mp) (b : Bool) : VR m (.bool b) (.bool b) := .atom _ rfl
theorem VR.str (m : Mp) (s : ByteArray) : VR m (.string s) (.string s) := .atom _ rfl
theorem wrap_small {n : Int} (h0 : 0 ≤ n) (h1 : n ≤ 2 ^ 62) : IntKind.i64.wrap n = n := by
 have e1 : n % (2 ^ 64 : Int) = n := by omega
 simp only [IntKind.wrap, IntKind.bits, e1]
 rw [if_neg]
 simp only [Bool.and_eq_true, decide_eq_true_eq, not_and]
 omega
end Go.Aw
