/- What a reading's run answers. -/
import Derived.Test.YtmliebodadgpbaaGreatDoorM11
open Go.Proofs
namespace Go.Am
theorem je5 {P : Program} {ops : Array Oper} {k : KOE} {c : List PanicEntry} {E : Env} {ds : List Deferred} {H : Heap} : panD P ops false k c E ds H = k (.pan c) E ds H := rfl
theorem yq8 {P : Program} {ops : Array Oper} (h : panAll P ops.toList = true) {k : KOE} {c : List PanicEntry} {E : Env} {ds : List Deferred} {H : Heap} : panD P ops true k c E ds H = k (.pan c) (eraseE ops E) ds H := by unfold panD; rw [h]; rfl
structure Gx (a : Option Addr) (c : Nat) (s : List UInt8) (b : Nat) (H : Heap) (R : RS) (H' : Heap) (R' : RS) : Prop where
 rd : Rd a c s b H' R'
 fr : Fr (Am.mine b R) H H'
 own : ∀ q, R'.own q → R.own q ∨ H.next ≤ q
 own' : ∀ q, R.own q → R'.own q
 mine : ∀ q, Am.mine b R' q → Am.mine b R q ∨ H.next ≤ q
section
variable {a : Option Addr} {c : Nat} {s : List UInt8} {b : Nat}
theorem Go.x {H H' : Heap} {R R' : RS} (g : Go a c s b H R H' R') : Gx a c s b H R H' R' := ⟨g.rd, g.fr, g.own, g.own', g.mine⟩
theorem Gx.refl {H : Heap} {R : RS} (x : Rd a c s b H R) : Gx a c s b H R H R := (Go.refl x).x
theorem Gx.trans {H H1 H2 : Heap} {R R1 R2 : RS} (x : Rd a c s b H R) (h : Gx a c s b H R H1 R1) (k : Gx a c s b H1 R1 H2 R2) : Gx a c s b H R H2 R2 := by
 refine ⟨k.rd, ⟨Nat.le_trans h.fr.next k.fr.next, fun q y e hn => ?_, k.fr.fresh⟩, fun q hq => ?_, fun q hq => k.own' q (h.own' q hq), fun q hq => ?_⟩
 · refine k.fr.keep q y (h.fr.keep q y e hn) fun hm => ?_
   rcases h.mine q hm with e' | e'
   · exact hn e'
   · have := jc9 x.fresh e; omega
 · rcases k.own q hq with e | e
   · exact h.own q e
   · exact .inr (Nat.le_trans h.fr.next e)
 · rcases k.mine q hq with e | e
   · exact h.mine q e
   · exact .inr (Nat.le_trans h.fr.next e)
theorem Gx.fr' {H H1 H2 : Heap} {R R1 : RS} (x : Rd a c s b H R) (h : Gx a c s b H R H1 R1) (k : Fr (Am.mine b R1) H1 H2) : Fr (Am.mine b R) H H2 := by
 refine ⟨Nat.le_trans h.fr.next k.next, fun q y e hn => ?_, k.fresh⟩
 refine k.keep q y (h.fr.keep q y e hn) fun hm => ?_
 rcases h.mine q hm with e' | e'
 · exact hn e'
 · have := jc9 x.fresh e; omega
theorem Gx.alloc {H H1 : Heap} {R R1 : RS} (g : Gx a c s b H R H1 R1) (es : Nat) (cells : List Value) : Gx a c s b H R (H1.alloc es cells) R1 :=
 ⟨g.rd.alloc es cells, g.fr.ext (Ext.alloc g.fr.fresh es cells), g.own, g.own', g.mine⟩
theorem Gx.other {H H1 : Heap} {R R1 : RS} (g : Gx a c s b H R H1 R1) (x : Rd a c s b H R) {q : Nat} (h1 : H.next ≤ q) (h2 : q < H1.next) (ho : ¬ R1.own q) (y : Blk) : Gx a c s b H R (H1.set q y) R1 :=
 ⟨g.rd.other h2 ho y, ⟨g.fr.next, fun k z e n => by
   have := jc9 x.fresh e
   rw [Heap.get_set, if_neg (by omega)]
   exact g.fr.keep k z e n, jd5 g.fr.fresh h2 y⟩, g.own, g.own', g.mine⟩
theorem Gx.upd {H H1 : Heap} {R R1 R2 : RS} (x : Rd a c s b H R) (g : Gx a c s b H R H1 R1) (rd : Rd a c s b (H1.set b (rdB a c s R2)) R2) (e1 : R2.want = R1.want) (e2 : R2.items = R1.items) (e3 : R2.nodes = R1.nodes) (e4 : R2.own = R1.own) : Gx a c s b H R (H1.set b (rdB a c s R2)) R2 := by
 refine ⟨rd, g.fr.own (.inl rfl) x.ltN _, fun q h => g.own q (e4 ▸ h), fun q h => e4 ▸ g.own' q h, fun q h => ?_⟩
 refine g.mine q ?_
 rcases h with h | h | h | h
 · exact .inl h
 · exact .inr (.inl (e1 ▸ h))
 · exact .inr (.inr (.inl (e2 ▸ h)))
 · exact .inr (.inr (.inr (e3 ▸ h)))
def PanA (s : List UInt8) (b : Nat) (H : Heap) (R : RS) (x : Am.R) : Er → Prop
 | .bad lo => Bad s b H R x lo
 | .deep z => TooDeep b H R x z
theorem PanA.out {H : Heap} {R : RS} {x : Am.R} {e : Er} (h : PanA s b H R x e) : ∃ pe H', x = some (.pan pe, H') ∧ ∀ {a : Option Addr} {c : Nat} {H0 : Heap} {R0 : RS}, Rd a c s b H0 R0 → Gx a c s b H0 R0 H R → PanA s b H0 R0 (some (.pan pe, H')) e := by
 cases e with
 | bad lo => obtain ⟨z, H', e, f, l⟩ := h; exact ⟨_, H', e, fun x0 g => ⟨z, H', rfl, g.fr' x0 f, l⟩⟩
 | deep z => obtain ⟨H', e, f⟩ := h; exact ⟨_, H', e, fun x0 g => ⟨H', rfl, g.fr' x0 f⟩⟩
structure Rs (R R' : RS) : Prop where
 r : Rest R R'
 le : R.at_ ≤ R'.at_
 its : R.its.length ≤ R'.its.length
theorem js4 {R R' : RS} {p : PS} (h : R'.ps = p) (e : p.its = R.its) : R.its.length ≤ R'.its.length := by
 rw [show R'.its = p.its by rw [← h]; rfl, e]
 exact Nat.le_refl _
theorem Rs.refl (R : RS) : Rs R R := ⟨.refl R, Nat.le_refl _, Nat.le_refl _⟩
theorem Rs.trans {R R1 R2 : RS} (h : Rs R R1) (k : Rs R1 R2) : Rs R R2 := ⟨h.r.trans k.r, Nat.le_trans h.le k.le, Nat.le_trans h.its k.its⟩
def An {α : Type} (a : Option Addr) (c : Nat) (s : List UInt8) (b : Nat) (H : Heap) (R : RS) (x : Am.R) (W : Nat) (V : α → Heap → RS → Value → Prop) : Ou α → Prop
 | .ok v q => ∃ H' R' w, x = some (.ret w, H') ∧ V v H' R' w ∧ Gx a c s b H R H' R' ∧ R'.ps = q ∧ Lv q ∧ Rs R R' ∧ R'.wl ≤ W
 | .er e => PanA s b H R x e
def vU : Unit → Heap → RS → Value → Prop := fun _ _ _ w => w = .tuple #[]
def vN : Nat → Heap → RS → Value → Prop := fun v _ _ w => w = .int .i64 (v : Int)
def vB : Bool → Heap → RS → Value → Prop := fun v _ _ w => w = .bool v
def vI (lo : Nat) : List Nat → Heap → RS → Value → Prop := fun l H' R' w => Ints H' (fun z => lo ≤ z ∧ z < H'.next ∧ ¬ R'.own z) w l
def vR (lo : Nat) : Rf → Heap → RS → Value → Prop := fun f H' R' w => ∃ iv, w = refV f.word f.at_ iv ∧ Ints H' (fun z => lo ≤ z ∧ z < H'.next ∧ ¬ R'.own z) iv f.index
def vW : Rf → Heap → RS → Value → Prop := fun f _ _ w => w = refV f.word f.at_ (.slice none 0 0) ∧ f.index = []
structure Wf (s : List UInt8) (p : PS) : Prop where
 tok : p.k.kind ≠ 0 → p.at_ < p.to_
 le : p.at_ ≤ p.to_
 len : p.to_ ≤ s.length
theorem ju5 {p : PS} (h : p.to_ ≤ s.length) : Wf s (nextP s p) ∧ p.to_ ≤ (nextP s p).at_ := by
 have hle := jw8 s (s.length + 1 - p.to_) p.to_ h
 unfold nextP
 split
 · rename_i h
   exact ⟨⟨fun _ => (jw6 s h).1, Nat.le_of_lt (jw6 s h).1, (jw6 s h).2⟩, hle.1⟩
 · exact ⟨⟨fun h => absurd rfl h, Nat.le_refl _, hle.2⟩, hle.1⟩
theorem Rd.wf {H : Heap} {R : RS} (x : Rd a c s b H R) (lv : Lv R.ps) : Wf s R.ps := ⟨lv.tok, x.sz.2.2.2.1, x.sz.2.2.2.2⟩
theorem Rd.nlv {H : Heap} {R : RS} (x : Rd a c s b H R) : Lv (nextP s R.ps) := (yq7 x.sz.1 x.sz.2.1 x.sz.2.2.2.2).1
theorem Rd.nlv1 {H : Heap} {R : RS} (x : Rd a c s b H R) : Lv (nextP s (opened1 R.ps)) := (yq7 (p := opened1 R.ps) x.sz.1 x.sz.2.1 x.sz.2.2.2.2).1
variable {N : Nat} {hk : Hook} {H : Heap} {R : RS} {D : Nat}
theorem yq9 (P : PK N hk) (x : Rd a c s b H R) (hD : 7 ≤ D) : An a c s b H R (CH N hk D 18 #[.pointer (some ⟨b, 0, none⟩)] H) 0 vU (.ok () (nextP s R.ps)) := by
 obtain ⟨d, rfl⟩ : ∃ d, D = d + 7 := ⟨D - 7, by omega⟩
 obtain ⟨H', R', c1, n1⟩ := P.next (d := d) x
 exact ⟨H', R', _, c1, rfl, n1.go.x, n1.ps, x.nlv, ⟨n1.rest, n1.go.grow.1, js4 n1.ps (jb0 s _).2.1⟩, Nat.le_of_eq n1.wl⟩
theorem jx0 (P : PK N hk) (x : Rd a c s b H R) (lv : Lv R.ps) (hw : R.wl < 1000) (k : Int) (hD : 1 ≤ D) : An a c s b H R (CH N hk D 38 #[.pointer (some ⟨b, 0, none⟩), .int .i64 k] H) (R.wl + 1) vB (.ok (R.k.kind == k) R.ps) := by
 obtain ⟨d, rfl⟩ : ∃ d, D = d + 1 := ⟨D - 1, by omega⟩
 obtain ⟨H', R', c1, g1, s1, w1, _⟩ := P.see (d := d) x hw k
 exact ⟨H', R', _, c1, rfl, g1.x, s1.ps, lv, ⟨s1.rest, g1.grow.1, js4 s1.ps rfl⟩, w1⟩
theorem j8g (P : PK N hk) (x : Rd a c s b H R) (hD : 12 ≤ D) : PanA s b H R (CH N hk D 23 #[.pointer (some ⟨b, 0, none⟩)] H) (.bad R.at_) := by
 obtain ⟨d, rfl⟩ : ∃ d, D = d + 12 := ⟨D - 12, by omega⟩
 exact P.fl d a c s b H R x
theorem yr0 (P : PK N hk) (x : Rd a c s b H R) (lv : Lv R.ps) (hw : R.wl < 1000) (k : Int) (hD : 8 ≤ D) {o : Ou Bool} (ho : takeP s k R.ps = some o) : An a c s b H R (CH N hk D 36 #[.pointer (some ⟨b, 0, none⟩), .int .i64 k] H) (R.wl + 1) vB o := by
 obtain ⟨d, rfl⟩ : ∃ d, D = d + 8 := ⟨D - 8, by omega⟩
 obtain ⟨H', R', c1, g1, p1, r1, w1⟩ := j6s (d := d) P x hw k
 unfold takeP at ho
 by_cases h : R.k.kind = k
 · rw [if_pos (show R.ps.k.kind = k from h)] at ho
   injection ho with ho
   subst ho
   have e : (R.k.kind == k) = true := by rw [h]; simp
   rw [e] at c1
   rw [if_pos h] at p1 w1
   exact ⟨H', R', _, c1, rfl, g1.x, p1, x.nlv, ⟨r1, g1.grow.1, js4 p1 (jb0 s _).2.1⟩, by omega⟩
 · rw [if_neg (show ¬ R.ps.k.kind = k from h)] at ho
   injection ho with ho
   subst ho
   have e : (R.k.kind == k) = false := by simp [h]
   rw [e] at c1
   rw [if_neg h] at p1 w1
   exact ⟨H', R', _, c1, rfl, g1.x, p1, lv, ⟨r1, g1.grow.1, js4 p1 rfl⟩, w1⟩
theorem jm4 (P : PK N hk) (x : Rd a c s b H R) (hw : R.wl < 999) (k : Int) (hD : 13 ≤ D) {o : Ou Unit} (ho : mustP s k R.ps = some o) : An a c s b H R (CH N hk D 19 #[.pointer (some ⟨b, 0, none⟩), .int .i64 k] H) 0 vU o := by
 obtain ⟨d, rfl⟩ : ∃ d, D = d + 13 := ⟨D - 13, by omega⟩
 obtain ⟨m1, m2⟩ := j6t (d := d) P x hw k
 unfold mustP at ho
 by_cases h : R.k.kind = k
 · rw [if_pos (show R.ps.k.kind = k from h)] at ho
   injection ho with ho
   subst ho
   obtain ⟨H', R', c1, g1, p1, r1, w1⟩ := m1 h
   exact ⟨H', R', _, c1, rfl, g1.x, p1, x.nlv, ⟨r1, g1.grow.1, js4 p1 (jb0 s _).2.1⟩, Nat.le_of_eq w1⟩
 · rw [if_neg (show ¬ R.ps.k.kind = k from h)] at ho
   injection ho with ho
   subst ho
   exact m2 h
theorem j4t (P : PK N hk) (x : Rd a c s b H R) (hw : R.wl < 999) (k : Int) (hD : 13 ≤ D) {o : Ou Unit} (ho : openP s k R.ps = some o) : An a c s b H R (CH N hk D 37 #[.pointer (some ⟨b, 0, none⟩), .int .i64 k] H) 0 vU o := by
 obtain ⟨d, rfl⟩ : ∃ d, D = d + 13 := ⟨D - 13, by omega⟩
 obtain ⟨m1, m2, m3⟩ := yq3 (d := d) P x hw k
 unfold openP at ho
 by_cases h : R.k.kind = k
 · rw [if_pos (show R.ps.k.kind = k from h)] at ho
   by_cases h32 : R.opened = 32
   · rw [if_pos (show R.ps.opened = 32 from h32)] at ho
     injection ho with ho
     subst ho
     exact m2 h h32
   · rw [if_neg (show ¬ R.ps.opened = 32 from h32)] at ho
     injection ho with ho
     subst ho
     obtain ⟨H', R', c1, g1, p1, r1, w1⟩ := m1 h (by have := x.sz.2.2.1; omega)
     exact ⟨H', R', _, c1, rfl, g1.x, p1, x.nlv1, ⟨r1, g1.grow.1, js4 p1 (jb0 s _).2.1⟩, Nat.le_of_eq w1⟩
 · rw [if_neg (show ¬ R.ps.k.kind = k from h)] at ho
   injection ho with ho
   subst ho
   exact m3 h
theorem j4u (P : PK N hk) (x : Rd a c s b H R) (hw : R.wl < 999) (k : Int) (hop : 1 ≤ R.opened) (hD : 14 ≤ D) {o : Ou Unit} (ho : shutP s k R.ps = some o) : An a c s b H R (CH N hk D 39 #[.pointer (some ⟨b, 0, none⟩), .int .i64 k] H) 0 vU o := by
 obtain ⟨d, rfl⟩ : ∃ d, D = d + 14 := ⟨D - 14, by omega⟩
 obtain ⟨m1, m2⟩ := yq4 (d := d) P x hw k hop
 unfold shutP at ho
 by_cases h : R.k.kind = k
 · rw [if_pos (show R.ps.k.kind = k from h)] at ho
   injection ho with ho
   subst ho
   obtain ⟨H', R', c1, g1, p1, r1, w1⟩ := m1 h
   exact ⟨H', R', _, c1, rfl, g1.x, p1, ⟨x.nlv.tok, x.nlv.its, x.nlv.nds⟩, ⟨r1, g1.grow.1, js4 p1 (jb0 s _).2.1⟩, Nat.le_of_eq w1⟩
 · rw [if_neg (show ¬ R.ps.k.kind = k from h)] at ho
   injection ho with ho
   subst ho
   exact m2 h
theorem j2c (P : PK N hk) (x : Rd a c s b H R) (hw : R.wl < 999) (hD : 13 ≤ D) {o : Ou Rf} (ho : wordP s R.ps = some o) : An a c s b H R (CH N hk D 20 #[.pointer (some ⟨b, 0, none⟩)] H) 0 vW o := by
 obtain ⟨d, rfl⟩ : ∃ d, D = d + 13 := ⟨D - 13, by omega⟩
 obtain ⟨m1, m2⟩ := y6l (d := d) P x hw
 unfold wordP at ho
 by_cases h : R.k.kind = 1
 · rw [if_pos (show R.ps.k.kind = 1 from h)] at ho
   injection ho with ho
   subst ho
   obtain ⟨H', R', c1, g1, p1, r1, w1⟩ := m1 h
   exact ⟨H', R', _, c1, ⟨rfl, rfl⟩, g1.x, p1, x.nlv, ⟨r1, g1.grow.1, js4 p1 (jb0 s _).2.1⟩, Nat.le_of_eq w1⟩
 · rw [if_neg (show ¬ R.ps.k.kind = 1 from h)] at ho
   injection ho with ho
   subst ho
   exact m2 h
theorem y4p (P : PK N hk) (k : Int) (hD : 1 ≤ D) : CH N hk D 99 #[.int .i64 k] H = some (.ret (.int .i64 (rankN k : Int)), H) := by
 obtain ⟨d, rfl⟩ : ∃ d, D = d + 1 := ⟨D - 1, by omega⟩
 rw [(j4r k).1]
 exact j12 P.hh k
theorem y4q (P : PK N hk) (x : Rd a c s b H R) (hsz : R.nds.length < R.to_) {op n : Int} {w : ByteArray} {kv : Value} {p : Nat} {kids : List Nat} {H0 : Heap} {R0 : RS} (x0 : Rd a c s b H0 R0) (g : Gx a c s b H0 R0 H R) (hkv : Ints H (fun q => q < H.next ∧ H0.next ≤ q ∧ ¬ R.own q) kv kids) (hD : 1 ≤ D) :
   ∃ H' R', CH N hk D 100 #[.pointer (some ⟨b, 0, none⟩), .agg (ndC op n w kv p).toArray] H = some (.ret (.int .i64 (R.nds.length : Int)), H') ∧ Gx a c s b H0 R0 H' R' ∧ R'.ps = addNd R.ps ⟨op, n, w, kids, p⟩ ∧ Rest R R' ∧ R'.wl = R.wl := by
 obtain ⟨d, rfl⟩ : ∃ d, D = d + 1 := ⟨D - 1, by omega⟩
 obtain ⟨H', R', h1, h2, h3, h4, h5, h6, h7, h8, h9⟩ := y6m (N := N) (hk := hk) (d := d) (op := op) (n := n) (w := w) (p := p) (kids := kids) P.hh x hsz (hkv.keep fun q y hq e => ⟨⟨hq.1, hq.2.2⟩, e⟩)
 have kvn : ∀ q, blkOf kv = some q → H0.next ≤ q := fun q hq => by
   rcases hkv with ⟨h, _⟩ | ⟨q', f, h, _⟩
   · rw [h] at hq; cases hq
   · rw [h] at hq
     injection hq with hq
     exact hq ▸ f.2.1
 refine ⟨H', R', h1, ⟨h2, ⟨Nat.le_trans g.fr.next h3.next, fun q y e hn => ?_, h3.fresh⟩, fun q hq => ?_, fun q hq => h5 q (g.own' q hq), fun q hq => ?_⟩, h7, h8, h9⟩
 · refine h3.keep q y (g.fr.keep q y e hn) fun hm => ?_
   rcases g.mine q hm with e' | e'
   · exact hn e'
   · have := jc9 x0.fresh e; omega
 · rcases h4 q hq with e | e | e
   · exact g.own q e
   · exact .inr (kvn q e)
   · exact .inr (Nat.le_trans g.fr.next e)
 · rcases h6 q hq with e | e
   · exact g.mine q e
   · exact .inr (Nat.le_trans g.fr.next e)
end
theorem jd6 {α β : Type} {x : Option (Ou α)} {f : α → PS → Option (Ou β)} {w : β} {q : PS} (h : bindM x f = some (.ok w q)) : ∃ v p, x = some (.ok v p) ∧ f v p = some (.ok w q) := by
 unfold bindM at h
 split at h
 · exact ⟨_, _, rfl, h⟩
 · injection h with h; cases h
 · cases h
structure Kx (s : List UInt8) (p q : PS) : Prop where
 wf : Wf s q
 lt : p.at_ < q.at_
 nds : q.nds.length + p.at_ ≤ p.nds.length + q.at_
 its : q.its = p.its
 opened : q.opened = p.opened
theorem jx1 {s : List UInt8} {k : Int} {p q : PS} {u : Unit} (h : openP s k p = some (.ok u q)) : p.k.kind = k ∧ p.opened ≠ 32 ∧ q = nextP s (opened1 p) := by
 unfold openP at h
 split at h
 · rename_i h1
   split at h
   · injection h with h; cases h
   · rename_i h2
     injection h with h; injection h with h3 h4
     exact ⟨h1, h2, h4.symm⟩
 · injection h with h; cases h
theorem ya4 {s : List UInt8} {k : Int} {p q : PS} {u : Unit} (h : shutP s k p = some (.ok u q)) : p.k.kind = k ∧ q = opened0 (nextP s p) := by
 unfold shutP at h
 split at h
 · rename_i h1
   injection h with h; injection h with h3 h4
   exact ⟨h1, h4.symm⟩
 · injection h with h; cases h
theorem y08 {s : List UInt8} {k : Int} {p q : PS} {u : Unit} (h : mustP s k p = some (.ok u q)) : p.k.kind = k ∧ q = nextP s p := by
 unfold mustP at h
 split at h
 · rename_i h1
   injection h with h; injection h with h3 h4
   exact ⟨h1, h4.symm⟩
 · injection h with h; cases h
theorem y09 {s : List UInt8} {p q : PS} {f : Rf} (h : wordP s p = some (.ok f q)) : p.k.kind = 1 ∧ f = ⟨p.k.w, p.at_, []⟩ ∧ q = nextP s p := by
 unfold wordP at h
 split at h
 · rename_i h1
   injection h with h; injection h with h3 h4
   exact ⟨h1, h3.symm, h4.symm⟩
 · injection h with h; cases h
def KX (s : List UInt8) (F : PS → Option Ot) : Prop := ∀ p v q, Wf s p → F p = some (.ok v q) → Kx s p q
theorem y4r {s : List UInt8} {ex : Nat → PS → Option Ot} (hx : KX s (ex 0)) : KX s (atomP s ex) := by
 intro p v q w h
 unfold atomP at h
 split at h
 · rename_i h8
   obtain ⟨_, p1, e1, h⟩ := jd6 h
   obtain ⟨v2, p2, e2, h⟩ := jd6 h
   obtain ⟨_, p3, e3, h⟩ := jd6 h
   injection h with h; injection h with h3 h4
   subst h4
   obtain ⟨k1, k2, rfl⟩ := jx1 e1
   obtain ⟨k3, rfl⟩ := ya4 e3
   have w1 := ju5 (s := s) (p := opened1 p) w.len
   have r1 := jb0 s (opened1 p)
   have z := hx _ _ _ w1.1 e2
   have w2 := ju5 (s := s) (p := p2) z.wf.len
   have r2 := jb0 s p2
   have ht := w.tok (by rw [h8]; decide)
   have l1 : p.to_ ≤ (nextP s (opened1 p)).at_ := w1.2
   have zl := z.wf.le
   have l2 := w2.2
   refine ⟨⟨w2.1.tok, w2.1.le, w2.1.len⟩, ?_, ?_, ?_, ?_⟩
   · show p.at_ < (nextP s p2).at_; have := z.lt; omega
   · show (nextP s p2).nds.length + p.at_ ≤ p.nds.length + (nextP s p2).at_
     have zn := z.nds
     rw [r2.2.2]
     rw [r1.2.2] at zn
     have : (opened1 p).nds.length = p.nds.length := rfl
     omega
   · show (nextP s p2).its = p.its
     rw [r2.2.1, z.its, r1.2.1]; rfl
   · show (nextP s p2).opened - 1 = p.opened
     rw [r2.1, z.opened, r1.1]; rfl
 · split at h
   · rename_i h2
     injection h with h; injection h with h3 h4
     subst h4
     have w1 := ju5 (s := s) (p := addNd p ⟨2, p.k.n, .empty, [], p.at_⟩) w.len
     have r1 := jb0 s (addNd p ⟨2, p.k.n, .empty, [], p.at_⟩)
     have ht := w.tok (by rw [h2]; decide)
     have l1 : p.to_ ≤ (nextP s (addNd p ⟨2, p.k.n, .empty, [], p.at_⟩)).at_ := w1.2
     refine ⟨w1.1, by omega, ?_, by rw [r1.2.1]; rfl, by rw [r1.1]; rfl⟩
     rw [r1.2.2]
     simp [addNd] at l1 ⊢
     omega
   · split at h
     · cases h
     · injection h with h; cases h
theorem y6p {s : List UInt8} {ex : Nat → PS → Option Ot} {ab : Nat} (hx : ∀ r, KX s (ex r)) : ∀ (n : Nat) (mo : Int) (v : Nat) (p : PS) (w : Nat) (q : PS), Wf s p → opsP s ex ab n mo v p = some (.ok w q) → q = p ∨ Kx s p q
 | 0, _, _, _, _, _, _, h => by cases h
 | n + 1, mo, v, p, w, q, wf, h => by
   unfold opsP at h
   split at h
   · injection h with h; injection h with h3 h4; exact .inl h4.symm
   · cases h
theorem jk8 (s : List UInt8) : ∀ n ab, KX s (exprP s n ab)
 | 0, _ => fun _ _ _ _ h => by cases h
 | n + 1, ab => fun p v q w h => by
   unfold exprP at h
   obtain ⟨v1, p1, e1, h⟩ := jd6 h
   have z := y4r (jk8 s n 0) p v1 p1 w e1
   rcases y6p (fun r => jk8 s n r) _ _ _ _ _ _ z.wf h with e | e
   · rw [e]; exact z
   · refine ⟨e.wf, Nat.lt_trans z.lt e.lt, ?_, e.its.trans z.its, e.opened.trans z.opened⟩
     have a1 := z.nds
     have a2 := e.nds
     omega
theorem Kx.lv {s : List UInt8} {p q : PS} (k : Kx s p q) (lv : Lv p) : Lv q := ⟨k.wf.tok, by rw [k.its]; have := lv.its; have := k.lt; omega, by have := lv.nds; have := k.nds; omega⟩
def ExOk (N : Nat) (hk : Hook) (s : List UInt8) (n : Nat) : Prop := ∀ (a : Option Addr) (c b : Nat) (H : Heap) (R : RS) (ab D : Nat) (o : Ot), Rd a c s b H R → Lv R.ps → R.wl < 500 → ab ≤ 7 → 17 + 2 * n ≤ D → exprP s n ab R.ps = some o → An a c s b H R (CH N hk D 73 #[.pointer (some ⟨b, 0, none⟩), .int .i64 (ab : Int)] H) (16 * (8 - ab)) vN o
def AtOk (N : Nat) (hk : Hook) (s : List UInt8) (n : Nat) : Prop := ∀ (a : Option Addr) (c b : Nat) (H : Heap) (R : RS) (D : Nat) (o : Ot), Rd a c s b H R → Lv R.ps → R.wl < 600 → 18 + 2 * n ≤ D → atomP s (exprP s n) R.ps = some o → An a c s b H R (CH N hk D 98 #[.pointer (some ⟨b, 0, none⟩)] H) 0 vN o
theorem code98 : codeOf Tryz.f98 = .seq (rF Tryz.f98 0) (.seq (rF Tryz.f98 1) (.seq (.block 0 (.seq (rF Tryz.f98 2) (.cond (.tmp 10) (.seq (rF Tryz.f98 3) (.seq (rF Tryz.f98 4) (.seq (rF Tryz.f98 5) (.seq (rF Tryz.f98 6) .ret)))) (.seq (rF Tryz.f98 7) (.cond (.tmp 20) (.seq (rF Tryz.f98 8) (.seq (rT Tryz.f98 9) .ret)) (.seq (rF Tryz.f98 10) (.cond (.tmp 40) (.seq (rF Tryz.f98 11) (.seq (rT Tryz.f98 12) .ret)) .skip))))))) (.seq (rF Tryz.f98 13) (.seq (rF Tryz.f98 14) .ret)))) := by kernel_rfl
theorem y1a (op n : Int) (w : ByteArray) (p : Nat) : buildA PP 37 #[(0, .int .i64 op), (1, .int .u64 n), (4, .int .i64 (p : Int))] = some (.agg (ndC op n .empty (.slice none 0 0) p).toArray) := by kernel_rfl
theorem y1b {N : Nat} {hk : Hook} {D : Nat} {a : Option Addr} {c : Nat} {s : List UInt8} {b : Nat} {H : Heap} {R : RS} (P : PK N hk) (x : Rd a c s b H R) (hD : 6 ≤ D) :
   ∃ H' R', Nx a c s b H R H' R' ∧ ∀ (fn : Func) (E : Env) (l : List Value), resE PP E H' fn.results.toList = some l → finG PP okC prS XX (CH N hk D) N fn .ret E [{ target := .fn (.func 18) #[], args := #[.pointer (some ⟨b, 0, none⟩)] }] H = some (.ret (oneOf l), H') := by
 obtain ⟨d, rfl⟩ : ∃ d, D = d + 6 := ⟨D - 6, by omega⟩
 obtain ⟨H', R', h1, h2⟩ := j6r (N := N) (hk := hk) (d := d + 4) x P.hh (P.tk d) (P.tk (d + 1)) (by have := P.big; have := x.short; omega)
 refine ⟨H', R', h1, fun fn E l hl => j3l (v := .tuple #[]) Tryz.func18 rfl (c := codeOf Tryz.f18) rfl rfl rfl (fun kd => ?_) hl⟩
 have hb : ∀ k : KOE, bodyG PP XX (CH N hk (d + 6)) N (prS 18) Tryz.f18 (codeOf Tryz.f18) (#[.pointer (some ⟨b, 0, none⟩)] ++ #[]) .returning H kd = execG PP XX (CH N hk (d + 6)) N noPr (codeOf Tryz.f18) none (startE #[.pointer (some ⟨b, 0, none⟩)]) [] H (finDG PP Tryz.f18 .returning kd) := fun _ => rfl
 rw [hb (fun _ _ _ _ => none)]
 refine h2 (fun r => r = kd (.ret (.tuple #[])) .returning H') _ fun E' o ho => ?_
 rcases ho with rfl | rfl <;> rfl
set_option maxRecDepth 100000
theorem j2y {R R' : RS} (h : R'.ps = R.ps) : R'.at_ = R.at_ ∧ R'.to_ = R.to_ ∧ R'.k = R.k ∧ R'.opened = R.opened ∧ R'.its = R.its ∧ R'.nds = R.nds := by
 simp only [RS.ps, PS.mk.injEq] at h
 exact ⟨h.1, h.2.1, h.2.2.1, h.2.2.2.1, h.2.2.2.2.1, h.2.2.2.2.2⟩
theorem yr1 {N : Nat} {hk : Hook} {a : Option Addr} {c : Nat} {s : List UInt8} {b : Nat} {H : Heap} {R : RS} {D : Nat} (P : PK N hk) (x : Rd a c s b H R) (lv : Lv R.ps) (hne : R.k.kind ≠ 0) (hD : 7 ≤ D) (op n : Int) (w : ByteArray) :
   ∃ H3 H4 R4, CH N hk D 100 #[.pointer (some ⟨b, 0, none⟩), .agg (ndC op n w (.slice none 0 0) R.at_).toArray] H = some (.ret (.int .i64 (R.nds.length : Int)), H3) ∧ Gx a c s b H R H4 R4 ∧ R4.ps = nextP s (addNd R.ps ⟨op, n, w, [], R.at_⟩) ∧ Lv R4.ps ∧ Rs R R4 ∧ R4.wl = 0 ∧
     ∀ (fn : Func) (E : Env) (l : List Value), resE PP E H4 fn.results.toList = some l → finG PP okC prS XX (CH N hk D) N fn .ret E [{ target := .fn (.func 18) #[], args := #[.pointer (some ⟨b, 0, none⟩)] }] H3 = some (.ret (oneOf l), H4) := by
 have ht : R.at_ < R.to_ := lv.tok hne
 have hn : R.nds.length ≤ R.at_ := lv.nds
 obtain ⟨H3, R3, c3, g3, p3, r3, w3⟩ := y4q (op := op) (n := n) (w := w) (p := R.at_) (kids := []) (D := D) P x (by omega) x (Gx.refl x) (.inl ⟨rfl, rfl⟩) (by omega)
 obtain ⟨H4, R4, n4, f4⟩ := y1b (D := D) P g3.rd (by omega)
 refine ⟨H3, H4, R4, c3, g3.trans x n4.go.x, by rw [n4.ps, p3], by rw [n4.ps]; exact g3.rd.nlv, ⟨r3.trans n4.rest, by have h1 : R3.at_ = R.at_ := (show R3.ps.at_ = R.at_ by rw [p3]; rfl); have := n4.go.grow.1; omega, js4 (p := nextP s (addNd R.ps ⟨op, n, w, [], R.at_⟩)) (by rw [n4.ps, p3]) (jb0 s _).2.1⟩, n4.wl, f4⟩
theorem y75 {N : Nat} {hk : Hook} {s : List UInt8} {n : Nat} (P : PK N hk) (ih : ExOk N hk s n) : AtOk N hk s n := by
 intro a c b H R D o x lv hw hD ho
 obtain ⟨D, rfl⟩ : ∃ q, D = q + 1 := ⟨D - 1, by omega⟩
 have hh := P.hh
 have rd1 : Rd a c s b (H.set b (rdB a c s ({ R with num := true, name := true } : RS))) ({ R with num := true, name := true } : RS) := x.self rfl rfl rfl rfl rfl x.want (fun _ h => h) x.sz
 have g1 : Gx a c s b H R (H.set b (rdB a c s ({ R with num := true, name := true } : RS))) ({ R with num := true, name := true } : RS) := (Gx.refl x).upd x rd1 rfl rfl rfl rfl
 suffices main : ∀ X : Am.R → Prop, (∀ r, An a c s b H R r 0 vN o → X r) → X (CH N hk (D + 1) 98 #[.pointer (some ⟨b, 0, none⟩)] H) from main _ fun _ h => h
 intro X hX
 have hU := jb8 (P := PP) (okf := okC) (prf := prS) (X := XX) (N := N) (hk := hk) (d := D) (args := #[.pointer (some ⟨b, 0, none⟩)]) (H := H) (hh _ _ _ rfl) Tryz.func98 (c := codeOf Tryz.f98) rfl rfl rfl (pr := noPr) rfl
 rw [code98] at hU
 generalize hF : finG PP okC prS XX (CH N hk (D)) N Tryz.f98 = F at hU
 refine Eq.mpr (congrArg X hU) ?_
 have lL : _ ∧ _ := ⟨lX8 Tryz.f98 0 1 2 3 4 5 6 7, lX7 Tryz.f98 8 9 10 11 12 13 14⟩
 conv at lL in (occs := *) (rgnX _ _) => all_goals simp only [rX, opsAt, Tryz.f98, dL.o, reduceIte, Nat.reduceEqDiff]
 obtain ⟨⟨l0, l1, l2, l3, l4, l5, l6, l7⟩, ⟨l8, l9, l10, l11, l12, l13, l14⟩⟩ := lL
 have hP : ∀ {e : Er} {pe : List PanicEntry} {H' : Heap}, PanA s b H R (some (.pan pe, H')) e → some (Ou.er (α := Nat) e) = some o → X (some (.pan pe, H')) := fun h1 h2 => by
   injection h2 with h2
   subst h2
   exact hX _ h1
 simp (decide := true) only [↓uR.o, dG.o, ja1, ja5, reduceIte, ↓ja0 l0, ↓ja0 l1, ↓ja0 l2, dA.o, y2o x.blk, j92]
 obtain ⟨H2, R2, _, c2, rfl, g2', p2, lv2', r2', w2⟩ := jx0 (D := D) P rd1 lv (show R.wl < 1000 by omega) 8 (by omega)
 have c2 : CH N hk D 38 #[.pointer (some ⟨b, 0, none⟩), .int .i64 8] (H.set b (rdB a c s ({ R with num := true, name := true } : RS))) = some (.ret (.bool (R.k.kind == 8)), H2) := c2
 have r2 : Rs R R2 := ⟨⟨r2'.r.pos, r2'.r.word, r2'.r.wat, r2'.r.index, r2'.r.top⟩, r2'.le, r2'.its⟩
 have g2 := g1.trans x g2'
 have p2 : R2.ps = R.ps := p2
 have w2 : R2.wl ≤ R.wl + 1 := w2
 rw [← p2] at ho
 have lv2 : Lv R2.ps := by rw [p2]; exact lv
 have k2 := j2y p2
 unfold atomP at ho
 by_cases h8 : R2.k.kind = 8
 · have z8 : (R.k.kind == 8) = true := by rw [← k2.2.2.1, h8]; rfl
   rw [z8] at c2
   rw [if_pos (show R2.ps.k.kind = 8 from h8)] at ho
   simp (decide := true) only [↓uR.o, dG.o, ja1, reduceIte, ↓ja0 l3, ja3 Tryz.func38 rfl rfl c2]
   cases h3 : openP s 8 R2.ps with
   | none => rw [h3] at ho; cases ho
   | some o3 =>
     rw [h3] at ho
     have A3 := j4t (D := D) P g2.rd (by omega) 8 (by omega) h3
     cases o3 with
     | er e3 =>
       obtain ⟨pe, H3, e3', f3⟩ := A3.out
       simp (decide := true) only [jc0 Tryz.func37 rfl rfl e3', je5, dH.o]
       rw [← hF, jc5]
       exact hP (f3 x g2) ho
     | ok u3 q3 =>
       obtain ⟨H3, R3, _, c3, rfl, g3', rfl, lv3, r3, w3⟩ := A3
       have g3 := g2.trans x g3'
       rw [ja6] at ho
       simp (decide := true) only [↓uR.o, dG.o, ja1, reduceIte, ↓ja0 l4, ja3 Tryz.func37 rfl rfl c3]
       cases h4 : exprP s n 0 R3.ps with
       | none => rw [h4] at ho; cases ho
       | some o4 =>
         rw [h4] at ho
         have A4 : An a c s b H3 R3 (CH N hk D 73 #[.pointer (some ⟨b, 0, none⟩), .int .i64 0] H3) (16 * (8 - 0)) vN o4 := ih a c b H3 R3 0 D o4 g3.rd lv3 (by omega) (by omega) (by omega) h4
         cases o4 with
         | er e4 =>
           obtain ⟨pe, H4, e4', f4⟩ := PanA.out A4
           simp (decide := true) only [jc0 Tryz.func73 rfl rfl e4', je5, dH.o]
           rw [← hF, jc5]
           exact hP (f4 x g3) ho
         | ok v4 q4 =>
           have kx := jk8 s n 0 R3.ps v4 q4 (g3.rd.wf lv3) h4
           obtain ⟨H4, R4, _, c4, rfl, g4', rfl, lv4, r4, w4⟩ := A4
           have g4 := g3.trans x g4'
           have ho4 : 1 ≤ R4.opened := by
             have e1 : R4.opened = R3.opened := kx.opened
             have e2 := (jx1 h3).2.2
             have e3 : R3.opened = (nextP s (opened1 R2.ps)).opened := by rw [← e2]; rfl
             rw [e1, e3, (jb0 s _).1]
             exact Nat.le_add_left _ _
           rw [ja6] at ho
           simp (decide := true) only [↓uR.o, dG.o, ja1, reduceIte, ↓ja0 l5, ja3 Tryz.func73 rfl rfl c4]
           cases h5 : shutP s 9 R4.ps with
           | none => rw [h5] at ho; cases ho
           | some o5 =>
             rw [h5] at ho
             have A5 := j4u (D := D) P g4.rd (by omega) 9 ho4 (by omega) h5
             cases o5 with
             | er e5 =>
               obtain ⟨pe, H5, e5', f5⟩ := PanA.out A5
               simp (decide := true) only [jc0 Tryz.func39 rfl rfl e5', je5, dH.o]
               rw [← hF, jc5]
               exact hP (f5 x g4) ho
             | ok u5 q5 =>
               obtain ⟨H5, R5, _, c5, rfl, g5', rfl, lv5, r5, w5⟩ := A5
               rw [ja6] at ho
               injection ho with ho
               simp (decide := true) only [↓uR.o, dG.o, ja1, reduceIte, ↓ja0 l6, ja3 Tryz.func39 rfl rfl c5]
               rw [← hF, ja4 (l := [.int .i64 (v4 : Int)]) (by simp (decide := true) [Tryz.f98, resE, ja1])]
               refine hX _ ?_
               rw [← ho]
               exact ⟨H5, R5, _, rfl, rfl, g4.trans x g5', rfl, lv5, r2.trans (r3.trans (r4.trans r5)), w5⟩
 · have z8 : (R.k.kind == 8) = false := by rw [← k2.2.2.1]; simp [h8]
   rw [z8] at c2
   rw [if_neg (show ¬ R2.ps.k.kind = 8 from h8)] at ho
   by_cases h2 : R2.k.kind = 2
   · have z2 : (R2.k.kind == 2) = true := by rw [h2]; rfl
     rw [if_pos (show R2.ps.k.kind = 2 from h2)] at ho
     injection ho with ho
     obtain ⟨H3, H4, R4, c3, g4, p4, lv4, r4, w4, f4⟩ := yr1 (D := D) P g2.rd lv2 (by rw [h2]; decide) (by omega) 2 R2.k.n .empty
     simp (decide := true) only [↓uR.o, dG.o, ja1, ja5, reduceIte, ↓ja0 l7, ↓ja0 l8, ↓ja0 l9, dA.o, ja3 Tryz.func38 rfl rfl c2, ju3 g2.rd.blk, z2, ld_n g2.rd.blk, jg0 g2.rd.blk, y1a _ _ .empty, ja3 Tryz.func100 rfl rfl c3, ↓y31]
     rw [← hF, f4 (l := [.int .i64 (R2.nds.length : Int)]) _ _ (by simp (decide := true) [Tryz.f98, resE, ja1])]
     refine hX _ ?_
     rw [← ho]
     exact ⟨H4, R4, _, rfl, rfl, g2.trans x g4, p4, p4 ▸ lv4, r2.trans r4, Nat.le_of_eq w4⟩
   · have z2 : (R2.k.kind == 2) = false := by simp [h2]
     rw [if_neg (show ¬ R2.ps.k.kind = 2 from h2)] at ho
     by_cases h1 : R2.k.kind = 1
     · have z1 : (R2.k.kind == 1) = true := by rw [h1]; rfl
       rw [if_pos (show R2.ps.k.kind = 1 from h1)] at ho
       cases ho
     · have z1 : (R2.k.kind == 1) = false := by simp [h1]
       rw [if_neg (show ¬ R2.ps.k.kind = 1 from h1)] at ho
       obtain ⟨pe, H3, e3, f3⟩ := PanA.out (j8g (D := D) P g2.rd (by omega))
       simp (decide := true) only [↓uR.o, dG.o, ja1, reduceIte, ↓ja0 l7, ↓ja0 l10, ↓ja0 l13, dA.o, ja3 Tryz.func38 rfl rfl c2, ju3 g2.rd.blk, z2, z1, jc0 Tryz.func23 rfl rfl e3, je5, dH.o]
       rw [← hF, jc5]
       exact hP (f3 x g2) ho
theorem y4s {N : Nat} {hk : Hook} {D : Nat} {a : Option Addr} {c : Nat} {s : List UInt8} {b : Nat} {nn ab : Nat} {H0 : Heap} {R0 : RS} {Q : Am.R → Prop} {k : KOE} {o : Ot} (P : PK N hk) (x0 : Rd a c s b H0 R0) (ih : ExOk N hk s nn) (hD : 18 + 2 * nn ≤ D + 1) (hab : ab ≤ 7)
   (hok : ∀ E' H' R' (v' : Nat), E' 4 = .int .i64 (v' : Int) → Gx a c s b H0 R0 H' R' → Lv R'.ps → Rs R0 R' → R'.wl ≤ 16 * (8 - ab) → o = .ok v' R'.ps → Q (k .ret E' [] H'))
   (hpan : ∀ E' H' pe e, PanA s b H0 R0 (some (.pan pe, H')) e → o = .er e → Q (k (.pan pe) E' [] H')) : ∀ (n m : Nat) (_ : n < m) {mo : Int} {v : Nat} {H : Heap} {R : RS} {E : Env} (_ : Gx a c s b H0 R0 H R) (_ : Lv R.ps) (_ : Rs R0 R) (_ : R.wl ≤ 16 * (7 - ab)) (_ : E 0 = .pointer (some ⟨b, 0, none⟩) ∧ E 1 = .int .i64 (ab : Int) ∧ E 5 = .int .i64 (v : Int) ∧ E 6 = .int .i64 mo) (_ : opsP s (exprP s nn) ab n mo v R.ps = some o) (_ : 20 ≤ N),
   Q (loopE (execG PP XX (CH N hk (D + 1)) N noPr (.block 1 (.seq (.seq (rF Tryz.f73 3) (.block 2 (.loop (.seq (.seq (rF Tryz.f73 4) (.cond (.tmp 14) .skip (.exit 2))) (.seq (.block 3 (.seq (rF Tryz.f73 6) (.cond (.tmp 26) (rF Tryz.f73 7) .skip))) (rF Tryz.f73 5)))))) (.seq (rF Tryz.f73 8) (.seq (.seq (rF Tryz.f73 9) (.cond (.tmp 44) (.seq (rF Tryz.f73 10) .ret) .skip)) (.seq (rF Tryz.f73 11) (.seq (rF Tryz.f73 12) (.seq (rF Tryz.f73 13) (.seq (rF Tryz.f73 14) (.seq (rF Tryz.f73 15) (.cond (.tmp 66) (rF Tryz.f73 16) .skip)))))))))) none) m E [] H k)
 | 0, m + 1, hm, mo, v, H, R, E, g, lv, rs, hw, e, ho, hN => by cases ho
 | n + 1, m + 1, hm, mo, v, H, R, E, g, lv, rs, hw, e, ho, hN => by
   obtain ⟨e0, e1, e5, e6⟩ := e
   have D17 : D + 1 = (D + 1 - 18) + 18 := by omega
   rw [jb5]
   have lL : _ ∧ _ := ⟨lX8 Tryz.f73 3 8 9 10 11 12 13 14, lX2 Tryz.f73 15 16⟩
   conv at lL in (occs := *) (rgnX _ _) => all_goals simp only [rX, opsAt, Tryz.f73, dL.o, reduceIte, Nat.reduceEqDiff]
   obtain ⟨⟨l3, l8, l9, l10, l11, l12, l13, l14⟩, ⟨l15, l16⟩⟩ := lL
   simp (decide := true) only [↓uR.o, dG.o, ↓ja0 l3, ↓jc8]
   rw [D17]
   refine j8f (R0 := R) (mo := mo) (v := v) (ab := ab) P g.rd 16 N (j := 14) rfl (by omega) (Go.refl g.rd) (Same.refl R) (by omega) (by omega) (by omega) ⟨e0, e1, e5, e6, by simp (decide := true) only [ja1, reduceIte]; rfl⟩ fun E' H' R' e' g' sm hw' => ?_
   rw [← D17]
   obtain ⟨e0, e1, e5, e6⟩ := e'
   have g1 := g.trans x0 g'.x
   have p1 : R'.ps = R.ps := sm.ps
   have k1 := j2y p1
   have lv1 : Lv R'.ps := by rw [p1]; exact lv
   have rs1 : Rs R0 R' := rs.trans ⟨sm.rest, g'.grow.1, js4 p1 rfl⟩
   have hw1 : R'.wl ≤ 16 * (8 - ab) := by omega
   rw [← p1] at ho
   have rk : ∀ H'', CH N hk (D + 1) 99 #[.int .i64 R'.k.kind] H'' = some (.ret (.int .i64 (rankN R'.k.kind : Int)), H'') := fun H'' => y4p P _ (by omega)
   unfold opsP at ho
   by_cases hr : rankN R'.k.kind ≤ ab
   · have z1 : decide ((rankN R'.k.kind : Int) ≤ (ab : Int)) = true := decide_eq_true (by omega)
     rw [if_pos (.inl hr)] at ho
     injection ho with ho
     simp (decide := true) only [↓uR.o, dG.o, ja1, reduceIte, Bool.not_false, ↓ja0 l8, ↓ja0 l9, ↓ja0 l10, ↓r_no _ 4 false 39 _ ya3, e0, e1, e5, dA.o, ju3 g1.rd.blk, ja3 Tryz.func99 rfl rfl (rk _), z1]
     exact hok _ _ R' v (by simp (decide := true) only [ja1, reduceIte]) g1 lv1 rs1 hw1 ho.symm
   · have z1 : decide ((rankN R'.k.kind : Int) ≤ (ab : Int)) = false := decide_eq_false (by omega)
     by_cases hm2 : mo ≤ (rankN R'.k.kind : Int)
     · have z2 : decide ((rankN R'.k.kind : Int) ≥ mo) = true := decide_eq_true hm2
       rw [if_pos (.inr hm2)] at ho
       injection ho with ho
       simp (decide := true) only [↓uR.o, dG.o, ja1, reduceIte, ↓ja0 l8, ↓ja0 l9, ↓ja0 l10, ↓jb7 _ 4 false 39 _ ya3, e0, e1, e5, e6, dA.o, ju3 g1.rd.blk, ja3 Tryz.func99 rfl rfl (rk _), z1, z2]
       exact hok _ _ R' v (by simp (decide := true) only [ja1, reduceIte]) g1 lv1 rs1 hw1 ho.symm
     · have z2 : decide ((rankN R'.k.kind : Int) ≥ mo) = false := decide_eq_false hm2
       rw [if_neg (fun h => h.elim hr hm2)] at ho
       cases ho
theorem y6q {N : Nat} {hk : Hook} {s : List UInt8} (P : PK N hk) : ∀ n, n < N → ExOk N hk s n
 | 0 => fun _ a c b H R ab D o x lv hw hab hD ho => by cases ho
 | n + 1 => by
   intro hn a c b H R ab D o x lv hw hab hD ho
   obtain ⟨D, rfl⟩ : ∃ q, D = q + 2 := ⟨D - 2, by omega⟩
   have hh := P.hh
   have ih := y6q P n (s := s) (by omega)
   suffices main : ∀ X : Am.R → Prop, (∀ r, An a c s b H R r (16 * (8 - ab)) vN o → X r) → X (CH N hk (D + 2) 73 #[.pointer (some ⟨b, 0, none⟩), .int .i64 (ab : Int)] H) from main _ fun _ h => h
   intro X hX
   have hU := jb8 (P := PP) (okf := okC) (prf := prS) (X := XX) (N := N) (hk := hk) (d := D + 1) (args := #[.pointer (some ⟨b, 0, none⟩), .int .i64 (ab : Int)]) (H := H) (hh _ _ _ rfl) Tryz.func73 (c := codeOf Tryz.f73) rfl rfl rfl (pr := noPr) rfl
   rw [code73] at hU
   generalize hF : finG PP okC prS XX (CH N hk (D + 1)) N Tryz.f73 = F at hU
   refine Eq.mpr (congrArg X hU) ?_
   have lL := lX3 Tryz.f73 0 1 2
   conv at lL in (occs := *) (rgnX _ _) => all_goals simp only [rX, opsAt, Tryz.f73, dL.o, reduceIte, Nat.reduceEqDiff]
   obtain ⟨l0, l1, l2⟩ := lL
   simp (decide := true) only [↓uR.o, dG.o, ja1, reduceIte, ↓ja0 l0, ↓ja0 l1]
   unfold exprP at ho
   cases h1 : atomP s (exprP s n) R.ps with
   | none => rw [h1] at ho; cases ho
   | some o1 =>
     rw [h1] at ho
     have A1 := y75 P ih a c b H R (D + 1) o1 x lv (by omega) (by omega) h1
     cases o1 with
     | er e1 =>
       obtain ⟨pe, H1, e1', f1⟩ := PanA.out A1
       simp (decide := true) only [jc0 Tryz.func98 rfl rfl e1', je5, dH.o]
       rw [← hF, jc5]
       rw [jg6] at ho
       injection ho with ho
       refine hX _ ?_
       rw [← ho]
       exact f1 x (Gx.refl x)
     | ok v1 q1 =>
       obtain ⟨H1, R1, _, c1, rfl, g1, rfl, lv1, r1, w1⟩ := A1
       rw [ja6] at ho
       simp (decide := true) only [↓uR.o, dG.o, ja1, reduceIte, ↓ja0 l2, ja3 Tryz.func98 rfl rfl c1, ↓jc8]
       refine y4s (R0 := R) (mo := 8) (v := v1) P x ih (by omega) hab ?_ ?_ (n + 1) N hn g1 lv1 r1 (by omega) ?_ ho (by have := P.big; omega)
       · intro E' H' R' v' e4 g' lv' rs' w' ho'
         simp only [jn0]
         rw [← hF, ja4 (l := [.int .i64 (v' : Int)]) (by simp (decide := true) [Tryz.f73, resE, e4])]
         refine hX _ ?_
         rw [ho']
         exact ⟨H', R', _, rfl, rfl, g', rfl, lv', rs', w'⟩
       · intro E' H' pe e h' ho'
         simp only [jn2]
         rw [← hF, jc5]
         refine hX _ ?_
         rw [ho']
         exact h'
       · exact ⟨by simp (decide := true) only [ja1, reduceIte, jd4], by simp (decide := true) only [ja1, reduceIte, jf3], rfl, rfl⟩
end Go.Am
namespace Go.Am
set_option maxRecDepth 100000
variable {a : Option Addr} {c b q2 q3 : Nat} {s : List UInt8} {H0 H H' : Heap} {R0 R R' : RS} {v : Value}
def refL (s : List UInt8) (ex : Nat → PS → Option Ot) : Nat → Rf → PS → Option (Ou Rf)
 | 0, _, _ => none
 | n + 1, f, p => if p.k.kind = 6 then bindM (openP s 6 p) fun _ p => bindM (ex 0 p) fun v p => bindM (shutP s 7 p) fun _ p => refL s ex n { f with index := f.index ++ [v] } p else some (.ok f p)
def refP (s : List UInt8) (ex : Nat → PS → Option Ot) (n : Nat) (p : PS) : Option (Ou Rf) := bindM (wordP s p) fun f p => refL s ex n f p
theorem Gx.loc {H2 : Heap} (x0 : Rd a c s b H0 R0) (g : Gx a c s b H0 R0 H R) (hn : H.next ≤ H2.next) (hf : Fresh H2) (L : Nat → Prop) (keep : ∀ q y, H.get q = some y → ¬ L q → H2.get q = some y) (hL : ∀ q, L q → H0.next ≤ q ∧ ¬ R.own q) : Gx a c s b H0 R0 H2 R := by
 refine ⟨g.rd.keep hn hf fun q y ho e => keep q y e fun h => (hL q h).2 ho, ⟨Nat.le_trans g.fr.next hn, fun q y e hm => ?_, hf⟩, g.own, g.own', g.mine⟩
 have hl := jc9 x0.fresh e
 exact keep q y (g.fr.keep q y e hm) fun h => by have := (hL q h).1; omega
theorem j2d {F : Nat → Prop} {l : List Nat} (h : Ints H F v l) (hf : Fresh H) (hl : l.length ≤ 1048576) (k : Nat) : ∃ H2, appendA PP #[22, 22] v (.slice (some ⟨H.next, 0, none⟩) 1 1) (H.alloc 1 [.int .i64 (k : Int)]) = some (.slice (some ⟨H.next + 1, 0, none⟩) (l ++ [k]).length (l ++ [k]).length, H2) ∧
   H2.get (H.next + 1) = some ⟨intsC (l ++ [k]), true, 1, none⟩ ∧ H2.next = H.next + 2 ∧ Fresh H2 ∧ ∀ q x, H.get q = some x → blkOf v ≠ some q → H2.get q = some x := by
 have f1 := jb1 hf 1 [Value.int .i64 (k : Int)]
 have r1 : Row (H.alloc 1 [.int .i64 (k : Int)]) v 1 l.length (intsC l) := by
   rcases h with ⟨e1, e2⟩ | ⟨q, _, e1, e2, _⟩
   · exact .inl ⟨e1, by rw [e2]; rfl, by rw [e2]; rfl⟩
   · exact .inr ⟨q, e1, jb3 hf e2 _ _, by simp [intsC]⟩
 obtain ⟨H2, a1, a2, a3, a4, a5, a6⟩ := j4n r1 f1 (news := [.int .i64 (k : Int)]) (bytes := 8) rfl rfl (by unfold most; omega) (by unfold most; omega)
 have nx : (H.alloc 1 [Value.int .i64 (k : Int)]).next = H.next + 1 := rfl
 rw [nx] at a1 a2 a4
 have e1 : (l ++ [k]).length = l.length + 1 := by simp
 have e2 : intsC (l ++ [k]) = intsC l ++ [.int .i64 (k : Int)] := by simp [intsC]
 refine ⟨H2, ?_, by rw [e2]; exact a2, a4, a5, fun q x e hn => a6 q x (jb3 hf e _ _) hn⟩
 rw [j3m (jc6 _ _ _), a1, e1]
structure Lf (a : Option Addr) (c : Nat) (s : List UInt8) (b : Nat) (H0 : Heap) (R0 : RS) (H : Heap) (R : RS) (q2 q3 : Nat) (f : Rf) (iv : Value) : Prop where
 g : Gx a c s b H0 R0 H R
 l2 : H0.next ≤ q2 ∧ q2 < H.next ∧ ¬ R.own q2
 l3 : H0.next ≤ q3 ∧ q3 < H.next ∧ ¬ R.own q3
 ne : q2 ≠ q3
 b2 : H.get q2 = some (rfB .empty 0 (.slice none 0 0))
 b3 : H.get q3 = some (rfB f.word f.at_ iv)
 rows : Ints H (fun z => H0.next ≤ z ∧ z < H.next ∧ ¬ R.own z ∧ z ≠ q2 ∧ z ≠ q3) iv f.index
 len : f.index.length ≤ R.at_
theorem Gx.nown (g : Gx a c s b H R H' R') {z : Nat} (h1 : z < H.next) (h2 : ¬ R.own z) : z < H'.next ∧ ¬ R'.own z := by
 refine ⟨Nat.lt_of_lt_of_le h1 g.fr.next, fun h => ?_⟩
 rcases g.own z h with e | e
 · exact h2 e
 · omega
theorem Gx.stay (x : Rd a c s b H R) (g : Gx a c s b H R H' R') {z : Nat} (h2 : ¬ R.own z) {y : Blk} (e : H.get z = some y) : H'.get z = some y :=
 g.fr.keep z y e fun h => h2 (x.mo z h).1
theorem Lf.go {f : Rf} {iv : Value} (x0 : Rd a c s b H0 R0) (h : Lf a c s b H0 R0 H R q2 q3 f iv) (g : Gx a c s b H R H' R') (hat : R.at_ ≤ R'.at_) : Lf a c s b H0 R0 H' R' q2 q3 f iv := by
 have x := h.g.rd
 refine ⟨h.g.trans x0 g, ⟨h.l2.1, g.nown h.l2.2.1 h.l2.2.2⟩, ⟨h.l3.1, g.nown h.l3.2.1 h.l3.2.2⟩, h.ne, g.stay x h.l2.2.2 h.b2, g.stay x h.l3.2.2 h.b3, h.rows.keep fun z y hz e => ?_, Nat.le_trans h.len hat⟩
 have n := g.nown hz.2.1 hz.2.2.1
 exact ⟨⟨hz.1, n.1, n.2, hz.2.2.2⟩, g.stay x hz.2.2.1 e⟩
theorem Lf.app {f : Rf} {iv : Value} (x0 : Rd a c s b H0 R0) (h : Lf a c s b H0 R0 H R q2 q3 f iv) (hlt : f.index.length < R.at_) (hs : s.length ≤ 1048576) (k : Nat) :
   ∃ w H2, appendA PP #[22, 22] iv (.slice (some ⟨H.next, 0, none⟩) 1 1) (H.alloc 1 [.int .i64 (k : Int)]) = some (w, H2) ∧ Value.oneCell' w = true ∧ H2.get q3 = some (rfB f.word f.at_ iv) ∧ Lf a c s b H0 R0 (H2.set q3 (rfB f.word f.at_ w)) R q2 q3 { f with index := f.index ++ [k] } w := by
 have sz := h.g.rd.sz
 obtain ⟨H2, a1, a2, a3, a4, a5⟩ := j2d h.rows h.g.fr.fresh (by omega) k
 have hiv : ∀ z, blkOf iv = some z → H0.next ≤ z ∧ z < H.next ∧ ¬ R.own z ∧ z ≠ q2 ∧ z ≠ q3 := fun z hz => by
   rcases h.rows with ⟨e, _⟩ | ⟨q, f, e, _⟩
   · rw [e] at hz; cases hz
   · rw [e] at hz; injection hz with hz; exact hz ▸ f
 have n2 : blkOf iv ≠ some q2 := fun e => (hiv _ e).2.2.2.1 rfl
 have n3 : blkOf iv ≠ some q3 := fun e => (hiv _ e).2.2.2.2 rfl
 have b3 := a5 q3 _ h.b3 n3
 have l3 := h.l3.2.1
 have l2 := h.l2.2.1
 have f3 := jd5 a4 (q := q3) (by omega) (rfB f.word f.at_ (.slice (some ⟨H.next + 1, 0, none⟩) (f.index ++ [k]).length (f.index ++ [k]).length))
 refine ⟨_, H2, a1, rfl, b3, ⟨h.g.loc x0 (by show H.next ≤ H2.next; omega) f3 (fun z => z = q3 ∨ blkOf iv = some z) (fun z y e hn => ?_) (fun z hz => ?_), ⟨h.l2.1, by show q2 < H2.next; omega, h.l2.2.2⟩, ⟨h.l3.1, by show q3 < H2.next; omega, h.l3.2.2⟩, h.ne, ?_, jb4 _ _ _, .inr ⟨H.next + 1, ⟨?_, ?_, ?_, ?_, ?_⟩, rfl, ?_, by simp⟩, by simp; omega⟩⟩
 · rw [Heap.get_set, if_neg fun e => hn (.inl e)]
   exact a5 z y e fun e => hn (.inr e)
 · rcases hz with rfl | hz
   · exact ⟨h.l3.1, h.l3.2.2⟩
   · exact ⟨(hiv z hz).1, (hiv z hz).2.2.1⟩
 · rw [Heap.get_set, if_neg h.ne]; exact a5 q2 _ h.b2 n2
 · have := h.g.fr.next; omega
 · show H.next + 1 < H2.next; omega
 · exact fun ho => by have := h.g.rd.lt _ ho; omega
 · omega
 · omega
 · rw [Heap.get_set, if_neg (by omega)]; exact a2
theorem ff2 (q : Nat) : fieldAddrA PP 24 (.pointer (some ⟨q, 0, none⟩)) 2 = some (.pointer (some ⟨q, 2, none⟩)) := by kernel_rfl
theorem ya5 {q : Nat} {w : ByteArray} {n : Int} (h : H.get q = some (rfB w n v)) : loadA PP 22 (.pointer (some ⟨q, 2, none⟩)) H = some (v, H) := by
 simp only [loadA, j4k]
 simp [ld1, look, h, rfB]
theorem y6r {q : Nat} {w : ByteArray} {n : Int} {v' : Value} (h : H.get q = some (rfB w n v)) (hv : Value.oneCell' v' = true) : storeA PP 22 (.pointer (some ⟨q, 2, none⟩)) v' H = some (undef, H.set q (rfB w n v')) := by
 have hc : v'.cells = #[v'] := by cases v' <;> first | rfl | (simp [Value.oneCell'] at hv)
 simp only [storeA, jw3, stV, hc]
 simp [st, look, h, rfB, over, hv]
theorem code102 : codeOf Tryz.f102 = .seq (rF Tryz.f102 0) (.seq (rF Tryz.f102 1) (.seq (.block 0 (.loop (.seq (.seq (rF Tryz.f102 2) (.cond (.tmp 7) .skip (.exit 0))) (.block 1 (.seq (rF Tryz.f102 3) (.seq (rT Tryz.f102 4) (rF Tryz.f102 5))))))) (.seq (rF Tryz.f102 6) .ret))) := by kernel_rfl
theorem y4t : panAll PP (rgn Tryz.f102 4).toList = true := by decide +kernel
theorem yr2 {N : Nat} {hk : Hook} {D : Nat} {nn : Nat} {Q : Am.R → Prop} {k : KOE} {o : Ou Rf} (P : PK N hk) (x0 : Rd a c s b H0 R0) (ih : ExOk N hk s nn) (hD : 17 + 2 * nn ≤ D)
   (hok : ∀ E' H' R' f iv, E' 0 = .pointer (some ⟨b, 0, none⟩) ∧ E' 2 = .pointer (some ⟨q2, 0, none⟩) ∧ E' 3 = .pointer (some ⟨q3, 0, none⟩) → Lf a c s b H0 R0 H' R' q2 q3 f iv → Lv R'.ps → Rs R0 R' → R'.wl ≤ 1 → o = .ok f R'.ps → Q (k (.exit 0) E' [] H'))
   (hpan : ∀ E' H' pe e, PanA s b H0 R0 (some (.pan pe, H')) e → o = .er e → Q (k (.pan pe) E' [] H')) : ∀ (n m : Nat) (_ : n < m) {f : Rf} {iv : Value} {H : Heap} {R : RS} {E : Env} (_ : Lf a c s b H0 R0 H R q2 q3 f iv) (_ : Lv R.ps) (_ : Rs R0 R) (_ : R.wl = 0) (_ : E 0 = .pointer (some ⟨b, 0, none⟩) ∧ E 2 = .pointer (some ⟨q2, 0, none⟩) ∧ E 3 = .pointer (some ⟨q3, 0, none⟩)) (_ : refL s (exprP s nn) n f R.ps = some o),
   Q (loopE (execG PP XX (CH N hk D) N pr102 (.seq (.seq (rF Tryz.f102 2) (.cond (.tmp 7) .skip (.exit 0))) (.block 1 (.seq (rF Tryz.f102 3) (.seq (rT Tryz.f102 4) (rF Tryz.f102 5))))) none) m E [] H k)
 | 0, m + 1, hm, f, iv, H, R, E, L, lv, rs, hw, e, ho => by cases ho
 | n + 1, m + 1, hm, f, iv, H, R, E, L, lv, rs, hw, e, ho => by
   obtain ⟨e0, e2, e3⟩ := e
   obtain ⟨D, rfl⟩ : ∃ q, D = q + 17 := ⟨D - 17, by omega⟩
   rw [jb5]
   have lL := lX4 Tryz.f102 2 3 4 5
   conv at lL in (occs := *) (rgnX _ _) => all_goals simp only [rX, opsAt, Tryz.f102, dL.o, reduceIte, Nat.reduceEqDiff]
   obtain ⟨l2, l3, l4, l5⟩ := lL
   obtain ⟨H1, R1, _, c1, rfl, g1, p1, lv1, r1, w1⟩ := jx0 (D := D + 17) P L.g.rd lv (by omega) 6 (by omega)
   have L1 := L.go x0 g1 r1.le
   have rs1 := rs.trans r1
   have kk := j2y p1
   rw [← p1] at ho lv1
   unfold refL at ho
   simp (decide := true) only [↓jb9, ↓uG.o, dG.o, ja1, reduceIte, ↓ja0 l2, e0, ja3 Tryz.func38 rfl rfl c1]
   by_cases h6 : R1.k.kind = 6
   · have z6 : (R.k.kind == 6) = true := by rw [← kk.2.2.1, h6]; rfl
     rw [if_pos (show R1.ps.k.kind = 6 from h6)] at ho
     simp (decide := true) only [↓jb9, ↓uG.o, dG.o, ja1, reduceIte, ↓ja0 l3, z6, e0]
     cases h2 : openP s 6 R1.ps with
     | none => rw [h2] at ho; cases ho
     | some o2 =>
       rw [h2] at ho
       have A2 := j4t (D := D + 17) P L1.g.rd (by omega) 6 (by omega) h2
       cases o2 with
       | er e2 =>
         obtain ⟨pe, H2, e2', f2⟩ := PanA.out A2
         simp (decide := true) only [jc0 Tryz.func37 rfl rfl e2', je5, dH.o]
         rw [jg6] at ho
         injection ho with ho
         exact hpan _ _ _ _ (f2 x0 L1.g) ho.symm
       | ok u2 q2' =>
         obtain ⟨H2, R2, _, c2, rfl, g2, rfl, lv2, r2, w2⟩ := A2
         have L2 := L1.go x0 g2 r2.le
         have rs2 := rs1.trans r2
         rw [ja6] at ho
         simp (decide := true) only [jh4, ↓jk6 l4, ↓jp3, jf1, pr102, ↓uG.o, dG.o, ja1, reduceIte, ja3 Tryz.func37 rfl rfl c2, e0, e3, ff2, ya5 L2.b3]
         cases h3 : exprP s nn 0 R2.ps with
         | none => rw [h3] at ho; cases ho
         | some o3 =>
           rw [h3] at ho
           have A3 : An a c s b H2 R2 (CH N hk (D + 17) 73 #[.pointer (some ⟨b, 0, none⟩), .int .i64 0] H2) (16 * (8 - 0)) vN o3 := ih a c b H2 R2 0 (D + 17) o3 L2.g.rd lv2 (by omega) (by omega) (by omega) h3
           cases o3 with
           | er e3 =>
             obtain ⟨pe, H3, e3', f3⟩ := PanA.out A3
             simp (decide := true) only [jc0 Tryz.func73 rfl rfl e3', yq8 y4t, dH.o]
             rw [jg6] at ho
             injection ho with ho
             exact hpan _ _ _ _ (f3 x0 L2.g) ho.symm
           | ok v3 q3' =>
             have kx3 := jk8 s nn 0 R2.ps v3 q3' (L2.g.rd.wf lv2) h3
             obtain ⟨H3, R3, _, c3, rfl, g3, rfl, lv3, r3, w3⟩ := A3
             have L3 := L2.go x0 g3 r3.le
             have rs3 := rs2.trans r3
             rw [ja6] at ho
             have lt3 : R2.at_ < R3.at_ := kx3.lt
             obtain ⟨w, H4, a1, a2, a3, L4⟩ := L3.app x0 (by have := L2.len; omega) x0.short.1 v3
             have hb3 : (H3.alloc 1 [.int .i64 (v3 : Int)]).get q3 = some (rfB f.word f.at_ iv) := jb3 L3.g.fr.fresh L3.b3 _ _
             have viv : veq iv iv = true := by
               rcases L3.rows with ⟨e, _⟩ | ⟨q, _, e, _⟩ <;> rw [e] <;> exact ji8 _ _ _
             simp (decide := true) only [↓j4i, ↓jp3, jf1, ↓uG.o, dG.o, ja1, ja5, reduceIte, ja3 Tryz.func73 rfl rfl c3, e3, jh9, jw4, a1, ff2, y6r a3 a2]
             rw [jo5 (by simp (decide := true) only [List.nil_append, List.cons_append, List.all_cons, List.all_nil, pairChkE, l4, List.getElem?_cons_zero, List.getElem?_cons_succ, guardBE, qval, opK, builtinK, dG.o, ja1, reduceIte, Bool.and_self, ya5 L2.b3, ya5 L3.b3, ya5 hb3, viv])]
             have op4 : 1 ≤ R3.opened := by
               have e1 : R3.opened = R2.opened := kx3.opened
               have e2 := (jx1 h2).2.2
               have e3 : R2.opened = (nextP s (opened1 R1.ps)).opened := by rw [← e2]; rfl
               rw [e1, e3, (jb0 s _).1]
               exact Nat.le_add_left _ _
             simp (decide := true) only [↓jb9, dG.o, ↓uG.o, ja1, reduceIte, ↓ja0 l5, e0]
             cases h5 : shutP s 7 R3.ps with
             | none => rw [h5] at ho; cases ho
             | some o5 =>
               rw [h5] at ho
               have A5 := j4u (D := D + 17) P L4.g.rd (by omega) 7 op4 (by omega) h5
               cases o5 with
               | er e5 =>
                 obtain ⟨pe, H5, e5', f5⟩ := PanA.out A5
                 simp (decide := true) only [jc0 Tryz.func39 rfl rfl e5', je5, dH.o]
                 rw [jg6] at ho
                 injection ho with ho
                 exact hpan _ _ _ _ (f5 x0 L4.g) ho.symm
               | ok u5 q5' =>
                 obtain ⟨H5, R5, _, c5, rfl, g5, rfl, lv5, r5, w5⟩ := A5
                 rw [ja6] at ho
                 simp (decide := true) only [dG.o, ↓y3n, ja3 Tryz.func39 rfl rfl c5]
                 refine yr2 P x0 ih hD hok hpan n m (by omega) (L4.go x0 g5 r5.le) lv5 (rs3.trans r5) (by omega) ?_ ho
                 exact ⟨e0, e2, e3⟩
   · have z6 : (R.k.kind == 6) = false := by rw [← kk.2.2.1]; simp [h6]
     rw [if_neg (show ¬ R1.ps.k.kind = 6 from h6)] at ho
     injection ho with ho
     simp (decide := true) only [↓uG.o, dG.o, ja1, reduceIte, z6]
     refine hok _ _ R1 f iv ?_ L1 lv1 rs1 (by omega) ho.symm
     exact ⟨e0, e2, e3⟩
end Go.Am
namespace Go.Am
set_option maxRecDepth 100000
theorem y6s {N : Nat} {hk : Hook} {D : Nat} {a : Option Addr} {c : Nat} {s : List UInt8} {b nn m : Nat} {H : Heap} {R : RS} (P : PK N hk) (ih : ExOk N hk s nn) (x : Rd a c s b H R) (lv : Lv R.ps) (hw : R.wl < 999) (hD : 18 + 2 * nn ≤ D) (hm : m < N) {o : Ou Rf} (ho : refP s (exprP s nn) m R.ps = some o) :
   An a c s b H R (CH N hk D 102 #[.pointer (some ⟨b, 0, none⟩)] H) 1 (vR H.next) o := by
 obtain ⟨D, rfl⟩ : ∃ q, D = q + 1 := ⟨D - 1, by omega⟩
 have hh := P.hh
 suffices main : ∀ X : Am.R → Prop, (∀ r, An a c s b H R r 1 (vR H.next) o → X r) → X (CH N hk (D + 1) 102 #[.pointer (some ⟨b, 0, none⟩)] H) from main _ fun _ h => h
 intro X hX
 have hU := jb8 (P := PP) (okf := okC) (prf := prS) (X := XX) (N := N) (hk := hk) (d := D) (args := #[.pointer (some ⟨b, 0, none⟩)]) (H := H) (hh _ _ _ rfl) Tryz.func102 (c := codeOf Tryz.f102) rfl rfl rfl (pr := pr102) rfl
 rw [code102] at hU
 generalize hF : finG PP okC prS XX (CH N hk (D)) N Tryz.f102 = F at hU
 refine Eq.mpr (congrArg X hU) ?_
 have lL := lX3 Tryz.f102 0 1 6
 conv at lL in (occs := *) (rgnX _ _) => all_goals simp only [rX, opsAt, Tryz.f102, dL.o, reduceIte, Nat.reduceEqDiff]
 obtain ⟨l0, l1, l6⟩ := lL
 have g0 : Gx a c s b H R (H.alloc 1 [.string .empty, .int .i64 0, .slice none 0 0]) R := (Gx.refl x).alloc _ _
 have no : ∀ q, H.next ≤ q → ¬ R.own q := fun q h ho => by have := x.lt q ho; omega
 simp (decide := true) only [↓jb9, ↓uG.o, dG.o, ja1, reduceIte, ↓ja0 l0, ↓ja0 l1, jw9]
 unfold refP at ho
 cases h1 : wordP s R.ps with
 | none => rw [h1] at ho; cases ho
 | some o1 =>
   rw [h1] at ho
   have A1 := j2c (D := D) P g0.rd hw (by omega) h1
   cases o1 with
   | er e1 =>
     obtain ⟨pe, H1, e1', f1⟩ := PanA.out A1
     simp (decide := true) only [jc0 Tryz.func20 rfl rfl e1', je5, dH.o]
     rw [← hF, jc5]
     rw [jg6] at ho
     injection ho with ho
     refine hX _ ?_
     rw [← ho]
     exact f1 x g0
   | ok f1 q1 =>
     obtain ⟨H1, R1, _, c1, ⟨rfl, hidx⟩, g1', rfl, lv1, r1, w1⟩ := A1
     have g1 := g0.trans x g1'
     rw [ja6] at ho
     have nx0 : (H.alloc 1 [.string .empty, .int .i64 0, .slice none 0 0]).next = H.next + 1 := rfl
     have hn1 := g1'.fr.next
     rw [nx0] at hn1
     have hq0 := g1'.stay g0.rd (no _ (Nat.le_refl _)) (z := H.next) (y := rfB .empty 0 (.slice none 0 0)) (jc6 _ _ _)
     have hq0' := jb3 g1.fr.fresh hq0 1 [.string .empty, .int .i64 0, .slice none 0 0]
     have hq1 : (H1.alloc 1 [.string .empty, .int .i64 0, .slice none 0 0]).get H1.next = some (rfB .empty 0 (.slice none 0 0)) := jc6 _ _ _
     have no1 : ∀ q, H.next ≤ q → q < H.next + 1 ∨ H1.next ≤ q → ¬ R1.own q := fun q h h' ho => by
       have h1 := g1.rd.lt q ho
       rcases h' with h' | h'
       · rcases g1'.own q ho with e | e
         · exact no q h e
         · rw [nx0] at e; omega
       · omega
     have g2 := g1.alloc 1 [.string .empty, .int .i64 0, .slice none 0 0]
     have g3 := g2.other x (q := H1.next) (by omega) (Nat.lt_succ_self _) (no1 _ (by omega) (.inr (Nat.le_refl _))) (rfB f1.word f1.at_ (.slice none 0 0))
     have L : Lf a c s b H R ((H1.alloc 1 [.string .empty, .int .i64 0, .slice none 0 0]).set H1.next (rfB f1.word f1.at_ (.slice none 0 0))) R1 H.next H1.next f1 (.slice none 0 0) := by
       refine ⟨g3, ⟨Nat.le_refl _, by show H.next < H1.next + 1; omega, no1 _ (Nat.le_refl _) (.inl (Nat.lt_succ_self _))⟩, ⟨by omega, Nat.lt_succ_self _, no1 _ (by omega) (.inr (Nat.le_refl _))⟩, by omega, ?_, jb4 _ _ _, .inl ⟨rfl, hidx⟩, by rw [hidx]; exact Nat.zero_le _⟩
       rw [Heap.get_set, if_neg (by omega)]
       exact hq0'
     simp (decide := true) only [↓uG.o, dG.o, ja1, ja5, reduceIte, ja3 Tryz.func20 rfl rfl c1, jw9, refV, ya1 (v' := .slice none 0 0) hq1 rfl, ↓jc8]
     refine yr2 (q2 := H.next) (q3 := H1.next) P x ih (by omega) ?_ ?_ m N hm L lv1 r1 (by omega) ?_ ho
     · intro E' H' R' f iv e' L' lv' rs' w' ho'
       obtain ⟨e0, e2, e3⟩ := e'
       have l2 := L'.l2
       have l3 := L'.l3
       have iv1 : Value.oneCell' iv = true := by
         rcases L'.rows with ⟨e, _⟩ | ⟨q, _, e, _⟩ <;> rw [e] <;> rfl
       simp (decide := true) only [↓jb9, ↓uG.o, dG.o, ja1, ja5, reduceIte, ↓ja0 l6, e2, e3, ya2 L'.b3, ya1 L'.b2 iv1]
       rw [← hF, ja4 (l := [refV f.word f.at_ iv]) (by simp (decide := true) only [Tryz.f102, resE, ja1, reduceIte, e2, ya2 (jb4 _ _ _), refV])]
       refine hX _ ?_
       rw [ho']
       refine ⟨_, R', _, rfl, ⟨iv, rfl, L'.rows.keep fun z y hz e => ⟨⟨hz.1, hz.2.1, hz.2.2.1⟩, ?_⟩⟩, L'.g.other x l2.1 l2.2.1 l2.2.2 _, rfl, lv', rs', w'⟩
       rw [Heap.get_set, if_neg hz.2.2.2.1]
       exact e
     · intro E' H' pe e h' ho'
       simp only [jn2, jh5]
       rw [← hF, jc5]
       refine hX _ ?_
       rw [ho']
       exact h'
     · exact ⟨by simp (decide := true) only [ja1, reduceIte, jd4], rfl, rfl⟩
def rf0 : Rf := ⟨.empty, 0, []⟩
def it0 (kind : Int) (pos : Nat) : It := ⟨kind, pos, rf0, rf0, rf0, rf0, [], [], 0, 0, .empty, [], []⟩
def addIt (p : PS) (x : It) : PS := { p with its := p.its ++ [x] }
def setIt (p : PS) (k : Nat) (x : It) : PS := { p with its := p.its.set k x }
def beginP (s : List UInt8) (kind : Int) (p : PS) : Option (Ou Nat) := some (.ok p.its.length (nextP s (addIt p (it0 kind p.at_))))
structure Iv where
 x : It
 nv : Value
 fv : Value
 tv : Value
 ov : Value
 pv : Value
 ev : Value
 kv : Value
 lv : Value
def nil0 : Value := .slice none 0 0
def iv0 (kind : Int) (pos : Nat) : Iv := ⟨it0 kind pos, nil0, nil0, nil0, nil0, nil0, nil0, nil0, nil0⟩
def ivC (i : Iv) : List Value := [.int .i64 i.x.kind, .int .i64 (i.x.pos : Int), .string i.x.name.word, .int .i64 (i.x.name.at_ : Int), i.nv, .string i.x.from_.word, .int .i64 (i.x.from_.at_ : Int), i.fv,
 .string i.x.to_.word, .int .i64 (i.x.to_.at_ : Int), i.tv, .string i.x.over_.word, .int .i64 (i.x.over_.at_ : Int), i.ov, i.pv, i.ev, .int .i64 i.x.flags, .int .i64 i.x.how, .string i.x.text, i.kv, i.lv]
def ivB (i : Iv) : Blk := ⟨ivC i, true, 1, none⟩
def XF (lo : Nat) (H : Heap) (own : Nat → Prop) (q : Nat) (ev pv : Value) (z : Nat) : Prop := lo ≤ z ∧ z < H.next ∧ ¬ own z ∧ z ≠ q ∧ blkOf ev ≠ some z ∧ blkOf pv ≠ some z
structure Xi (z0 : Nat) (H : Heap) (own : Nat → Prop) (q : Nat) (i : Iv) : Prop where
 lo : z0 ≤ q
 lt : q < H.next
 no : ¬ own q
 blk : H.get q = some (ivB i)
 n : Ints H (XF z0 H own q i.ev i.pv) i.nv i.x.name.index
 f : Ints H (XF z0 H own q i.ev i.pv) i.fv i.x.from_.index
 t : Ints H (XF z0 H own q i.ev i.pv) i.tv i.x.to_.index
 o : Ints H (XF z0 H own q i.ev i.pv) i.ov i.x.over_.index
 k : Ints H (XF z0 H own q i.ev i.pv) i.kv i.x.kids
 l : Ints H (XF z0 H own q i.ev i.pv) i.lv i.x.els
 e : Ints H (fun z => z0 ≤ z ∧ z < H.next ∧ ¬ own z ∧ z ≠ q ∧ blkOf i.pv ≠ some z) i.ev i.x.e
 p : Refs H (fun z => z0 ≤ z ∧ z < H.next ∧ ¬ own z ∧ z ≠ q ∧ blkOf i.ev ≠ some z) i.pv i.x.params
structure St (a : Option Addr) (c : Nat) (s : List UInt8) (b : Nat) (H0 : Heap) (R0 : RS) (H : Heap) (R : RS) (q : Nat) (i : Iv) : Prop where
 g : Gx a c s b H0 R0 H R
 x : Xi H0.next H R.own q i
 le : i.x.e.length ≤ R.at_ ∧ i.x.params.length ≤ R.at_
def AnI (a : Option Addr) (c : Nat) (s : List UInt8) (b : Nat) (H0 : Heap) (R0 : RS) (q : Nat) (R : RS) (x : Am.R) (W : Nat) : Ou It → Prop
 | .ok it p => ∃ H' R' i', x = some (.ret (.tuple #[]), H') ∧ St a c s b H0 R0 H' R' q i' ∧ i'.x = it ∧ R'.ps = p ∧ Lv p ∧ Rs R R' ∧ R'.wl ≤ W
 | .er e => PanA s b H0 R0 x e
theorem Ints.blk {H : Heap} {F : Nat → Prop} {v : Value} {l : List Nat} (h : Ints H F v l) {z : Nat} (e : blkOf v = some z) : F z := by
 rcases h with ⟨h, _⟩ | ⟨q, f, h, _⟩
 · rw [h] at e; cases e
 · rw [h] at e; injection e with e; exact e ▸ f
theorem Refs.blk {H : Heap} {F : Nat → Prop} {v : Value} {l : List Rf} (h : Refs H F v l) {z : Nat} (e : blkOf v = some z) : F z := by
 rcases h with ⟨h, _⟩ | ⟨q, _, f, h, _⟩
 · rw [h] at e; cases e
 · rw [h] at e; injection e with e; exact e ▸ f
theorem Ints.one {H : Heap} {F : Nat → Prop} {v : Value} {l : List Nat} (h : Ints H F v l) : Value.oneCell' v = true ∧ veq v v = true ∧ ∃ y, v = .slice y l.length l.length := by
 rcases h with ⟨h, e⟩ | ⟨q, _, h, _⟩
 · rw [h, e]; exact ⟨rfl, ji8 _ _ _, _, rfl⟩
 · rw [h]; exact ⟨rfl, ji8 _ _ _, _, rfl⟩
theorem Refs.one {H : Heap} {F : Nat → Prop} {v : Value} {l : List Rf} (h : Refs H F v l) : Value.oneCell' v = true ∧ veq v v = true ∧ ∃ y, v = .slice y l.length l.length := by
 rcases h with ⟨h, e⟩ | ⟨q, _, _, h, _⟩
 · rw [h, e]; exact ⟨rfl, ji8 _ _ _, _, rfl⟩
 · rw [h]; exact ⟨rfl, ji8 _ _ _, _, rfl⟩
section
variable {a : Option Addr} {c : Nat} {s : List UInt8} {b : Nat} {H0 H H' : Heap} {R0 R R' : RS} {q : Nat} {i : Iv}
theorem St.go (x0 : Rd a c s b H0 R0) (h : St a c s b H0 R0 H R q i) (g : Gx a c s b H R H' R') (hat : R.at_ ≤ R'.at_) : St a c s b H0 R0 H' R' q i := by
 have x := h.g.rd
 have n := g.nown h.x.lt h.x.no
 have kf : ∀ z y, XF H0.next H R.own q i.ev i.pv z → H.get z = some y → XF H0.next H' R'.own q i.ev i.pv z ∧ H'.get z = some y := fun z y hz e => by
   have n := g.nown hz.2.1 hz.2.2.1
   exact ⟨⟨hz.1, n.1, n.2, hz.2.2.2⟩, g.stay x hz.2.2.1 e⟩
 refine ⟨h.g.trans x0 g, ⟨h.x.lo, n.1, n.2, g.stay x h.x.no h.x.blk, h.x.n.keep kf, h.x.f.keep kf, h.x.t.keep kf, h.x.o.keep kf, h.x.k.keep kf, h.x.l.keep kf, h.x.e.keep fun z y hz e => ?_, h.x.p.keep fun z y hz e => ?_⟩, by have := h.le; omega⟩
 · have n := g.nown hz.2.1 hz.2.2.1
   exact ⟨⟨hz.1, n.1, n.2, hz.2.2.2⟩, g.stay x hz.2.2.1 e⟩
 · have n := g.nown hz.2.1 hz.2.2.1
   exact ⟨⟨hz.1, n.1, n.2, hz.2.2.2⟩, g.stay x hz.2.2.1 e⟩
theorem St.own (h : St a c s b H0 R0 H R q i) (x0 : Rd a c s b H0 R0) (y : Blk) : Gx a c s b H0 R0 (H.set q y) R := h.g.other x0 h.x.lo h.x.lt h.x.no y
theorem St.alloc (x0 : Rd a c s b H0 R0) (h : St a c s b H0 R0 H R q i) (es : Nat) (cells : List Value) : St a c s b H0 R0 (H.alloc es cells) R q i :=
 h.go x0 ((Gx.refl h.g.rd).alloc es cells) (Nat.le_refl _)
theorem y2x (h : St a c s b H0 R0 H R q i) {lo : Nat} (hlo : H.next ≤ lo) (g : Gx a c s b H R H' R') {v : Value} {l : List Nat} (hv : Ints H' (fun z => lo ≤ z ∧ z < H'.next ∧ ¬ R'.own z) v l) (y : Blk) : Ints (H'.set q y) (XF H0.next H' R'.own q i.ev i.pv) v l := by
 exact hv.keep fun z w hz e => ⟨⟨by have := h.g.fr.next; have := hz.1; omega, hz.2.1, hz.2.2, by have := h.x.lt; have := hz.1; omega, fun e2 => by have := (h.x.e.blk e2).2.1; have := hz.1; omega, fun e2 => by have := (h.x.p.blk e2).2.1; have := hz.1; omega⟩,
   by rw [Heap.get_set, if_neg (by have := h.x.lt; have := hz.1; omega)]; exact e⟩
theorem jp4 {q : Nat} {H : Heap} {F : Nat → Prop} (hF : ∀ z, F z → z ≠ q) {v : Value} {l : List Nat} (k : Ints H F v l) (y : Blk) : Ints (H.set q y) F v l :=
 k.keep fun z w hz e => ⟨hz, by rw [Heap.get_set, if_neg (hF z hz)]; exact e⟩
theorem yr3 {q : Nat} {H : Heap} {F : Nat → Prop} (hF : ∀ z, F z → z ≠ q) {v : Value} {l : List Rf} (k : Refs H F v l) (y : Blk) : Refs (H.set q y) F v l :=
 k.keep fun z w hz e => ⟨hz, by rw [Heap.get_set, if_neg (hF z hz)]; exact e⟩
theorem St.set_n (x0 : Rd a c s b H0 R0) (h : St a c s b H0 R0 H R q i) (g : Gx a c s b H R H' R') (hat : R.at_ ≤ R'.at_) {f : Rf} {v : Value} (hv : Ints H' (fun z => H.next ≤ z ∧ z < H'.next ∧ ¬ R'.own z) v f.index) : St a c s b H0 R0 (H'.set q (ivB { i with x := { i.x with name := f }, nv := v })) R' q { i with x := { i.x with name := f }, nv := v } := by
 have h1 := h.go x0 g hat
 have new := y2x h (Nat.le_refl _) g hv (ivB { i with x := { i.x with name := f }, nv := v })
 exact ⟨h1.own x0 _, ⟨h1.x.lo, h1.x.lt, h1.x.no, jb4 _ _ _, new, jp4 (fun z hz => hz.2.2.2.1) h1.x.f _, jp4 (fun z hz => hz.2.2.2.1) h1.x.t _, jp4 (fun z hz => hz.2.2.2.1) h1.x.o _, jp4 (fun z hz => hz.2.2.2.1) h1.x.k _, jp4 (fun z hz => hz.2.2.2.1) h1.x.l _, jp4 (fun z hz => hz.2.2.2.1) h1.x.e _, yr3 (fun z hz => hz.2.2.2.1) h1.x.p _⟩, h1.le⟩
theorem St.set_k (x0 : Rd a c s b H0 R0) (h : St a c s b H0 R0 H R q i) (g : Gx a c s b H R H' R') (hat : R.at_ ≤ R'.at_) {l : List Nat} {v : Value} (hv : Ints H' (fun z => H.next ≤ z ∧ z < H'.next ∧ ¬ R'.own z) v l) : St a c s b H0 R0 (H'.set q (ivB { i with x := { i.x with kids := l }, kv := v })) R' q { i with x := { i.x with kids := l }, kv := v } := by
 have h1 := h.go x0 g hat
 have new := y2x h (Nat.le_refl _) g hv (ivB { i with x := { i.x with kids := l }, kv := v })
 exact ⟨h1.own x0 _, ⟨h1.x.lo, h1.x.lt, h1.x.no, jb4 _ _ _, jp4 (fun z hz => hz.2.2.2.1) h1.x.n _, jp4 (fun z hz => hz.2.2.2.1) h1.x.f _, jp4 (fun z hz => hz.2.2.2.1) h1.x.t _, jp4 (fun z hz => hz.2.2.2.1) h1.x.o _, new, jp4 (fun z hz => hz.2.2.2.1) h1.x.l _, jp4 (fun z hz => hz.2.2.2.1) h1.x.e _, yr3 (fun z hz => hz.2.2.2.1) h1.x.p _⟩, h1.le⟩
theorem St.app (x0 : Rd a c s b H0 R0) (h : St a c s b H0 R0 H R q i) (hlt : i.x.e.length < R.at_) (k : Nat) : ∃ w H2, appendA PP #[22, 22] i.ev (.slice (some ⟨H.next, 0, none⟩) 1 1) (H.alloc 1 [.int .i64 (k : Int)]) = some (w, H2) ∧ Value.oneCell' w = true ∧ H2.get q = some (ivB i) ∧
   St a c s b H0 R0 (H2.set q (ivB { i with x := { i.x with e := i.x.e ++ [k] }, ev := w })) R q { i with x := { i.x with e := i.x.e ++ [k] }, ev := w } := by
 have sz := h.g.rd.sz
 have hs := x0.short
 obtain ⟨H2, a1, a2, a3, a4, a5⟩ := j2d h.x.e h.g.fr.fresh (by omega) k
 have nq : blkOf i.ev ≠ some q := fun e => (h.x.e.blk e).2.2.2.1 rfl
 have b2 := a5 q _ h.x.blk nq
 have lq := h.x.lt
 have f3 := jd5 a4 (q := q) (by omega) (ivB { i with x := { i.x with e := i.x.e ++ [k] }, ev := .slice (some ⟨H.next + 1, 0, none⟩) (i.x.e ++ [k]).length (i.x.e ++ [k]).length })
 have kf : ∀ z y, XF H0.next H R.own q i.ev i.pv z → H.get z = some y → XF H0.next H2 R.own q (.slice (some ⟨H.next + 1, 0, none⟩) (i.x.e ++ [k]).length (i.x.e ++ [k]).length) i.pv z ∧ (H2.set q (ivB { i with x := { i.x with e := i.x.e ++ [k] }, ev := .slice (some ⟨H.next + 1, 0, none⟩) (i.x.e ++ [k]).length (i.x.e ++ [k]).length })).get z = some y := fun z y hz e => by
   exact ⟨⟨hz.1, by have := hz.2.1; omega, hz.2.2.1, hz.2.2.2.1, fun e2 => by
     have e3 : H.next + 1 = z := by injection e2
     have := hz.2.1; omega, hz.2.2.2.2.2⟩, by rw [Heap.get_set, if_neg hz.2.2.2.1]; exact a5 z y e hz.2.2.2.2.1⟩
 refine ⟨_, H2, a1, rfl, b2, ⟨h.g.loc x0 (by show H.next ≤ H2.next; omega) f3 (fun z => z = q ∨ blkOf i.ev = some z) (fun z y e hn => ?_) (fun z hz => ?_), ⟨h.x.lo, by show q < H2.next; omega, h.x.no, jb4 _ _ _, h.x.n.keep kf, h.x.f.keep kf, h.x.t.keep kf, h.x.o.keep kf, h.x.k.keep kf, h.x.l.keep kf, ?_, ?_⟩, ?_⟩⟩
 · rw [Heap.get_set, if_neg fun e => hn (.inl e)]
   exact a5 z y e fun e => hn (.inr e)
 · rcases hz with rfl | hz
   · exact ⟨h.x.lo, h.x.no⟩
   · exact ⟨(h.x.e.blk hz).1, (h.x.e.blk hz).2.2.1⟩
 · refine .inr ⟨H.next + 1, ⟨?_, ?_, ?_, ?_, ?_⟩, rfl, ?_, by simp⟩
   · have := h.g.fr.next; omega
   · show H.next + 1 < H2.next; omega
   · exact fun ho => by have := h.g.rd.lt _ ho; omega
   · omega
   · exact fun e => by have := (h.x.p.blk e).2.1; omega
   · rw [Heap.get_set, if_neg (by omega)]; exact a2
 · exact h.x.p.keep fun z y hz e => ⟨⟨hz.1, by show z < H2.next; have := hz.2.1; omega, hz.2.2.1, hz.2.2.2.1, fun e2 => by
     have e3 : H.next + 1 = z := by injection e2
     have := hz.2.1; omega⟩, by rw [Heap.get_set, if_neg hz.2.2.2.1]; exact a5 z y e hz.2.2.2.2⟩
 · refine ⟨?_, h.le.2⟩
   show (i.x.e ++ [k]).length ≤ R.at_
   simp; omega
theorem St.set_e (x0 : Rd a c s b H0 R0) (h : St a c s b H0 R0 H R q i) (hlt : 1 ≤ R.at_) (k : Nat) : St a c s b H0 R0 ((H.alloc 1 [.int .i64 (k : Int)]).set q (ivB { i with x := { i.x with e := [k] }, ev := .slice (some ⟨H.next, 0, none⟩) 1 1 })) R q { i with x := { i.x with e := [k] }, ev := .slice (some ⟨H.next, 0, none⟩) 1 1 } := by
 have h1 := h.alloc x0 1 [.int .i64 (k : Int)]
 have lq := h.x.lt
 have kf : ∀ z y, XF H0.next H R.own q i.ev i.pv z → H.get z = some y → XF H0.next (H.alloc 1 [.int .i64 (k : Int)]) R.own q (.slice (some ⟨H.next, 0, none⟩) 1 1) i.pv z ∧ ((H.alloc 1 [.int .i64 (k : Int)]).set q (ivB { i with x := { i.x with e := [k] }, ev := .slice (some ⟨H.next, 0, none⟩) 1 1 })).get z = some y := fun z y hz e => by
   exact ⟨⟨hz.1, Nat.lt_succ_of_lt hz.2.1, hz.2.2.1, hz.2.2.2.1, fun e2 => by
     have e3 : H.next = z := by injection e2
     have := hz.2.1; omega, hz.2.2.2.2.2⟩, by rw [Heap.get_set, if_neg hz.2.2.2.1]; exact jb3 h.g.fr.fresh e _ _⟩
 refine ⟨h1.own x0 _, ⟨h.x.lo, h1.x.lt, h.x.no, jb4 _ _ _, h.x.n.keep kf, h.x.f.keep kf, h.x.t.keep kf, h.x.o.keep kf, h.x.k.keep kf, h.x.l.keep kf, ?_, ?_⟩, ⟨hlt, h.le.2⟩⟩
 · refine .inr ⟨H.next, ⟨h.g.fr.next, Nat.lt_succ_self _, fun ho => ?_, by omega, fun e => ?_⟩, rfl, ?_, by simp⟩
   · have := h.g.rd.lt _ ho; omega
   · have := (h.x.p.blk e).2.1; omega
   · rw [Heap.get_set, if_neg (by omega)]; exact jc6 _ _ _
 · exact h.x.p.keep fun z y hz e => ⟨⟨hz.1, Nat.lt_succ_of_lt hz.2.1, hz.2.2.1, hz.2.2.2.1, fun e2 => by
     have e3 : H.next = z := by injection e2
     have := hz.2.1; omega⟩, by rw [Heap.get_set, if_neg hz.2.2.2.1]; exact jb3 h.g.fr.fresh e _ _⟩
end
theorem xf2 (q : Nat) : fieldAddrA PP 40 (.pointer (some ⟨q, 0, none⟩)) 2 = some (.pointer (some ⟨q, 2, none⟩)) := by kernel_rfl
theorem xf7 (q : Nat) : fieldAddrA PP 40 (.pointer (some ⟨q, 0, none⟩)) 7 = some (.pointer (some ⟨q, 15, none⟩)) := by kernel_rfl
theorem xf11 (q : Nat) : fieldAddrA PP 40 (.pointer (some ⟨q, 0, none⟩)) 11 = some (.pointer (some ⟨q, 19, none⟩)) := by kernel_rfl
theorem j2z {H : Heap} {q : Nat} {i : Iv} (h : H.get q = some (ivB i)) : loadA PP 22 (.pointer (some ⟨q, 15, none⟩)) H = some (i.ev, H) := by
 simp only [loadA, j4k]
 simp [ld1, look, h, ivB, ivC]
theorem y6t {H : Heap} {q : Nat} {i : Iv} (h : H.get q = some (ivB i)) (f : Rf) {v : Value} (hv : Value.oneCell' v = true) : storeA PP 24 (.pointer (some ⟨q, 2, none⟩)) (.agg #[.string f.word, .int .i64 (f.at_ : Int), v]) H = some (undef, H.set q (ivB { i with x := { i.x with name := f }, nv := v })) := by
 simp only [storeA, ya0, stV]
 simp [Value.cells, st, look, h, ivB, ivC, over, Value.oneCell']
 simpa [Value.oneCell'] using hv
theorem y4u {H : Heap} {q : Nat} {i : Iv} (h : H.get q = some (ivB i)) (l : List Nat) {v : Value} (hv : Value.oneCell' v = true) : storeA PP 22 (.pointer (some ⟨q, 15, none⟩)) (v) H = some (undef, H.set q (ivB { i with x := { i.x with e := l }, ev := v })) := by
 have hc : ((v) : Value).cells = #[v] := by cases v <;> first | rfl | (simp [Value.oneCell'] at hv)
 simp only [storeA, jw3, stV, hc]
 simp [st, look, h, ivB, ivC, over, hv]
theorem y6u {H : Heap} {q : Nat} {i : Iv} (h : H.get q = some (ivB i)) (l : List Nat) {v : Value} (hv : Value.oneCell' v = true) : storeA PP 22 (.pointer (some ⟨q, 19, none⟩)) (v) H = some (undef, H.set q (ivB { i with x := { i.x with kids := l }, kv := v })) := by
 have hc : ((v) : Value).cells = #[v] := by cases v <;> first | rfl | (simp [Value.oneCell'] at hv)
 simp only [storeA, jw3, stV, hc]
 simp [st, look, h, ivB, ivC, over, hv]
def dT := Pf.mk (And.intro @xf2 (And.intro @xf7 (@xf11)))
end Go.Am
namespace Go.Am
set_option maxRecDepth 100000
variable {H : Heap}
theorem infoItem : ∃ i, PP.info? 40 = some i ∧ i.size = 21 ∧ i.bytes = 336 := by
 have h : (match PP.info? 40 with | some i => decide (i.size = 21) && decide (i.bytes = 336) | none => false) = true := by decide +kernel
 split at h
 · rename_i i e
   simp only [Bool.and_eq_true, decide_eq_true_eq] at h
   exact ⟨i, e, h.1, h.2⟩
 · cases h
theorem undItems : PP.underlying 25 = some (.slice 40) := Tryz.underlying25
theorem zeroItem : zeroT PP 40 = some (ivC (iv0 0 0)) := by kernel_rfl
theorem agItem : aggT PP 40 = some true := by decide +kernel
theorem szItem : sizeT PP 40 = some 21 := by decide +kernel
theorem esItem : esT PP 40 = 1 := by decide +kernel
theorem y1c (kind : Int) (p : Nat) : buildA PP 40 #[(0, .int .i64 kind), (1, .int .i64 (p : Int))] = some (.agg (ivC (iv0 kind p)).toArray) := by kernel_rfl
theorem yr4 (H : Heap) (kind : Int) (p : Nat) : buildSliceA PP 25 1 #[(0, .agg (ivC (iv0 kind p)).toArray)] H = some (.slice (some ⟨H.next, 0, none⟩) 1 1, H.alloc 21 (ivC (iv0 kind p))) := by kernel_rfl
theorem j8h {v : Value} {q : Nat} {cells : List Value} (hl : cells.length = 21) (hq : H.get q = some ⟨cells, true, 21, none⟩) : appendA PP #[25, 25] v (.slice (some ⟨q, 0, none⟩) 1 1) H = app H 21 336 v 1 cells := by
 obtain ⟨i, h1, h2, h3⟩ := infoItem
 have ht : cells.take 21 = cells := by rw [← hl, List.take_length]
 have src : srcCells H 21 (.slice (some ⟨q, 0, none⟩) 1 1) = some (1, cells) := by simp [srcCells, look, hq, hl, ht]
 simp only [appendA]
 have hz : (ivC (iv0 0 0)).length = 21 := rfl
 simp [h1, h2, h3, zeroItem, src, hz]
theorem yr5 (s x : Value) (H : Heap) (k : Value → Heap → Am.R) : builtinK PP .append #[25, 25] #[s, x] H k = bindV (appendA PP #[25, 25] s x H) k := by simp [builtinK]
theorem y4v (H : Heap) (F : Nat → Prop) (kind : Int) (p : Nat) : ItR H F (it0 kind p) (ivC (iv0 kind p)) :=
 ⟨_, _, _, _, _, _, _, _, rfl, ⟨_, rfl, .inl ⟨rfl, rfl⟩⟩, ⟨_, rfl, .inl ⟨rfl, rfl⟩⟩, ⟨_, rfl, .inl ⟨rfl, rfl⟩⟩, ⟨_, rfl, .inl ⟨rfl, rfl⟩⟩, .inl ⟨rfl, rfl⟩, .inl ⟨rfl, rfl⟩, .inl ⟨rfl, rfl⟩, .inl ⟨rfl, rfl⟩⟩
def itemed (R : RS) (v : Value) (it : It) (n n' : Nat) : RS := { R with items := v, its := R.its ++ [it], own := fun q => R.own q ∨ (n ≤ q ∧ q < n') }
theorem yr6 {a : Option Addr} {c : Nat} {s : List UInt8} {b : Nat} {R : RS} (x : Rd a c s b H R) (hsz : R.its.length < R.to_) (kind : Int) (p : Nat) :
   ∃ H3, appendA PP #[25, 25] R.items (.slice (some ⟨H.next, 0, none⟩) 1 1) (H.alloc 21 (ivC (iv0 kind p))) = some (.slice (some ⟨H.next + 1, 0, none⟩) (R.its.length + 1) (R.its.length + 1), H3) ∧ H3.get b = some (rdB a c s R) ∧
     Gx a c s b H R (H3.set b (rdB a c s (itemed R (.slice (some ⟨H.next + 1, 0, none⟩) (R.its.length + 1) (R.its.length + 1)) (it0 kind p) H.next H3.next))) (itemed R (.slice (some ⟨H.next + 1, 0, none⟩) (R.its.length + 1) (R.its.length + 1)) (it0 kind p) H.next H3.next) := by
 obtain ⟨cells, hrow, hall⟩ := x.items
 have hsl := x.short
 have hto := x.sz
 have f1 := jb1 x.fresh 21 (ivC (iv0 kind p))
 have hq1 := jc6 H 21 (ivC (iv0 kind p))
 have nx1 : (H.alloc 21 (ivC (iv0 kind p))).next = H.next + 1 := rfl
 obtain ⟨H3, a1, a2, a3, a4, a5, a6⟩ := j4n (hrow.keep fun q y _ e => jb3 x.fresh e 21 (ivC (iv0 kind p))) f1 (news := ivC (iv0 kind p)) (bytes := 336) rfl rfl (by unfold most; omega) (by unfold most; omega)
 rw [nx1] at a1 a2 a4
 have keep3 : ∀ q y, H.get q = some y → blkOf R.items ≠ some q → H3.get q = some y := fun q y e hn => a6 q y (jb3 x.fresh e _ _) hn
 have hb3 : H3.get b = some (rdB a c s R) := keep3 b _ x.blk x.d1.2.1
 have mlt : ∀ q, mine b R q → q < H.next := fun q h => x.lt q (x.mo q h).1
 refine ⟨H3, by rw [j8h rfl hq1]; exact a1, hb3, ?_⟩
 generalize hR' : itemed R (.slice (some ⟨H.next + 1, 0, none⟩) (R.its.length + 1) (R.its.length + 1)) (it0 kind p) H.next H3.next = R'
 have ei : R'.items = .slice (some ⟨H.next + 1, 0, none⟩) (R.its.length + 1) (R.its.length + 1) := by rw [← hR']; rfl
 have eI : R'.its = R.its ++ [it0 kind p] := by rw [← hR']; rfl
 have en : R'.nodes = R.nodes ∧ R'.nds = R.nds ∧ R'.want = R.want ∧ R'.wl = R.wl ∧ R'.to_ = R.to_ ∧ R'.at_ = R.at_ ∧ R'.opened = R.opened := by rw [← hR']; exact ⟨rfl, rfl, rfl, rfl, rfl, rfl, rfl⟩
 have eo : ∀ q, R'.own q ↔ (R.own q ∨ (H.next ≤ q ∧ q < H3.next)) := by rw [← hR']; exact fun _ => Iff.rfl
 have hlen : R'.its.length = R.its.length + 1 := by rw [eI]; simp
 have bi : ∀ q, blkOf R'.items = some q → q = H.next + 1 := fun q h => by rw [ei] at h; injection h with h; exact h.symm
 have mn : ∀ q, mine b R' q → mine b R q ∨ H.next ≤ q := fun q hq => by
   rcases hq with h | h | h | h
   · exact .inl (.inl h)
   · rw [en.2.2.1] at h; exact .inl (.inr (.inl h))
   · have := bi q h; right; omega
   · rw [en.1] at h; exact .inl (.inr (.inr (.inr h)))
 have kF : ∀ q y, (R.own q ∧ ¬ mine b R q) → H.get q = some y → (R'.own q ∧ ¬ mine b R' q) ∧ H3.get q = some y := fun q y hq e => by
   refine ⟨⟨(eo q).mpr (.inl hq.1), fun hm => ?_⟩, keep3 q y e fun h => hq.2 (.inr (.inr (.inl h)))⟩
   rcases mn q hm with h | h
   · exact hq.2 h
   · have := x.lt q hq.1; omega
 have rd : Rd a c s b (H3.set b (rdB a c s R')) R' := by
   refine x.turn2 (by omega) a5 (fun q y e hn => keep3 q y e fun h => hn (.inr (.inr (.inl h)))) (fun q h => (eo q).mpr (.inl h)) (fun q h => ?_) (fun q h hm => (eo q).mpr (.inr ⟨h, ?_⟩)) mn (fun q ho hm => ?_) ?_ ⟨by rw [en.2.2.1]; exact x.d1.1, fun h => ?_, by rw [en.1]; exact x.d1.2.2⟩ (fun q hq => ⟨fun h => ?_, ?_⟩) (fun q hq h => ?_) ?_ ?_ ⟨?_, ?_, ?_⟩
   · rcases (eo q).mp h with h | h
     · have := x.lt q h; omega
     · exact h.2
   · rcases hm with e | e | e | e
     · have := x.ltN; omega
     · rw [en.2.2.1] at e; have := mlt q (.inr (.inl e)); omega
     · have := bi q e; omega
     · rw [en.1] at e; have := mlt q (.inr (.inr (.inr e))); omega
   · rcases mn q hm with h | h
     · exact h
     · have := x.lt q ho; omega
   · rw [en.2.2.1, en.2.2.2.1]
     exact (show WantOk H R.want R.wl from x.want).keep fun q y hq e => keep3 q y e (x.d2 q hq).1
   · have := bi b h; have := x.ltN; omega
   · rw [en.2.2.1] at hq; have := bi q h; have := mlt q (.inr (.inl hq)); omega
   · rw [en.2.2.1] at hq; rw [en.1]; exact (x.d2 q hq).2
   · rw [en.1] at h; have := bi q hq; have := mlt q (.inr (.inr (.inr h))); omega
   · refine ⟨cells ++ ivC (iv0 kind p), .inr ⟨H.next + 1, by rw [ei, hlen], a2, by rw [hlen]; exact a3⟩, ?_⟩
     rw [eI]
     exact All2.snoc (y4v _ _ _ _) (hall.mono fun _ _ h => h.keep kF)
   · rw [en.1, en.2.1]
     obtain ⟨cs, h1, h2⟩ := x.nodes
     exact ⟨cs, h1.keep fun q y hq e => keep3 q y e fun h => x.d3 q h hq, h2.mono fun _ _ h => h.keep kF⟩
   · rw [hlen, en.2.2.2.2.1]; omega
   · rw [en.2.1, en.2.2.2.2.1]; exact hto.2.1
   · rw [en.2.2.2.2.1, en.2.2.2.2.2.1, en.2.2.2.2.2.2]; exact hto.2.2
 refine ⟨rd, ⟨by show H.next ≤ H3.next; omega, fun q y e hn => ?_, rd.fresh⟩, fun q h => ?_, fun q h => (eo q).mpr (.inl h), mn⟩
 · rw [Heap.get_set, if_neg (fun e' : q = b => hn (.inl e'))]
   exact keep3 q y e fun h => hn (.inr (.inr (.inl h)))
 · rcases (eo q).mp h with h | h
   · exact .inl h
   · exact .inr h.1
theorem jq4 {v : Value} {es n : Nat} {cells : List Value} (h : Row H v es n cells) : (∃ y, v = .slice y n n) ∧ veq v v = true := by
 rcases h with ⟨rfl, rfl, _⟩ | ⟨q, rfl, _⟩ <;> exact ⟨⟨_, rfl⟩, ji8 _ _ _⟩
theorem code55 : codeOf Tryz.f55 = .seq (rF Tryz.f55 0) (.seq (rT Tryz.f55 1) (.seq (rF Tryz.f55 2) (.seq (rF Tryz.f55 3) .ret))) := by kernel_rfl
theorem j02 {N : Nat} {hk : Hook} {D : Nat} {a : Option Addr} {c : Nat} {s : List UInt8} {b : Nat} {R : RS} (P : PK N hk) (x : Rd a c s b H R) (lv : Lv R.ps) (hk0 : R.k.kind ≠ 0) (kind : Int) (hD : 8 ≤ D) :
   An a c s b H R (CH N hk D 55 #[.pointer (some ⟨b, 0, none⟩), .int .i64 kind] H) 0 vN (.ok R.its.length (nextP s (addIt R.ps (it0 kind R.at_)))) := by
 obtain ⟨D, rfl⟩ : ∃ q, D = q + 1 := ⟨D - 1, by omega⟩
 have hh := P.hh
 have ht : R.at_ < R.to_ := lv.tok hk0
 have hi : R.its.length ≤ R.at_ := lv.its
 obtain ⟨H3, a1, b3, g3⟩ := yr6 x (by omega) kind R.at_
 obtain ⟨cells, hrow, _⟩ := x.items
 have hv := (jq4 hrow).2
 obtain ⟨H4, R4, _, c4, rfl, g4', p4, lv4, r4, w4⟩ := yq9 (D := D) P g3.rd (by omega)
 have c4 : CH N hk D 18 #[.pointer (some ⟨b, 0, none⟩)] (H3.set b (rdB a c s ({ R with items := .slice (some ⟨H.next + 1, 0, none⟩) (R.its.length + 1) (R.its.length + 1) } : RS))) = some (.ret (.tuple #[]), H4) := c4
 have g4 := g3.trans x g4'
 have p4' : R4.ps = nextP s (addIt R.ps (it0 kind R.at_)) := p4
 have hlen : R4.its.length = R.its.length + 1 := by
   have h1 : R4.its = (nextP s (addIt R.ps (it0 kind R.at_))).its := by rw [← p4']; rfl
   rw [h1, (jb0 s _).2.1]
   show (R.its ++ [_]).length = _
   simp
 obtain ⟨cells4, hrow4, _⟩ := g4.rd.items
 obtain ⟨y4, hy4⟩ := (jq4 hrow4).1
 have hb1 : (H.alloc 21 (ivC (iv0 kind R.at_))).get b = some (rdB a c s R) := jb3 x.fresh x.blk _ _
 have hs : IntKind.i64.wrap (((R.its.length + 1 : Nat) : Int) - 1) = (R.its.length : Int) := by have := x.short; have := x.sz; rw [jb2 (by omega) (by omega)]; omega
 have hU := jb8 (P := PP) (okf := okC) (prf := prS) (X := XX) (N := N) (hk := hk) (d := D) (args := #[.pointer (some ⟨b, 0, none⟩), .int .i64 kind]) (H := H) (hh _ _ _ rfl) Tryz.func55 (c := codeOf Tryz.f55) rfl rfl rfl (pr := pr55) rfl
 rw [code55] at hU
 generalize hF : finG PP okC prS XX (CH N hk (D)) N Tryz.f55 = F at hU
 have lL := lX4 Tryz.f55 0 1 2 3
 conv at lL in (occs := *) (rgnX _ _) => all_goals simp only [rX, opsAt, Tryz.f55, dL.o, reduceIte, Nat.reduceEqDiff]
 obtain ⟨l0, l1, l2, l3⟩ := lL
 refine ⟨H4, R4, _, hU.trans ?_, rfl, g4, p4', p4' ▸ lv4, ⟨⟨r4.r.pos, r4.r.word, r4.r.wat, r4.r.index, r4.r.top⟩, r4.le, by rw [hlen]; exact Nat.le_succ _⟩, w4⟩
 simp (decide := true) only [↓jb9, jh4, ↓jk6 l1, ↓j4i, ↓jp3, jf1, pr55, ↓uG.o, dG.o, ja1, ja5, reduceIte, ↓ja0 l0, dA.o, jj7 x.blk, jg0 x.blk, y1c, yr4, yr5, a1, y0r b3 (.slice (some ⟨H.next + 1, 0, none⟩) (R.its.length + 1) (R.its.length + 1)) rfl]
 rw [jo5 (by simp (decide := true) only [List.nil_append, List.cons_append, List.all_cons, List.all_nil, pairChkE, l1, List.getElem?_cons_zero, List.getElem?_cons_succ, guardBE, qval, opK, builtinK, dG.o, ja1, reduceIte, Bool.and_self, jj7 x.blk, jj7 hb1, hv])]
 simp (decide := true) only [↓jb9, ↓uG.o, dG.o, ja1, reduceIte, ↓ja0 l2, ↓ja0 l3, dA.o, ja3 Tryz.func18 rfl rfl c4, jj7 g4.rd.blk, hy4, ja7 (ts := #[25]) rfl undItems, hlen, hs]
 rw [← hF, ja4 (l := [.int .i64 (R.its.length : Int)]) (by simp (decide := true) [Tryz.f55, resE, ja1])]
 rfl
end Go.Am
namespace Go.Am
set_option maxRecDepth 100000
theorem All2.at {α : Type} {Q : α → List Value → Prop} {w : Nat} (hw : ∀ x u, Q x u → u.length = w) : ∀ {l : List α} {cells : List Value} (_ : All2 Q l cells) {k : Nat} (hk : k < l.length), ∃ pre u post, cells = pre ++ u ++ post ∧ pre.length = k * w ∧ Q l[k] u ∧ ∀ y v, Q y v → All2 Q (l.set k y) (pre ++ v ++ post)
 | [], _, _, _, hk => by simp at hk
 | x :: l, cells, ⟨u, v, e, q, r⟩, 0, hk => ⟨[], u, v, by simpa using e, by simp, q, fun y w hy => ⟨w, v, by simp, hy, r⟩⟩
 | x :: l, cells, ⟨u, v, e, q, r⟩, k + 1, hk => by
   obtain ⟨pre, m, post, e1, e2, e3, e4⟩ := All2.at hw r (k := k) (by simpa using hk)
   refine ⟨u ++ pre, m, post, by rw [e, e1]; simp, by simp [e2, hw x u q, Nat.add_mul]; omega, by simpa using e3, fun y w hy => ?_⟩
   exact ⟨u, pre ++ w ++ post, by simp, q, e4 y w hy⟩
theorem RfR.len {H : Heap} {F : Nat → Prop} {x : Rf} {u : List Value} (h : RfR H F x u) : u.length = 3 := by obtain ⟨v, e, _⟩ := h; rw [e]; rfl
theorem ItR.len {H : Heap} {F : Nat → Prop} (x : It) (u : List Value) (h : ItR H F x u) : u.length = 21 := by
 obtain ⟨u1, u2, u3, u4, vp, ve, vk, vl, e, h1, h2, h3, h4, _⟩ := h
 have a1 := h1.len
 have a2 := h2.len
 have a3 := h3.len
 have a4 := h4.len
 rw [e]
 simp [a1, a2, a3, a4]
theorem Ints.nil {H : Heap} {F : Nat → Prop} {v : Value} (h : Ints H F v []) : v = nil0 := by
 rcases h with h | ⟨_, _, _, _, h⟩
 · exact h.1
 · exact absurd rfl h
theorem Refs.nil {H : Heap} {F : Nat → Prop} {v : Value} (h : Refs H F v []) : v = nil0 := by
 rcases h with h | ⟨_, _, _, _, _, _, h⟩
 · exact h.1
 · exact absurd rfl h
theorem RfR.zero {H : Heap} {F : Nat → Prop} {u : List Value} (h : RfR H F rf0 u) : u = [.string .empty, .int .i64 0, nil0] := by
 obtain ⟨v, e, h⟩ := h
 rw [e, h.nil]
 rfl
theorem ItR.zero {H : Heap} {F : Nat → Prop} {kind : Int} {p : Nat} {u : List Value} (h : ItR H F (it0 kind p) u) : u = ivC (iv0 kind p) := by
 obtain ⟨u1, u2, u3, u4, vp, ve, vk, vl, e, h1, h2, h3, h4, h5, h6, h7, h8⟩ := h
 rw [e, h1.zero, h2.zero, h3.zero, h4.zero, h5.nil, h6.nil, h7.nil, h8.nil]
 rfl
theorem j4v {H : Heap} {q : Nat} {pre u post : List Value} {es : Nat} (h : H.get q = some ⟨pre ++ u ++ post, true, es, none⟩) : ldN H ⟨q, pre.length, none⟩ u.length = some (.agg u.toArray, H) := by
 simp only [ldN, look, h]
 rw [if_pos (by simp <;> omega)]
 have : ((pre ++ u ++ post).drop pre.length).take u.length = u := by
   rw [List.append_assoc, List.drop_left, List.take_left]
 rw [this]
theorem yr7 {H : Heap} {q : Nat} {pre u post v : List Value} {es : Nat} (h : H.get q = some ⟨pre ++ u ++ post, true, es, none⟩) (hl : v.length = u.length) (h1 : v.all Value.oneCell' = true) : st H ⟨q, pre.length, none⟩ v = some (undef, H.set q ⟨pre ++ v ++ post, true, es, none⟩) := by
 simp only [st, look, h]
 rw [if_pos ⟨trivial, by simp; omega, h1⟩]
 have : over (pre ++ u ++ post) pre.length v = pre ++ v ++ post := by
   unfold over
   have e1 : (pre ++ u ++ post).take pre.length = pre := by rw [List.append_assoc, List.take_left]
   have e2 : (pre ++ u ++ post).drop (pre.length + v.length) = post := by
     rw [hl, show pre.length + u.length = (pre ++ u).length by simp, List.drop_left]
   rw [e1, e2]
 rw [this]
theorem ya6 {a : Option Addr} {c : Nat} {s : List UInt8} {b : Nat} {H : Heap} {R : RS} (x : Rd a c s b H R) {k : Nat} (hk : k < R.its.length) : ∃ q cells, R.items = .slice (some ⟨q, 0, none⟩) R.its.length R.its.length ∧ H.get q = some ⟨cells, true, 21, none⟩ ∧ All2 (ItR H fun q => R.own q ∧ ¬ mine b R q) R.its cells ∧ cells.length = R.its.length * 21 := by
 obtain ⟨cells, h1, h2⟩ := x.items
 rcases h1 with ⟨_, e, _⟩ | ⟨q, e1, e2, e3⟩
 · rw [List.length_eq_zero_iff] at e; rw [e] at hk; simp at hk
 · exact ⟨q, cells, e1, e2, h2, e3⟩
theorem j2e {q n k : Nat} (hk : k < n) : indexAddrA PP 25 (.slice (some ⟨q, 0, none⟩) n n) (.int .i64 (k : Int)) = some (.pointer (some ⟨q, k * 21, none⟩)) := by
 simp [indexAddrA, szItem, at_, Addr.add]
 omega
theorem jx2 {a : Option Addr} {c : Nat} {s : List UInt8} {b : Nat} {H : Heap} {R : RS} (x : Rd a c s b H R) {k : Nat} (hk : k < R.its.length) {kind : Int} {p : Nat} (hz : R.its[k] = it0 kind p) : ∃ q, R.items = .slice (some ⟨q, 0, none⟩) R.its.length R.its.length ∧ loadA PP 40 (.pointer (some ⟨q, k * 21, none⟩)) H = some (.agg (ivC (iv0 kind p)).toArray, H) := by
 obtain ⟨q, cells, e1, e2, e3, e4⟩ := ya6 x hk
 obtain ⟨pre, u, post, f1, f2, f3, _⟩ := All2.at ItR.len e3 hk
 rw [hz] at f3
 rw [f3.zero] at f1
 refine ⟨q, e1, ?_⟩
 rw [f1] at e2
 simp only [loadA, agItem, szItem]
 rw [← f2]
 exact j4v e2
theorem j3q (H : Heap) : allocA PP 40 H = some (.pointer (some ⟨H.next, 0, none⟩), H.alloc 1 (ivC (iv0 0 0))) := by simp only [allocA, zeroItem, esItem, mk]
theorem y4w {z0 : Nat} {H : Heap} {own : Nat → Prop} {q : Nat} {i : Iv} (h : Xi z0 H own q i) : (ivC i).all Value.oneCell' = true := by
 simp only [ivC, List.all_cons, List.all_nil, h.n.one.1, h.f.one.1, h.t.one.1, h.o.one.1, h.k.one.1, h.l.one.1, h.e.one.1, h.p.one.1]
 rfl
theorem j4w (kind : Int) (p : Nat) : (ivC (iv0 kind p)).all Value.oneCell' = true := rfl
theorem y1d (H : Heap) (i : Iv) : boxA PP 40 (.agg (ivC i).toArray) H = some (.pointer (some ⟨H.next, 0, none⟩), H.alloc 1 (ivC i)) := by
 simp only [boxA, esItem, mk, Value.cells]
theorem j4x {H : Heap} {q : Nat} {i : Iv} (h : H.get q = some (ivB i)) {v : List Value} (hl : v.length = 21) (h1 : v.all Value.oneCell' = true) : storeA PP 40 (.pointer (some ⟨q, 0, none⟩)) (.agg v.toArray) H = some (undef, H.set q ⟨v, true, 1, none⟩) := by
 have h' : H.get q = some ⟨[] ++ ivC i ++ [], true, 1, none⟩ := by simpa [ivB] using h
 have := yr7 h' (v := v) (by rw [hl]; rfl) h1
 have hc : (Value.agg v.toArray).cells.size = 21 := by simpa [Value.cells] using hl
 have hl : (Value.agg v.toArray).cells.toList = v := by simp [Value.cells]
 simp only [storeA, szItem]
 unfold stV
 rw [if_pos hc, hl]
 simpa using this
theorem j2f {H : Heap} {q : Nat} {i : Iv} (h : H.get q = some (ivB i)) : loadA PP 40 (.pointer (some ⟨q, 0, none⟩)) H = some (.agg (ivC i).toArray, H) := by
 have h' : H.get q = some ⟨[] ++ ivC i ++ [], true, 1, none⟩ := by simpa [ivB] using h
 simp only [loadA, agItem, szItem]
 exact j4v (pre := []) h'
section
variable {a : Option Addr} {c : Nat} {s : List UInt8} {b : Nat} {H0 H H' : Heap} {R0 R R' : RS} {q : Nat} 
theorem XF.nil {z0 : Nat} {l : List Nat} (h : l = []) {F : Nat → Prop} : Ints H F nil0 l := .inl ⟨rfl, h⟩
theorem St.init (x0 : Rd a c s b H0 R0) (g : Gx a c s b H0 R0 H R) (h1 : H0.next ≤ q) (h2 : q < H.next) (h3 : ¬ R.own q) (kind : Int) (p : Nat) : St a c s b H0 R0 (H.set q (ivB (iv0 kind p))) R q (iv0 kind p) :=
 ⟨g.other x0 h1 h2 h3 _, ⟨h1, h2, h3, jb4 _ _ _, .inl ⟨rfl, rfl⟩, .inl ⟨rfl, rfl⟩, .inl ⟨rfl, rfl⟩, .inl ⟨rfl, rfl⟩, .inl ⟨rfl, rfl⟩, .inl ⟨rfl, rfl⟩, .inl ⟨rfl, rfl⟩, .inl ⟨rfl, rfl⟩⟩, Nat.zero_le _, Nat.zero_le _⟩
theorem code56 : codeOf Tryz.f56 = .seq (rF Tryz.f56 0) (.seq (rT Tryz.f56 1) (.seq (rF Tryz.f56 2) .ret)) := by kernel_rfl
theorem ya7 {N : Nat} {hk : Hook} {D : Nat} {i : Iv} (P : PK N hk) (x0 : Rd a c s b H0 R0) (h : St a c s b H0 R0 H R q i) {k : Nat} (hk' : k < R.its.length) (hD : 1 ≤ D) :
   ∃ H' R', CH N hk D 56 #[.pointer (some ⟨b, 0, none⟩), .int .i64 (k : Int), .agg (ivC i).toArray] H = some (.ret (.int .i64 (k : Int)), H') ∧ Gx a c s b H0 R0 H' R' ∧ R'.ps = setIt R.ps k i.x ∧ Rs R R' ∧ R'.wl = R.wl := by
 obtain ⟨D, rfl⟩ : ∃ q, D = q + 1 := ⟨D - 1, by omega⟩
 have hh := P.hh
 have x := h.g.rd.alloc 1 (ivC i)
 obtain ⟨qI, cells, e1, e2, e3, e4⟩ := ya6 x hk'
 have mI : mine b R qI := .inr (.inr (.inl (by rw [e1]; rfl)))
 have nb : qI ≠ b := fun e => x.d1.2.1 (by rw [e1, ← e]; rfl)
 have nG : GE.next ≤ qI := (x.mo qI mI).2
 have bI : ∀ z, blkOf R.items = some z → z = qI := fun z hz => by rw [e1] at hz; injection hz with hz; exact hz.symm
 let own' : Nat → Prop := fun z => R.own z ∨ (H0.next ≤ z ∧ z < H.next)
 let R' : RS := { R with its := R.its.set k i.x, own := own' }
 have hn1 : (H.alloc 1 (ivC i)).next = H.next + 1 := rfl
 have emn : ∀ z, mine b R' z ↔ mine b R z := fun z => Iff.rfl
 have key : ∀ blk : Blk, ∀ z y, (R.own z ∧ ¬ mine b R z) → (H.alloc 1 (ivC i)).get z = some y → (R'.own z ∧ ¬ mine b R' z) ∧ ((H.alloc 1 (ivC i)).set qI blk).get z = some y := fun blk z y hz e => by
   refine ⟨⟨.inl hz.1, hz.2⟩, ?_⟩
   rw [Heap.get_set, if_neg (fun e' : z = qI => hz.2 (e' ▸ mI))]
   exact e
 have knew : ∀ blk : Blk, ∀ z y, (H0.next ≤ z ∧ z < H.next ∧ ¬ R.own z) → H.get z = some y → (R'.own z ∧ ¬ mine b R' z) ∧ ((H.alloc 1 (ivC i)).set qI blk).get z = some y := fun blk z y hz e => by
   refine ⟨⟨.inr ⟨hz.1, hz.2.1⟩, fun hm => hz.2.2 (x.mo z hm).1⟩, ?_⟩
   rw [Heap.get_set, if_neg (fun e' : z = qI => hz.2.2 (e' ▸ (x.mo qI mI).1))]
   exact jb3 h.g.fr.fresh e _ _
 have iR : ∀ blk : Blk, ItR ((H.alloc 1 (ivC i)).set qI blk) (fun z => R'.own z ∧ ¬ mine b R' z) i.x (ivC i) := fun blk => by
   have kx : ∀ z y, XF H0.next H R.own q i.ev i.pv z → H.get z = some y → (R'.own z ∧ ¬ mine b R' z) ∧ ((H.alloc 1 (ivC i)).set qI blk).get z = some y := fun z y hz e => knew blk z y ⟨hz.1, hz.2.1, hz.2.2.1⟩ e
   exact ⟨[_, _, _], [_, _, _], [_, _, _], [_, _, _], _, _, _, _, rfl, ⟨_, rfl, h.x.n.keep kx⟩, ⟨_, rfl, h.x.f.keep kx⟩, ⟨_, rfl, h.x.t.keep kx⟩, ⟨_, rfl, h.x.o.keep kx⟩, h.x.p.keep fun z y hz e => knew blk z y ⟨hz.1, hz.2.1, hz.2.2.1⟩ e, h.x.e.keep fun z y hz e => knew blk z y ⟨hz.1, hz.2.1, hz.2.2.1⟩ e, h.x.k.keep kx, h.x.l.keep kx⟩
 obtain ⟨pre, u, post, f1, f2, f3, f4⟩ := All2.at ItR.len (e3.mono fun _ _ k => k.keep (key ⟨[], true, 21, none⟩)) hk'
 have hu : u.length = 21 := ItR.len _ _ f3
 obtain ⟨pre', u', post', f1', f2', f3', f4'⟩ := All2.at ItR.len (e3.mono fun _ _ k => k.keep (key ⟨pre ++ ivC i ++ post, true, 21, none⟩)) hk'
 have hu' : u'.length = 21 := ItR.len _ _ f3'
 have eqs : pre' = pre ∧ post' = post := by
   rw [f1, List.append_assoc, List.append_assoc] at f1'
   have g1 := List.append_inj f1' (by rw [f2, f2'])
   have g2 := List.append_inj g1.2 (by rw [hu, hu'])
   exact ⟨g1.1.symm, g2.2.symm⟩
 rw [eqs.1, eqs.2] at f4'
 rw [f1] at e2
 have sm := yr7 e2 (v := ivC i) (by rw [hu]; rfl) (y4w h.x)
 have hst : storeA PP 40 (.pointer (some ⟨qI, k * 21, none⟩)) (.agg (ivC i).toArray) (H.alloc 1 (ivC i)) = some (undef, (H.alloc 1 (ivC i)).set qI ⟨pre ++ ivC i ++ post, true, 21, none⟩) := by
   simp only [storeA, szItem]
   unfold stV
   rw [if_pos (by rfl), ← f2]
   exact sm
 have fr2 : Fresh ((H.alloc 1 (ivC i)).set qI ⟨pre ++ ivC i ++ post, true, 21, none⟩) := jd5 x.fresh (x.lt qI (x.mo qI mI).1) _
 have ne : ∀ z y, z ≠ qI → (H.alloc 1 (ivC i)).get z = some y → ((H.alloc 1 (ivC i)).set qI ⟨pre ++ ivC i ++ post, true, 21, none⟩).get z = some y := fun z y hz e => by rw [Heap.get_set, if_neg hz]; exact e
 have rd : Rd a c s b ((H.alloc 1 (ivC i)).set qI ⟨pre ++ ivC i ++ post, true, 21, none⟩) R' := by
   refine ⟨⟨x.gg.next, fun z y e => ?_, fr2⟩, fun z hz => ?_, fun z hz => .inl (x.low z hz), fun z hz => ⟨.inl (x.mo z hz).1, (x.mo z hz).2⟩, ?_, fun y hy => ⟨.inl (x.src y hy).1, (x.src y hy).2⟩, x.cap, x.short, ?_, ?_, x.d1, x.d2, x.d3, ?_, ?_, ?_⟩
   · have hl := jc9 jo0.fresh e
     exact ne z y (by omega) (x.gg.keep z y e)
   · rcases hz with hz | hz
     · exact x.lt z hz
     · show z < H.next + 1; omega
   · exact x.row.keep fun y z hy e => ne _ _ (fun e' : y.block = qI => (x.src y hy).2 (e' ▸ mI)) e
   · exact ne b _ (Ne.symm nb) x.blk
   · exact (show WantOk _ R.want R.wl from x.want).keep fun z y hz e => ne z y (fun e' : z = qI => (x.d2 z hz).1 (by rw [e1, e']; rfl)) e
   · refine ⟨pre ++ ivC i ++ post, .inr ⟨qI, ?_, jb4 _ _ _, ?_⟩, f4' _ _ (iR _)⟩
     · show R.items = .slice (some ⟨qI, 0, none⟩) (R.its.set k i.x).length (R.its.set k i.x).length
       rw [List.length_set]; exact e1
     · show (pre ++ ivC i ++ post).length = (R.its.set k i.x).length * 21
       rw [List.length_set, ← e4, f1]
       have : (ivC i).length = 21 := rfl
       simp only [List.length_append, hu, this]
   · obtain ⟨cs, h1, h2⟩ := x.nodes
     exact ⟨cs, h1.keep fun z y hz e => ne z y (fun e' : z = qI => x.d3 qI (by rw [e1]; rfl) (e' ▸ hz)) e, h2.mono fun _ _ h => h.keep (key _)⟩
   · refine ⟨?_, x.sz.2⟩
     show (R.its.set k i.x).length ≤ R.to_
     rw [List.length_set]; exact x.sz.1
 have g1 := h.g.alloc 1 (ivC i)
 have hl1 := jc6 H 1 (ivC i)
 have hU := jb8 (P := PP) (okf := okC) (prf := prS) (X := XX) (N := N) (hk := hk) (d := D) (args := #[.pointer (some ⟨b, 0, none⟩), .int .i64 (k : Int), .agg (ivC i).toArray]) (H := H) (hh _ _ _ rfl) Tryz.func56 (c := codeOf Tryz.f56) rfl rfl rfl (pr := noPr) rfl
 rw [code56] at hU
 generalize hF : finG PP okC prS XX (CH N hk (D)) N Tryz.f56 = F at hU
 have lL := lX3 Tryz.f56 0 1 2
 conv at lL in (occs := *) (rgnX _ _) => all_goals simp only [rX, opsAt, Tryz.f56, dL.o, reduceIte, Nat.reduceEqDiff]
 obtain ⟨l0, l1, l2⟩ := lL
 refine ⟨_, R', hU.trans ?_, ⟨rd, ⟨?_, fun z y e hn => ?_, fr2⟩, fun z hz => ?_, fun z hz => .inl (g1.own' z hz), fun z hz => g1.mine z hz⟩, rfl, ⟨⟨rfl, rfl, rfl, rfl, rfl⟩, Nat.le_refl _, by show R.its.length ≤ (R.its.set k i.x).length; rw [List.length_set]; exact Nat.le_refl _⟩, rfl⟩
 · simp (decide := true) only [↓uR.o, dG.o, ja1, ja5, reduceIte, ↓ja0 l0, ↓ja0 l1, ↓ja0 l2, dA.o, y1d, jj7 x.blk, e1, (j2e hk'), j2f hl1, hst]
   rw [← hF, ja4 (l := [.int .i64 (k : Int)]) (by simp (decide := true) [Tryz.f56, resE, ja1])]
   rfl
 · have := h.g.fr.next; show H0.next ≤ H.next + 1; omega
 · rw [Heap.get_set, if_neg (fun e' => ?_)]
   · exact g1.fr.keep z y e hn
   · have hl := jc9 x0.fresh e
     rcases g1.mine qI mI with e2 | e2
     · exact hn (e' ▸ e2)
     · omega
 · rcases hz with hz | hz
   · exact h.g.own z hz
   · exact .inr hz.1
end
end Go.Am
