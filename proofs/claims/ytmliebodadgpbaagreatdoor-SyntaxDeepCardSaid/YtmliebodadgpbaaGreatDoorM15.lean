/- Parse: the walk. -/
import Derived.Test.YtmliebodadgpbaaGreatDoorM14
import Derived.Test.YtmliebodadgpbaaGreatDoorM09
open Go.Proofs
namespace Go.Am
set_option maxRecDepth 100000
structure Trd where
 pos : Nat
 name : Rf
 its : List It
 nds : List Nd
 top : List Nat
def ps0 : PS := ⟨0, 0, tk0, 0, [], []⟩
def parseP (s : List UInt8) (nn m fl : Nat) : Option (Ou Trd) :=
 bindM (mustP s 30 (nextP s ps0)) fun _ p => bindM (wordP s p) fun f p => bindM (blockP s (ruP s (exprP s nn) m fl 0) m p) fun l p => if p.at_ < s.length then some (.er (.bad p.at_)) else some (.ok ⟨(nextP s ps0).at_, f, p.its, p.nds, l⟩ p)
def TreeR (H : Heap) (cells : List Value) (t : Trd) : Prop := ∃ vi vn vt ci cn, cells = [.int .i64 (t.pos : Int), .string t.name.word, .int .i64 (t.name.at_ : Int), .slice none 0 0, vi, vn, vt] ∧ t.name.index = [] ∧
 Row H vi 21 t.its.length ci ∧ All2 (ItR H fun _ => True) t.its ci ∧ Row H vn 5 t.nds.length cn ∧ All2 (NdR H fun _ => True) t.nds cn ∧ Ints H (fun _ => True) vt t.top
def codeE : Er → Int
 | .bad _ => 60
 | .deep _ => 61
def ErV (s : List UInt8) (v : Int) : Er → Prop
 | .bad lo => lo = s.length → v = (s.length : Int)
 | .deep z => v = (z : Int)
def rs0 (n : Nat) : RS := ({ at_ := 0, to_ := 0, k := tk0, bad := 0, want := .slice none 0 0, name := false, num := false, opened := 0, pos := 0, word := .empty, wat := 0, index := .slice none 0 0, items := .slice none 0 0, nodes := .slice none 0 0, top := .slice none 0 0, its := [], nds := [], own := fun q => q < n ∨ q = n + 4, wl := 0 } : RS)
theorem es_b : esT PP 34 = 1 := by decide +kernel
theorem y5l (H : Heap) (a : Option Addr) (n c : Nat) : boxA PP 34 (.slice a n c) H = some (.pointer (some ⟨H.next, 0, none⟩), H.alloc 1 [.slice a n c]) := by simp only [boxA, es_b, mk, Value.cells]
theorem y1s (a : Option Addr) (c : Nat) (s : List UInt8) (n : Nat) : buildA PP 62 #[(0, .slice a s.length c)] = some (.agg (rdC a c s (rs0 n)).toArray) := by
 have h : ∀ l : Nat, buildA PP 62 #[(0, .slice a l c)] = some (.agg #[.slice a l c, .int .i64 0, .int .i64 0, .int .i64 0, .int .u64 0, .string .empty, .int .i64 0, .int .i64 0, .int .i64 0, .slice none 0 0, .bool false, .bool false, .int .i64 0, .int .i64 0, .string .empty, .int .i64 0, .slice none 0 0, .slice none 0 0, .slice none 0 0, .slice none 0 0]) := fun l => by kernel_rfl
 exact h _
theorem y8c : esT PP 62 = 1 := by decide +kernel
theorem y66 (H : Heap) (l : List Value) : boxA PP 62 (.agg l.toArray) H = some (.pointer (some ⟨H.next, 0, none⟩), H.alloc 1 l) := by simp only [boxA, y8c, mk, Value.cells]
theorem y8d {a : Option Addr} {c : Nat} {s : List UInt8} {b : Nat} {H : Heap} {R : RS} (h : H.get b = some (rdB a c s R)) (f : Rf) {v : Value} (hv : Value.oneCell' v = true) : storeA PP 24 (.pointer (some ⟨b, 14, none⟩)) (.agg #[.string f.word, .int .i64 (f.at_ : Int), v]) H = some (undef, H.set b (rdB a c s { R with word := f.word, wat := f.at_, index := v })) := by
 simp only [storeA, ya0, stV]
 simp [Value.cells, st, look, h, rdB, rdC, over, Value.oneCell']
 simpa [Value.oneCell'] using hv
def trC (R : RS) : List Value := [.int .i64 (R.pos : Int), .string R.word, .int .i64 (R.wat : Int), R.index, R.items, R.nodes, R.top]
theorem y67 {a : Option Addr} {c : Nat} {s : List UInt8} {b : Nat} {H : Heap} {R : RS} (h : H.get b = some (rdB a c s R)) : loadA PP 28 (.pointer (some ⟨b, 13, none⟩)) H = some (.agg (trC R).toArray, H) := by
 simp only [loadA, yu5, j8p]
 simp [ldN, look, h, rdB, rdC, trC]
theorem y1t {P : Program} {X : Xf} {K : Kf} {d : Option Tmp} {t : TypeId} {p : String} {af : Array Edge} {E : Env} {ds : List Deferred} {H : Heap} {k : KE} {kp : List PanicEntry → KE} {gd : Option (Nat × Bool)} (i : Tmp) (ts : Array TypeId) (g : FuncId) (cap : Array Value) (h : E i = .func (.func g) #[] cap) :
   opE P X K ⟨d, .defer { callee := .value (.tmp i), args := #[], argTypes := ts }, t, p, af, gd⟩ E ds H k kp = k (upd E d undef) ({ target := .fn (.func g) cap, args := #[] } :: ds) H := by
 rw [j9w]
 simp [deferOf, evalE, h]
section
variable {N : Nat} {hk : Hook} {D : Nat} {a : Option Addr} {c : Nat} {s : List UInt8} {H : Heap}
theorem rd0 (hG : Ext GE H) (hr : Brow H a s) (hc : s.length ≤ c) (hs : s.length ≤ 1048576) (hok : okP s) : Rd a c s (H.next + 4) (((((H.alloc 1 [.slice a s.length c]).alloc 1 zt).alloc 1 [.int .i64 0, .int .i64 0, .int .i64 0]).alloc 1 [.int .i64 0]).alloc 1 (rdC a c s (rs0 H.next))) (rs0 H.next) := by
 have f0 := hG.fresh
 have x5 : Ext H (((((H.alloc 1 [.slice a s.length c]).alloc 1 zt).alloc 1 [.int .i64 0, .int .i64 0, .int .i64 0]).alloc 1 [.int .i64 0]).alloc 1 (rdC a c s (rs0 H.next))) := (((((Ext.alloc f0 1 [.slice a s.length c]).trans (Ext.alloc (jb1 f0 _ _) 1 zt)).trans (Ext.alloc (jb1 (jb1 f0 _ _) _ _) 1 [.int .i64 0, .int .i64 0, .int .i64 0])).trans (Ext.alloc (jb1 (jb1 (jb1 f0 _ _) _ _) _ _) 1 [.int .i64 0])).trans (Ext.alloc (jb1 (jb1 (jb1 (jb1 f0 _ _) _ _) _ _) _ _) 1 (rdC a c s (rs0 H.next))))
 have mb : ∀ q, mine (H.next + 4) (rs0 H.next) q → q = H.next + 4 := fun q h => by
   rcases h with h | h | h | h
   · exact h
   · cases h
   · cases h
   · cases h
 have nx : ((((((H.alloc 1 [.slice a s.length c]).alloc 1 zt).alloc 1 [.int .i64 0, .int .i64 0, .int .i64 0]).alloc 1 [.int .i64 0]).alloc 1 (rdC a c s (rs0 H.next))) : Heap).next = H.next + 5 := rfl
 refine ⟨hG.trans x5, fun q h => ?_, fun q h => .inl (Nat.lt_of_lt_of_le h hG.next), fun q h => ?_, ?_, fun y hy => ?_, hc, ⟨hs, hok⟩, jc6 _ _ _, .inl rfl, ⟨fun h => (by cases h), fun h => (by cases h), fun h => (by cases h)⟩, fun q h => (by cases h), fun q h => (by cases h), ⟨[], .inl ⟨rfl, rfl, rfl⟩, rfl⟩, ⟨[], .inl ⟨rfl, rfl, rfl⟩, rfl⟩, ⟨Nat.zero_le _, Nat.zero_le _, Nat.zero_le _, Nat.le_refl _, Nat.zero_le _⟩⟩
 · rw [nx]
   rcases h with h | h <;> omega
 · have := mb q h
   subst this
   exact ⟨.inr rfl, by have := hG.next; omega⟩
 · exact hr.keep fun y x _ e => x5.keep _ _ e
 · obtain ⟨z, h1, _⟩ := hr.row y hy
   have hl : y.block < H.next := by
     unfold Am.look at h1
     split at h1
     · cases h1
     · split at h1
       · rename_i w hw; exact jc9 f0 hw
       · cases h1
   exact ⟨.inl hl, fun h => by have := mb _ h; omega⟩
theorem j43 (hh : NH hk) (hG : Ext GE H) (hr : Brow H a s) (hc : s.length ≤ c) (hn : a = none → c = 0) (hN : s.length < N) (hD : 3 ≤ D) {pe : List PanicEntry} {H' : Heap} {e : Er} (h : PanA s (H.next + 4) (((((H.alloc 1 [.slice a s.length c]).alloc 1 zt).alloc 1 [.int .i64 0, .int .i64 0, .int .i64 0]).alloc 1 [.int .i64 0]).alloc 1 (rdC a c s (rs0 H.next))) (rs0 H.next) (some (.pan pe, H')) e) :
   ∃ (v : Int) (H2 : Heap), (∀ E : Env, E 2 = .pointer (some ⟨H.next + 1, 0, none⟩) → E 3 = .pointer (some ⟨H.next + 2, 0, none⟩) → E 4 = .pointer (some ⟨H.next + 3, 0, none⟩) → finG PP okC prS XX (CH N hk D) N Tryz.f8 (.pan pe) E [{ target := .fn (.func 17) #[.pointer (some ⟨H.next, 0, none⟩), .pointer (some ⟨H.next + 1, 0, none⟩), .pointer (some ⟨H.next + 2, 0, none⟩), .pointer (some ⟨H.next + 3, 0, none⟩)], args := #[] }] H' = some (.ret (.tuple #[.agg zt.toArray, .agg (placeC s v), .int .i64 (codeE e)]), H2)) ∧ Ext H H2 ∧ ErV s v e := by
 obtain ⟨d, rfl⟩ : ∃ d, D = d + 3 := ⟨D - 3, by omega⟩
 have key : ∀ (v code : Int), Fr (mine (H.next + 4) (rs0 H.next)) (((((H.alloc 1 [.slice a s.length c]).alloc 1 zt).alloc 1 [.int .i64 0, .int .i64 0, .int .i64 0]).alloc 1 [.int .i64 0]).alloc 1 (rdC a c s (rs0 H.next))) H' → pe = [haltE v code] → ∃ H2 : Heap, (∀ E : Env, E 2 = .pointer (some ⟨H.next + 1, 0, none⟩) → E 3 = .pointer (some ⟨H.next + 2, 0, none⟩) → E 4 = .pointer (some ⟨H.next + 3, 0, none⟩) → finG PP okC prS XX (CH N hk (d + 3)) N Tryz.f8 (.pan pe) E [{ target := .fn (.func 17) #[.pointer (some ⟨H.next, 0, none⟩), .pointer (some ⟨H.next + 1, 0, none⟩), .pointer (some ⟨H.next + 2, 0, none⟩), .pointer (some ⟨H.next + 3, 0, none⟩)], args := #[] }] H' = some (.ret (.tuple #[.agg zt.toArray, .agg (placeC s v), .int .i64 code]), H2)) ∧ Ext H H2 := by
   intro v code fr hpe
   have f0 := hG.fresh
   have f1 := jb1 f0 1 [.slice a s.length c]
   have f2 := jb1 f1 1 zt
   have f3 := jb1 f2 1 [.int .i64 0, .int .i64 0, .int .i64 0]
   have f4 := jb1 f3 1 [.int .i64 0]
   have nm : ∀ q, q < H.next + 4 → ¬ mine (H.next + 4) (rs0 H.next) q := fun q h hm => by
     rcases hm with h | h | h | h
     · omega
     · cases h
     · cases h
     · cases h
   have k0 : ∀ q y, H.get q = some y → H'.get q = some y := fun q y e => by
     have hl := jc9 f0 e
     exact fr.keep q y (jb3 f4 (jb3 f3 (jb3 f2 (jb3 f1 (jb3 f0 e _ _) _ _) _ _) _ _) _ _) (nm q (by omega))
   have b1 : H'.get H.next = some ⟨[.slice a s.length c], true, 1, none⟩ := fr.keep _ _ (jb3 f4 (jb3 f3 (jb3 f2 (jb3 f1 (jc6 H _ _) _ _) _ _) _ _) _ _) (nm _ (by omega))
   have b2 : H'.get (H.next + 1) = some ⟨zt, true, 1, none⟩ := fr.keep _ _ (jb3 f4 (jb3 f3 (jb3 f2 (jc6 (H.alloc 1 [.slice a s.length c]) _ _) _ _) _ _) _ _) (nm _ (by omega))
   have b3 : H'.get (H.next + 2) = some (pl 0 0 0) := fr.keep _ _ (jb3 f4 (jb3 f3 (jc6 ((H.alloc 1 [.slice a s.length c]).alloc 1 zt) _ _) _ _) _ _) (nm _ (by omega))
   have b4 : H'.get (H.next + 3) = some ⟨[.int .i64 0], true, 1, none⟩ := fr.keep _ _ (jb3 f4 (jc6 (((H.alloc 1 [.slice a s.length c]).alloc 1 zt).alloc 1 [.int .i64 0, .int .i64 0, .int .i64 0]) _ _) _ _) (nm _ (by omega))
   have hb' : Brow H' a s := hr.keep fun y x _ e => k0 _ _ e
   obtain ⟨H2, r1, r2, r3, r4, r5, r6, r7⟩ := y5k (d := d) hh fr.fresh hb' hc hn hN b1 b2 rfl b3 b4 ⟨by omega, by omega, by omega, by omega, by omega, by omega⟩ v code
   refine ⟨H2, fun E e2 e3 e4 => ?_, ⟨?_, fun q y e => ?_, r6⟩⟩
   · rw [hpe]
     have ec : (#[] ++ #[.pointer (some ⟨H.next, 0, none⟩), .pointer (some ⟨H.next + 1, 0, none⟩), .pointer (some ⟨H.next + 2, 0, none⟩), .pointer (some ⟨H.next + 3, 0, none⟩)] : Array Value) = #[.pointer (some ⟨H.next, 0, none⟩), .pointer (some ⟨H.next + 1, 0, none⟩), .pointer (some ⟨H.next + 2, 0, none⟩), .pointer (some ⟨H.next + 3, 0, none⟩)] := by simp
     refine y1r (l := [.agg zt.toArray, .agg (placeC s v), .int .i64 code]) (v := .tuple #[]) (e' := haltR v code) Tryz.func17 rfl (c := codeOf Tryz.f17) rfl rfl rfl (fun kd => by rw [ec]; exact r1 kd) rfl ?_ rfl
     simp (decide := true) only [Tryz.f8, resE, e2, e3, e4, yu8 r2 rfl, y21 r4, load30 (show H2.get (H.next + 2) = some (pl _ _ _) from r3)]
     rfl
   · have h1 := fr.next
     have h2 : ((((((H.alloc 1 [.slice a s.length c]).alloc 1 zt).alloc 1 [.int .i64 0, .int .i64 0, .int .i64 0]).alloc 1 [.int .i64 0]).alloc 1 (rdC a c s (rs0 H.next))) : Heap).next = H.next + 5 := rfl
     omega
   · have hl := jc9 f0 e
     exact r7 q y (k0 q y e) (by omega) (by omega) (by omega)
 cases e with
 | bad lo =>
   obtain ⟨z, H1, h1, h2, h3⟩ := h
   injection h1 with h1
   injection h1 with h1 h4
   injection h1 with h1
   subst h4
   obtain ⟨H2, k1, k2⟩ := key z 60 h2 h1
   exact ⟨z, H2, k1, k2, h3⟩
 | deep z =>
   obtain ⟨H1, h1, h2⟩ := h
   injection h1 with h1
   injection h1 with h1 h4
   injection h1 with h1
   subst h4
   obtain ⟨H2, k1, k2⟩ := key (z : Int) 61 h2 h1
   exact ⟨(z : Int), H2, k1, k2, rfl⟩
end
def PRes (H : Heap) (s : List UInt8) (r : Am.R) : Ou Trd → Prop
 | .ok t _ => ∃ H', Ext H H' ∧ ∃ cells, r = some (.ret (.tuple #[.agg cells.toArray, .agg #[.int .i64 0, .int .i64 0, .int .i64 0], .int .i64 0]), H') ∧ cells.length = 7 ∧ TreeR H' cells t ∧ t.its.length ≤ s.length ∧ t.nds.length ≤ s.length
 | .er e => ∃ H', Ext H H' ∧ ∃ v, r = some (.ret (.tuple #[.agg zt.toArray, .agg (placeC s v), .int .i64 (codeE e)]), H') ∧ ErV s v e
theorem yv1 {a : Option Addr} {c : Nat} {s : List UInt8} {H : Heap} {HE : Heap} {RE : RS} {l : List Nat} (hG : Ext GE H) (x0 : Rd a c s (H.next + 4) (((((H.alloc 1 [.slice a s.length c]).alloc 1 zt).alloc 1 [.int .i64 0, .int .i64 0, .int .i64 0]).alloc 1 [.int .i64 0]).alloc 1 (rdC a c s (rs0 H.next))) (rs0 H.next)) (g9 : Gx a c s (H.next + 4) (((((H.alloc 1 [.slice a s.length c]).alloc 1 zt).alloc 1 [.int .i64 0, .int .i64 0, .int .i64 0]).alloc 1 [.int .i64 0]).alloc 1 (rdC a c s (rs0 H.next))) (rs0 H.next) HE RE) (hix : RE.index = .slice none 0 0) (hv : Ints HE (fun z => H.next + 5 ≤ z) RE.top l) :
   ∃ Ha Hb Hc, HE.get H.next = some ⟨[.slice a s.length c], true, 1, none⟩ ∧ storeA PP 28 (.pointer (some ⟨H.next + 1, 0, none⟩)) (.agg (trC RE).toArray) HE = some (undef, Ha) ∧ storeA PP 30 (.pointer (some ⟨H.next + 2, 0, none⟩)) (.agg #[.int .i64 0, .int .i64 0, .int .i64 0]) Ha = some (undef, Hb) ∧ storeA PP 31 (.pointer (some ⟨H.next + 3, 0, none⟩)) (.int .i64 0) Hb = some (undef, Hc) ∧
     loadA PP 28 (.pointer (some ⟨H.next + 1, 0, none⟩)) Hc = some (.agg (trC RE).toArray, Hc) ∧ loadA PP 30 (.pointer (some ⟨H.next + 2, 0, none⟩)) Hc = some (.agg #[.int .i64 0, .int .i64 0, .int .i64 0], Hc) ∧ loadA PP 31 (.pointer (some ⟨H.next + 3, 0, none⟩)) Hc = some (.int .i64 0, Hc) ∧ Ext H Hc ∧ TreeR Hc (trC RE) ⟨RE.pos, ⟨RE.word, RE.wat, []⟩, RE.its, RE.nds, l⟩ := by
 have f0 := hG.fresh
 have f1 := jb1 f0 1 [.slice a s.length c]
 have f2 := jb1 f1 1 zt
 have f3 := jb1 f2 1 [.int .i64 0, .int .i64 0, .int .i64 0]
 have f4 := jb1 f3 1 [.int .i64 0]
 have b1r : (((((H.alloc 1 [.slice a s.length c]).alloc 1 zt).alloc 1 [.int .i64 0, .int .i64 0, .int .i64 0]).alloc 1 [.int .i64 0]).alloc 1 (rdC a c s (rs0 H.next))).get H.next = some ⟨[.slice a s.length c], true, 1, none⟩ := jb3 f4 (jb3 f3 (jb3 f2 (jb3 f1 (jc6 H _ _) _ _) _ _) _ _) _ _
 have b2r : (((((H.alloc 1 [.slice a s.length c]).alloc 1 zt).alloc 1 [.int .i64 0, .int .i64 0, .int .i64 0]).alloc 1 [.int .i64 0]).alloc 1 (rdC a c s (rs0 H.next))).get (H.next + 1) = some ⟨zt, true, 1, none⟩ := jb3 f4 (jb3 f3 (jb3 f2 (jc6 (H.alloc 1 [.slice a s.length c]) _ _) _ _) _ _) _ _
 have b3r : (((((H.alloc 1 [.slice a s.length c]).alloc 1 zt).alloc 1 [.int .i64 0, .int .i64 0, .int .i64 0]).alloc 1 [.int .i64 0]).alloc 1 (rdC a c s (rs0 H.next))).get (H.next + 2) = some (pl 0 0 0) := jb3 f4 (jb3 f3 (jc6 ((H.alloc 1 [.slice a s.length c]).alloc 1 zt) _ _) _ _) _ _
 have b4r : (((((H.alloc 1 [.slice a s.length c]).alloc 1 zt).alloc 1 [.int .i64 0, .int .i64 0, .int .i64 0]).alloc 1 [.int .i64 0]).alloc 1 (rdC a c s (rs0 H.next))).get (H.next + 3) = some ⟨[.int .i64 0], true, 1, none⟩ := jb3 f4 (jc6 (((H.alloc 1 [.slice a s.length c]).alloc 1 zt).alloc 1 [.int .i64 0, .int .i64 0, .int .i64 0]) _ _) _ _
 have no : ∀ q, H.next ≤ q → q < H.next + 4 → ¬ (rs0 H.next).own q := fun q h1 h2 h => by rcases h with h | h <;> omega
 have nm : ∀ q, q < H.next + 4 → ¬ mine (H.next + 4) (rs0 H.next) q := fun q h hm => by
   rcases hm with h | h | h | h
   · omega
   · cases h
   · cases h
   · cases h
 have b1e := g9.stay x0 (no _ (Nat.le_refl _) (by omega)) b1r
 have b2e := g9.stay x0 (no _ (by omega) (by omega)) b2r
 have b3e := g9.stay x0 (no _ (by omega) (by omega)) b3r
 have b4e := g9.stay x0 (no _ (by omega) (by omega)) b4r
 have k0 : ∀ q y, H.get q = some y → HE.get q = some y := fun q y e => by
   have hl := jc9 f0 e
   exact g9.fr.keep q y (jb3 f4 (jb3 f3 (jb3 f2 (jb3 f1 (jb3 f0 e _ _) _ _) _ _) _ _) _ _) (nm q (by omega))
 have hHRn : ((((((H.alloc 1 [.slice a s.length c]).alloc 1 zt).alloc 1 [.int .i64 0, .int .i64 0, .int .i64 0]).alloc 1 [.int .i64 0]).alloc 1 (rdC a c s (rs0 H.next))) : Heap).next = H.next + 5 := rfl
 have nx9 := g9.fr.next
 rw [hHRn] at nx9
 have fE := g9.fr.fresh
 have hnb : ∀ z, RE.own z → z < H.next ∨ H.next + 4 ≤ z := fun z hz => by
   rcases g9.own z hz with (e2 | e2) | e2
   · exact .inl e2
   · omega
   · rw [hHRn] at e2; omega
 obtain ⟨ci, hri, hai⟩ := g9.rd.items
 obtain ⟨cn, hrn, han⟩ := g9.rd.nodes
 have rd9 := g9.rd
 clear x0 b1r b2r b3r b4r nm no f1 f2 f3 f4 g9
 have oneI : Value.oneCell' RE.items = true := by obtain ⟨y, e⟩ := (jq4 hri).1; rw [e]; rfl
 have oneN : Value.oneCell' RE.nodes = true := by obtain ⟨y, e⟩ := (jq4 hrn).1; rw [e]; rfl
 have allC : (trC RE).all Value.oneCell' = true := by
   simp only [trC, List.all_cons, List.all_nil, oneI, oneN, hv.one.1, hix]
   rfl
 have b32 : (HE.set (H.next + 1) ⟨trC RE, true, 1, none⟩).get (H.next + 2) = some (pl 0 0 0) := by rw [Heap.get_set, if_neg (by omega)]; exact b3e
 have b43 : ((HE.set (H.next + 1) ⟨trC RE, true, 1, none⟩).set (H.next + 2) (pl 0 0 0)).get (H.next + 3) = some ⟨[.int .i64 0], true, 1, none⟩ := by rw [Heap.get_set, if_neg (by omega), Heap.get_set, if_neg (by omega)]; exact b4e
 generalize hHc : ((HE.set (H.next + 1) ⟨trC RE, true, 1, none⟩).set (H.next + 2) (pl 0 0 0)).set (H.next + 3) ⟨[.int .i64 0], true, 1, none⟩ = Hc
 have hkeep : ∀ q y, HE.get q = some y → q ≠ H.next + 1 → q ≠ H.next + 2 → q ≠ H.next + 3 → Hc.get q = some y := fun q y e h1 h2 h3 => by
   rw [← hHc, Heap.get_set, if_neg h3, Heap.get_set, if_neg h2, Heap.get_set, if_neg h1]; exact e
 have hfin : Hc.get (H.next + 1) = some ⟨trC RE, true, 1, none⟩ := by
   rw [← hHc, Heap.get_set, if_neg (by omega), Heap.get_set, if_neg (by omega)]; exact jb4 _ _ _
 have hfin3 : Hc.get (H.next + 2) = some (pl 0 0 0) := by
   rw [← hHc, Heap.get_set, if_neg (by omega)]; exact jb4 _ _ _
 have hfin4 : Hc.get (H.next + 3) = some ⟨[.int .i64 0], true, 1, none⟩ := by rw [← hHc]; exact jb4 _ _ _
 have kM : ∀ q y, RE.own q → HE.get q = some y → Hc.get q = some y := fun q y hq e => by
   have := hnb q hq
   exact hkeep q y e (by omega) (by omega) (by omega)
 refine ⟨_, _, Hc, b1e, j8q b2e rfl (v := trC RE) rfl allC, store30 b32, by rw [← hHc]; exact y20 b43, yu8 hfin rfl, load30 hfin3, y21 hfin4, ⟨?_, fun q y e => ?_, ?_⟩, RE.items, RE.nodes, RE.top, ci, cn, by simp only [trC, hix], rfl, ?_, ?_, ?_, ?_, ?_⟩
 · rw [← hHc]; show H.next ≤ HE.next; omega
 · have hl := jc9 f0 e
   exact hkeep q y (k0 q y e) (by omega) (by omega) (by omega)
 · rw [← hHc]
   exact jd5 (jd5 (jd5 fE (by omega) _) (by show H.next + 2 < HE.next; omega) _) (by show H.next + 3 < HE.next; omega) _
 · exact hri.keep fun q y hq e => kM q y (rd9.mo q (.inr (.inr (.inl hq)))).1 e
 · exact hai.mono fun _ _ h => h.keep fun q y hq e => ⟨trivial, kM q y hq.1 e⟩
 · exact hrn.keep fun q y hq e => kM q y (rd9.mo q (.inr (.inr (.inr hq)))).1 e
 · exact han.mono fun _ _ h => h.keep fun q y hq e => ⟨trivial, kM q y hq.1 e⟩
 · exact hv.keep fun q y hq e => ⟨trivial, hkeep q y e (by omega) (by omega) (by omega)⟩
theorem code8 : codeOf Tryz.f8 = .seq (rF Tryz.f8 0) (.seq (.seq (rF Tryz.f8 1) (.cond (.tmp 8) (.seq (rF Tryz.f8 2) .ret) .skip)) (.seq (rF Tryz.f8 3) (.seq (rF Tryz.f8 4) (.seq (rF Tryz.f8 5) (.seq (rF Tryz.f8 6) (.seq (rF Tryz.f8 7) (.seq (rF Tryz.f8 8) (.seq (rF Tryz.f8 9) (.seq (.seq (rT Tryz.f8 10) (.cond (.tmp 48) (rF Tryz.f8 11) .skip)) (.seq (rF Tryz.f8 12) .ret)))))))))) := by kernel_rfl
set_option maxHeartbeats 1000000 in
theorem y1u {N : Nat} {hk : Hook} {D : Nat} {a : Option Addr} {c : Nat} {s : List UInt8} {H : Heap} {nn m fl : Nat} {o : Ou Trd} (K : HkP hk) (hN : 2097400 < N) (hG : Ext GE H) (hr : Brow H a s) (hc : s.length ≤ c) (hn : a = none → c = 0) (hs : s.length ≤ 1048576) (hok : okP s) (hnn : nn < N) (hm : m < N) (hD : dpt nn fl + 100 ≤ D) (ho : parseP s nn m fl = some o) :
   PRes H s (CH N hk D 8 #[.slice a s.length c] H) o := by
 obtain ⟨D, rfl⟩ : ∃ q, D = q + 1 := ⟨D - 1, by omega⟩
 have hh := K.ok.nil
 have P := y78 K hN
 have hN2 : s.length < N := by omega
 have hD3 : 3 ≤ D := by omega
 have hDd : dpt nn fl + 99 ≤ D := by omega
 suffices main : ∀ X : Am.R → Prop, (∀ r, PRes H s r o → X r) → X (CH N hk (D + 1) 8 #[.slice a s.length c] H) from main _ fun _ h => h
 intro X hX
 have hX : ∀ r, (∃ H', Ext H H' ∧ match o with
   | .ok t _ => ∃ cells, r = some (.ret (.tuple #[.agg cells.toArray, .agg #[.int .i64 0, .int .i64 0, .int .i64 0], .int .i64 0]), H') ∧ cells.length = 7 ∧ TreeR H' cells t ∧ t.its.length ≤ s.length ∧ t.nds.length ≤ s.length
   | .er e => ∃ v, r = some (.ret (.tuple #[.agg zt.toArray, .agg (placeC s v), .int .i64 (codeE e)]), H') ∧ ErV s v e) → X r := fun r h => hX r (by cases o <;> exact h)
 have f0 := hG.fresh
 have x0 := rd0 hG hr hc hs hok
 have nxq : ((H.alloc 1 [.slice a s.length c]) : Heap).next = H.next + 1 ∧ (((H.alloc 1 [.slice a s.length c]).alloc 1 zt) : Heap).next = H.next + 2 ∧ ((((H.alloc 1 [.slice a s.length c]).alloc 1 zt).alloc 1 [.int .i64 0, .int .i64 0, .int .i64 0]) : Heap).next = H.next + 3 ∧ (((((H.alloc 1 [.slice a s.length c]).alloc 1 zt).alloc 1 [.int .i64 0, .int .i64 0, .int .i64 0]).alloc 1 [.int .i64 0]) : Heap).next = H.next + 4 := ⟨rfl, rfl, rfl, rfl⟩
 have f1 := jb1 f0 1 [.slice a s.length c]
 have f2 := jb1 f1 1 zt
 have f3 := jb1 f2 1 [.int .i64 0, .int .i64 0, .int .i64 0]
 have f4 := jb1 f3 1 [.int .i64 0]
 have b1 : ((((H.alloc 1 [.slice a s.length c]).alloc 1 zt).alloc 1 [.int .i64 0, .int .i64 0, .int .i64 0]).alloc 1 [.int .i64 0]).get H.next = some ⟨[.slice a s.length c], true, 1, none⟩ := jb3 f3 (jb3 f2 (jb3 f1 (jc6 H _ _) _ _) _ _) _ _
 have b1r : (((((H.alloc 1 [.slice a s.length c]).alloc 1 zt).alloc 1 [.int .i64 0, .int .i64 0, .int .i64 0]).alloc 1 [.int .i64 0]).alloc 1 (rdC a c s (rs0 H.next))).get H.next = some ⟨[.slice a s.length c], true, 1, none⟩ := jb3 f4 b1 _ _
 have b2r : (((((H.alloc 1 [.slice a s.length c]).alloc 1 zt).alloc 1 [.int .i64 0, .int .i64 0, .int .i64 0]).alloc 1 [.int .i64 0]).alloc 1 (rdC a c s (rs0 H.next))).get (H.next + 1) = some ⟨zt, true, 1, none⟩ := jb3 f4 (jb3 f3 (jb3 f2 (jc6 (H.alloc 1 [.slice a s.length c]) _ _) _ _) _ _) _ _
 have b3r : (((((H.alloc 1 [.slice a s.length c]).alloc 1 zt).alloc 1 [.int .i64 0, .int .i64 0, .int .i64 0]).alloc 1 [.int .i64 0]).alloc 1 (rdC a c s (rs0 H.next))).get (H.next + 2) = some (pl 0 0 0) := jb3 f4 (jb3 f3 (jc6 ((H.alloc 1 [.slice a s.length c]).alloc 1 zt) _ _) _ _) _ _
 have b4r : (((((H.alloc 1 [.slice a s.length c]).alloc 1 zt).alloc 1 [.int .i64 0, .int .i64 0, .int .i64 0]).alloc 1 [.int .i64 0]).alloc 1 (rdC a c s (rs0 H.next))).get (H.next + 3) = some ⟨[.int .i64 0], true, 1, none⟩ := jb3 f4 (jc6 (((H.alloc 1 [.slice a s.length c]).alloc 1 zt).alloc 1 [.int .i64 0, .int .i64 0, .int .i64 0]) _ _) _ _
 have no : ∀ q, H.next ≤ q → q < H.next + 4 → ¬ (rs0 H.next).own q := fun q h1 h2 h => by rcases h with h | h <;> omega
 have glen : decide ((s.length : Int) > 1048576) = false := decide_eq_false (by omega)
 have hU := jb8 (P := PP) (okf := okC) (prf := prS) (X := XX) (N := N) (hk := hk) (d := D) (args := #[.slice a s.length c]) (H := H) (hh _ _ _ rfl) Tryz.func8 (c := codeOf Tryz.f8) rfl rfl rfl (pr := noPr) rfl
 rw [code8] at hU
 generalize hF : finG PP okC prS XX (CH N hk (D)) N Tryz.f8 = F at hU
 refine Eq.mpr (congrArg X hU) ?_
 have lL : _ ∧ _ := ⟨lX8 Tryz.f8 0 1 2 3 4 5 6 7, lX5 Tryz.f8 8 9 10 11 12⟩
 conv at lL in (occs := *) (rgnX _ _) => all_goals simp only [rX, opsAt, Tryz.f8, dL.o, reduceIte, Nat.reduceEqDiff]
 obtain ⟨⟨l0, l1, l2, l3, l4, l5, l6, l7⟩, ⟨l8, l9, l10, l11, l12⟩⟩ := lL
 have hbox : boxA PP 62 (.agg (rdC a c s (rs0 H.next)).toArray) ((((H.alloc 1 [.slice a s.length c]).alloc 1 zt).alloc 1 [.int .i64 0, .int .i64 0, .int .i64 0]).alloc 1 [.int .i64 0]) = some (.pointer (some ⟨H.next + 4, 0, none⟩), (((((H.alloc 1 [.slice a s.length c]).alloc 1 zt).alloc 1 [.int .i64 0, .int .i64 0, .int .i64 0]).alloc 1 [.int .i64 0]).alloc 1 (rdC a c s (rs0 H.next)))) := y66 _ _
 have hal : allocA PP 31 (((H.alloc 1 [.slice a s.length c]).alloc 1 zt).alloc 1 [.int .i64 0, .int .i64 0, .int .i64 0]) = some (.pointer (some ⟨H.next + 3, 0, none⟩), ((((H.alloc 1 [.slice a s.length c]).alloc 1 zt).alloc 1 [.int .i64 0, .int .i64 0, .int .i64 0]).alloc 1 [.int .i64 0])) := yu7 _
 have hal2 : allocA PP 30 ((H.alloc 1 [.slice a s.length c]).alloc 1 zt) = some (.pointer (some ⟨H.next + 2, 0, none⟩), (((H.alloc 1 [.slice a s.length c]).alloc 1 zt).alloc 1 [.int .i64 0, .int .i64 0, .int .i64 0])) := alloc30 _
 have hal3 : allocA PP 28 (H.alloc 1 [.slice a s.length c]) = some (.pointer (some ⟨H.next + 1, 0, none⟩), ((H.alloc 1 [.slice a s.length c]).alloc 1 zt)) := jr8 _
 simp (decide := true) only [↓uR.o, dG.o, ja1, ja5, reduceIte, ↓ja0 l0, ↓ja0 l1, ↓ja0 l3, ↓ja0 l4, y5l, hal3, hal2, hal, j42 b1, ja7 (ts := #[34]) rfl und34, glen, mapq4, ↓y1t 12 #[] 17 (#[.pointer (some ⟨H.next, 0, none⟩), .pointer (some ⟨H.next + 1, 0, none⟩), .pointer (some ⟨H.next + 2, 0, none⟩), .pointer (some ⟨H.next + 3, 0, none⟩)]), (y1s a c s H.next), hbox]
 obtain ⟨H5, R5, _, c5, rfl, g5, p5, lv5, r5, w5⟩ := yq9 (D := D) P x0 (by omega)
 have p5' : R5.ps = nextP s ps0 := p5
 have rd6 : Rd a c s (H.next + 4) (H5.set (H.next + 4) (rdB a c s ({ R5 with pos := R5.at_ } : RS))) ({ R5 with pos := R5.at_ } : RS) := g5.rd.self rfl rfl rfl rfl rfl g5.rd.want (fun _ h => h) g5.rd.sz
 have g6 : Gx a c s (H.next + 4) (((((H.alloc 1 [.slice a s.length c]).alloc 1 zt).alloc 1 [.int .i64 0, .int .i64 0, .int .i64 0]).alloc 1 [.int .i64 0]).alloc 1 (rdC a c s (rs0 H.next))) (rs0 H.next) (H5.set (H.next + 4) (rdB a c s ({ R5 with pos := R5.at_ } : RS))) ({ R5 with pos := R5.at_ } : RS) := g5.upd x0 rd6 rfl rfl rfl rfl
 simp (decide := true) only [↓uR.o, dG.o, ja1, ja5, reduceIte, ↓ja0 l5, ↓ja0 l6, dA.o, ja3 Tryz.func18 rfl rfl c5, jg0 g5.rd.blk, y58 g5.rd.blk]
 unfold parseP at ho
 rw [← p5'] at ho
 have ho : bindM (mustP s 30 ({ R5 with pos := R5.at_ } : RS).ps) (fun _ p => bindM (wordP s p) fun f p => bindM (blockP s (ruP s (exprP s nn) m fl 0) m p) fun l p => if p.at_ < s.length then some (.er (.bad p.at_)) else some (.ok ⟨R5.at_, f, p.its, p.nds, l⟩ p)) = some o := ho
 rcases jd1 ho with ⟨e7, h7, ho⟩ | ⟨v7, p7, h7, ho⟩
 · obtain ⟨pe, H', c', f'⟩ := PanA.out (jm4 (D := D) P g6.rd (show R5.wl < 999 by omega) 30 (by omega) h7)
   simp (decide := true) only [↓uG.o, dG.o, ja1, reduceIte, ↓ja0 l7]
   rw [jc0 Tryz.func19 rfl rfl c']
   simp only [jr4, jw2, jh5]
   obtain ⟨v, H2, z1, z2, z3⟩ := j43 (D := D) hh hG hr hc hn hN2 hD3 (f' x0 g6)
   rw [← hF, z1 _ (by simp (decide := true) only [ja1, reduceIte]) (by simp (decide := true) only [ja1, reduceIte]) (by simp (decide := true) only [ja1, reduceIte])]
   refine hX _ ⟨H2, z2, ?_⟩
   rw [ho]
   exact ⟨v, rfl, z3⟩
 obtain ⟨H7, R7, _, c7, rfl, g7', rfl, lv7, r7, w7⟩ := jm4 (D := D) P g6.rd (show R5.wl < 999 by omega) 30 (by omega) h7
 have g7 := g6.trans x0 g7'
 simp (decide := true) only [↓uR.o, dG.o, ja1, reduceIte, ↓ja0 l7, ja3 Tryz.func19 rfl rfl c7]
 rcases jd1 ho with ⟨e8, h8, ho⟩ | ⟨v8, p8, h8, ho⟩
 · obtain ⟨pe, H', c', f'⟩ := PanA.out (j2c (D := D) P g7.rd (by omega) (by omega) h8)
   simp (decide := true) only [↓uG.o, dG.o, ja1, reduceIte, ↓ja0 l8]
   rw [jc0 Tryz.func20 rfl rfl c']
   simp only [jr4, jw2, jh5]
   obtain ⟨v, H2, z1, z2, z3⟩ := j43 (D := D) hh hG hr hc hn hN2 hD3 (f' x0 g7)
   rw [← hF, z1 _ (by simp (decide := true) only [ja1, reduceIte]) (by simp (decide := true) only [ja1, reduceIte]) (by simp (decide := true) only [ja1, reduceIte])]
   refine hX _ ⟨H2, z2, ?_⟩
   rw [ho]
   exact ⟨v, rfl, z3⟩
 obtain ⟨H8, R8, _, c8, ⟨rfl, hx8⟩, g8', rfl, lv8, r8, w8⟩ := j2c (D := D) P g7.rd (by omega) (by omega) h8
 have g8a := g7.trans x0 g8'
 have rd8 : Rd a c s (H.next + 4) (H8.set (H.next + 4) (rdB a c s ({ R8 with word := v8.word, wat := v8.at_, index := .slice none 0 0 } : RS))) ({ R8 with word := v8.word, wat := v8.at_, index := .slice none 0 0 } : RS) := g8a.rd.self rfl rfl rfl rfl rfl g8a.rd.want (fun _ h => h) g8a.rd.sz
 have g8 := g8a.upd x0 rd8 rfl rfl rfl rfl
 have lv8' : Lv ({ R8 with word := v8.word, wat := v8.at_, index := .slice none 0 0 } : RS).ps := lv8
 simp (decide := true) only [↓uR.o, dG.o, ja1, ja5, reduceIte, ↓ja0 l8, dA.o, ja3 Tryz.func20 rfl rfl c8, refV, y8d g8a.rd.blk v8 (v := .slice none 0 0) rfl]
 have ho : bindM (blockP s (ruP s (exprP s nn) m fl 0) m ({ R8 with word := v8.word, wat := v8.at_, index := .slice none 0 0 } : RS).ps) (fun l p => if p.at_ < s.length then some (.er (.bad p.at_)) else some (.ok ⟨R5.at_, v8, p.its, p.nds, l⟩ p)) = some o := ho
 rcases jd1 ho with ⟨e9, h9, ho⟩ | ⟨v9, p9, h9, ho⟩
 · obtain ⟨pe, H', c', f'⟩ := PanA.out (j4z (D := D) (f := 22) P (.all Tryz.func22 rfl rfl) (show RuOk N hk s (dpt nn fl) 22 _ from y48 P hnn hm fl 0) (y1j s nn m fl 0) g8.rd lv8' (show R8.wl < 900 by omega) (by unfold dpt at *; omega) (by omega) hm h9)
   simp (decide := true) only [↓uG.o, dG.o, ja1, reduceIte, ↓ja0 l9]
   rw [jc0 Tryz.func21 rfl rfl c']
   simp only [jr4, jw2, jh5]
   obtain ⟨v, H2, z1, z2, z3⟩ := j43 (D := D) hh hG hr hc hn hN2 hD3 (f' x0 g8)
   rw [← hF, z1 _ (by simp (decide := true) only [ja1, reduceIte]) (by simp (decide := true) only [ja1, reduceIte]) (by simp (decide := true) only [ja1, reduceIte])]
   refine hX _ ⟨H2, z2, ?_⟩
   rw [ho]
   exact ⟨v, rfl, z3⟩
 obtain ⟨H9, R9, kv9, c9, hv9, g9', rfl, lv9, r9, w9⟩ := j4z (D := D) (f := 22) P (.all Tryz.func22 rfl rfl) (show RuOk N hk s (dpt nn fl) 22 _ from y48 P hnn hm fl 0) (y1j s nn m fl 0) g8.rd lv8' (show R8.wl < 900 by omega) (by unfold dpt at *; omega) (by omega) hm h9
 have g9a := g8.trans x0 g9'
 have rd9 : Rd a c s (H.next + 4) (H9.set (H.next + 4) (rdB a c s ({ R9 with top := kv9 } : RS))) ({ R9 with top := kv9 } : RS) := g9a.rd.self rfl rfl rfl rfl rfl g9a.rd.want (fun _ h => h) g9a.rd.sz
 have g9 := g9a.upd x0 rd9 rfl rfl rfl rfl
 have b1e := g9.stay x0 (no _ (Nat.le_refl _) (by omega)) b1r
 simp (decide := true) only [↓uR.o, dG.o, ja1, ja5, reduceIte, ↓ja0 l9, dA.o, ja3 Tryz.func21 rfl rfl c9, y59 g9a.rd.blk kv9 hv9.one.1]
 by_cases hlt : R9.at_ < s.length
 · have zl : decide ((R9.at_ : Int) < (s.length : Int)) = true := decide_eq_true (by omega)
   rw [if_pos (show R9.ps.at_ < s.length from hlt)] at ho
   injection ho with ho
   obtain ⟨pe, H', c', f'⟩ := PanA.out (j8g (D := D) P g9.rd (by omega))
   simp (decide := true) only [↓uR.o, dG.o, ja1, reduceIte, ↓ja0 l10, ↓ja0 l11, rfat, jg0 g9.rd.blk, j42 b1e, ja7 (ts := #[34]) rfl und34, zl]
   rw [jc0 Tryz.func23 rfl rfl c']
   simp only [jr4, jw2, jh5]
   obtain ⟨v, H2, z1, z2, z3⟩ := j43 (D := D) hh hG hr hc hn hN2 hD3 (f' x0 g9)
   rw [← hF, z1 _ (by simp (decide := true) only [ja1, reduceIte]) (by simp (decide := true) only [ja1, reduceIte]) (by simp (decide := true) only [ja1, reduceIte])]
   refine hX _ ⟨H2, z2, ?_⟩
   rw [← ho]
   exact ⟨v, rfl, z3⟩
 · have zl : decide ((R9.at_ : Int) < (s.length : Int)) = false := decide_eq_false (by omega)
   rw [if_neg (show ¬ R9.ps.at_ < s.length from hlt)] at ho
   injection ho with ho
   have hix : R9.index = .slice none 0 0 := r9.r.index
   have hv : Ints (H9.set (H.next + 4) (rdB a c s ({ R9 with top := kv9 } : RS))) (fun z => H.next + 5 ≤ z) ({ R9 with top := kv9 } : RS).top v9 := hv9.keep fun z y hz e => by
     have hb : R9.own (H.next + 4) := (g9a.rd.mo _ (.inl rfl)).1
     have hne : z ≠ H.next + 4 := fun e' => hz.2.2 (e' ▸ hb)
     refine ⟨?_, by rw [Heap.get_set, if_neg hne]; exact e⟩
     have h1 := g8.fr.next
     have h2 : ((((((H.alloc 1 [.slice a s.length c]).alloc 1 zt).alloc 1 [.int .i64 0, .int .i64 0, .int .i64 0]).alloc 1 [.int .i64 0]).alloc 1 (rdC a c s (rs0 H.next))) : Heap).next = H.next + 5 := rfl
     have h3 := hz.1
     rw [h2] at h1
     exact Nat.le_trans h1 h3
   obtain ⟨Ha, Hb, Hc, b1f, s1, s2, s3, d1, d2, d3, xe, tr⟩ := yv1 hG x0 g9 hix hv
   simp (decide := true) only [↓uR.o, dG.o, ja1, ja5, reduceIte, ↓ja0 l10, ↓ja0 l12, dA.o, jg0 g9.rd.blk, j42 b1f, ja7 (ts := #[34]) rfl und34, zl, y67 g9.rd.blk, yb5, s1, s2, s3]
   have ec : (#[] ++ #[.pointer (some ⟨H.next, 0, none⟩), .pointer (some ⟨H.next + 1, 0, none⟩), .pointer (some ⟨H.next + 2, 0, none⟩), .pointer (some ⟨H.next + 3, 0, none⟩)] : Array Value) = #[.pointer (some ⟨H.next, 0, none⟩), .pointer (some ⟨H.next + 1, 0, none⟩), .pointer (some ⟨H.next + 2, 0, none⟩), .pointer (some ⟨H.next + 3, 0, none⟩)] := by simp
   rw [← hF, j3l (l := [.agg (trC ({ R9 with top := kv9 } : RS)).toArray, .agg #[.int .i64 0, .int .i64 0, .int .i64 0], .int .i64 0]) (v := .tuple #[]) Tryz.func17 rfl (c := codeOf Tryz.f17) rfl rfl rfl (fun kd => by rw [ec]; exact y5j kd) (by simp (decide := true) only [Tryz.f8, resE, ja1, reduceIte, d1, d2, d3])]
   refine hX _ ⟨Hc, xe, ?_⟩
   rw [← ho]
   refine ⟨trC ({ R9 with top := kv9 } : RS), rfl, rfl, ?_, ?_, ?_⟩
   · have e1 : R9.pos = R5.at_ := r9.r.pos.trans (r8.r.pos.trans r7.r.pos)
     have e2 : R9.word = v8.word := r9.r.word
     have e3 : R9.wat = v8.at_ := r9.r.wat
     have e4 : (⟨v8.word, v8.at_, []⟩ : Rf) = v8 := by cases v8; simp at hx8; simp [hx8]
     have tr' : TreeR Hc (trC ({ R9 with top := kv9 } : RS)) ⟨R9.pos, ⟨R9.word, R9.wat, []⟩, R9.its, R9.nds, v9⟩ := tr
     have eT : (⟨R9.pos, ⟨R9.word, R9.wat, []⟩, R9.its, R9.nds, v9⟩ : Trd) = ⟨R5.at_, v8, R9.its, R9.nds, v9⟩ := by rw [e1, e2, e3, e4]
     rw [eT] at tr'
     exact tr'
   · have h1 := g9a.rd.sz
     exact Nat.le_trans h1.1 h1.2.2.2.2
   · have h1 := g9a.rd.sz
     exact Nat.le_trans h1.2.1 h1.2.2.2.2
end Go.Am
namespace Go.Am
variable {f : FuncId} {args : Array Value} {H : Heap}
def gsE : List Nat := [1, 2, 4, 5]
def kn : PureRow := ⟨9, [], .bool true⟩
theorem okKn : okRow (fast hook0) GE kn = true := by decide +kernel
def hkD : Hook := hookOr (tabH GE gsE 72 fun u => .int .i64 (singleT u)) (hookOr (tabH GE gsE 70 fun u => .int .u64 (hexT u)) (hookOr hookM (hookOr hookF (hookP GE gsE [kn]))))
theorem yv2 : HookSnd PP hkD :=
 jh0 (j3o (jz1 jt2) jo0 y3i yg0) (jh0 (j3o (jz1 jt2) jo0 y3i y0y)
   (jh0 j77 (jh0 j1l (j1k (jz1 jt2) jo0 y3i fun e he => by
     simp only [List.mem_cons, List.not_mem_nil, or_false] at he
     subst he
     have := okKn
     simp only [okRow, Bool.and_eq_true] at this
     simpa using this))))
theorem j60 (k : FuncId) (hk : okC k = false) {f : FuncId} (h : okC f = true) : Nat.beq f k = false := by
 cases hb : Nat.beq f k with
 | false => rfl
 | true =>
   obtain rfl := Nat.eq_of_beq_eq_true hb
   rw [h] at hk; cases hk
theorem jc7 {a b : Hook} (h : a f args H = none) : hookOr a b f args H = b f args H := by simp only [hookOr, h]
theorem ji1 {a b : Hook} {r : R} (h : a f args H = some r) : hookOr a b f args H = some r := by simp only [hookOr, h]
theorem jf8 {G : Heap} {gs : List Nat} {f0 : FuncId} {T : Nat → Value} (h : Nat.beq f f0 = false) : tabH G gs f0 T f args H = none := by simp only [tabH, h, cond_false]
theorem jr9 (h : Nat.beq f 94 = false) : hookM f args H = none := by simp only [hookM, h, cond_false]
theorem j3t (h : Nat.beq f 90 = false) : hookF f args H = none := by simp only [hookF, hookOr, cutRow, h, cond_false]
theorem yh4 (h : Nat.beq 9 f = false) : hookP GE gsE [kn] f args H = none := by simp [hookP, kn, h]
theorem y1v {a b : Nat} (h : Nat.beq a b = false) : Nat.beq b a = false := by
 cases hb : Nat.beq b a with
 | false => rfl
 | true =>
   obtain rfl := Nat.eq_of_beq_eq_true hb
   rw [h] at hb; cases hb
theorem y1w : ∀ f args H, okC f = true → hkD f args H = none := by
 intro f args H h
 unfold hkD
 rw [jc7 (jf8 (j60 72 rfl h)), jc7 (jf8 (j60 70 rfl h)), jc7 (jr9 (j60 94 rfl h)), jc7 (j3t (j60 90 rfl h))]
 exact yh4 (y1v (j60 9 rfl h))
theorem self1 : (match GE.get 1, GE.get 1 with | some x, some y => sameB x y | _, _ => false) = true := by decide +kernel
theorem self2 : (match GE.get 2, GE.get 2 with | some x, some y => sameB x y | _, _ => false) = true := by decide +kernel
theorem self4 : (match GE.get 4, GE.get 4 with | some x, some y => sameB x y | _, _ => false) = true := by decide +kernel
theorem self5 : (match GE.get 5, GE.get 5 with | some x, some y => sameB x y | _, _ => false) = true := by decide +kernel
theorem yb6 (h : Ext GE H) : overB GE gsE H = true := by
 have g1 : ∃ x, GE.get 1 = some x := ⟨_, rfl⟩
 obtain ⟨x1, e1⟩ := g1
 have s1 := self1
 rw [e1] at s1
 have k1 := h.keep 1 x1 e1
 have g2 : ∃ x, GE.get 2 = some x := ⟨_, rfl⟩
 obtain ⟨x2, e2⟩ := g2
 have s2 := self2
 rw [e2] at s2
 have k2 := h.keep 2 x2 e2
 have g4 : ∃ x, GE.get 4 = some x := ⟨_, rfl⟩
 obtain ⟨x4, e4⟩ := g4
 have s4 := self4
 rw [e4] at s4
 have k4 := h.keep 4 x4 e4
 have g5 : ∃ x, GE.get 5 = some x := ⟨_, rfl⟩
 obtain ⟨x5, e5⟩ := g5
 have s5 := self5
 rw [e5] at s5
 have k5 := h.keep 5 x5 e5
 simp only [overB, gsE, List.all_cons, List.all_nil, e1, e2, e4, e5, k1, k2, k4, k5, Bool.and_true, Bool.and_eq_true, decide_eq_true_eq]
 exact ⟨h.next, s1, s2, s4, s5⟩
theorem y5m (n : Int) : veqs [.int .u8 n] [.int .u8 n] = true := by simp [veqs, veq0]
theorem yv3 {f0 : FuncId} {T : Nat → Value} (hG : Ext GE H) (u : UInt8) : tabH GE gsE f0 T f0 #[.int .u8 (u.toNat : Int)] H = some (some (.ret (T u.toNat), H)) := by
 have hu := u.toNat_lt
 have e0 : Nat.beq f0 f0 = true := Nat.beq_refl f0
 have e1 : decide ((0 : Int) ≤ (u.toNat : Int)) = true := decide_eq_true (by omega)
 have e2 : decide ((u.toNat : Int) < 256) = true := decide_eq_true (by omega)
 simp only [tabH, e0, cond_true, e1, e2, Bool.and_self, hookP, List.find?_cons, y5m, yb6 hG, Int.toNat_natCast]
theorem y1x (hG : Ext GE H) : hkD 9 #[] H = some (some (.ret (.bool true), H)) := by
 unfold hkD
 rw [jc7 (jf8 rfl), jc7 (jf8 rfl), jc7 (jr9 rfl), jc7 (j3t rfl)]
 have h : [kn].find? (fun e => Nat.beq e.f 9 && veqs (#[] : Array Value).toList e.args) = some kn := rfl
 simp only [hookP, h, yb6 hG, cond_true]
 rfl
theorem yb7 (hG : Ext GE H) : asciiOk H = true := by
 have h := hG.keep 2 (ro asciiV) rfl
 have hv : veqs (ro asciiV).cells asciiV = true := by decide +kernel
 simp only [asciiOk, h, hv]
 rfl
theorem y68 : HkOk hkD := by
 refine ⟨y1w, fun u H hG => ?_, fun u H hG => ?_, fun x y H hx hy => ?_, fun H hG => ?_⟩
 · exact ji1 (yv3 hG u)
 · unfold hkD
   rw [jc7 (jf8 rfl)]
   exact ji1 (yv3 hG u)
 · unfold hkD
   rw [jc7 (jf8 rfl), jc7 (jf8 rfl)]
   refine ji1 ?_
   have hx' : x < 18446744073709551616 := hx
   have hy' : y < 18446744073709551616 := hy
   have e0 : Nat.beq 94 94 = true := rfl
   have e1 : decide ((0 : Int) ≤ (x : Int)) = true := decide_eq_true (by omega)
   have e2 : decide ((x : Int) < 18446744073709551616) = true := decide_eq_true (by omega)
   have e3 : decide ((0 : Int) ≤ (y : Int)) = true := decide_eq_true (by omega)
   have e4 : decide ((y : Int) < 18446744073709551616) = true := decide_eq_true (by omega)
   simp only [hookM, e0, cond_true, e1, e2, e3, e4, Bool.and_self, Int.toNat_natCast]
 · unfold hkD
   rw [jc7 (jf8 rfl), jc7 (jf8 rfl), jc7 (jr9 rfl)]
   refine ji1 ?_
   have e0 : Nat.beq 90 90 = true := rfl
   unfold hookF
   refine ji1 ?_
   have dT : ∀ {i : Decidable True}, @decide True i = true := fun {i} => decide_eq_true trivial
   simp only [cutRow, e0, cond_true, strV, dT, yb7 hG]
   rfl
theorem y5n : HkP hkD := by
 refine ⟨y68, fun H hG => ?_⟩
 unfold hkD
 rw [jc7 (jf8 rfl), jc7 (jf8 rfl), jc7 (jr9 rfl)]
 refine ji1 ?_
 have e0 : Nat.beq 90 90 = true := rfl
 have ne : decide (signsB = wordsB) = false := by decide +kernel
 unfold hookF
 rw [jc7 (by simp only [cutRow, e0, cond_true, strV, ne, cond_false])]
 have dT : ∀ {i : Decidable True}, @decide True i = true := fun {i} => decide_eq_true trivial
 simp only [cutRow, e0, cond_true, strV, dT, yb7 hG]
 rfl
end Go.Am
namespace Go.Am
section
variable {s : List UInt8}
theorem jk9 {i : Nat} {u : UInt8} {r : List UInt8} (h : s.drop i = u :: r) : i < s.length ∧ s.getD i 0 = u ∧ s.drop (i + 1) = r := by
 have hl : i < s.length := by
   refine Nat.lt_of_not_le fun hn => ?_
   rw [List.drop_eq_nil_of_le hn] at h
   cases h
 rw [List.drop_eq_getElem_cons hl] at h
 injection h with h1 h2
 exact ⟨hl, by simp [List.getD, hl, h1], h2⟩
theorem j2i {i n : Nat} {u : UInt8} {r : List UInt8} (h : s.drop i = u :: r) (hb : blankI u = false) (hc : u ≠ 35) : skipP s (n + 1) i = i := by
 obtain ⟨h1, h2, _⟩ := jk9 h
 unfold skipP
 rw [if_pos h1, h2, hb, if_neg (by decide), if_neg hc]
theorem j44 {i n : Nat} {u v : UInt8} {r : List UInt8} (h : s.drop i = v :: u :: r) (hv : blankI v = true) (hb : blankI u = false) (hc : u ≠ 35) : skipP s (n + 2) i = i + 1 := by
 obtain ⟨h1, h2, h3⟩ := jk9 h
 unfold skipP
 rw [if_pos h1, h2, if_pos hv]
 exact j2i h3 hb hc
theorem yb8 : ∀ (w : List UInt8) (i n : Nat) (r : List UInt8), s.drop i = w ++ r → (∀ u ∈ w, wbI u = true) → (∀ u, r.head? = some u → wbI u = false) → w.length ≤ n → runW s n i = i + w.length
 | [], i, n, r, h, _, hr, _ => by
   cases n with
   | zero => rfl
   | succ n =>
     unfold runW
     cases r with
     | nil =>
       have hl : s.length ≤ i := List.drop_eq_nil_iff.mp h
       rw [if_neg (by omega)]; rfl
     | cons u r =>
       obtain ⟨_, h2, _⟩ := jk9 h
       rw [if_neg (by rw [h2, hr u rfl]; simp)]; rfl
 | u :: w, i, 0, r, h, _, _, hn => by simp at hn
 | u :: w, i, n + 1, r, h, hw, hr, hn => by
   obtain ⟨h1, h2, h3⟩ := jk9 (r := w ++ r) h
   unfold runW
   rw [if_pos ⟨h1, by rw [h2]; exact hw u (by simp)⟩, yb8 w (i + 1) n r h3 (fun v hv => hw v (by simp [hv])) hr (by simp at hn; omega)]
   simp; omega
theorem yv4 {p : PS} {b w r : List UInt8} (hb : b = [] ∨ b = [32]) (h : s.drop p.to_ = b ++ (w ++ r)) (hne : w ≠ []) (hw : ∀ u ∈ w, wbI u = true ∧ blankI u = false ∧ u ≠ 35) (hr : ∀ u, r.head? = some u → wbI u = false) :
   nextP s p = { p with at_ := p.to_ + b.length, to_ := p.to_ + b.length + w.length, k := (lex1 w).getD tk0 } := by
 obtain ⟨u, w', rfl⟩ := List.exists_cons_of_ne_nil hne
 obtain ⟨hu, hub, huc⟩ := hw u (by simp)
 have hd : s.drop (p.to_ + b.length) = u :: (w' ++ r) := by
   rcases hb with rfl | rfl
   · exact h
   · exact (jk9 h).2.2
 obtain ⟨h1, h2, h3⟩ := jk9 hd
 have hs : skipP s (s.length + 1 - p.to_) p.to_ = p.to_ + b.length := by
   rcases hb with rfl | rfl
   · obtain ⟨n, e⟩ : ∃ n, s.length + 1 - p.to_ = n + 1 := ⟨s.length - p.to_, by simp at h1; omega⟩
     rw [e]; exact j2i h hub huc
   · have : p.to_ + 1 < s.length := h1
     obtain ⟨n, e⟩ : ∃ n, s.length + 1 - p.to_ = n + 2 := ⟨s.length - p.to_ - 1, by omega⟩
     rw [e]; exact j44 h rfl hub huc
 have hlen : (s.drop (p.to_ + b.length + 1)).length = w'.length + r.length := by rw [h3, List.length_append]
 rw [List.length_drop] at hlen
 have hr' : reachI s (p.to_ + b.length) = p.to_ + b.length + (u :: w').length := by
   unfold reachI
   rw [h2, if_pos hu, yb8 w' (p.to_ + b.length + 1) _ r h3 (fun v hv => (hw v (by simp [hv])).1) hr (by omega)]
   simp; omega
 have ht : (s.drop (p.to_ + b.length)).take (p.to_ + b.length + (u :: w').length - (p.to_ + b.length)) = u :: w' := by
   rw [Nat.add_sub_cancel_left, hd, ← List.cons_append, List.take_left']
   rfl
 unfold nextP
 rw [hs, if_pos h1, hr', ht]
def oneB (u : UInt8) : Bool := !wbI u && !blankI u && !(u == 35) && !(u == 34) && (List.range 256).all fun v => match lex1 [u, UInt8.ofNat v] with | some tk => !(tk.to_ == 2) | none => true
theorem yv5 : ([123, 125, 91, 93, 40, 41, 59] : List UInt8).all oneB = true := by decide +kernel
theorem yv6 {p : PS} {b r : List UInt8} {u : UInt8} (hb : b = [] ∨ b = [32]) (h : s.drop p.to_ = b ++ (u :: r)) (hu : u ∈ ([123, 125, 91, 93, 40, 41, 59] : List UInt8)) :
   nextP s p = { p with at_ := p.to_ + b.length, to_ := p.to_ + b.length + 1, k := (lex1 [u]).getD tk0 } := by
 have o := List.all_eq_true.mp yv5 u hu
 unfold oneB at o
 simp only [Bool.and_eq_true, Bool.not_eq_true', beq_eq_false_iff_ne] at o
 obtain ⟨⟨⟨⟨o1, o2⟩, o3⟩, o4⟩, o5⟩ := o
 have hd : s.drop (p.to_ + b.length) = u :: r := by
   rcases hb with rfl | rfl
   · exact h
   · exact (jk9 h).2.2
 obtain ⟨h1, h2, h3⟩ := jk9 hd
 have hs : skipP s (s.length + 1 - p.to_) p.to_ = p.to_ + b.length := by
   rcases hb with rfl | rfl
   · obtain ⟨n, e⟩ : ∃ n, s.length + 1 - p.to_ = n + 1 := ⟨s.length - p.to_, by simp at h1; omega⟩
     rw [e]; exact j2i h o2 o3
   · have : p.to_ + 1 < s.length := h1
     obtain ⟨n, e⟩ : ∃ n, s.length + 1 - p.to_ = n + 2 := ⟨s.length - p.to_ - 1, by omega⟩
     rw [e]; exact j44 h rfl o2 o3
 have hr' : reachI s (p.to_ + b.length) = p.to_ + b.length + 1 := by
   unfold reachI
   rw [h2, o1, if_neg (by decide), if_neg o4]
   split
   · rename_i hl
     have tw : twoI s (p.to_ + b.length) = false := by
       unfold twoI
       rw [hd]
       cases r with
       | nil =>
         rw [List.drop_eq_getElem_cons hl] at h3
         cases h3
       | cons v r =>
         have hv := List.all_eq_true.mp o5 v.toNat (List.mem_range.mpr v.toNat_lt)
         have ev : UInt8.ofNat v.toNat = v := by simp
         rw [ev] at hv
         show (match lex1 [u, v] with | some tk => tk.to_ == 2 | none => false) = false
         revert hv
         cases lex1 [u, v] with
         | none => intro _; rfl
         | some tk => intro hv; simpa using hv
     rw [tw, if_neg (by decide)]
   · rfl
 have ht : (s.drop (p.to_ + b.length)).take (p.to_ + b.length + 1 - (p.to_ + b.length)) = [u] := by
   rw [Nat.add_sub_cancel_left, hd]; rfl
 unfold nextP
 rw [hs, if_pos h1, hr', ht]
theorem y1y {p : PS} (h : s.drop p.to_ = []) (hl : p.to_ ≤ s.length) : nextP s p = { p with at_ := s.length, to_ := s.length, k := tk0 } := by
 have e : p.to_ = s.length := Nat.le_antisymm hl (List.drop_eq_nil_iff.mp h)
 have hs : skipP s (s.length + 1 - p.to_) p.to_ = s.length := by
   rw [e, Nat.add_sub_cancel_left]
   unfold skipP
   rw [if_neg (by omega)]
 unfold nextP
 rw [hs, if_neg (by omega)]
end
set_option maxRecDepth 100000
theorem code15 : codeOf Tryz.f15 = .seq (rF Tryz.f15 0) (.seq (rF Tryz.f15 1) (.seq (.seq (rF Tryz.f15 2) (.cond (.tmp 14) (rF Tryz.f15 3) .skip)) (.seq (rF Tryz.f15 4) .ret))) := by kernel_rfl
theorem jh2 (a b c : Value) : startE #[a, b, c] 2 = c := rfl
theorem j05 {P : Program} {t : TypeId} {x y : Operand} {i : IntKind} {a b : Int} (h : b ≠ 0) : binA P .rem t x y (.int i a) (.int i b) = some (.int i (a.tmod b)) := by simp [binA, ground, atomic, eqGuard, binOp, Op.intDiv, h]; rfl
theorem j8s {N : Nat} {hk : Hook} {d : Nat} {H : Heap} (n : Int) (L : Nat) (hL : L ≤ 140737488355328) (hh : NH hk) :
   ∃ x : Nat, x ≤ L ∧ CG N hk (d + 1) 15 #[.int .i64 n, .int .i64 0, .int .i64 (L : Int)] H = some (.ret (.int .i64 (x : Int)), H) := by
 have w1 : IntKind.i64.wrap ((L : Int) - 0) = (L : Int) := by rw [jb2 (by omega) (by omega)]; omega
 have w2 : IntKind.i64.wrap ((L : Int) + 1) = ((L + 1 : Nat) : Int) := by rw [jb2 (by omega) (by omega)]; omega
 have hm0 : ((L + 1 : Nat) : Int) ≠ 0 := by omega
 have r1 : n.tmod ((L + 1 : Nat) : Int) < ((L + 1 : Nat) : Int) := Int.tmod_lt_of_pos n (by omega)
 have r2 : -((L + 1 : Nat) : Int) < n.tmod ((L + 1 : Nat) : Int) := Int.lt_tmod_of_pos n (by omega)
 generalize hr : n.tmod ((L + 1 : Nat) : Int) = r at r1 r2
 by_cases hneg : r < 0
 · refine ⟨(r + ((L + 1 : Nat) : Int)).toNat, by omega, ?_⟩
   refine (jc2 (hh _ _ _ rfl) Tryz.func15 (c := codeOf Tryz.f15) rfl rfl rfl (pr := noPr) rfl).trans ?_
   rw [code15]
   generalize hF : finE PP Tryz.f15 = F
   have hlt : decide (r < 0) = true := decide_eq_true hneg
   have w3 : IntKind.i64.wrap (r + (L : Int)) = r + (L : Int) := jb2 (by omega) (by omega)
   have w4 : IntKind.i64.wrap (r + (L : Int) - 0) = r + (L : Int) := by rw [jb2 (by omega) (by omega)]; omega
   have w5 : IntKind.i64.wrap (r + (L : Int) + 1) = r + ((L + 1 : Nat) : Int) := by rw [jb2 (by omega) (by omega)]; omega
   have w6 : IntKind.i64.wrap (0 + (r + ((L + 1 : Nat) : Int))) = ((r + ((L + 1 : Nat) : Int)).toNat : Int) := by rw [jb2 (by omega) (by omega)]; omega
   have lL := lX5 Tryz.f15 0 1 2 3 4
   conv at lL in (occs := *) (rgnX _ _) => all_goals simp only [rX, opsAt, Tryz.f15, dL.o, reduceIte, Nat.reduceEqDiff]
   obtain ⟨l0, l1, l2, l3, l4⟩ := lL
   simp (decide := true) only [↓uR.o, dG.o, ja1, reduceIte, ↓ja0 l0, ↓ja0 l1, ↓ja0 l2, ↓ja0 l3, ↓ja0 l4, jh2, j05 hm0, w1, w2, hr, hlt, w3, w4, w5, w6]
   rw [← hF, jb6 (l := [.int .i64 ((r + ((L + 1 : Nat) : Int)).toNat : Int)]) (by simp (decide := true) [Tryz.f15, resE, ja1])]
   rfl
 · refine ⟨r.toNat, by omega, ?_⟩
   refine (jc2 (hh _ _ _ rfl) Tryz.func15 (c := codeOf Tryz.f15) rfl rfl rfl (pr := noPr) rfl).trans ?_
   rw [code15]
   generalize hF : finE PP Tryz.f15 = F
   have hlt : decide (r < 0) = false := decide_eq_false hneg
   have w6 : IntKind.i64.wrap (0 + r) = (r.toNat : Int) := by rw [jb2 (by omega) (by omega)]; omega
   have lL := lX4 Tryz.f15 0 1 2 4
   conv at lL in (occs := *) (rgnX _ _) => all_goals simp only [rX, opsAt, Tryz.f15, dL.o, reduceIte, Nat.reduceEqDiff]
   obtain ⟨l0, l1, l2, l4⟩ := lL
   simp (decide := true) only [↓uR.o, dG.o, ja1, reduceIte, ↓ja0 l0, ↓ja0 l1, ↓ja0 l2, ↓ja0 l4, jh2, j05 hm0, w1, w2, hr, hlt, w6]
   rw [← hF, jb6 (l := [.int .i64 (r.toNat : Int)]) (by simp (decide := true) [Tryz.f15, resE, ja1])]
   rfl
end Go.Am
namespace Go.Am
variable {s w r b : List UInt8} {p : PS}
structure Cur (s : List UInt8) (p : PS) (w r : List UInt8) : Prop where
 dr : s.drop p.at_ = w ++ r
 to_ : p.to_ = p.at_ + w.length
 k : p.k = (lex1 w).getD tk0
theorem Cur.ahead (h : Cur s p w r) : s.drop p.to_ = r := by
 rw [h.to_, ← List.drop_drop, h.dr, List.drop_left']
 rfl
theorem Cur.of {z : Nat} (h : s.drop p.to_ = b ++ (w ++ r)) (hz : z = b.length) : Cur s { p with at_ := p.to_ + z, to_ := p.to_ + z + w.length, k := (lex1 w).getD tk0 } w r := by
 subst hz
 refine ⟨?_, rfl, rfl⟩
 show s.drop (p.to_ + b.length) = w ++ r
 rw [← List.drop_drop, h, List.drop_left']
 rfl
theorem jg1 (hb : b = [] ∨ b = [32]) (h : s.drop p.to_ = b ++ (w ++ r)) (hne : w ≠ []) (hw : w.all (fun u => wbI u && !blankI u && !(u == 35)) = true) (hr : ∀ u, r.head? = some u → wbI u = false) : Cur s (nextP s p) w r ∧ (nextP s p).at_ = p.to_ + b.length := by
 rw [yv4 hb h hne (fun u hu => by
   have := List.all_eq_true.mp hw u hu
   simp only [Bool.and_eq_true, Bool.not_eq_true', beq_eq_false_iff_ne] at this
   exact ⟨this.1.1, this.1.2, this.2⟩) hr]
 exact ⟨.of h rfl, rfl⟩
theorem jg7 {u : UInt8} (hb : b = [] ∨ b = [32]) (h : s.drop p.to_ = b ++ (u :: r)) (hu : u ∈ ([123, 125, 91, 93, 40, 41, 59] : List UInt8)) : Cur s (nextP s p) [u] r ∧ (nextP s p).at_ = p.to_ + b.length := by
 rw [yv6 hb h hu]
 exact ⟨.of (w := [u]) h rfl, rfl⟩
theorem yv7 (h : s.drop p.to_ = 32 :: 46 :: 46 :: r) : nextP s p = { p with at_ := p.to_ + 1, to_ := p.to_ + 1 + 2, k := (lex1 [46, 46]).getD tk0 } := by
 have hd := (jk9 h).2.2
 obtain ⟨h1, h2, h3⟩ := jk9 hd
 have h4 := (jk9 h3).1
 have hs : skipP s (s.length + 1 - p.to_) p.to_ = p.to_ + 1 := by
   obtain ⟨n, e⟩ : ∃ n, s.length + 1 - p.to_ = n + 2 := ⟨s.length - p.to_ - 1, by omega⟩
   rw [e]; exact j44 h rfl rfl (by decide)
 have hr' : reachI s (p.to_ + 1) = p.to_ + 1 + 2 := by
   unfold reachI
   have tw : twoI s (p.to_ + 1) = true := by
     unfold twoI
     rw [hd]
     show (match lex1 [46, 46] with | some tk => tk.to_ == 2 | none => false) = true
     decide +kernel
   rw [h2, if_neg (by decide), if_neg (by decide), if_pos h4, tw, if_pos rfl]
 have ht : (s.drop (p.to_ + 1)).take (p.to_ + 1 + 2 - (p.to_ + 1)) = [46, 46] := by
   rw [Nat.add_sub_cancel_left, hd]; rfl
 unfold nextP
 rw [hs, if_pos h1, hr', ht]
theorem y1z (h : s.drop p.to_ = 32 :: 46 :: 46 :: r) : Cur s (nextP s p) [46, 46] r ∧ (nextP s p).at_ = p.to_ + 1 := by
 rw [yv7 h]
 exact ⟨.of (b := [32]) (w := [46, 46]) h rfl, rfl⟩
theorem yv8 : ((lex1 [115, 121, 115, 116, 101, 109]).getD tk0).kind = 30 := by decide +kernel
theorem kd_a : ((lex1 [97]).getD tk0).kind = 1 := by decide +kernel
theorem j45 : ((lex1 [101, 97, 99, 104]).getD tk0).kind = 32 := by decide +kernel
theorem kd_i : ((lex1 [105]).getD tk0).kind = 1 := by decide +kernel
theorem y69 : ((lex1 [105, 110]).getD tk0).kind = 33 := by decide +kernel
theorem j8t : ((lex1 [48]).getD tk0).kind = 2 := by decide +kernel
theorem yb9 : ((lex1 [105, 102]).getD tk0).kind = 34 := by decide +kernel
theorem y7a : ((lex1 [49]).getD tk0).kind = 2 := by decide +kernel
theorem js0 : ((lex1 [97, 115, 115, 101, 114, 116]).getD tk0).kind = 36 := by decide +kernel
theorem j06 : ((lex1 [115, 116, 97, 114, 116]).getD tk0).kind = 63 := by decide +kernel
theorem kd_p : ((lex1 [112]).getD tk0).kind = 1 := by decide +kernel
theorem y10 : ((lex1 [123]).getD tk0).kind = 4 := by decide +kernel
theorem y11 : ((lex1 [125]).getD tk0).kind = 5 := by decide +kernel
theorem y7b : ((lex1 [91]).getD tk0).kind = 6 := by decide +kernel
theorem y8e : ((lex1 [93]).getD tk0).kind = 7 := by decide +kernel
theorem yv9 : ((lex1 [40]).getD tk0).kind = 8 := by decide +kernel
theorem y8f : ((lex1 [41]).getD tk0).kind = 9 := by decide +kernel
theorem yw0 : ((lex1 [59]).getD tk0).kind = 10 := by decide +kernel
theorem y5o : ((lex1 [46, 46]).getD tk0).kind = 12 := by decide +kernel
end Go.Am
namespace Go.Am
variable {r s : List UInt8} {p : PS}
def sevens : List UInt8 := [123, 125, 91, 93, 40, 41, 59]
def Stand (s : List UInt8) (q : PS) (r : List UInt8) : Prop := (r = [] ∧ q.k = tk0 ∧ q.at_ = s.length) ∨ ∃ u r', r = u :: r' ∧ u ∈ sevens ∧ Cur s q [u] r'
def Hd (r : List UInt8) : Prop := ∀ u, r.head? = some u → u ∈ sevens
theorem y12 : sevens.all (fun u => !wbI u) = true := by decide +kernel
theorem Hd.wb (h : Hd r) : ∀ u, r.head? = some u → wbI u = false := fun u e => by
 simpa using List.all_eq_true.mp y12 u (h u e)
theorem Stand.op0 {q : PS} (h : Stand s q r) : Stand s (opened0 q) r := by
 rcases h with ⟨a, b, c⟩ | ⟨u, r', a, b, c⟩
 · exact .inl ⟨a, b, c⟩
 · exact .inr ⟨u, r', a, b, ⟨c.dr, c.to_, c.k⟩⟩
theorem jk1 (h : s.drop p.to_ = r) (hl : p.to_ ≤ s.length) (hr : Hd r) : Stand s (nextP s p) r := by
 cases r with
 | nil =>
   rw [y1y h hl]
   exact .inl ⟨rfl, rfl, rfl⟩
 | cons u r =>
   have hu := hr u rfl
   exact .inr ⟨u, r, rfl, hu, (jg7 (b := []) (.inl rfl) h hu).1⟩
theorem yh5 : sevens.all (fun u => decide (rankN ((lex1 [u]).getD tk0).kind = 0)) = true := by decide +kernel
theorem Stand.rank {q : PS} (h : Stand s q r) : rankN q.k.kind = 0 := by
 rcases h with ⟨_, h, _⟩ | ⟨u, r', _, hu, c⟩
 · rw [h]; rfl
 · rw [c.k]; simpa using List.all_eq_true.mp yh5 u hu
theorem j46 {ex : Nat → PS → Option Ot} {ab n v : Nat} {mo : Int} (h : rankN p.k.kind = 0) : opsP s ex ab (n + 1) mo v p = some (.ok v p) := by
 unfold opsP
 rw [if_pos (.inl (by omega))]
theorem Cur.le {w : List UInt8} (h : Cur s p w r) (hw : w ≠ []) : p.to_ ≤ s.length := by
 have e := congrArg List.length h.dr
 rw [List.length_drop, List.length_append] at e
 have : 0 < w.length := List.length_pos_iff.mpr hw
 have := h.to_
 omega
theorem j2j {n ab : Nat} (c : Cur s p [48] r) (hr : Hd r) : ∃ v q, exprP s (n + 1) ab p = some (.ok v q) ∧ q.opened = p.opened ∧ Stand s q r := by
 have k2 : p.k.kind = 2 := by rw [c.k]; exact j8t
 have st : Stand s (nextP s (addNd p ⟨2, p.k.n, .empty, [], p.at_⟩)) r := jk1 c.ahead (c.le (by simp)) hr
 refine ⟨p.nds.length, nextP s (addNd p ⟨2, p.k.n, .empty, [], p.at_⟩), ?_, (jb0 s _).1, st⟩
 unfold exprP atomP
 rw [k2, if_neg (by decide), if_pos rfl, ja6]
 exact j46 st.rank
def brT (d : Nat) (x : List UInt8) : List UInt8 := List.replicate d 40 ++ x
def AtBr (s : List UInt8) (p : PS) (d : Nat) (r : List UInt8) : Prop := match d with | 0 => Cur s p [48] r | d + 1 => Cur s p [40] (brT d (48 :: r))
theorem j8u {d : Nat} (h : AtBr s p (d + 1) r) (hr : Hd r) (ho : p.opened ≠ 32) : ∃ q, openP s 8 p = some (.ok () q) ∧ AtBr s q d r ∧ q.opened = p.opened + 1 ∧ q.at_ = p.at_ + 1 := by
 have h : Cur s p [40] (brT d (48 :: r)) := h
 have k8 : p.k.kind = 8 := by rw [h.k]; exact yv9
 have ha : s.drop (opened1 p).to_ = brT d (48 :: r) := h.ahead
 have ht : (opened1 p).to_ = p.at_ + 1 := h.to_
 refine ⟨nextP s (opened1 p), by unfold openP; rw [if_pos k8, if_neg ho], ?_, (jb0 s _).1, ?_⟩
 · cases d with
   | zero => exact (jg1 (b := []) (w := [48]) (.inl rfl) ha (by simp) (by decide) hr.wb).1
   | succ d => exact (jg7 (b := []) (.inl rfl) ha (by decide)).1
 · cases d with
   | zero => rw [(jg1 (b := []) (w := [48]) (.inl rfl) ha (by simp) (by decide) hr.wb).2, ht]; rfl
   | succ d => rw [(jg7 (b := []) (.inl rfl) ha (by decide)).2, ht]; rfl
theorem ju6 : ∀ (d n ab : Nat) (p : PS) (r : List UInt8), AtBr s p d (List.replicate d 41 ++ r) → Hd r → p.opened + d ≤ 32 → d < n → ∃ v q, exprP s n ab p = some (.ok v q) ∧ q.opened = p.opened ∧ Stand s q r
 | 0, n + 1, ab, p, r, h, hr, _, _ => j2j h hr
 | d + 1, n + 1, ab, p, r, h, hr, ho, hn => by
   have hr1 : Hd (List.replicate (d + 1) 41 ++ r) := fun u e => by
     injection e with e; rw [← e]; decide
   obtain ⟨q1, e1, a1, o1, _⟩ := j8u h hr1 (by omega)
   have a1' : AtBr s q1 d (List.replicate d 41 ++ (41 :: r)) := by
     have e : List.replicate (d + 1) (41 : UInt8) ++ r = List.replicate d 41 ++ (41 :: r) := by
       rw [List.replicate_succ', List.append_assoc]; rfl
     rw [e] at a1; exact a1
   obtain ⟨v, q2, e2, o2, st⟩ := ju6 d n 0 q1 (41 :: r) a1' (fun u e => by injection e with e; rw [← e]; decide) (by omega) (by omega)
   have k8 : p.k.kind = 8 := by rw [Cur.k (show Cur s p [40] _ from h)]; exact yv9
   rcases st with ⟨h0, _⟩ | ⟨u, r', hu, _, c2⟩
   · cases h0
   · injection hu with hu1 hu2
     subst hu1; subst hu2
     have k9 : q2.k.kind = 9 := by rw [c2.k]; exact y8f
     have st3 : Stand s (opened0 (nextP s q2)) r := (jk1 c2.ahead (c2.le (by simp)) hr).op0
     refine ⟨v, opened0 (nextP s q2), ?_, ?_, st3⟩
     · unfold exprP atomP
       rw [if_pos k8, e1, ja6, e2, ja6]
       unfold shutP
       rw [if_pos k9, ja6, ja6]
       exact j46 st3.rank
     · show (nextP s q2).opened - 1 = p.opened
       rw [(jb0 s q2).1]; omega
 | 0, 0, _, _, _, _, _, _, h => by omega
 | _ + 1, 0, _, _, _, _, _, _, h => by omega
theorem jp0 : ∀ (d n ab : Nat) (p : PS), AtBr s p (d + 1) [] → p.opened + (d + 1) ≤ 32 → d + 1 < n → exprP s n ab p = some (.er (.bad s.length))
 | d, 0, _, _, _, _, h => by omega
 | d, n + 1, ab, p, h, ho, hn => by
   obtain ⟨q1, e1, a1, o1, _⟩ := j8u h (fun u e => by cases e) (by omega)
   have k8 : p.k.kind = 8 := by rw [Cur.k (show Cur s p [40] _ from h)]; exact yv9
   unfold exprP atomP
   rw [if_pos k8, e1, ja6]
   cases d with
   | zero =>
     obtain ⟨m, rfl⟩ : ∃ m, n = m + 1 := ⟨n - 1, by omega⟩
     obtain ⟨v, q2, e2, o2, st⟩ := j2j (n := m) (ab := 0) (show Cur s q1 [48] [] from a1) (fun u e => by cases e)
     rcases st with ⟨_, k, at2⟩ | ⟨u, r', hu, _⟩
     · rw [e2, ja6]
       unfold shutP
       rw [if_neg (by rw [k]; decide), at2]
       rfl
     · cases hu
   | succ d =>
     rw [jp0 d n 0 q1 a1 (by omega) (by omega)]
     rfl
theorem j2k (e : Nat) : ∀ (d n ab : Nat) (p : PS) (r : List UInt8), AtBr s p (d + e + 1) r → Hd r → p.opened + d = 32 → d < n → exprP s n ab p = some (.er (.deep (p.at_ + d)))
 | d, 0, _, _, _, _, _, _, h => by omega
 | 0, n + 1, ab, p, r, h, hr, ho, hn => by
   have k8 : p.k.kind = 8 := by rw [Cur.k (show Cur s p [40] _ from h)]; exact yv9
   unfold exprP atomP openP
   rw [if_pos k8, if_pos k8, if_pos (by omega)]
   rfl
 | d + 1, n + 1, ab, p, r, h, hr, ho, hn => by
   have h : AtBr s p ((d + e + 1) + 1) r := by
     have h' := h
     rw [show d + 1 + e + 1 = (d + e + 1) + 1 by omega] at h'
     exact h'
   obtain ⟨q1, e1, a1, o1, at1⟩ := j8u h hr (by omega)
   have k8 : p.k.kind = 8 := by rw [Cur.k (show Cur s p [40] _ from h)]; exact yv9
   unfold exprP atomP
   rw [if_pos k8, e1, ja6, j2k e d n 0 q1 r a1 hr (by omega) (by omega), at1]
   show some (Ou.er (.deep (p.at_ + 1 + d))) = _
   rw [show p.at_ + 1 + d = p.at_ + (d + 1) by omega]
end Go.Am
namespace Go.Am
variable {b r : List UInt8} {d nn : Nat} {z : Pz} {p : PS}
theorem y13 {s : List UInt8} {x : PS} (hb : b = [] ∨ b = [32]) (h : s.drop x.to_ = b ++ brT (d + 1) (48 :: r)) : AtBr s (nextP s x) (d + 1) r ∧ (nextP s x).at_ = x.to_ + b.length := jg7 (u := 40) hb h (by decide)
theorem j2l (kd : Nat) (hb : b = [] ∨ b = [32]) (c : Cur z.s p [97, 115, 115, 101, 114, 116] (b ++ brT (d + 1) (48 :: r))) :
   ∃ q, AtBr z.s q (d + 1) r ∧ q.opened = p.opened ∧ q.at_ = p.to_ + b.length ∧ innerP z kd p = bindM (z.ex 0 q) fun v p1 => bindM (mustP z.s 10 p1) fun _ p2 => some (.ok (some p.its.length) (setIt p2 p.its.length { it0 4 p.at_ with e := [v] })) := by
 have k : p.k.kind = 36 := by rw [c.k]; exact js0
 have f := y13 (x := addIt p (it0 4 p.at_)) hb c.ahead
 refine ⟨nextP z.s (addIt p (it0 4 p.at_)), f.1, (jb0 z.s _).1, f.2, ?_⟩
 unfold innerP innerW
 rw [k, if_neg (by decide), if_pos rfl]
 rfl
theorem j47 (kd : Nat) (Z : z.ex = exprP z.s nn) (hn : d + 1 < nn) (hb : b = [] ∨ b = [32]) (c : Cur z.s p [97, 115, 115, 101, 114, 116] (b ++ brT (d + 1) (48 :: (List.replicate (d + 1) 41 ++ 59 :: r)))) (hr : Hd r) (ho : p.opened + (d + 1) ≤ 32) :
   ∃ k q, innerP z kd p = some (.ok (some k) q) ∧ q.opened = p.opened ∧ Stand z.s q r := by
 obtain ⟨q, a, o1, _, e⟩ := j2l kd hb c
 obtain ⟨v, q1, e1, o2, st⟩ := ju6 (d + 1) nn 0 q (59 :: r) a (fun u e => by injection e with e; rw [← e]; decide) (by omega) hn
 rcases st with ⟨h0, _⟩ | ⟨u, r', hu, _, c2⟩
 · cases h0
 · injection hu with hu1 hu2
   subst hu1; subst hu2
   have k10 : q1.k.kind = 10 := by rw [c2.k]; exact yw0
   have st3 : Stand z.s (nextP z.s q1) r := jk1 c2.ahead (c2.le (by simp)) hr
   refine ⟨p.its.length, setIt (nextP z.s q1) p.its.length { it0 4 p.at_ with e := [v] }, ?_, ?_, ?_⟩
   · rw [e, Z, e1, ja6]
     unfold mustP
     rw [if_pos k10, ja6]
   · show (nextP z.s q1).opened = p.opened
     rw [(jb0 z.s q1).1, o2, o1]
   · rcases st3 with ⟨x1, x2, x3⟩ | ⟨u, r', x1, x2, x3⟩
     · exact .inl ⟨x1, x2, x3⟩
     · exact .inr ⟨u, r', x1, x2, ⟨x3.dr, x3.to_, x3.k⟩⟩
theorem j2m (kd : Nat) (Z : z.ex = exprP z.s nn) (hn : d + 1 < nn) (hb : b = [] ∨ b = [32]) (c : Cur z.s p [97, 115, 115, 101, 114, 116] (b ++ brT (d + 1) [48])) (ho : p.opened + (d + 1) ≤ 32) :
   innerP z kd p = some (.er (.bad z.s.length)) := by
 obtain ⟨q, a, o1, _, e⟩ := j2l kd hb c
 rw [e, Z, jp0 d nn 0 q a (by omega) hn]
 rfl
theorem j8v {e : Nat} (kd : Nat) (Z : z.ex = exprP z.s nn) (hn : d < nn) (hb : b = [] ∨ b = [32]) (c : Cur z.s p [97, 115, 115, 101, 114, 116] (b ++ brT (d + e + 1) (48 :: r))) (hr : Hd r) (ho : p.opened + d = 32) :
   innerP z kd p = some (.er (.deep (p.to_ + b.length + d))) := by
 obtain ⟨q, a, o1, a1, h⟩ := j2l (d := d + e) kd hb c
 rw [h, Z, j2k e d nn 0 q r a hr (by omega) hn, a1]
 rfl
end Go.Am
namespace Go.Am
set_option maxRecDepth 100000
variable {z : Pz} {p : PS} {d nn : Nat} {r : List UInt8}
theorem j48 {x : List UInt8} (c : Cur z.s p [115, 116, 97, 114, 116] (32 :: 112 :: 91 :: x)) :
   ∃ f q, Cur z.s q [91] x ∧ q.opened = p.opened ∧ q.at_ = p.to_ + 2 ∧ onlyP z 1 (itemD z) p = bindM (bindM (refL z.s z.ex z.m f q) fun f p' => bindM (mustP z.s 10 p') fun _ p' => some (.ok { it0 15 p.at_ with name := f } p')) fun it q => some (.ok p.its.length (setIt q p.its.length it)) := by
 have k : p.k.kind = 63 := by rw [c.k]; exact j06
 have c1 := jg1 (p := addIt p (it0 15 p.at_)) (b := [32]) (w := [112]) (r := 91 :: x) (.inr rfl) c.ahead (by simp) (by decide) (fun u e => by injection e with e; rw [← e]; decide)
 have c2 := jg7 (b := []) (u := 91) (.inl rfl) c1.1.ahead (by decide)
 have k1 : (nextP z.s (addIt p (it0 15 p.at_))).k.kind = 1 := by rw [c1.1.k]; exact kd_p
 refine ⟨⟨(nextP z.s (addIt p (it0 15 p.at_))).k.w, (nextP z.s (addIt p (it0 15 p.at_))).at_, []⟩, nextP z.s (nextP z.s (addIt p (it0 15 p.at_))), c2.1, ?_, ?_, ?_⟩
 · rw [(jb0 z.s _).1, (jb0 z.s _).1]; rfl
 · rw [c2.2, c1.1.to_, c1.2]; rfl
 · unfold onlyP innerP innerW
   rw [k, if_neg (by decide), if_neg (by decide), if_neg (by decide), if_neg (by decide), ja6]
   simp (decide := true) only [itemD, declsP, k, reduceIte]
   unfold beginP pickP refP wordP
   rw [ja6]
   simp only [k1, reduceIte, ja6]
theorem j2n {s : List UInt8} {ex : Nat → PS → Option Ot} {n : Nat} {f : Rf} {q : PS} (c : Cur s q [91] (brT d (48 :: r))) (hr : Hd r) (ho : q.opened ≠ 32) : ∃ p1, AtBr s p1 d r ∧ p1.opened = q.opened + 1 ∧ p1.at_ = q.at_ + 1 ∧ refL s ex (n + 1) f q = bindM (ex 0 p1) fun v p => bindM (shutP s 7 p) fun _ p => refL s ex n { f with index := f.index ++ [v] } p := by
 have k : q.k.kind = 6 := by rw [c.k]; exact y7b
 have ha : s.drop (opened1 q).to_ = brT d (48 :: r) := c.ahead
 have ht : (opened1 q).to_ = q.at_ + 1 := c.to_
 have e : ∀ p1, nextP s (opened1 q) = p1 → refL s ex (n + 1) f q = bindM (ex 0 p1) fun v p => bindM (shutP s 7 p) fun _ p => refL s ex n { f with index := f.index ++ [v] } p := fun p1 h => by
   rw [← h]
   conv => lhs; unfold refL openP
   rw [if_pos k, if_pos k, if_neg ho, ja6]
 refine ⟨nextP s (opened1 q), ?_, (jb0 s _).1, ?_, e _ rfl⟩
 · cases d with
   | zero => exact (jg1 (b := []) (w := [48]) (.inl rfl) ha (by simp) (by decide) hr.wb).1
   | succ d => exact (jg7 (b := []) (.inl rfl) ha (by decide)).1
 · cases d with
   | zero => rw [(jg1 (b := []) (w := [48]) (.inl rfl) ha (by simp) (by decide) hr.wb).2, ht]; rfl
   | succ d => rw [(jg7 (b := []) (.inl rfl) ha (by decide)).2, ht]; rfl
theorem j20 (Z : z.ex = exprP z.s nn) (hn : d + 1 < nn) (hm : 0 < z.m) (c : Cur z.s p [115, 116, 97, 114, 116] (32 :: 112 :: 91 :: brT d [48])) (ho : p.opened + (d + 1) ≤ 32) :
   onlyP z 1 (itemD z) p = some (.er (.bad z.s.length)) := by
 obtain ⟨f, q, cq, o1, _, e⟩ := j48 c
 obtain ⟨m, hm⟩ : ∃ m, z.m = m + 1 := ⟨z.m - 1, by omega⟩
 obtain ⟨p1, a, o2, _, e2⟩ := j2n (ex := z.ex) (n := m) (f := f) cq (fun u e => by cases e) (by omega)
 rw [e, hm, e2, Z]
 cases d with
 | zero =>
   obtain ⟨k, rfl⟩ : ∃ k, nn = k + 1 := ⟨nn - 1, by omega⟩
   obtain ⟨v, q2, e3, _, st⟩ := j2j (n := k) (ab := 0) (show Cur z.s p1 [48] [] from a) (fun u e => by cases e)
   rcases st with ⟨_, k, at2⟩ | ⟨u, r', hu, _⟩
   · rw [e3, ja6]
     unfold shutP
     rw [if_neg (by rw [k]; decide), at2]
     rfl
   · cases hu
 | succ d =>
   rw [jp0 d nn 0 p1 a (by omega) (by omega)]
   rfl
theorem yh6 {e : Nat} (Z : z.ex = exprP z.s nn) (hn : d < nn) (hm : 0 < z.m) (c : Cur z.s p [115, 116, 97, 114, 116] (32 :: 112 :: 91 :: brT (d + e + 1) (48 :: r))) (hr : Hd r) (ho : p.opened + 1 + d = 32) :
   onlyP z 1 (itemD z) p = some (.er (.deep (p.to_ + 3 + d))) := by
 obtain ⟨f, q, cq, o1, a1, h⟩ := j48 c
 obtain ⟨m, hm⟩ : ∃ m, z.m = m + 1 := ⟨z.m - 1, by omega⟩
 obtain ⟨p1, a, o2, a2, e2⟩ := j2n (ex := z.ex) (n := m) (f := f) cq hr (by omega)
 rw [h, hm, e2, Z, j2k e d nn 0 p1 r a hr (by omega) hn, a2, a1]
 show some (Ou.er (.deep (p.to_ + 2 + 1 + d))) = _
 rfl
theorem j61 (Z : z.ex = exprP z.s nn) (hn : d < nn) (hm : 1 < z.m) (c : Cur z.s p [115, 116, 97, 114, 116] (32 :: 112 :: 91 :: brT d (48 :: (List.replicate d 41 ++ 93 :: 59 :: r)))) (hr : Hd r) (ho : p.opened + (d + 1) ≤ 32) :
   ∃ k q, onlyP z 1 (itemD z) p = some (.ok k q) ∧ q.opened = p.opened ∧ Stand z.s q r := by
 have hd1 : Hd (List.replicate d 41 ++ 93 :: 59 :: r) := fun u e => by
   cases d with
   | zero => injection e with e; rw [← e]; decide
   | succ d => injection e with e; rw [← e]; decide
 obtain ⟨f, q, cq, o1, _, e⟩ := j48 c
 obtain ⟨m, hm⟩ : ∃ m, z.m = m + 2 := ⟨z.m - 2, by omega⟩
 obtain ⟨p1, a, o2, _, e2⟩ := j2n (ex := z.ex) (n := m + 1) (f := f) cq hd1 (by omega)
 obtain ⟨v, q1, e1, o3, st⟩ := ju6 d nn 0 p1 (93 :: 59 :: r) a (fun u e => by injection e with e; rw [← e]; decide) (by omega) hn
 rcases st with ⟨h0, _⟩ | ⟨u, r', hu, _, c2⟩
 · cases h0
 · injection hu with hu1 hu2
   subst hu1; subst hu2
   have k7 : q1.k.kind = 7 := by rw [c2.k]; exact y8e
   have c3 := (jg7 (b := []) (u := 59) (.inl rfl) c2.ahead (by decide)).1
   have k10 : (nextP z.s q1).k.kind = 10 := by rw [c3.k]; exact yw0
   have k10' : (opened0 (nextP z.s q1)).k.kind = 10 := k10
   have st3 : Stand z.s (nextP z.s (opened0 (nextP z.s q1))) r := jk1 (p := opened0 (nextP z.s q1)) c3.ahead (c3.le (by simp)) hr
   refine ⟨p.its.length, setIt (nextP z.s (opened0 (nextP z.s q1))) p.its.length { it0 15 p.at_ with name := { f with index := f.index ++ [v] } }, ?_, ?_, ?_⟩
   · rw [e, hm, e2, Z, e1, ja6]
     unfold shutP
     rw [if_pos k7, ja6]
     unfold refL
     rw [if_neg (by rw [k10']; decide), ja6]
     unfold mustP
     rw [if_pos k10', ja6, ja6]
   · show (nextP z.s (opened0 (nextP z.s q1))).opened = p.opened
     rw [(jb0 z.s _).1]
     show (nextP z.s q1).opened - 1 = p.opened
     rw [(jb0 z.s q1).1]
     omega
   · rcases st3 with ⟨x1, x2, x3⟩ | ⟨u, r', x1, x2, x3⟩
     · exact .inl ⟨x1, x2, x3⟩
     · exact .inr ⟨u, r', x1, x2, ⟨x3.dr, x3.to_, x3.k⟩⟩
end Go.Am
namespace Go.Am
variable {p : PS}
def numN (p : PS) : PS := addNd p ⟨2, p.k.n, .empty, [], p.at_⟩
theorem j49 {s : List UInt8} {n ab : Nat} (k2 : p.k.kind = 2) (h : rankN (nextP s (numN p)).k.kind = 0) : exprP s (n + 1) ab p = some (.ok p.nds.length (nextP s (numN p))) := by
 unfold exprP atomP
 rw [k2, if_neg (by decide), if_pos rfl, ja6]
 exact j46 h
theorem y5p {z : Pz} {nn : Nat} {x : List UInt8} (kd : Nat) (Z : z.ex = exprP z.s (nn + 1)) (c : Cur z.s p [105, 102] (32 :: 49 :: 123 :: x)) :
   ∃ v q, Cur z.s q [123] x ∧ q.opened = p.opened ∧ q.at_ = p.to_ + 2 ∧ innerP z kd p = bindM (blockP z.s (z.ru kd) z.m q) fun l p' => bindM (takeP z.s 35 p') fun t p' => if t = true then none else some (.ok (some p.its.length) (setIt p' p.its.length { it0 3 p.at_ with e := [v], kids := l })) := by
 have k : p.k.kind = 34 := by rw [c.k]; exact yb9
 have c1 := jg1 (p := addIt p (it0 3 p.at_)) (b := [32]) (w := [49]) (r := 123 :: x) (.inr rfl) c.ahead (by simp) (by decide) (fun u e => by injection e with e; rw [← e]; decide)
 have k2 : (nextP z.s (addIt p (it0 3 p.at_))).k.kind = 2 := by rw [c1.1.k]; exact y7a
 have c2 := jg7 (p := numN (nextP z.s (addIt p (it0 3 p.at_)))) (b := []) (u := 123) (.inl rfl) c1.1.ahead (by decide)
 have k4 : (nextP z.s (numN (nextP z.s (addIt p (it0 3 p.at_))))).k.kind = 4 := by rw [c2.1.k]; exact y10
 have e := j49 (s := z.s) (n := nn) (ab := 0) k2 (by rw [k4]; rfl)
 refine ⟨(nextP z.s (addIt p (it0 3 p.at_))).nds.length, nextP z.s (numN (nextP z.s (addIt p (it0 3 p.at_)))), c2.1, ?_, ?_, ?_⟩
 · rw [(jb0 z.s _).1]
   show (nextP z.s (addIt p (it0 3 p.at_))).opened = p.opened
   rw [(jb0 z.s _).1]; rfl
 · rw [c2.2]
   show (nextP z.s (addIt p (it0 3 p.at_))).to_ + 0 = p.to_ + 2
   rw [c1.1.to_, c1.2]; rfl
 · unfold innerP innerW
   rw [k, if_neg (by decide), if_neg (by decide), if_neg (by decide), if_pos rfl]
   unfold beginP
   rw [ja6, Z, e, ja6]
theorem j8w {z : Pz} {nn : Nat} {x : List UInt8} (kd : Nat) (Z : z.ex = exprP z.s (nn + 1)) (c : Cur z.s p [101, 97, 99, 104] (32 :: 105 :: 32 :: 105 :: 110 :: 32 :: 48 :: 32 :: 46 :: 46 :: 32 :: 48 :: 123 :: x)) :
   ∃ (it : It) (q : PS), Cur z.s q [123] x ∧ q.opened = p.opened ∧ q.at_ = p.to_ + 12 ∧ innerP z kd p = bindM (blockP z.s (z.ru kd) z.m q) fun l p' => some (.ok (some p.its.length) (setIt p' p.its.length { it with kids := l })) := by
 have k : p.k.kind = 32 := by rw [c.k]; exact j45
 have c1 := jg1 (p := addIt p (it0 2 p.at_)) (b := [32]) (w := [105]) (r := 32 :: 105 :: 110 :: 32 :: 48 :: 32 :: 46 :: 46 :: 32 :: 48 :: 123 :: x) (.inr rfl) c.ahead (by simp) (by decide) (fun u e => by injection e with e; rw [← e]; decide)
 generalize hp1 : nextP z.s (addIt p (it0 2 p.at_)) = p1 at c1
 have k1 : p1.k.kind = 1 := by rw [c1.1.k]; exact kd_i
 have o1 : p1.opened = p.opened := by rw [← hp1]; exact (jb0 z.s _).1
 have c2 := jg1 (p := p1) (b := [32]) (w := [105, 110]) (r := 32 :: 48 :: 32 :: 46 :: 46 :: 32 :: 48 :: 123 :: x) (.inr rfl) c1.1.ahead (by simp) (by decide) (fun u e => by injection e with e; rw [← e]; decide)
 generalize hp2 : nextP z.s p1 = p2 at c2
 have k2 : p2.k.kind = 33 := by rw [c2.1.k]; exact y69
 have o2 : p2.opened = p1.opened := by rw [← hp2]; exact (jb0 z.s _).1
 have c3 := jg1 (p := p2) (b := [32]) (w := [48]) (r := 32 :: 46 :: 46 :: 32 :: 48 :: 123 :: x) (.inr rfl) c2.1.ahead (by simp) (by decide) (fun u e => by injection e with e; rw [← e]; decide)
 generalize hp3 : nextP z.s p2 = p3 at c3
 have k3 : p3.k.kind = 2 := by rw [c3.1.k]; exact j8t
 have o3 : p3.opened = p2.opened := by rw [← hp3]; exact (jb0 z.s _).1
 have c4 := y1z (p := numN p3) c3.1.ahead
 generalize hp4 : nextP z.s (numN p3) = p4 at c4
 have k4 : p4.k.kind = 12 := by rw [c4.1.k]; exact y5o
 have o4 : p4.opened = p3.opened := by rw [← hp4]; exact (jb0 z.s _).1
 have e4 := j49 (s := z.s) (n := nn) (ab := 0) k3 (by rw [hp4, k4]; rfl)
 have c5 := jg1 (p := p4) (b := [32]) (w := [48]) (r := 123 :: x) (.inr rfl) c4.1.ahead (by simp) (by decide) (fun u e => by injection e with e; rw [← e]; decide)
 generalize hp5 : nextP z.s p4 = p5 at c5
 have k5 : p5.k.kind = 2 := by rw [c5.1.k]; exact j8t
 have o5 : p5.opened = p4.opened := by rw [← hp5]; exact (jb0 z.s _).1
 have c6 := jg7 (p := numN p5) (b := []) (u := 123) (.inl rfl) c5.1.ahead (by decide)
 generalize hp6 : nextP z.s (numN p5) = p6 at c6
 have k6 : p6.k.kind = 4 := by rw [c6.1.k]; exact y10
 have o6 : p6.opened = p5.opened := by rw [← hp6]; exact (jb0 z.s _).1
 have e6 := j49 (s := z.s) (n := nn) (ab := 0) k5 (by rw [hp6, k6]; rfl)
 refine ⟨{ it0 2 p.at_ with name := ⟨p1.k.w, p1.at_, []⟩, e := [p3.nds.length, p5.nds.length] }, p6, c6.1, by omega, ?_, ?_⟩
 rotate_left 1
 · unfold innerP innerW
   rw [k, if_neg (by decide), if_neg (by decide), if_pos rfl]
   unfold beginP wordP mustP exE
   rw [ja6, hp1, if_pos k1, ja6, hp2, if_pos k2, ja6, hp3, Z, e4, ja6, ja6, hp4, if_pos k4, ja6, hp5, e6, ja6, ja6, hp6]
   rfl
 · have h1 := c1.2
   have h2 := c1.1.to_
   have h3 := c2.2
   have h4 := c2.1.to_
   have h5 := c3.2
   have h6 := c3.1.to_
   have h7 := c4.2
   have h8 := c4.1.to_
   have h9 := c5.2
   have h10 := c5.1.to_
   have h11 := c6.2
   have h12 : (addIt p (it0 2 p.at_)).to_ = p.to_ := rfl
   have h13 : (numN p3).to_ = p3.to_ := rfl
   have h14 : (numN p5).to_ = p5.to_ := rfl
   simp only [List.length_cons, List.length_nil] at *
   omega
end Go.Am
namespace Go.Am
set_option maxRecDepth 100000
variable {u : UInt8} {l s x r : List UInt8} {z : Pz} {k m nn : Nat} {p : PS} {F : PS → Option (Ou Nat)} {ks : List Nat}
def nXT : List Nat → List UInt8 → List UInt8
 | [], t => t
 | k :: ks, t =>
   if k = 3 then [115, 116, 97, 114, 116] ++ (32 :: 112 :: 91 :: brT ks.length (48 :: t))
   else if k = 1 then [97, 115, 115, 101, 114, 116] ++ ((if ks = [] then [32] else []) ++ brT (ks.length + 1) (48 :: t))
   else if k = 2 then [105, 102] ++ (32 :: 49 :: 123 :: nXT ks t)
   else [101, 97, 99, 104] ++ (32 :: 105 :: 32 :: 105 :: 110 :: 32 :: 48 :: 32 :: 46 :: 46 :: 32 :: 48 :: 123 :: nXT ks t)
def nCT : List Nat → List UInt8 → List UInt8
 | [], t => t
 | k :: ks, t =>
   if k = 3 then List.replicate ks.length 41 ++ 93 :: 59 :: t
   else if k = 1 then List.replicate (ks.length + 1) 41 ++ 59 :: t
   else nCT ks (125 :: t)
theorem y7c : ∀ (ks : List Nat) (t : List UInt8), Hd t → Hd (nCT ks t)
 | [], _, h => h
 | k :: ks, t, h => by
   unfold nCT
   split
   · intro u e
     cases hk : ks.length with
     | zero => rw [hk] at e; injection e with e; rw [← e]; decide
     | succ d => rw [hk] at e; injection e with e; rw [← e]; decide
   · split
     · intro u e
       injection e with e; rw [← e]; decide
     · exact y7c ks _ fun u e => by injection e with e; rw [← e]; decide
theorem yw1 (r : List UInt8) : Hd (125 :: r) := fun u e => by injection e with e; rw [← e]; decide
theorem yw2 : Hd [] := fun u e => by cases e
def opB (u : UInt8) : Bool := u == 123 || u == 91 || u == 40
def nthO : Nat → List UInt8 → Nat
 | _, [] => 0
 | j, u :: l => if opB u = true then (match j with | 0 => 0 | j + 1 => nthO j l + 1) else nthO j l + 1
theorem jq6 {j : Nat} (h : opB u = false) : nthO j (u :: l) = nthO j l + 1 := by
 show (if opB u = true then _ else _) = _
 rw [h]; rfl
theorem jq7 (h : opB u = true) : nthO 0 (u :: l) = 0 := by
 show (if opB u = true then _ else _) = _
 rw [h]; rfl
theorem jq8 {j : Nat} (h : opB u = true) : nthO (j + 1) (u :: l) = nthO j l + 1 := by
 show (if opB u = true then _ else _) = _
 rw [h]; rfl
theorem j8x : ∀ (j d : Nat) (x : List UInt8), j < d → nthO j (brT d x) = j
 | 0, d + 1, x, _ => jq7 rfl
 | j + 1, d + 1, x, h => by
   show nthO (j + 1) (40 :: brT d x) = _
   rw [jq8 rfl, j8x j d x (by omega)]
theorem jp1 : ∀ (j : Nat) (w l : List UInt8), w.all (fun u => !opB u) = true → nthO j (w ++ l) = w.length + nthO j l
 | j, [], l, _ => by simp
 | j, u :: w, l, h => by
   simp only [List.all_cons, Bool.and_eq_true, Bool.not_eq_true'] at h
   rw [List.cons_append, jq6 h.1, jp1 j w l h.2, List.length_cons]
   omega
theorem j2o {kd : Nat} {l : List Dcl} {q : PS} (h : innerP z kd p = some (.ok (some k) q)) : onlyP z kd l p = some (.ok k q) := by
 unfold onlyP
 rw [h]; rfl
theorem j0e {kd : Nat} {l : List Dcl} {e : Er} (h : innerP z kd p = some (.er e)) : onlyP z kd l p = some (.er e) := by
 unfold onlyP
 rw [h]; rfl
theorem y14 (h : p.k = tk0) : onlyP z 1 (itemD z) p = some (.er (.bad p.at_)) := by
 have k : p.k.kind = 0 := by rw [h]; rfl
 unfold onlyP innerP innerW
 rw [k, if_neg (by decide), if_neg (by decide), if_neg (by decide), if_neg (by decide), ja6]
 simp (decide := true) only [itemD, declsP, k, reduceIte]
def BlkC (s : List UInt8) (F : PS → Option (Ou Nat)) (m : Nat) (ks : List Nat) : Prop := ∀ p r, Cur s p [123] (nXT ks (nCT ks (125 :: r))) → Hd r → p.opened + 1 + ks.length ≤ 32 → ∃ l q, blockP s F m p = some (.ok l q) ∧ q.opened = p.opened ∧ Stand s q r
def BlkU (s : List UInt8) (F : PS → Option (Ou Nat)) (m : Nat) (ks : List Nat) : Prop := ∀ p, Cur s p [123] (nXT ks []) → p.opened + 1 + ks.length ≤ 32 → blockP s F m p = some (.er (.bad s.length))
def BlkD (s : List UInt8) (F : PS → Option (Ou Nat)) (m : Nat) (ks : List Nat) : Prop := ∀ p t, Cur s p [123] (nXT ks t) → Hd t → p.opened ≤ 32 → 32 < p.opened + 1 + ks.length → blockP s F m p = some (.er (.deep (p.at_ + nthO (32 - p.opened) (123 :: nXT ks t))))
theorem jn3 (c : Cur s p [123] x) (ho : p.opened ≠ 32) : blockP s F m p = bindM (blockL F m [] (nextP s (opened1 p))) fun l p => bindM (shutP s 5 p) fun _ p => some (.ok l p) := by
 have k : p.k.kind = 4 := by rw [c.k]; exact y10
 unfold blockP openP
 rw [if_pos k, if_neg ho, ja6]
theorem yw3 (c : Cur s p [125] r) (hr : Hd r) : shutP s 5 p = some (.ok () (opened0 (nextP s p))) ∧ Stand s (opened0 (nextP s p)) r := by
 have k : p.k.kind = 5 := by rw [c.k]; exact y11
 unfold shutP
 rw [if_pos k]
 exact ⟨rfl, (jk1 c.ahead (c.le (by simp)) hr).op0⟩
theorem Stand.cb {q : PS} (h : Stand s q (125 :: r)) : Cur s q [125] r := by
 rcases h with ⟨h0, _⟩ | ⟨u, r', hu, _, c⟩
 · cases h0
 · injection hu with hu1 hu2
   subst hu1; subst hu2
   exact c
theorem jf2 {w : List UInt8} (h : s.drop p.to_ = w ++ r) (hne : w ≠ []) (hw : w.all (fun u => wbI u && !blankI u && !(u == 35)) = true) (hr : ∀ u, r.head? = some u → wbI u = false) : Cur s (nextP s p) w r ∧ (nextP s p).at_ = p.to_ := jg1 (b := []) (.inl rfl) h hne hw hr
theorem j8y (Z : z.ex = exprP z.s (nn + 1)) (hn : ks.length < nn) (hm : 1 < z.m) (ih : BlkC z.s (z.ru 1) z.m ks) (h : z.s.drop p.to_ = nXT (k :: ks) (nCT (k :: ks) (125 :: r))) (ho : p.opened + 1 + ks.length ≤ 32) :
   ∃ v q, onlyP z 1 (itemD z) (nextP z.s p) = some (.ok v q) ∧ q.opened = p.opened ∧ Stand z.s q (125 :: r) ∧ (nextP z.s p).k.kind ≠ 37 ∧ (nextP z.s p).k.kind ≠ 5 := by
 unfold nXT nCT at h
 by_cases k3 : k = 3
 · rw [if_pos k3, if_pos k3] at h
   have c := (jf2 h (by simp) (by decide) (fun u e => by injection e with e; rw [← e]; decide)).1
   have o1 := (jb0 z.s p).1
   have kk : (nextP z.s p).k.kind = 63 := by rw [c.k]; exact j06
   obtain ⟨v, q, e, o, st⟩ := j61 Z (by omega) hm c (yw1 r) (by omega)
   exact ⟨v, q, e, by omega, st, by rw [kk]; decide, by rw [kk]; decide⟩
 · rw [if_neg k3, if_neg k3] at h
   by_cases k1 : k = 1
   · rw [if_pos k1, if_pos k1] at h
     have c := (jf2 h (by simp) (by decide) (fun u e => by
       by_cases hk : ks = []
       · rw [if_pos hk] at e; injection e with e; rw [← e]; decide
       · rw [if_neg hk] at e; injection e with e; rw [← e]; decide)).1
     have o1 := (jb0 z.s p).1
     have kk : (nextP z.s p).k.kind = 36 := by rw [c.k]; exact js0
     obtain ⟨v, q, e, o, st⟩ := j47 1 Z (by omega) (by split; exact .inr rfl; exact .inl rfl) c (yw1 r) (by omega)
     exact ⟨v, q, j2o e, by omega, st, by rw [kk]; decide, by rw [kk]; decide⟩
   · rw [if_neg k1, if_neg k1] at h
     by_cases k2 : k = 2
     · rw [if_pos k2] at h
       have c := (jf2 h (by simp) (by decide) (fun u e => by injection e with e; rw [← e]; decide)).1
       have o1 := (jb0 z.s p).1
       have kk : (nextP z.s p).k.kind = 34 := by rw [c.k]; exact yb9
       obtain ⟨v, q, cq, oq, _, e⟩ := y5p 1 Z c
       obtain ⟨l, q2, e2, o2, st⟩ := ih q _ cq (yw1 r) (by omega)
       have kt : q2.k.kind = 5 := by rw [st.cb.k]; exact y11
       rw [e2, ja6] at e
       unfold takeP at e
       rw [if_neg (by rw [kt]; decide), ja6, if_neg (by decide)] at e
       refine ⟨_, _, j2o e, by show q2.opened = _; omega, ?_, by rw [kk]; decide, by rw [kk]; decide⟩
       exact .inr ⟨125, r, rfl, by decide, ⟨st.cb.dr, st.cb.to_, st.cb.k⟩⟩
     · rw [if_neg k2] at h
       have c := (jf2 h (by simp) (by decide) (fun u e => by injection e with e; rw [← e]; decide)).1
       have o1 := (jb0 z.s p).1
       have kk : (nextP z.s p).k.kind = 32 := by rw [c.k]; exact j45
       obtain ⟨v, q, cq, oq, _, e⟩ := j8w 1 Z c
       obtain ⟨l, q2, e2, o2, st⟩ := ih q _ cq (yw1 r) (by omega)
       rw [e2, ja6] at e
       refine ⟨_, _, j2o e, by show q2.opened = _; omega, ?_, by rw [kk]; decide, by rw [kk]; decide⟩
       exact .inr ⟨125, r, rfl, by decide, ⟨st.cb.dr, st.cb.to_, st.cb.k⟩⟩
theorem js5 (hm : 1 < m) : BlkC s F m [] := fun p r c hr ho => by
 have c1 := (jg7 (p := opened1 p) (b := []) (u := 125) (r := r) (.inl rfl) c.ahead (by decide)).1
 have k1 : (nextP s (opened1 p)).k.kind = 5 := by rw [c1.k]; exact y11
 obtain ⟨m, rfl⟩ : ∃ y, m = y + 1 := ⟨m - 1, by omega⟩
 obtain ⟨e, st⟩ := yw3 c1 hr
 refine ⟨[], _, ?_, ?_, st⟩
 · rw [jn3 c (by simp at ho; omega)]
   unfold blockL
   rw [if_pos k1, ja6, e, ja6]
 · show (nextP s (nextP s (opened1 p))).opened - 1 = p.opened
   rw [(jb0 s _).1, (jb0 s _).1]
   show p.opened + 1 - 1 = _
   omega
theorem jq9 (hF : ∀ p, p.k.kind ≠ 37 → F p = onlyP z 1 (itemD z) p) (Z : z.ex = exprP z.s (nn + 1)) (hn : ks.length < nn) (hm : 1 < z.m) (ih : BlkC z.s (z.ru 1) z.m ks) : BlkC z.s F z.m (k :: ks) := fun p r c hr ho => by
 rw [List.length_cons] at ho
 obtain ⟨v, q, e, o, st, n37, n5⟩ := j8y (p := opened1 p) Z hn hm ih c.ahead (by show p.opened + 1 + 1 + ks.length ≤ 32; omega)
 obtain ⟨m, hm'⟩ : ∃ m, z.m = m + 2 := ⟨z.m - 2, by omega⟩
 have k5 : q.k.kind = 5 := by rw [st.cb.k]; exact y11
 obtain ⟨e2, st2⟩ := yw3 st.cb hr
 refine ⟨[v], opened0 (nextP z.s q), ?_, ?_, st2⟩
 · rw [jn3 c (by omega), hm']
   unfold blockL
   rw [if_neg n5, hF _ n37, e, ja6]
   unfold blockL
   rw [if_pos k5, ja6, e2, ja6]
   rfl
 · show (nextP z.s q).opened - 1 = p.opened
   rw [(jb0 z.s _).1, o]
   show p.opened + 1 - 1 = _
   omega
theorem j5a (Z : z.ex = exprP z.s (nn + 1)) (hn : ks.length < nn) (hm : 1 < z.m) (ih : BlkU z.s (z.ru 1) z.m ks) (h : z.s.drop p.to_ = nXT (k :: ks) []) (ho : p.opened + 1 + ks.length ≤ 32) :
   onlyP z 1 (itemD z) (nextP z.s p) = some (.er (.bad z.s.length)) ∧ (nextP z.s p).k.kind ≠ 37 ∧ (nextP z.s p).k.kind ≠ 5 := by
 unfold nXT at h
 have o1 := (jb0 z.s p).1
 by_cases k3 : k = 3
 · rw [if_pos k3] at h
   have c := (jf2 h (by simp) (by decide) (fun u e => by injection e with e; rw [← e]; decide)).1
   have kk : (nextP z.s p).k.kind = 63 := by rw [c.k]; exact j06
   exact ⟨j20 Z (by omega) (by omega) c (by omega), by rw [kk]; decide, by rw [kk]; decide⟩
 · rw [if_neg k3] at h
   by_cases k1 : k = 1
   · rw [if_pos k1] at h
     have c := (jf2 h (by simp) (by decide) (fun u e => by
       by_cases hk : ks = []
       · rw [if_pos hk] at e; injection e with e; rw [← e]; decide
       · rw [if_neg hk] at e; injection e with e; rw [← e]; decide)).1
     have kk : (nextP z.s p).k.kind = 36 := by rw [c.k]; exact js0
     exact ⟨j0e (j2m 1 Z (by omega) (by split; exact .inr rfl; exact .inl rfl) c (by omega)), by rw [kk]; decide, by rw [kk]; decide⟩
   · rw [if_neg k1] at h
     by_cases k2 : k = 2
     · rw [if_pos k2] at h
       have c := (jf2 h (by simp) (by decide) (fun u e => by injection e with e; rw [← e]; decide)).1
       have kk : (nextP z.s p).k.kind = 34 := by rw [c.k]; exact yb9
       obtain ⟨v, q, cq, oq, _, e⟩ := y5p 1 Z c
       rw [ih q cq (by omega), jg6] at e
       exact ⟨j0e e, by rw [kk]; decide, by rw [kk]; decide⟩
     · rw [if_neg k2] at h
       have c := (jf2 h (by simp) (by decide) (fun u e => by injection e with e; rw [← e]; decide)).1
       have kk : (nextP z.s p).k.kind = 32 := by rw [c.k]; exact j45
       obtain ⟨v, q, cq, oq, _, e⟩ := j8w 1 Z c
       rw [ih q cq (by omega), jg6] at e
       exact ⟨j0e e, by rw [kk]; decide, by rw [kk]; decide⟩
theorem jp5 (hF : ∀ p, p.k.kind ≠ 37 → F p = onlyP z 1 (itemD z) p) (hm : 1 < z.m) : BlkU z.s F z.m [] := fun p c ho => by
 have st := jk1 (p := opened1 p) c.ahead (c.le (by simp)) yw2
 obtain ⟨m, hm'⟩ : ∃ m, z.m = m + 1 := ⟨z.m - 1, by omega⟩
 rw [jn3 c (by simp at ho; omega), hm']
 rcases st with ⟨_, k, a⟩ | ⟨u, r', hu, _⟩
 · unfold blockL
   rw [if_neg (by rw [k]; decide), hF _ (by rw [k]; decide), y14 k, a]
   rfl
 · cases hu
theorem jn4 (hF : ∀ p, p.k.kind ≠ 37 → F p = onlyP z 1 (itemD z) p) (Z : z.ex = exprP z.s (nn + 1)) (hn : ks.length < nn) (hm : 1 < z.m) (ih : BlkU z.s (z.ru 1) z.m ks) : BlkU z.s F z.m (k :: ks) := fun p c ho => by
 rw [List.length_cons] at ho
 obtain ⟨e, n37, n5⟩ := j5a (p := opened1 p) Z hn hm ih c.ahead (by show p.opened + 1 + 1 + ks.length ≤ 32; omega)
 obtain ⟨m, hm'⟩ : ∃ m, z.m = m + 1 := ⟨z.m - 1, by omega⟩
 rw [jn3 c (by omega), hm']
 unfold blockL
 rw [if_neg n5, hF _ n37, e]
 rfl
theorem j8z (hm : 0 < z.m) (c : Cur z.s p [115, 116, 97, 114, 116] (32 :: 112 :: 91 :: x)) (ho : p.opened = 32) : onlyP z 1 (itemD z) p = some (.er (.deep (p.to_ + 2))) := by
 obtain ⟨f, q, cq, o1, a1, h⟩ := j48 c
 obtain ⟨m, hm⟩ : ∃ m, z.m = m + 1 := ⟨z.m - 1, by omega⟩
 have k : q.k.kind = 6 := by rw [cq.k]; exact y7b
 rw [h, hm]
 unfold refL openP
 rw [if_pos k, if_pos k, if_pos (by omega), a1]
 rfl
theorem yw4 {t : List UInt8} (Z : z.ex = exprP z.s (nn + 1)) (hn : ks.length < nn) (hm : 1 < z.m) (ih : BlkD z.s (z.ru 1) z.m ks) (h : z.s.drop p.to_ = nXT (k :: ks) t) (ht : Hd t) (ho : p.opened ≤ 32) (hd : 32 < p.opened + 1 + ks.length) :
   onlyP z 1 (itemD z) (nextP z.s p) = some (.er (.deep (p.to_ + nthO (32 - p.opened) (nXT (k :: ks) t)))) ∧ (nextP z.s p).k.kind ≠ 37 ∧ (nextP z.s p).k.kind ≠ 5 := by
 have o1 := (jb0 z.s p).1
 by_cases k3 : k = 3
 · have eX : nXT (k :: ks) t = [115, 116, 97, 114, 116] ++ (32 :: 112 :: 91 :: brT ks.length (48 :: t)) := by unfold nXT; rw [if_pos k3]
   rw [eX] at h
   have c := jf2 h (by simp) (by decide) (fun u e => by injection e with e; rw [← e]; decide)
   have kk : (nextP z.s p).k.kind = 63 := by rw [c.1.k]; exact j06
   refine ⟨?_, by rw [kk]; decide, by rw [kk]; decide⟩
   have hto : (nextP z.s p).to_ = p.to_ + 5 := by rw [c.1.to_, c.2]; rfl
   rw [eX, jp1 _ _ _ (by decide), jq6 (by decide), jq6 (by decide)]
   by_cases h32 : p.opened = 32
   · rw [j8z (by omega) c.1 (by omega), h32, jq7 (by decide), hto]
     rfl
   · obtain ⟨d, hd'⟩ : ∃ d, 32 - p.opened = d + 1 := ⟨31 - p.opened, by omega⟩
     obtain ⟨e, he⟩ : ∃ e, ks.length = d + e + 1 := ⟨ks.length - d - 1, by omega⟩
     have c' := c.1
     rw [he] at c'
     rw [yh6 Z (d := d) (e := e) (by omega) (by omega) c' ht (by omega), hd', jq8 (by decide), j8x d _ _ (by omega), hto]
     show some (Ou.er (.deep (p.to_ + 5 + 3 + d))) = some (Ou.er (.deep (p.to_ + (5 + (d + 1 + 1 + 1)))))
     rw [show p.to_ + 5 + 3 + d = p.to_ + (5 + (d + 1 + 1 + 1)) by omega]
 · by_cases k1 : k = 1
   · have eX : nXT (k :: ks) t = [97, 115, 115, 101, 114, 116] ++ ((if ks = [] then [32] else []) ++ brT (ks.length + 1) (48 :: t)) := by unfold nXT; rw [if_neg k3, if_pos k1]
     rw [eX] at h
     have c := jf2 h (by simp) (by decide) (fun u e => by
       by_cases hk : ks = []
       · rw [if_pos hk] at e; injection e with e; rw [← e]; decide
       · rw [if_neg hk] at e; injection e with e; rw [← e]; decide)
     have kk : (nextP z.s p).k.kind = 36 := by rw [c.1.k]; exact js0
     refine ⟨?_, by rw [kk]; decide, by rw [kk]; decide⟩
     have hto : (nextP z.s p).to_ = p.to_ + 6 := by rw [c.1.to_, c.2]; rfl
     obtain ⟨e, he⟩ : ∃ e, ks.length = (32 - p.opened) + e := ⟨ks.length - (32 - p.opened), by omega⟩
     have hb : (if ks = [] then [(32 : UInt8)] else []) = [] ∨ (if ks = [] then [(32 : UInt8)] else []) = [32] := by split; exact .inr rfl; exact .inl rfl
     have c' := c.1
     rw [eX]
     generalize (if ks = [] then [(32 : UInt8)] else []) = b at hb c'
     have hw : b.all (fun u => !opB u) = true := by rcases hb with rfl | rfl <;> decide
     rw [jp1 _ _ _ (by decide), jp1 _ _ _ hw, j8x _ _ _ (by omega)]
     rw [he] at c'
     rw [j0e (j8v 1 Z (d := 32 - p.opened) (e := e) (by omega) hb c' ht (by omega)), hto]
     show some (Ou.er (.deep _)) = some (Ou.er (.deep (p.to_ + (6 + (b.length + (32 - p.opened))))))
     rw [show p.to_ + 6 + b.length + (32 - p.opened) = p.to_ + (6 + (b.length + (32 - p.opened))) by omega]
   · by_cases k2 : k = 2
     · have eX : nXT (k :: ks) t = [105, 102] ++ (32 :: 49 :: 123 :: nXT ks t) := by conv => lhs; unfold nXT; rw [if_neg k3, if_neg k1, if_pos k2]
       rw [eX] at h
       have c := jf2 h (by simp) (by decide) (fun u e => by injection e with e; rw [← e]; decide)
       have kk : (nextP z.s p).k.kind = 34 := by rw [c.1.k]; exact yb9
       refine ⟨?_, by rw [kk]; decide, by rw [kk]; decide⟩
       have hto : (nextP z.s p).to_ = p.to_ + 2 := by rw [c.1.to_, c.2]; rfl
       obtain ⟨v, q, cq, oq, aq, e⟩ := y5p 1 Z c.1
       rw [ih q t cq ht (by omega) (by omega), jg6] at e
       have eN : nthO (32 - p.opened) ([105, 102] ++ (32 :: 49 :: 123 :: nXT ks t)) = 4 + nthO (32 - p.opened) (123 :: nXT ks t) := jp1 _ [105, 102, 32, 49] _ (by decide)
       rw [j0e e, eX, eN, aq, hto, oq, o1]
       rw [show ∀ x, p.to_ + 2 + 2 + x = p.to_ + (4 + x) from fun x => by omega]
     · have eX : nXT (k :: ks) t = [101, 97, 99, 104] ++ (32 :: 105 :: 32 :: 105 :: 110 :: 32 :: 48 :: 32 :: 46 :: 46 :: 32 :: 48 :: 123 :: nXT ks t) := by conv => lhs; unfold nXT; rw [if_neg k3, if_neg k1, if_neg k2]
       rw [eX] at h
       have c := jf2 h (by simp) (by decide) (fun u e => by injection e with e; rw [← e]; decide)
       have kk : (nextP z.s p).k.kind = 32 := by rw [c.1.k]; exact j45
       refine ⟨?_, by rw [kk]; decide, by rw [kk]; decide⟩
       have hto : (nextP z.s p).to_ = p.to_ + 4 := by rw [c.1.to_, c.2]; rfl
       obtain ⟨v, q, cq, oq, aq, e⟩ := j8w 1 Z c.1
       rw [ih q t cq ht (by omega) (by omega), jg6] at e
       have eN : nthO (32 - p.opened) ([101, 97, 99, 104] ++ (32 :: 105 :: 32 :: 105 :: 110 :: 32 :: 48 :: 32 :: 46 :: 46 :: 32 :: 48 :: 123 :: nXT ks t)) = 16 + nthO (32 - p.opened) (123 :: nXT ks t) := jp1 _ [101, 97, 99, 104, 32, 105, 32, 105, 110, 32, 48, 32, 46, 46, 32, 48] _ (by decide)
       rw [j0e e, eX, eN, aq, hto, oq, o1]
       show some (Ou.er (.deep (p.to_ + 4 + 12 + nthO (32 - p.opened) _))) = some (Ou.er (.deep (p.to_ + (16 + nthO (32 - p.opened) _))))
       rw [show ∀ x, p.to_ + 4 + 12 + x = p.to_ + (16 + x) from fun x => by omega]
theorem j62 (c : Cur s p [123] x) (ho : p.opened = 32) : blockP s F m p = some (.er (.deep (p.at_ + nthO (32 - p.opened) (123 :: x)))) := by
 have k : p.k.kind = 4 := by rw [c.k]; exact y10
 rw [ho, jq7 (by decide)]
 unfold blockP openP
 rw [if_pos k, if_pos ho]
 rfl
theorem j0o : BlkD s F m [] := fun p t c ht ho hd => j62 c (by simp at hd; omega)
theorem jx7 (hF : ∀ p, p.k.kind ≠ 37 → F p = onlyP z 1 (itemD z) p) (Z : z.ex = exprP z.s (nn + 1)) (hn : ks.length < nn) (hm : 1 < z.m) (ih : BlkD z.s (z.ru 1) z.m ks) : BlkD z.s F z.m (k :: ks) := fun p t c ht ho hd => by
 by_cases h32 : p.opened = 32
 · exact j62 c h32
 · rw [List.length_cons] at hd
   obtain ⟨e, n37, n5⟩ := yw4 (p := opened1 p) Z hn hm ih c.ahead ht (by show p.opened + 1 ≤ 32; omega) (by show 32 < p.opened + 1 + 1 + ks.length; omega)
   obtain ⟨m, hm'⟩ : ∃ m, z.m = m + 1 := ⟨z.m - 1, by omega⟩
   obtain ⟨d, hd'⟩ : ∃ d, 32 - p.opened = d + 1 := ⟨31 - p.opened, by omega⟩
   rw [jn3 c h32, hm', hd', jq8 (by decide)]
   unfold blockL
   rw [if_neg n5, hF _ n37, e]
   have ho1 : (opened1 p).opened = p.opened + 1 := rfl
   have ht1 : (opened1 p).to_ = p.at_ + 1 := c.to_
   rw [ho1, ht1, show 32 - (p.opened + 1) = d by omega, show ∀ x, p.at_ + 1 + x = p.at_ + (x + 1) from fun x => by omega]
   rfl
theorem yc0 {ex : Nat → PS → Option Ot} {n : Nat} : ∀ p, p.k.kind ≠ 37 → ruP s ex m (n + 1) 1 p = onlyP ⟨s, ex, m, ruP s ex m n⟩ 1 (itemD ⟨s, ex, m, ruP s ex m n⟩) p := fun _ _ => rfl
theorem j5b {ex : Nat → PS → Option Ot} {n : Nat} : ∀ p, p.k.kind ≠ 37 → ruP s ex m (n + 1) 0 p = onlyP ⟨s, ex, m, ruP s ex m n⟩ 1 (itemD ⟨s, ex, m, ruP s ex m n⟩) p := fun p h => by
 show ownP _ p = _
 unfold ownP
 rw [if_neg h]
theorem yw5 (s : List UInt8) {nn m : Nat} (hm : 1 < m) : ∀ (ks : List Nat) (n : Nat), ks.length ≤ nn → ks.length < n → (BlkC s (ruP s (exprP s (nn + 1)) m n 1) m ks ∧ BlkU s (ruP s (exprP s (nn + 1)) m n 1) m ks ∧ BlkD s (ruP s (exprP s (nn + 1)) m n 1) m ks)
 | [], n + 1, _, _ => ⟨js5 hm, jp5 (z := ⟨s, exprP s (nn + 1), m, ruP s (exprP s (nn + 1)) m n⟩) yc0 hm, j0o⟩
 | k :: ks, n + 1, hn, h => by
   rw [List.length_cons] at hn h
   obtain ⟨a, b, c⟩ := yw5 s (nn := nn) hm ks n (by omega) (by omega)
   exact ⟨jq9 (z := ⟨s, exprP s (nn + 1), m, ruP s (exprP s (nn + 1)) m n⟩) yc0 rfl (by omega) hm a, jn4 (z := ⟨s, exprP s (nn + 1), m, ruP s (exprP s (nn + 1)) m n⟩) yc0 rfl (by omega) hm b, jx7 (z := ⟨s, exprP s (nn + 1), m, ruP s (exprP s (nn + 1)) m n⟩) yc0 rfl (by omega) hm c⟩
theorem j80 (s : List UInt8) {nn m : Nat} (hm : 1 < m) : ∀ (ks : List Nat) (n : Nat), ks.length ≤ nn → ks.length < n → (BlkC s (ruP s (exprP s (nn + 1)) m n 0) m ks ∧ BlkU s (ruP s (exprP s (nn + 1)) m n 0) m ks ∧ BlkD s (ruP s (exprP s (nn + 1)) m n 0) m ks)
 | [], n + 1, _, _ => ⟨js5 hm, jp5 (z := ⟨s, exprP s (nn + 1), m, ruP s (exprP s (nn + 1)) m n⟩) j5b hm, j0o⟩
 | k :: ks, n + 1, hn, h => by
   rw [List.length_cons] at hn h
   obtain ⟨a, b, c⟩ := yw5 s (nn := nn) hm ks n (by omega) (by omega)
   exact ⟨jq9 (z := ⟨s, exprP s (nn + 1), m, ruP s (exprP s (nn + 1)) m n⟩) j5b rfl (by omega) hm a, jn4 (z := ⟨s, exprP s (nn + 1), m, ruP s (exprP s (nn + 1)) m n⟩) j5b rfl (by omega) hm b, jx7 (z := ⟨s, exprP s (nn + 1), m, ruP s (exprP s (nn + 1)) m n⟩) j5b rfl (by omega) hm c⟩
end Go.Am
