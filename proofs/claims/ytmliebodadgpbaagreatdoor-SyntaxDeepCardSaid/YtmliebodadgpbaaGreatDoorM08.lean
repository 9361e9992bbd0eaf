/- The parser's reader: its block, and what stays of the rest. -/
import Derived.Test.YtmliebodadgpbaaGreatDoorM07
import Derived.Test.YtmliebodadgpbaaGreatDoorM05
open Go.Proofs
namespace Go.Am
noncomputable abbrev CH (N : Nat) (hk : Hook) (d : Nat) : Kf := callH PP okC prS XX N hk d
structure Rf where
 word : ByteArray
 at_ : Nat
 index : List Nat
structure Nd where
 op : Int
 n : Int
 s : ByteArray
 kids : List Nat
 at_ : Nat
structure It where
 kind : Int
 pos : Nat
 name : Rf
 from_ : Rf
 to_ : Rf
 over_ : Rf
 params : List Rf
 e : List Nat
 flags : Int
 how : Int
 text : ByteArray
 kids : List Nat
 els : List Nat
structure PS where
 at_ : Nat
 to_ : Nat
 k : Tk
 opened : Nat
 its : List It
 nds : List Nd
structure RS where
 at_ : Nat
 to_ : Nat
 k : Tk
 bad : Int
 want : Value
 name : Bool
 num : Bool
 opened : Nat
 pos : Nat
 word : ByteArray
 wat : Nat
 index : Value
 items : Value
 nodes : Value
 top : Value
 its : List It
 nds : List Nd
 own : Nat → Prop
 wl : Nat
def RS.ps (R : RS) : PS := ⟨R.at_, R.to_, R.k, R.opened, R.its, R.nds⟩
def rdC (a : Option Addr) (c : Nat) (s : List UInt8) (R : RS) : List Value := [.slice a s.length c, .int .i64 (R.at_ : Int), .int .i64 (R.to_ : Int), .int .i64 R.k.kind, .int .u64 R.k.n, .string R.k.w, .int .i64 (R.k.from_ : Int), .int .i64 (R.k.to_ : Int), .int .i64 R.bad, R.want, .bool R.name, .bool R.num, .int .i64 (R.opened : Int), .int .i64 (R.pos : Int), .string R.word, .int .i64 (R.wat : Int), R.index, R.items, R.nodes, R.top]
def rdB (a : Option Addr) (c : Nat) (s : List UInt8) (R : RS) : Blk := ⟨rdC a c s R, true, 1, none⟩
def blkOf : Value → Option Nat
 | .slice (some y) _ _ => some y.block
 | _ => none
def mine (b : Nat) (R : RS) (q : Nat) : Prop := q = b ∨ blkOf R.want = some q ∨ blkOf R.items = some q ∨ blkOf R.nodes = some q
def Row (H : Heap) (v : Value) (es n : Nat) (cells : List Value) : Prop :=
 (v = .slice none 0 0 ∧ n = 0 ∧ cells = []) ∨ ∃ q, v = .slice (some ⟨q, 0, none⟩) n n ∧ H.get q = some ⟨cells, true, es, none⟩ ∧ cells.length = n * es
def intsC (l : List Nat) : List Value := l.map fun (i : Nat) => Value.int .i64 (i : Int)
def Ints (H : Heap) (F : Nat → Prop) (v : Value) (l : List Nat) : Prop :=
 (v = .slice none 0 0 ∧ l = []) ∨ ∃ q, F q ∧ v = .slice (some ⟨q, 0, none⟩) l.length l.length ∧ H.get q = some ⟨intsC l, true, 1, none⟩ ∧ l ≠ []
def NdR (H : Heap) (F : Nat → Prop) (x : Nd) (cells : List Value) : Prop := ∃ v, cells = [.int .i64 x.op, .int .u64 x.n, .string x.s, v, .int .i64 (x.at_ : Int)] ∧ Ints H F v x.kids
def RfR (H : Heap) (F : Nat → Prop) (x : Rf) (cells : List Value) : Prop := ∃ v, cells = [.string x.word, .int .i64 (x.at_ : Int), v] ∧ Ints H F v x.index
def All2 {α : Type} (Q : α → List Value → Prop) : List α → List Value → Prop
 | [], cells => cells = []
 | x :: l, cells => ∃ u v, cells = u ++ v ∧ Q x u ∧ All2 Q l v
def Refs (H : Heap) (F : Nat → Prop) (v : Value) (l : List Rf) : Prop :=
 (v = .slice none 0 0 ∧ l = []) ∨ ∃ q cells, F q ∧ v = .slice (some ⟨q, 0, none⟩) l.length l.length ∧ H.get q = some ⟨cells, true, 3, none⟩ ∧ All2 (RfR H F) l cells ∧ l ≠ []
def ItR (H : Heap) (F : Nat → Prop) (x : It) (cells : List Value) : Prop := ∃ u1 u2 u3 u4 vp ve vk vl, cells = [.int .i64 x.kind, .int .i64 (x.pos : Int)] ++ u1 ++ u2 ++ u3 ++ u4 ++ [vp, ve, .int .i64 x.flags, .int .i64 x.how, .string x.text, vk, vl] ∧
 RfR H F x.name u1 ∧ RfR H F x.from_ u2 ∧ RfR H F x.to_ u3 ∧ RfR H F x.over_ u4 ∧ Refs H F vp x.params ∧ Ints H F ve x.e ∧ Ints H F vk x.kids ∧ Ints H F vl x.els
structure Fr (S : Nat → Prop) (H H' : Heap) : Prop where
 next : H.next ≤ H'.next
 keep : ∀ q x, H.get q = some x → ¬ S q → H'.get q = some x
 fresh : Fresh H'
def numV (v : Value) : Prop := ∃ k : Int, v = .int .i64 k
structure Rd (a : Option Addr) (c : Nat) (s : List UInt8) (b : Nat) (H : Heap) (R : RS) : Prop where
 gg : Ext GE H
 lt : ∀ q, R.own q → q < H.next
 low : ∀ q, q < GE.next → R.own q
 mo : ∀ q, mine b R q → R.own q ∧ GE.next ≤ q
 row : Brow H a s
 src : ∀ y, a = some y → R.own y.block ∧ ¬ mine b R y.block
 cap : s.length ≤ c
 short : s.length ≤ 1048576 ∧ okP s
 blk : H.get b = some (rdB a c s R)
 want : R.want = .slice none 0 0 ∨ ∃ q n m, R.want = .slice (some ⟨q, 0, none⟩) n m ∧ n ≤ m ∧ m ≤ 2000 ∧ n ≤ R.wl ∧ ∃ ws, H.get q = some ⟨ws, true, 1, none⟩ ∧ ws.length = m ∧ ∀ v ∈ ws, numV v
 d1 : blkOf R.want ≠ some b ∧ blkOf R.items ≠ some b ∧ blkOf R.nodes ≠ some b
 d2 : ∀ q, blkOf R.want = some q → blkOf R.items ≠ some q ∧ blkOf R.nodes ≠ some q
 d3 : ∀ q, blkOf R.items = some q → blkOf R.nodes ≠ some q
 items : ∃ cells, Row H R.items 21 R.its.length cells ∧ All2 (ItR H fun q => R.own q ∧ ¬ mine b R q) R.its cells
 nodes : ∃ cells, Row H R.nodes 5 R.nds.length cells ∧ All2 (NdR H fun q => R.own q ∧ ¬ mine b R q) R.nds cells
 sz : R.its.length ≤ R.to_ ∧ R.nds.length ≤ R.to_ ∧ R.opened ≤ 32 ∧ R.at_ ≤ R.to_ ∧ R.to_ ≤ s.length
structure Go (a : Option Addr) (c : Nat) (s : List UInt8) (b : Nat) (H : Heap) (R : RS) (H' : Heap) (R' : RS) : Prop where
 rd : Rd a c s b H' R'
 fr : Fr (mine b R) H H'
 own : ∀ q, R'.own q → R.own q ∨ H.next ≤ q
 own' : ∀ q, R.own q → R'.own q
 mine : ∀ q, Am.mine b R' q → Am.mine b R q ∨ H.next ≤ q
 grow : R.at_ ≤ R'.at_ ∧ R'.its.length + R.at_ ≤ R.its.length + R'.at_ ∧ R'.nds.length + R.at_ ≤ R.nds.length + R'.at_
theorem Fr.refl {S : Nat → Prop} {H : Heap} (h : Fresh H) : Fr S H H := ⟨Nat.le_refl _, fun _ _ e _ => e, h⟩
theorem Rd.fresh {a : Option Addr} {c : Nat} {s : List UInt8} {b : Nat} {H : Heap} {R : RS} (x : Rd a c s b H R) : Fresh H := x.gg.fresh
theorem Rd.ltN {a : Option Addr} {c : Nat} {s : List UInt8} {b : Nat} {H : Heap} {R : RS} (x : Rd a c s b H R) : b < H.next := x.lt b (x.mo b (.inl rfl)).1
theorem Go.refl {a : Option Addr} {c : Nat} {s : List UInt8} {b : Nat} {H : Heap} {R : RS} (x : Rd a c s b H R) : Go a c s b H R H R := ⟨x, .refl x.fresh, fun _ h => .inl h, fun _ h => h, fun _ h => .inl h, Nat.le_refl _, Nat.le_refl _, Nat.le_refl _⟩
theorem jc9 {H : Heap} (h : Fresh H) {q : Nat} {x : Blk} (e : H.get q = some x) : q < H.next := by
 rcases Nat.lt_or_ge q H.next with k | k
 · exact k
 · rw [h q k] at e; cases e
theorem Go.trans {a : Option Addr} {c : Nat} {s : List UInt8} {b : Nat} {H H1 H2 : Heap} {R R1 R2 : RS} (x : Rd a c s b H R) (h : Go a c s b H R H1 R1) (k : Go a c s b H1 R1 H2 R2) : Go a c s b H R H2 R2 := by
 refine ⟨k.rd, ⟨Nat.le_trans h.fr.next k.fr.next, fun q y e hn => ?_, k.fr.fresh⟩, fun q hq => ?_, fun q hq => k.own' q (h.own' q hq), fun q hq => ?_, ?_⟩
 · refine k.fr.keep q y (h.fr.keep q y e hn) fun hm => ?_
   rcases h.mine q hm with e' | e'
   · exact hn e'
   · have := jc9 x.fresh e; omega
 · rcases k.own q hq with e | e
   · exact h.own q e
   · exact .inr (Nat.le_trans h.fr.next e)
 · rcases k.mine q hq with e | e
   · exact h.mine q e
   · exact .inr (Nat.le_trans h.fr.next e)
 · have g1 := h.grow
   have g2 := k.grow
   omega
theorem Ints.keep {H H' : Heap} {F F' : Nat → Prop} (hF : ∀ q x, F q → H.get q = some x → F' q ∧ H'.get q = some x) {v : Value} {l : List Nat} (h : Ints H F v l) : Ints H' F' v l := by
 rcases h with h | ⟨q, h1, h2, h3, h4⟩
 · exact .inl h
 · obtain ⟨f1, f2⟩ := hF q _ h1 h3
   exact .inr ⟨q, f1, h2, f2, h4⟩
theorem All2.mono {α : Type} {Q Q' : α → List Value → Prop} (h : ∀ x u, Q x u → Q' x u) : ∀ {l : List α} {cells : List Value}, All2 Q l cells → All2 Q' l cells
 | [], _, e => e
 | _ :: _, _, ⟨u, v, e, q, r⟩ => ⟨u, v, e, h _ _ q, All2.mono h r⟩
theorem NdR.keep {H H' : Heap} {F F' : Nat → Prop} (hF : ∀ q x, F q → H.get q = some x → F' q ∧ H'.get q = some x) {x : Nd} {u : List Value} (h : NdR H F x u) : NdR H' F' x u := let ⟨v, e, k⟩ := h; ⟨v, e, k.keep hF⟩
theorem RfR.keep {H H' : Heap} {F F' : Nat → Prop} (hF : ∀ q x, F q → H.get q = some x → F' q ∧ H'.get q = some x) {x : Rf} {u : List Value} (h : RfR H F x u) : RfR H' F' x u := let ⟨v, e, k⟩ := h; ⟨v, e, k.keep hF⟩
theorem Refs.keep {H H' : Heap} {F F' : Nat → Prop} (hF : ∀ q x, F q → H.get q = some x → F' q ∧ H'.get q = some x) {v : Value} {l : List Rf} (h : Refs H F v l) : Refs H' F' v l := by
 rcases h with h | ⟨q, cells, h1, h2, h3, h4, h5⟩
 · exact .inl h
 · obtain ⟨f1, f2⟩ := hF q _ h1 h3
   exact .inr ⟨q, cells, f1, h2, f2, h4.mono fun _ _ k => k.keep hF, h5⟩
theorem ItR.keep {H H' : Heap} {F F' : Nat → Prop} (hF : ∀ q x, F q → H.get q = some x → F' q ∧ H'.get q = some x) {x : It} {u : List Value} (h : ItR H F x u) : ItR H' F' x u :=
 let ⟨u1, u2, u3, u4, vp, ve, vk, vl, e, k1, k2, k3, k4, k5, k6, k7, k8⟩ := h
 ⟨u1, u2, u3, u4, vp, ve, vk, vl, e, k1.keep hF, k2.keep hF, k3.keep hF, k4.keep hF, k5.keep hF, k6.keep hF, k7.keep hF, k8.keep hF⟩
theorem Row.keep {H H' : Heap} {v : Value} {es n : Nat} {cells : List Value} (h : Row H v es n cells) (k : ∀ q x, blkOf v = some q → H.get q = some x → H'.get q = some x) : Row H' v es n cells := by
 rcases h with h | ⟨q, h1, h2, h3⟩
 · exact .inl h
 · exact .inr ⟨q, h1, k q _ (by rw [h1]; rfl) h2, h3⟩
theorem Brow.keep {H H' : Heap} {a : Option Addr} {s : List UInt8} (h : Brow H a s) (k : ∀ y x, a = some y → H.get y.block = some x → H'.get y.block = some x) : Brow H' a s := by
 refine ⟨fun y hy => ?_, h.nil, h.small⟩
 obtain ⟨x, h1, h2⟩ := h.row y hy
 refine ⟨x, ?_, h2⟩
 unfold Am.look at h1 ⊢
 split at h1
 · cases h1
 · rename_i hs
   split at h1
   · rename_i z hz
     rw [k y z hy hz]
     exact h1
   · cases h1
theorem Rd.keep {a : Option Addr} {c : Nat} {s : List UInt8} {b : Nat} {H H' : Heap} {R : RS} (x : Rd a c s b H R) (hn : H.next ≤ H'.next) (hf : Fresh H') (k : ∀ q y, R.own q → H.get q = some y → H'.get q = some y) : Rd a c s b H' R := by
 have km : ∀ q y, mine b R q → H.get q = some y → H'.get q = some y := fun q y hm e => k q y (x.mo q hm).1 e
 have kF : ∀ q y, (R.own q ∧ ¬ mine b R q) → H.get q = some y → (R.own q ∧ ¬ mine b R q) ∧ H'.get q = some y := fun q y hq e => ⟨hq, k q y hq.1 e⟩
 refine ⟨⟨Nat.le_trans x.gg.next hn, fun q y e => ?_, hf⟩, fun q hq => Nat.lt_of_lt_of_le (x.lt q hq) hn, x.low, x.mo, x.row.keep fun y z hy e => k _ _ (x.src y hy).1 e, x.src, x.cap, x.short, km b _ (.inl rfl) x.blk, ?_, x.d1, x.d2, x.d3, ?_, ?_, x.sz⟩
 · exact k q y (x.low q (jc9 jo0.fresh e)) (x.gg.keep q y e)
 · rcases x.want with h | ⟨q, n, m, h1, h2, h3, h3', ws, h4, h5⟩
   · exact .inl h
   · exact .inr ⟨q, n, m, h1, h2, h3, h3', ws, km q _ (.inr (.inl (by rw [h1]; rfl))) h4, h5⟩
 · obtain ⟨cells, h1, h2⟩ := x.items
   exact ⟨cells, h1.keep fun q y hq e => km q y (.inr (.inr (.inl hq))) e, h2.mono fun _ _ h => h.keep kF⟩
 · obtain ⟨cells, h1, h2⟩ := x.nodes
   exact ⟨cells, h1.keep fun q y hq e => km q y (.inr (.inr (.inr hq))) e, h2.mono fun _ _ h => h.keep kF⟩
theorem Rd.alloc {a : Option Addr} {c : Nat} {s : List UInt8} {b : Nat} {H : Heap} {R : RS} (x : Rd a c s b H R) (es : Nat) (cells : List Value) : Rd a c s b (H.alloc es cells) R := by
 have e := Ext.alloc x.fresh es cells
 exact x.keep e.next e.fresh fun q y _ h => e.keep q y h
theorem Rd.other {a : Option Addr} {c : Nat} {s : List UInt8} {b : Nat} {H : Heap} {R : RS} (x : Rd a c s b H R) {q : Nat} (hq : q < H.next) (ho : ¬ R.own q) (y : Blk) : Rd a c s b (H.set q y) R := by
 refine x.keep (Nat.le_refl _) (fun k hk => ?_) fun k z hk e => ?_
 · have hk' : H.next ≤ k := hk
   rw [Heap.get_set, if_neg (by omega)]
   exact x.fresh k hk'
 · rw [Heap.get_set, if_neg (fun e' : k = q => ho (e' ▸ hk))]; exact e
theorem rfsrc (b : Nat) : fieldAddrA PP 62 (.pointer (some ⟨b, 0, none⟩)) 0 = some (.pointer (some ⟨b, 0, none⟩)) := by kernel_rfl
theorem rfat (b : Nat) : fieldAddrA PP 62 (.pointer (some ⟨b, 0, none⟩)) 1 = some (.pointer (some ⟨b, 1, none⟩)) := by kernel_rfl
theorem rfto (b : Nat) : fieldAddrA PP 62 (.pointer (some ⟨b, 0, none⟩)) 2 = some (.pointer (some ⟨b, 2, none⟩)) := by kernel_rfl
theorem rftok (b : Nat) : fieldAddrA PP 62 (.pointer (some ⟨b, 0, none⟩)) 3 = some (.pointer (some ⟨b, 3, none⟩)) := by kernel_rfl
theorem rfbad (b : Nat) : fieldAddrA PP 62 (.pointer (some ⟨b, 0, none⟩)) 4 = some (.pointer (some ⟨b, 8, none⟩)) := by kernel_rfl
theorem rfwant (b : Nat) : fieldAddrA PP 62 (.pointer (some ⟨b, 0, none⟩)) 5 = some (.pointer (some ⟨b, 9, none⟩)) := by kernel_rfl
theorem rfname (b : Nat) : fieldAddrA PP 62 (.pointer (some ⟨b, 0, none⟩)) 6 = some (.pointer (some ⟨b, 10, none⟩)) := by kernel_rfl
theorem rfnum (b : Nat) : fieldAddrA PP 62 (.pointer (some ⟨b, 0, none⟩)) 7 = some (.pointer (some ⟨b, 11, none⟩)) := by kernel_rfl
theorem rfopened (b : Nat) : fieldAddrA PP 62 (.pointer (some ⟨b, 0, none⟩)) 8 = some (.pointer (some ⟨b, 12, none⟩)) := by kernel_rfl
theorem rftree (b : Nat) : fieldAddrA PP 62 (.pointer (some ⟨b, 0, none⟩)) 9 = some (.pointer (some ⟨b, 13, none⟩)) := by kernel_rfl
theorem kf0 (b : Nat) : fieldAddrA PP 49 (.pointer (some ⟨b, 3, none⟩)) 0 = some (.pointer (some ⟨b, 3, none⟩)) := by kernel_rfl
theorem kf1 (b : Nat) : fieldAddrA PP 49 (.pointer (some ⟨b, 3, none⟩)) 1 = some (.pointer (some ⟨b, 4, none⟩)) := by kernel_rfl
theorem kf2 (b : Nat) : fieldAddrA PP 49 (.pointer (some ⟨b, 3, none⟩)) 2 = some (.pointer (some ⟨b, 5, none⟩)) := by kernel_rfl
theorem trf0 (b : Nat) : fieldAddrA PP 28 (.pointer (some ⟨b, 13, none⟩)) 0 = some (.pointer (some ⟨b, 13, none⟩)) := by kernel_rfl
theorem trf1 (b : Nat) : fieldAddrA PP 28 (.pointer (some ⟨b, 13, none⟩)) 1 = some (.pointer (some ⟨b, 14, none⟩)) := by kernel_rfl
theorem trf2 (b : Nat) : fieldAddrA PP 28 (.pointer (some ⟨b, 13, none⟩)) 2 = some (.pointer (some ⟨b, 17, none⟩)) := by kernel_rfl
theorem trf3 (b : Nat) : fieldAddrA PP 28 (.pointer (some ⟨b, 13, none⟩)) 3 = some (.pointer (some ⟨b, 18, none⟩)) := by kernel_rfl
theorem trf4 (b : Nat) : fieldAddrA PP 28 (.pointer (some ⟨b, 13, none⟩)) 4 = some (.pointer (some ⟨b, 19, none⟩)) := by kernel_rfl
theorem jm3 : aggT PP 3 = some false := by decide +kernel
theorem jo6 : sizeT PP 3 = some 1 := by decide +kernel
theorem y7p : aggT PP 34 = some false := by decide +kernel
theorem y32 : aggT PP 35 = some false := by decide +kernel
theorem y33 : aggT PP 9 = some false := by decide +kernel
theorem j4k : aggT PP 22 = some false := by decide +kernel
theorem jw3 : sizeT PP 22 = some 1 := by decide +kernel
theorem j9x : aggT PP 4 = some false := by decide +kernel
theorem j9y : sizeT PP 4 = some 1 := by decide +kernel
theorem ym7 : aggT PP 25 = some false := by decide +kernel
theorem ym8 : sizeT PP 25 = some 1 := by decide +kernel
theorem ym9 : aggT PP 26 = some false := by decide +kernel
theorem yn0 : sizeT PP 26 = some 1 := by decide +kernel
section
variable {a : Option Addr} {c : Nat} {s : List UInt8} {b : Nat} {H : Heap} {R : RS}
theorem je2 (h : H.get b = some (rdB a c s R)) : loadA PP 34 (.pointer (some ⟨b, 0, none⟩)) H = some (.slice a s.length c, H) := by
 simp only [loadA, y7p]
 simp [ld1, look, h, rdB, rdC]
theorem jg0 (h : H.get b = some (rdB a c s R)) : loadA PP 3 (.pointer (some ⟨b, 1, none⟩)) H = some (.int .i64 (R.at_ : Int), H) := by
 simp only [loadA, jm3]
 simp [ld1, look, h, rdB, rdC]
theorem j71 (h : H.get b = some (rdB a c s R)) (x : Nat) : storeA PP 3 (.pointer (some ⟨b, 1, none⟩)) (.int .i64 (x : Int)) H = some (undef, H.set b (rdB a c s { R with at_ := x })) := by
 have hc : ((.int .i64 (x : Int)) : Value).cells = #[.int .i64 (x : Int)] := by rfl
 simp only [storeA, jo6, stV, hc]
 simp [st, look, h, rdB, rdC, over, Value.oneCell']
theorem j72 (h : H.get b = some (rdB a c s R)) : loadA PP 3 (.pointer (some ⟨b, 2, none⟩)) H = some (.int .i64 (R.to_ : Int), H) := by
 simp only [loadA, jm3]
 simp [ld1, look, h, rdB, rdC]
theorem y0q (h : H.get b = some (rdB a c s R)) (x : Nat) : storeA PP 3 (.pointer (some ⟨b, 2, none⟩)) (.int .i64 (x : Int)) H = some (undef, H.set b (rdB a c s { R with to_ := x })) := by
 have hc : ((.int .i64 (x : Int)) : Value).cells = #[.int .i64 (x : Int)] := by rfl
 simp only [storeA, jo6, stV, hc]
 simp [st, look, h, rdB, rdC, over, Value.oneCell']
theorem ju3 (h : H.get b = some (rdB a c s R)) : loadA PP 3 (.pointer (some ⟨b, 3, none⟩)) H = some (.int .i64 R.k.kind, H) := by
 simp only [loadA, jm3]
 simp [ld1, look, h, rdB, rdC]
theorem ld_n (h : H.get b = some (rdB a c s R)) : loadA PP 35 (.pointer (some ⟨b, 4, none⟩)) H = some (.int .u64 R.k.n, H) := by
 simp only [loadA, y32]
 simp [ld1, look, h, rdB, rdC]
theorem ld_w (h : H.get b = some (rdB a c s R)) : loadA PP 9 (.pointer (some ⟨b, 5, none⟩)) H = some (.string R.k.w, H) := by
 simp only [loadA, y33]
 simp [ld1, look, h, rdB, rdC]
theorem y56 (h : H.get b = some (rdB a c s R)) : loadA PP 3 (.pointer (some ⟨b, 8, none⟩)) H = some (.int .i64 R.bad, H) := by
 simp only [loadA, jm3]
 simp [ld1, look, h, rdB, rdC]
theorem yn1 (h : H.get b = some (rdB a c s R)) (x : Int) : storeA PP 3 (.pointer (some ⟨b, 8, none⟩)) (.int .i64 x) H = some (undef, H.set b (rdB a c s { R with bad := x })) := by
 have hc : ((.int .i64 x) : Value).cells = #[.int .i64 x] := by rfl
 simp only [storeA, jo6, stV, hc]
 simp [st, look, h, rdB, rdC, over, Value.oneCell']
theorem j4l (h : H.get b = some (rdB a c s R)) : loadA PP 22 (.pointer (some ⟨b, 9, none⟩)) H = some (R.want, H) := by
 simp only [loadA, j4k]
 simp [ld1, look, h, rdB, rdC]
theorem yn2 (h : H.get b = some (rdB a c s R)) (x : Value) (hv : Value.oneCell' x = true) : storeA PP 22 (.pointer (some ⟨b, 9, none⟩)) (x) H = some (undef, H.set b (rdB a c s { R with want := x })) := by
 have hc : ((x) : Value).cells = #[x] := by cases x <;> first | rfl | (simp [Value.oneCell'] at hv)
 simp only [storeA, jw3, stV, hc]
 simp [st, look, h, rdB, rdC, over, hv]
theorem y34 (h : H.get b = some (rdB a c s R)) : loadA PP 4 (.pointer (some ⟨b, 10, none⟩)) H = some (.bool R.name, H) := by
 simp only [loadA, j9x]
 simp [ld1, look, h, rdB, rdC]
theorem j73 (h : H.get b = some (rdB a c s R)) (x : Bool) : storeA PP 4 (.pointer (some ⟨b, 10, none⟩)) (.bool x) H = some (undef, H.set b (rdB a c s { R with name := x })) := by
 have hc : ((.bool x) : Value).cells = #[.bool x] := by rfl
 simp only [storeA, j9y, stV, hc]
 simp [st, look, h, rdB, rdC, over, Value.oneCell']
theorem y57 (h : H.get b = some (rdB a c s R)) : loadA PP 4 (.pointer (some ⟨b, 11, none⟩)) H = some (.bool R.num, H) := by
 simp only [loadA, j9x]
 simp [ld1, look, h, rdB, rdC]
theorem y2o (h : H.get b = some (rdB a c s R)) (x : Bool) : storeA PP 4 (.pointer (some ⟨b, 11, none⟩)) (.bool x) H = some (undef, H.set b (rdB a c s { R with num := x })) := by
 have hc : ((.bool x) : Value).cells = #[.bool x] := by rfl
 simp only [storeA, j9y, stV, hc]
 simp [st, look, h, rdB, rdC, over, Value.oneCell']
theorem j11 (h : H.get b = some (rdB a c s R)) : loadA PP 3 (.pointer (some ⟨b, 12, none⟩)) H = some (.int .i64 (R.opened : Int), H) := by
 simp only [loadA, jm3]
 simp [ld1, look, h, rdB, rdC]
theorem j6h (h : H.get b = some (rdB a c s R)) (x : Nat) : storeA PP 3 (.pointer (some ⟨b, 12, none⟩)) (.int .i64 (x : Int)) H = some (undef, H.set b (rdB a c s { R with opened := x })) := by
 have hc : ((.int .i64 (x : Int)) : Value).cells = #[.int .i64 (x : Int)] := by rfl
 simp only [storeA, jo6, stV, hc]
 simp [st, look, h, rdB, rdC, over, Value.oneCell']
theorem y58 (h : H.get b = some (rdB a c s R)) (x : Nat) : storeA PP 3 (.pointer (some ⟨b, 13, none⟩)) (.int .i64 (x : Int)) H = some (undef, H.set b (rdB a c s { R with pos := x })) := by
 have hc : ((.int .i64 (x : Int)) : Value).cells = #[.int .i64 (x : Int)] := by rfl
 simp only [storeA, jo6, stV, hc]
 simp [st, look, h, rdB, rdC, over, Value.oneCell']
theorem jj7 (h : H.get b = some (rdB a c s R)) : loadA PP 25 (.pointer (some ⟨b, 17, none⟩)) H = some (R.items, H) := by
 simp only [loadA, ym7]
 simp [ld1, look, h, rdB, rdC]
theorem y0r (h : H.get b = some (rdB a c s R)) (x : Value) (hv : Value.oneCell' x = true) : storeA PP 25 (.pointer (some ⟨b, 17, none⟩)) (x) H = some (undef, H.set b (rdB a c s { R with items := x })) := by
 have hc : ((x) : Value).cells = #[x] := by cases x <;> first | rfl | (simp [Value.oneCell'] at hv)
 simp only [storeA, ym8, stV, hc]
 simp [st, look, h, rdB, rdC, over, hv]
theorem j0x (h : H.get b = some (rdB a c s R)) : loadA PP 26 (.pointer (some ⟨b, 18, none⟩)) H = some (R.nodes, H) := by
 simp only [loadA, ym9]
 simp [ld1, look, h, rdB, rdC]
theorem y0s (h : H.get b = some (rdB a c s R)) (x : Value) (hv : Value.oneCell' x = true) : storeA PP 26 (.pointer (some ⟨b, 18, none⟩)) (x) H = some (undef, H.set b (rdB a c s { R with nodes := x })) := by
 have hc : ((x) : Value).cells = #[x] := by cases x <;> first | rfl | (simp [Value.oneCell'] at hv)
 simp only [storeA, yn0, stV, hc]
 simp [st, look, h, rdB, rdC, over, hv]
theorem y59 (h : H.get b = some (rdB a c s R)) (x : Value) (hv : Value.oneCell' x = true) : storeA PP 22 (.pointer (some ⟨b, 19, none⟩)) (x) H = some (undef, H.set b (rdB a c s { R with top := x })) := by
 have hc : ((x) : Value).cells = #[x] := by cases x <;> first | rfl | (simp [Value.oneCell'] at hv)
 simp only [storeA, jw3, stV, hc]
 simp [st, look, h, rdB, rdC, over, hv]
end
def dA := Pf.mk (And.intro @rfsrc (And.intro @rfat (And.intro @rfto (And.intro @rftok (And.intro @rfbad (And.intro @rfwant (And.intro @rfname (And.intro @rfnum (And.intro @rfopened (And.intro @rftree (And.intro @kf0 (And.intro @kf1 (And.intro @kf2 (And.intro @trf0 (And.intro @trf1 (And.intro @trf2 (And.intro @trf3 (@trf4))))))))))))))))))
theorem undInts : PP.underlying 22 = some (.slice 3) := Tryz.underlying22
theorem infoInt : ∃ i, PP.info? 3 = some i ∧ i.size = 1 ∧ i.bytes = 8 := by
 have h : (match PP.info? 3 with | some i => decide (i.size = 1) && decide (i.bytes = 8) | none => false) = true := by decide +kernel
 split at h
 · rename_i i e
   simp only [Bool.and_eq_true, decide_eq_true_eq] at h
   exact ⟨i, e, h.1, h.2⟩
 · cases h
theorem zeroInt : zeroT PP 3 = some [.int .i64 0] := by kernel_rfl
theorem j3m {H : Heap} {v : Value} {q : Nat} {x : Value} (hq : H.get q = some ⟨[x], true, 1, none⟩) : appendA PP #[22, 22] v (.slice (some ⟨q, 0, none⟩) 1 1) H = app H 1 8 v 1 [x] := by
 obtain ⟨i, h1, h2, h3⟩ := infoInt
 have src : srcCells H 1 (.slice (some ⟨q, 0, none⟩) 1 1) = some (1, [x]) := by simp [srcCells, look, hq]
 simp only [appendA]
 simp [h1, h2, h3, zeroInt, src]
theorem jh9 (H : Heap) (k : Int) : buildSliceA PP 22 1 #[(0, .int .i64 k)] H = some (.slice (some ⟨H.next, 0, none⟩) 1 1, H.alloc 1 [.int .i64 k]) := by
 have hf : Instr.fill (fun i => some (i * 1, 1)) (zeroRow [.int .i64 0] (1 * 1)).toArray [(0, .int .i64 k)] = some #[.int .i64 k] := by rfl
 simp only [buildSliceA, undInts, jo6, zeroInt, mkRow, hf]
 simp
theorem jw4 (s x : Value) (H : Heap) (k : Value → Heap → R) : builtinK PP .append #[22, 22] #[s, x] H k = bindV (appendA PP #[22, 22] s x H) k := by simp [builtinK]
theorem dcT : decide True = true := by decide
theorem dcF : decide False = false := by decide
theorem jb1 {H : Heap} (h : Fresh H) (es : Nat) (cells : List Value) : Fresh (H.alloc es cells) := (Ext.alloc h es cells).fresh
theorem jd5 {H : Heap} (h : Fresh H) {q : Nat} (hq : q < H.next) (x : Blk) : Fresh (H.set q x) := fun z hz => by
 have hz' : H.next ≤ z := hz
 rw [Heap.get_set, if_neg (by omega)]; exact h z hz'
theorem jk0 {H : Heap} (h : Fresh H) (q : Nat) : Fresh (H.drop q) := fun z hz => by
 have hz' : H.next ≤ z := hz
 rw [Heap.get_drop]; split
 · rfl
 · exact h z hz'
theorem jb4 (H : Heap) (q : Nat) (x : Blk) : (H.set q x).get q = some x := by rw [Heap.get_set, if_pos rfl]
theorem jc6 (H : Heap) (es : Nat) (cells : List Value) : (H.alloc es cells).get H.next = some ⟨cells, true, es, none⟩ := by rw [Heap.get_alloc, if_pos rfl]
theorem jb3 {H : Heap} (h : Fresh H) {q : Nat} {x : Blk} (e : H.get q = some x) (es : Nat) (cells : List Value) : (H.alloc es cells).get q = some x := (Ext.alloc h es cells).keep q x e
section
variable {a : Option Addr} {c : Nat} {s : List UInt8} {b : Nat} {H : Heap} {R : RS}
theorem j4m : loadA PP 34 (.pointer (some ⟨b, 0, none⟩)) (H.set b (rdB a c s R)) = some (.slice a s.length c, H.set b (rdB a c s R)) := je2 (jb4 _ _ _)
theorem j3n : loadA PP 3 (.pointer (some ⟨b, 1, none⟩)) (H.set b (rdB a c s R)) = some (.int .i64 (R.at_ : Int), H.set b (rdB a c s R)) := jg0 (jb4 _ _ _)
theorem y6a (x : Nat) : storeA PP 3 (.pointer (some ⟨b, 1, none⟩)) (.int .i64 (x : Int)) (H.set b (rdB a c s R)) = some (undef, H.set b (rdB a c s { R with at_ := x })) := by rw [j71 (jb4 _ _ _) x, Heap.set_set]
theorem j9z : loadA PP 3 (.pointer (some ⟨b, 2, none⟩)) (H.set b (rdB a c s R)) = some (.int .i64 (R.to_ : Int), H.set b (rdB a c s R)) := j72 (jb4 _ _ _)
theorem j90 (x : Nat) : storeA PP 3 (.pointer (some ⟨b, 2, none⟩)) (.int .i64 (x : Int)) (H.set b (rdB a c s R)) = some (undef, H.set b (rdB a c s { R with to_ := x })) := by rw [y0q (jb4 _ _ _) x, Heap.set_set]
theorem j91 : loadA PP 3 (.pointer (some ⟨b, 3, none⟩)) (H.set b (rdB a c s R)) = some (.int .i64 R.k.kind, H.set b (rdB a c s R)) := ju3 (jb4 _ _ _)
theorem y6b : loadA PP 9 (.pointer (some ⟨b, 5, none⟩)) (H.set b (rdB a c s R)) = some (.string R.k.w, H.set b (rdB a c s R)) := ld_w (jb4 _ _ _)
theorem y35 (x : Int) : storeA PP 3 (.pointer (some ⟨b, 8, none⟩)) (.int .i64 x) (H.set b (rdB a c s R)) = some (undef, H.set b (rdB a c s { R with bad := x })) := by rw [yn1 (jb4 _ _ _) x, Heap.set_set]
theorem j92 (x : Bool) : storeA PP 4 (.pointer (some ⟨b, 10, none⟩)) (.bool x) (H.set b (rdB a c s R)) = some (undef, H.set b (rdB a c s { R with name := x })) := by rw [j73 (jb4 _ _ _) x, Heap.set_set]
theorem y36 (x : Bool) : storeA PP 4 (.pointer (some ⟨b, 11, none⟩)) (.bool x) (H.set b (rdB a c s R)) = some (undef, H.set b (rdB a c s { R with num := x })) := by rw [y2o (jb4 _ _ _) x, Heap.set_set]
theorem yn3 : loadA PP 26 (.pointer (some ⟨b, 18, none⟩)) (H.set b (rdB a c s R)) = some (R.nodes, H.set b (rdB a c s R)) := j0x (jb4 _ _ _)
end
theorem j4n {H : Heap} {v : Value} {es n : Nat} {cells : List Value} {bytes : Nat} {news : List Value} (hr : Row H v es n cells) (hf : Fresh H) (hl : news.length = es) (h1 : news.all Value.oneCell' = true) (hb : (n + 1) * bytes ≤ most) (hn : n + 1 ≤ most) :
   ∃ H' , app H es bytes v 1 news = some (.slice (some ⟨H.next, 0, none⟩) (n + 1) (n + 1), H') ∧ H'.get H.next = some ⟨cells ++ news, true, es, none⟩ ∧ (cells ++ news).length = (n + 1) * es ∧ H'.next = H.next + 1 ∧ Fresh H' ∧ ∀ q x, H.get q = some x → blkOf v ≠ some q → H'.get q = some x := by
 rcases hr with ⟨rfl, rfl, rfl⟩ | ⟨q, rfl, hg, hc⟩
 · refine ⟨H.alloc es news, ?_, by rw [jc6]; rfl, by simp [hl], rfl, jb1 hf _ _, fun q x e _ => jb3 hf e _ _⟩
   simp only [app, mkRow]
   rw [if_neg (by decide), if_pos ⟨by simpa using hb, hn⟩]
 · have hlk : look H ⟨q, 0, none⟩ = some ⟨cells, true, es, none⟩ := by simp [look, hg]
   refine ⟨(H.drop q).alloc es (cells ++ news), ?_, jc6 (H.drop q) _ _, by simp [hl, hc, Nat.add_mul], rfl, jb1 (jk0 hf q) _ _, fun z x e hz => ?_⟩
   · simp only [app, hlk]
     rw [if_pos ⟨trivial, trivial, by simp [hc], h1, hb, hn⟩, if_neg (by omega)]
     have e1 : (List.drop 0 cells).take (n * es) = cells := by rw [List.drop_zero, ← hc, List.take_length]
     simp only [e1, mkRow]
     rfl
   · have hne : z ≠ q := fun e' => hz (by rw [e']; rfl)
     rw [jb3 (jk0 hf q) (by rw [Heap.get_drop, if_neg hne]; exact e)]
def WantOk (H : Heap) (v : Value) (wl : Nat) : Prop := v = .slice none 0 0 ∨ ∃ q n m, v = .slice (some ⟨q, 0, none⟩) n m ∧ n ≤ m ∧ m ≤ 2000 ∧ n ≤ wl ∧ ∃ ws, H.get q = some ⟨ws, true, 1, none⟩ ∧ ws.length = m ∧ ∀ v ∈ ws, numV v
theorem y0t {H : Heap} {v : Value} {wl : Nat} (hr : WantOk H v wl) (hf : Fresh H) (hw : wl < 2000) (x : Value) (h1 : Value.oneCell' x = true) (hi : numV x) :
   ∃ v' H', app H 1 8 v 1 [x] = some (v', H') ∧ WantOk H' v' (wl + 1) ∧ Value.oneCell' v' = true ∧ (blkOf v' = blkOf v ∨ blkOf v' = some H.next) ∧ (∀ q, blkOf v' = some q → q < H'.next) ∧ H.next ≤ H'.next ∧ Fresh H' ∧ ∀ q x, H.get q = some x → blkOf v ≠ some q → H'.get q = some x := by
 have hx : [x].all Value.oneCell' = true := by simp [h1]
 rcases hr with rfl | ⟨q, n, m, rfl, hnm, hm, hnw, ws, hg, hws⟩
 · refine ⟨.slice (some ⟨H.next, 0, none⟩) 1 1, H.alloc 1 [x], ?_, .inr ⟨H.next, 1, 1, rfl, by omega, by omega, by omega, [x], jc6 _ _ _, rfl, fun v hv => by rw [List.mem_singleton.mp hv]; exact hi⟩, rfl, .inr rfl, fun q hq => ?_, Nat.le_succ _, jb1 hf _ _, fun q x e _ => jb3 hf e _ _⟩
   · simp only [app, mkRow]
     rw [if_neg (by decide), if_pos (by decide)]
   · injection hq with hq
     subst hq
     exact Nat.lt_succ_self _
 · have hlk : look H ⟨q, 0, none⟩ = some ⟨ws, true, 1, none⟩ := by simp [look, hg]
   have hql := jc9 hf hg
   by_cases hc : n + 1 ≤ m
   · refine ⟨.slice (some ⟨q, 0, none⟩) (n + 1) m, H.set q ⟨over ws n [x], true, 1, none⟩, ?_, .inr ⟨q, n + 1, m, rfl, hc, hm, by omega, _, jb4 _ _ _, by rw [js7 (by simp; omega)]; exact hws.1, fun v hv => by
       unfold over at hv
       rcases List.mem_append.mp hv with h | h
       · rcases List.mem_append.mp h with h | h
         · exact hws.2 v (List.mem_of_mem_take h)
         · rw [List.mem_singleton.mp h]; exact hi
       · exact hws.2 v (List.mem_of_mem_drop h)⟩, rfl, .inl rfl, fun q' hq => ?_, Nat.le_refl _, jd5 hf hql _, fun z y e hz => ?_⟩
     · simp only [app, hlk]
       rw [if_pos ⟨trivial, trivial, by simp [hws.1]; omega, hx, by unfold most; omega, by unfold most; omega⟩, if_pos hc, if_pos (by simp; omega)]
       simp
     · injection hq with hq
       subst hq
       exact hql
     · have hne : z ≠ q := fun e' => hz (by rw [e']; rfl)
       rw [Heap.get_set, if_neg hne]; exact e
   · have hmn : m = n := by omega
     subst hmn
     refine ⟨.slice (some ⟨H.next, 0, none⟩) (m + 1) (m + 1), (H.drop q).alloc 1 (ws ++ [x]), ?_, .inr ⟨H.next, m + 1, m + 1, rfl, Nat.le_refl _, by omega, by omega, _, jc6 (H.drop q) _ _, by simp [hws.1], fun v hv => by
       rcases List.mem_append.mp hv with h | h
       · exact hws.2 v h
       · rw [List.mem_singleton.mp h]; exact hi⟩, rfl, .inr rfl, fun q' hq => ?_, Nat.le_succ _, jb1 (jk0 hf q) _ _, fun z y e hz => ?_⟩
     · simp only [app, hlk]
       rw [if_pos ⟨trivial, trivial, by simp [hws.1], hx, by unfold most; omega, by unfold most; omega⟩, if_neg hc]
       have e1 : (List.drop 0 ws).take (m * 1) = ws := by rw [List.drop_zero, Nat.mul_one, ← hws.1, List.take_length]
       simp only [e1, mkRow]
       rfl
     · injection hq with hq
       subst hq
       exact Nat.lt_succ_self _
     · have hne : z ≠ q := fun e' => hz (by rw [e']; rfl)
       rw [jb3 (jk0 hf q) (by rw [Heap.get_drop, if_neg hne]; exact e)]
theorem Rd.turn {a : Option Addr} {c : Nat} {s : List UInt8} {b : Nat} {H H2 : Heap} {R R' : RS} (x : Rd a c s b H R) (hn : H.next ≤ H2.next) (hf : Fresh H2) (keep : ∀ q y, H.get q = some y → ¬ mine b R q → H2.get q = some y)
   (own : ∀ q, R'.own q ↔ (R.own q ∨ (H.next ≤ q ∧ q < H2.next))) (mn : ∀ q, mine b R' q → mine b R q ∨ (H.next ≤ q ∧ q < H2.next)) (mn' : ∀ q, R.own q → mine b R' q → mine b R q)
   (hb : ∃ y, H2.get b = some y)
   (want : WantOk H2 R'.want R'.wl) (d1 : blkOf R'.want ≠ some b ∧ blkOf R'.items ≠ some b ∧ blkOf R'.nodes ≠ some b)
   (d2 : ∀ q, blkOf R'.want = some q → blkOf R'.items ≠ some q ∧ blkOf R'.nodes ≠ some q) (d3 : ∀ q, blkOf R'.items = some q → blkOf R'.nodes ≠ some q)
   (items : ∃ cells, Row H2 R'.items 21 R'.its.length cells ∧ All2 (ItR H2 fun q => R'.own q ∧ ¬ mine b R' q) R'.its cells)
   (nodes : ∃ cells, Row H2 R'.nodes 5 R'.nds.length cells ∧ All2 (NdR H2 fun q => R'.own q ∧ ¬ mine b R' q) R'.nds cells)
   (sz : R'.its.length ≤ R'.to_ ∧ R'.nds.length ≤ R'.to_ ∧ R'.opened ≤ 32 ∧ R'.at_ ≤ R'.to_ ∧ R'.to_ ≤ s.length) :
   Rd a c s b (H2.set b (rdB a c s R')) R' := by
 have hbl : b < H2.next := Nat.lt_of_lt_of_le x.ltN hn
 have hbm : mine b R' b := .inl rfl
 have k2 : ∀ q y, q ≠ b → H2.get q = some y → (H2.set b (rdB a c s R')).get q = some y := fun q y hq e => by rw [Heap.get_set, if_neg hq]; exact e
 have kF : ∀ q y, (R'.own q ∧ ¬ mine b R' q) → H2.get q = some y → (R'.own q ∧ ¬ mine b R' q) ∧ (H2.set b (rdB a c s R')).get q = some y := fun q y hq e => ⟨hq, k2 q y (fun e' => hq.2 (e' ▸ hbm)) e⟩
 have ob : R.own b := (x.mo b (.inl rfl)).1
 refine ⟨⟨Nat.le_trans x.gg.next hn, fun q y e => ?_, jd5 hf hbl _⟩, fun q hq => ?_, fun q hq => (own q).mpr (.inl (x.low q hq)), fun q hq => ?_, ?_, fun y hy => ?_, x.cap, x.short, jb4 _ _ _, ?_, d1, d2, d3, ?_, ?_, sz⟩
 · have hl := jc9 jo0.fresh e
   have hnm : ¬ mine b R q := fun hm => by have := (x.mo q hm).2; omega
   exact k2 q y (fun e' => hnm (.inl e')) (keep q y (x.gg.keep q y e) hnm)
 · rcases (own q).mp hq with h | h
   · exact Nat.lt_of_lt_of_le (x.lt q h) hn
   · exact h.2
 · rcases mn q hq with h | h
   · exact ⟨(own q).mpr (.inl (x.mo q h).1), (x.mo q h).2⟩
   · exact ⟨(own q).mpr (.inr h), Nat.le_trans x.gg.next h.1⟩
 · refine x.row.keep fun y z hy e => ?_
   have hs := (x.src y hy).2
   exact k2 _ _ (fun e' => hs (.inl e')) (keep _ _ e hs)
 · exact ⟨(own _).mpr (.inl (x.src y hy).1), fun hm => (x.src y hy).2 (mn' _ (x.src y hy).1 hm)⟩
 · rcases want with h | ⟨q, n, m, h1, h2, h3, h4, ws, h5, h6⟩
   · exact .inl h
   · exact .inr ⟨q, n, m, h1, h2, h3, h4, ws, k2 q _ (fun e' => d1.1 (by rw [h1, ← e']; rfl)) h5, h6⟩
 · obtain ⟨cells, h1, h2⟩ := items
   exact ⟨cells, h1.keep fun q y hq e => k2 q y (fun e' => d1.2.1 (e' ▸ hq)) e, h2.mono fun _ _ h => h.keep kF⟩
 · obtain ⟨cells, h1, h2⟩ := nodes
   exact ⟨cells, h1.keep fun q y hq e => k2 q y (fun e' => d1.2.2 (e' ▸ hq)) e, h2.mono fun _ _ h => h.keep kF⟩
end Go.Am
namespace Go.Am
set_option maxRecDepth 100000
variable {R : RS}
theorem code38 : codeOf Tryz.f38 = .seq (rF Tryz.f38 0) (.seq (.seq (rF Tryz.f38 1) (.cond (.tmp 11) (.seq (rF Tryz.f38 2) .ret) .skip)) (.seq (rF Tryz.f38 3) (.seq (rF Tryz.f38 4) .ret))) := by kernel_rfl
def seen (R : RS) (w : Value) (n n' : Nat) : RS := { R with want := w, wl := R.wl + 1, own := fun q => R.own q ∨ (n ≤ q ∧ q < n') }
theorem y6c {a : Option Addr} {c : Nat} {s : List UInt8} {b : Nat} {H : Heap} (x : Rd a c s b H R) (hw : R.wl < 1000) (k : Int) : ∃ w H2, appendA PP #[22, 22] R.want (.slice (some ⟨H.next, 0, none⟩) 1 1) (H.alloc 1 [.int .i64 k]) = some (w, H2) ∧ Value.oneCell' w = true ∧ H2.get b = some (rdB a c s R) ∧
   Go a c s b H R (H2.set b (rdB a c s { R with want := w })) (seen R w H.next H2.next) := by
 have hf1 := jb1 x.fresh 1 [Value.int .i64 k]
 have w1 : WantOk (H.alloc 1 [.int .i64 k]) R.want R.wl := by
   rcases x.want with h | ⟨q, n, m, h1, h2, h3, h4, ws, h5, h6⟩
   · exact .inl h
   · exact .inr ⟨q, n, m, h1, h2, h3, h4, ws, jb3 x.fresh h5 _ _, h6⟩
 obtain ⟨w, H2, e1, e2, e3, e4, e5, e6, e7, e8⟩ := y0t w1 hf1 (by omega) (.int .i64 k) rfl ⟨k, rfl⟩
 have hnx : (H.alloc 1 [Value.int .i64 k]).next = H.next + 1 := rfl
 rw [hnx] at e4 e6
 have keep : ∀ q y, H.get q = some y → blkOf R.want ≠ some q → H2.get q = some y := fun q y e hn => e8 q y (jb3 x.fresh e _ _) hn
 have hb2 : H2.get b = some (rdB a c s R) := keep b _ x.blk x.d1.1
 have bw : ∀ q, blkOf w = some q → (blkOf R.want = some q) ∨ (H.next ≤ q ∧ q < H2.next) := fun q hq => by
   rcases e4 with h | h
   · exact .inl (by rw [← h]; exact hq)
   · rw [h] at hq
     injection hq with hq
     have := e5 q (by rw [h, hq])
     exact .inr ⟨by omega, this⟩
 have mw : ∀ q, mine b (seen R w H.next H2.next) q → mine b R q ∨ (H.next ≤ q ∧ q < H2.next) := fun q hq => by
   rcases hq with h | h | h | h
   · exact .inl (.inl h)
   · rcases bw q h with h' | h'
     · exact .inl (.inr (.inl h'))
     · exact .inr h'
   · exact .inl (.inr (.inr (.inl h)))
   · exact .inl (.inr (.inr (.inr h)))
 have mlt : ∀ q, mine b R q → q < H.next := fun q h => x.lt q (x.mo q h).1
 have kF : ∀ q y, (R.own q ∧ ¬ mine b R q) → H.get q = some y → ((seen R w H.next H2.next).own q ∧ ¬ mine b (seen R w H.next H2.next) q) ∧ H2.get q = some y := fun q y hq e => by
   refine ⟨⟨.inl hq.1, fun hm => ?_⟩, keep q y e fun h => hq.2 (.inr (.inl h))⟩
   rcases mw q hm with h | h
   · exact hq.2 h
   · have := x.lt q hq.1; omega
 have rd : Rd a c s b (H2.set b (rdB a c s (seen R w H.next H2.next))) (seen R w H.next H2.next) := by
   refine x.turn (by omega) e7 (fun q y e hn => keep q y e fun h => hn (.inr (.inl h))) (fun q => Iff.rfl) mw (fun q ho hm => ?_) ⟨_, hb2⟩ e2 ⟨fun h => ?_, x.d1.2⟩ (fun q hq => ?_) x.d3 ?_ ?_ x.sz
   · rcases mw q hm with h | h
     · exact h
     · have := x.lt q ho; omega
   · rcases bw b h with h' | h'
     · exact x.d1.1 h'
     · have := x.ltN; omega
   · rcases bw q hq with h' | h'
     · exact x.d2 q h'
     · refine ⟨fun e => ?_, fun e => ?_⟩
       · have := mlt q (.inr (.inr (.inl e))); omega
       · have := mlt q (.inr (.inr (.inr e))); omega
   · obtain ⟨cells, h1, h2⟩ := x.items
     exact ⟨cells, h1.keep fun q y hq e => keep q y e fun h => (x.d2 q h).1 hq, h2.mono fun _ _ h => h.keep kF⟩
   · obtain ⟨cells, h1, h2⟩ := x.nodes
     exact ⟨cells, h1.keep fun q y hq e => keep q y e fun h => (x.d2 q h).2 hq, h2.mono fun _ _ h => h.keep kF⟩
 refine ⟨w, H2, by rw [j3m (jc6 _ _ _)]; exact e1, e3, hb2, ⟨rd, ⟨?_, fun q y e hn => ?_, rd.fresh⟩, fun q hq => ?_, fun q hq => .inl hq, fun q hq => ?_, Nat.le_refl _, Nat.le_refl _, Nat.le_refl _⟩⟩
 · show H.next ≤ H2.next; omega
 · rw [Heap.get_set, if_neg (fun e' => hn (.inl e'))]
   exact keep q y e fun h => hn (.inr (.inl h))
 · rcases hq with h | h
   · exact .inl h
   · exact .inr h.1
 · rcases mw q hq with h | h
   · exact .inl h
   · exact .inr h.1
structure Same (R R' : RS) : Prop where
 ps : R'.ps = R.ps
 pos : R'.pos = R.pos
 word : R'.word = R.word
 wat : R'.wat = R.wat
 index : R'.index = R.index
 top : R'.top = R.top
theorem Same.refl (R : RS) : Same R R := ⟨rfl, rfl, rfl, rfl, rfl, rfl⟩
theorem Same.trans {R1 R2 : RS} (h : Same R R1) (k : Same R1 R2) : Same R R2 := ⟨k.ps.trans h.ps, k.pos.trans h.pos, k.word.trans h.word, k.wat.trans h.wat, k.index.trans h.index, k.top.trans h.top⟩
theorem y0u {N : Nat} {hk : Hook} {d : Nat} {a : Option Addr} {c : Nat} {s : List UInt8} {b : Nat} {H : Heap} (x : Rd a c s b H R) (hh : NH hk) (hw : R.wl < 1000) (k : Int) :
   ∃ H' R', CH N hk (d + 1) 38 #[.pointer (some ⟨b, 0, none⟩), .int .i64 k] H = some (.ret (.bool (R.k.kind == k)), H') ∧ Go a c s b H R H' R' ∧ Same R R' ∧ R'.wl ≤ R.wl + 1 ∧ (R.k.kind = k → R'.wl = R.wl) := by
 have hU := jb8 (P := PP) (okf := okC) (prf := prS) (X := XX) (N := N) (hk := hk) (d := d) (args := #[.pointer (some ⟨b, 0, none⟩), .int .i64 k]) (H := H) (hh _ _ _ rfl) Tryz.func38 (c := codeOf Tryz.f38) rfl rfl rfl (pr := noPr) rfl
 rw [code38] at hU
 generalize hF : finG PP okC prS XX (CH N hk d) N Tryz.f38 = F at hU
 have lL := lX5 Tryz.f38 0 1 2 3 4
 conv at lL in (occs := *) (rgnX _ _) => all_goals simp only [rX, opsAt, Tryz.f38, dL.o, reduceIte, Nat.reduceEqDiff]
 obtain ⟨l0, l1, l2, l3, l4⟩ := lL
 by_cases h : R.k.kind = k
 · have e : (R.k.kind == k) = true := by rw [h]; simp
   refine ⟨H, R, hU.trans ?_, .refl x, .refl R, Nat.le_succ _, fun _ => rfl⟩
   simp (decide := true) only [↓uR.o, dG.o, ja1, reduceIte, ↓ja0 l0, ↓ja0 l1, ↓ja0 l2, dA.o, ju3 x.blk, e]
   rw [← hF, ja4 (l := [.bool true]) (by simp (decide := true) [Tryz.f38, resE, ja1])]
   rfl
 · have e : (R.k.kind == k) = false := by simp [h]
   obtain ⟨w, H2, e1, e2, e3, go⟩ := y6c x hw k
   refine ⟨_, _, hU.trans ?_, go, ⟨rfl, rfl, rfl, rfl, rfl, rfl⟩, Nat.le_refl _, fun e' => absurd e' h⟩
   simp (decide := true) only [↓uR.o, dG.o, ja1, ja5, reduceIte, ↓ja0 l0, ↓ja0 l1, ↓ja0 l3, ↓ja0 l4, dA.o, ju3 x.blk, j4l x.blk, e, jh9, jw4, e1, yn2 e3 w e2]
   rw [← hF, ja4 (l := [.bool false]) (by simp (decide := true) [Tryz.f38, resE, ja1])]
   rfl
theorem code99 : codeOf Tryz.f99 = .seq (rF Tryz.f99 0) (.seq (.seq (rF Tryz.f99 1) (.block 0 (.seq (rF Tryz.f99 2) (.cond (.tmp 4) (.seq (rF Tryz.f99 3) .ret) (.seq (rF Tryz.f99 4) (.cond (.tmp 6) (.seq (rF Tryz.f99 5) .ret) (.seq (rF Tryz.f99 6) (.cond (.tmp 8) (.seq (rF Tryz.f99 7) .ret) (.seq (.seq (rF Tryz.f99 8) (.cond (.tmp 10) .skip (rF Tryz.f99 9))) (.cond (.tmp 10) (.seq (rF Tryz.f99 10) .ret) (.seq (.seq (rF Tryz.f99 11) (.cond (.tmp 13) .skip (rF Tryz.f99 12))) (.cond (.tmp 13) (.seq (rF Tryz.f99 13) .ret) (.seq (.seq (rF Tryz.f99 14) (.cond (.tmp 16) .skip (.seq (rF Tryz.f99 15) (.cond (.tmp 16) .skip (rF Tryz.f99 16))))) (.cond (.tmp 16) (.seq (rF Tryz.f99 17) .ret) .skip)))))))))))))) (.seq (.seq (rF Tryz.f99 18) (.cond (.tmp 25) (.seq (rF Tryz.f99 19) .ret) .skip)) (.seq (rF Tryz.f99 20) .ret))) := by kernel_rfl
theorem ji9 : ((rgn Tryz.f99 18)[2]?).bind (·.dst) = some 22 := by kernel_rfl
def rankI (k : Int) : Int := if k = 20 then 2 else if k = 21 then 3 else if k = 22 then 4 else if k = 23 ∨ k = 24 then 5 else if k = 25 ∨ k = 26 then 6 else if k = 27 ∨ k = 28 ∨ k = 29 then 7 else if 14 ≤ k ∧ k ≤ 19 then 1 else 0
end Go.Am
namespace Go.Am
set_option maxRecDepth 100000
variable {N d : Nat} {hk : Hook} {H : Heap}
theorem rank14 (hh : NH hk) : CH N hk (d + 1) 99 #[.int .i64 14] H = some (.ret (.int .i64 1), H) := by
 have hU := jb8 (P := PP) (okf := okC) (prf := prS) (X := XX) (N := N) (hk := hk) (d := d) (args := #[.int .i64 14]) (H := H) (hh _ _ _ rfl) Tryz.func99 (c := codeOf Tryz.f99) rfl rfl rfl (pr := noPr) rfl
 rw [code99] at hU
 generalize hF : finG PP okC prS XX (CH N hk d) N Tryz.f99 = F at hU
 refine hU.trans ?_
 have lL : _ ∧ _ ∧ _ := ⟨lX8 Tryz.f99 0 1 2 3 4 5 6 7, lX8 Tryz.f99 8 9 10 11 12 13 14 15, lX5 Tryz.f99 16 17 18 19 20⟩
 conv at lL in (occs := *) (rgnX _ _) => all_goals simp only [rX, opsAt, Tryz.f99, dL.o, reduceIte, Nat.reduceEqDiff]
 obtain ⟨⟨l0, l1, l2, l3, l4, l5, l6, l7⟩, ⟨l8, l9, l10, l11, l12, l13, l14, l15⟩, ⟨l16, l17, l18, l19, l20⟩⟩ := lL
 simp (decide := true) only [↓uR.o, dG.o, ja1, reduceIte, ↓ja0 l0, ↓ja0 l1, ↓ja0 l2, ↓ja0 l4, ↓ja0 l6, ↓ja0 l8, ↓ja0 l9, ↓ja0 l11, ↓ja0 l12, ↓ja0 l14, ↓ja0 l15, ↓ja0 l16, ↓ja0 l18, ↓ja0 l19, ↓jb7 _ 2 true 22 _ ji9, Int.reduceBEq, dcT]
 rw [← hF, ja4 (l := [.int .i64 1]) (by simp (decide := true) [Tryz.f99, resE, ja1])]
 rfl
theorem rank15 (hh : NH hk) : CH N hk (d + 1) 99 #[.int .i64 15] H = some (.ret (.int .i64 1), H) := by
 have hU := jb8 (P := PP) (okf := okC) (prf := prS) (X := XX) (N := N) (hk := hk) (d := d) (args := #[.int .i64 15]) (H := H) (hh _ _ _ rfl) Tryz.func99 (c := codeOf Tryz.f99) rfl rfl rfl (pr := noPr) rfl
 rw [code99] at hU
 generalize hF : finG PP okC prS XX (CH N hk d) N Tryz.f99 = F at hU
 refine hU.trans ?_
 have lL : _ ∧ _ ∧ _ := ⟨lX8 Tryz.f99 0 1 2 3 4 5 6 7, lX8 Tryz.f99 8 9 10 11 12 13 14 15, lX5 Tryz.f99 16 17 18 19 20⟩
 conv at lL in (occs := *) (rgnX _ _) => all_goals simp only [rX, opsAt, Tryz.f99, dL.o, reduceIte, Nat.reduceEqDiff]
 obtain ⟨⟨l0, l1, l2, l3, l4, l5, l6, l7⟩, ⟨l8, l9, l10, l11, l12, l13, l14, l15⟩, ⟨l16, l17, l18, l19, l20⟩⟩ := lL
 simp (decide := true) only [↓uR.o, dG.o, ja1, reduceIte, ↓ja0 l0, ↓ja0 l1, ↓ja0 l2, ↓ja0 l4, ↓ja0 l6, ↓ja0 l8, ↓ja0 l9, ↓ja0 l11, ↓ja0 l12, ↓ja0 l14, ↓ja0 l15, ↓ja0 l16, ↓ja0 l18, ↓ja0 l19, ↓jb7 _ 2 true 22 _ ji9, Int.reduceBEq, dcT]
 rw [← hF, ja4 (l := [.int .i64 1]) (by simp (decide := true) [Tryz.f99, resE, ja1])]
 rfl
theorem rank16 (hh : NH hk) : CH N hk (d + 1) 99 #[.int .i64 16] H = some (.ret (.int .i64 1), H) := by
 have hU := jb8 (P := PP) (okf := okC) (prf := prS) (X := XX) (N := N) (hk := hk) (d := d) (args := #[.int .i64 16]) (H := H) (hh _ _ _ rfl) Tryz.func99 (c := codeOf Tryz.f99) rfl rfl rfl (pr := noPr) rfl
 rw [code99] at hU
 generalize hF : finG PP okC prS XX (CH N hk d) N Tryz.f99 = F at hU
 refine hU.trans ?_
 have lL : _ ∧ _ ∧ _ := ⟨lX8 Tryz.f99 0 1 2 3 4 5 6 7, lX8 Tryz.f99 8 9 10 11 12 13 14 15, lX5 Tryz.f99 16 17 18 19 20⟩
 conv at lL in (occs := *) (rgnX _ _) => all_goals simp only [rX, opsAt, Tryz.f99, dL.o, reduceIte, Nat.reduceEqDiff]
 obtain ⟨⟨l0, l1, l2, l3, l4, l5, l6, l7⟩, ⟨l8, l9, l10, l11, l12, l13, l14, l15⟩, ⟨l16, l17, l18, l19, l20⟩⟩ := lL
 simp (decide := true) only [↓uR.o, dG.o, ja1, reduceIte, ↓ja0 l0, ↓ja0 l1, ↓ja0 l2, ↓ja0 l4, ↓ja0 l6, ↓ja0 l8, ↓ja0 l9, ↓ja0 l11, ↓ja0 l12, ↓ja0 l14, ↓ja0 l15, ↓ja0 l16, ↓ja0 l18, ↓ja0 l19, ↓jb7 _ 2 true 22 _ ji9, Int.reduceBEq, dcT]
 rw [← hF, ja4 (l := [.int .i64 1]) (by simp (decide := true) [Tryz.f99, resE, ja1])]
 rfl
theorem rank17 (hh : NH hk) : CH N hk (d + 1) 99 #[.int .i64 17] H = some (.ret (.int .i64 1), H) := by
 have hU := jb8 (P := PP) (okf := okC) (prf := prS) (X := XX) (N := N) (hk := hk) (d := d) (args := #[.int .i64 17]) (H := H) (hh _ _ _ rfl) Tryz.func99 (c := codeOf Tryz.f99) rfl rfl rfl (pr := noPr) rfl
 rw [code99] at hU
 generalize hF : finG PP okC prS XX (CH N hk d) N Tryz.f99 = F at hU
 refine hU.trans ?_
 have lL : _ ∧ _ ∧ _ := ⟨lX8 Tryz.f99 0 1 2 3 4 5 6 7, lX8 Tryz.f99 8 9 10 11 12 13 14 15, lX5 Tryz.f99 16 17 18 19 20⟩
 conv at lL in (occs := *) (rgnX _ _) => all_goals simp only [rX, opsAt, Tryz.f99, dL.o, reduceIte, Nat.reduceEqDiff]
 obtain ⟨⟨l0, l1, l2, l3, l4, l5, l6, l7⟩, ⟨l8, l9, l10, l11, l12, l13, l14, l15⟩, ⟨l16, l17, l18, l19, l20⟩⟩ := lL
 simp (decide := true) only [↓uR.o, dG.o, ja1, reduceIte, ↓ja0 l0, ↓ja0 l1, ↓ja0 l2, ↓ja0 l4, ↓ja0 l6, ↓ja0 l8, ↓ja0 l9, ↓ja0 l11, ↓ja0 l12, ↓ja0 l14, ↓ja0 l15, ↓ja0 l16, ↓ja0 l18, ↓ja0 l19, ↓jb7 _ 2 true 22 _ ji9, Int.reduceBEq, dcT]
 rw [← hF, ja4 (l := [.int .i64 1]) (by simp (decide := true) [Tryz.f99, resE, ja1])]
 rfl
theorem rank18 (hh : NH hk) : CH N hk (d + 1) 99 #[.int .i64 18] H = some (.ret (.int .i64 1), H) := by
 have hU := jb8 (P := PP) (okf := okC) (prf := prS) (X := XX) (N := N) (hk := hk) (d := d) (args := #[.int .i64 18]) (H := H) (hh _ _ _ rfl) Tryz.func99 (c := codeOf Tryz.f99) rfl rfl rfl (pr := noPr) rfl
 rw [code99] at hU
 generalize hF : finG PP okC prS XX (CH N hk d) N Tryz.f99 = F at hU
 refine hU.trans ?_
 have lL : _ ∧ _ ∧ _ := ⟨lX8 Tryz.f99 0 1 2 3 4 5 6 7, lX8 Tryz.f99 8 9 10 11 12 13 14 15, lX5 Tryz.f99 16 17 18 19 20⟩
 conv at lL in (occs := *) (rgnX _ _) => all_goals simp only [rX, opsAt, Tryz.f99, dL.o, reduceIte, Nat.reduceEqDiff]
 obtain ⟨⟨l0, l1, l2, l3, l4, l5, l6, l7⟩, ⟨l8, l9, l10, l11, l12, l13, l14, l15⟩, ⟨l16, l17, l18, l19, l20⟩⟩ := lL
 simp (decide := true) only [↓uR.o, dG.o, ja1, reduceIte, ↓ja0 l0, ↓ja0 l1, ↓ja0 l2, ↓ja0 l4, ↓ja0 l6, ↓ja0 l8, ↓ja0 l9, ↓ja0 l11, ↓ja0 l12, ↓ja0 l14, ↓ja0 l15, ↓ja0 l16, ↓ja0 l18, ↓ja0 l19, ↓jb7 _ 2 true 22 _ ji9, Int.reduceBEq, dcT]
 rw [← hF, ja4 (l := [.int .i64 1]) (by simp (decide := true) [Tryz.f99, resE, ja1])]
 rfl
theorem rank19 (hh : NH hk) : CH N hk (d + 1) 99 #[.int .i64 19] H = some (.ret (.int .i64 1), H) := by
 have hU := jb8 (P := PP) (okf := okC) (prf := prS) (X := XX) (N := N) (hk := hk) (d := d) (args := #[.int .i64 19]) (H := H) (hh _ _ _ rfl) Tryz.func99 (c := codeOf Tryz.f99) rfl rfl rfl (pr := noPr) rfl
 rw [code99] at hU
 generalize hF : finG PP okC prS XX (CH N hk d) N Tryz.f99 = F at hU
 refine hU.trans ?_
 have lL : _ ∧ _ ∧ _ := ⟨lX8 Tryz.f99 0 1 2 3 4 5 6 7, lX8 Tryz.f99 8 9 10 11 12 13 14 15, lX5 Tryz.f99 16 17 18 19 20⟩
 conv at lL in (occs := *) (rgnX _ _) => all_goals simp only [rX, opsAt, Tryz.f99, dL.o, reduceIte, Nat.reduceEqDiff]
 obtain ⟨⟨l0, l1, l2, l3, l4, l5, l6, l7⟩, ⟨l8, l9, l10, l11, l12, l13, l14, l15⟩, ⟨l16, l17, l18, l19, l20⟩⟩ := lL
 simp (decide := true) only [↓uR.o, dG.o, ja1, reduceIte, ↓ja0 l0, ↓ja0 l1, ↓ja0 l2, ↓ja0 l4, ↓ja0 l6, ↓ja0 l8, ↓ja0 l9, ↓ja0 l11, ↓ja0 l12, ↓ja0 l14, ↓ja0 l15, ↓ja0 l16, ↓ja0 l18, ↓ja0 l19, ↓jb7 _ 2 true 22 _ ji9, Int.reduceBEq, dcT]
 rw [← hF, ja4 (l := [.int .i64 1]) (by simp (decide := true) [Tryz.f99, resE, ja1])]
 rfl
theorem rank20 (hh : NH hk) : CH N hk (d + 1) 99 #[.int .i64 20] H = some (.ret (.int .i64 2), H) := by
 have hU := jb8 (P := PP) (okf := okC) (prf := prS) (X := XX) (N := N) (hk := hk) (d := d) (args := #[.int .i64 20]) (H := H) (hh _ _ _ rfl) Tryz.func99 (c := codeOf Tryz.f99) rfl rfl rfl (pr := noPr) rfl
 rw [code99] at hU
 generalize hF : finG PP okC prS XX (CH N hk d) N Tryz.f99 = F at hU
 refine hU.trans ?_
 have lL : _ ∧ _ ∧ _ := ⟨lX8 Tryz.f99 0 1 2 3 4 5 6 7, lX8 Tryz.f99 8 9 10 11 12 13 14 15, lX5 Tryz.f99 16 17 18 19 20⟩
 conv at lL in (occs := *) (rgnX _ _) => all_goals simp only [rX, opsAt, Tryz.f99, dL.o, reduceIte, Nat.reduceEqDiff]
 obtain ⟨⟨l0, l1, l2, l3, l4, l5, l6, l7⟩, ⟨l8, l9, l10, l11, l12, l13, l14, l15⟩, ⟨l16, l17, l18, l19, l20⟩⟩ := lL
 simp (decide := true) only [↓uR.o, dG.o, ja1, reduceIte, ↓ja0 l0, ↓ja0 l1, ↓ja0 l2, ↓ja0 l3, (show (((20 : Int)) == 20) = true from rfl)]
 rw [← hF, ja4 (l := [.int .i64 2]) (by simp (decide := true) [Tryz.f99, resE, ja1])]
 rfl
theorem rank21 (hh : NH hk) : CH N hk (d + 1) 99 #[.int .i64 21] H = some (.ret (.int .i64 3), H) := by
 have hU := jb8 (P := PP) (okf := okC) (prf := prS) (X := XX) (N := N) (hk := hk) (d := d) (args := #[.int .i64 21]) (H := H) (hh _ _ _ rfl) Tryz.func99 (c := codeOf Tryz.f99) rfl rfl rfl (pr := noPr) rfl
 rw [code99] at hU
 generalize hF : finG PP okC prS XX (CH N hk d) N Tryz.f99 = F at hU
 refine hU.trans ?_
 have lL : _ ∧ _ ∧ _ := ⟨lX8 Tryz.f99 0 1 2 3 4 5 6 7, lX8 Tryz.f99 8 9 10 11 12 13 14 15, lX5 Tryz.f99 16 17 18 19 20⟩
 conv at lL in (occs := *) (rgnX _ _) => all_goals simp only [rX, opsAt, Tryz.f99, dL.o, reduceIte, Nat.reduceEqDiff]
 obtain ⟨⟨l0, l1, l2, l3, l4, l5, l6, l7⟩, ⟨l8, l9, l10, l11, l12, l13, l14, l15⟩, ⟨l16, l17, l18, l19, l20⟩⟩ := lL
 simp (decide := true) only [↓uR.o, dG.o, ja1, reduceIte, ↓ja0 l0, ↓ja0 l1, ↓ja0 l2, ↓ja0 l4, ↓ja0 l5, Int.reduceBEq, (show (((21 : Int)) == 21) = true from rfl)]
 rw [← hF, ja4 (l := [.int .i64 3]) (by simp (decide := true) [Tryz.f99, resE, ja1])]
 rfl
theorem rank22 (hh : NH hk) : CH N hk (d + 1) 99 #[.int .i64 22] H = some (.ret (.int .i64 4), H) := by
 have hU := jb8 (P := PP) (okf := okC) (prf := prS) (X := XX) (N := N) (hk := hk) (d := d) (args := #[.int .i64 22]) (H := H) (hh _ _ _ rfl) Tryz.func99 (c := codeOf Tryz.f99) rfl rfl rfl (pr := noPr) rfl
 rw [code99] at hU
 generalize hF : finG PP okC prS XX (CH N hk d) N Tryz.f99 = F at hU
 refine hU.trans ?_
 have lL : _ ∧ _ ∧ _ := ⟨lX8 Tryz.f99 0 1 2 3 4 5 6 7, lX8 Tryz.f99 8 9 10 11 12 13 14 15, lX5 Tryz.f99 16 17 18 19 20⟩
 conv at lL in (occs := *) (rgnX _ _) => all_goals simp only [rX, opsAt, Tryz.f99, dL.o, reduceIte, Nat.reduceEqDiff]
 obtain ⟨⟨l0, l1, l2, l3, l4, l5, l6, l7⟩, ⟨l8, l9, l10, l11, l12, l13, l14, l15⟩, ⟨l16, l17, l18, l19, l20⟩⟩ := lL
 simp (decide := true) only [↓uR.o, dG.o, ja1, reduceIte, ↓ja0 l0, ↓ja0 l1, ↓ja0 l2, ↓ja0 l4, ↓ja0 l6, ↓ja0 l7, Int.reduceBEq, (show (((22 : Int)) == 22) = true from rfl)]
 rw [← hF, ja4 (l := [.int .i64 4]) (by simp (decide := true) [Tryz.f99, resE, ja1])]
 rfl
theorem rank23 (hh : NH hk) : CH N hk (d + 1) 99 #[.int .i64 23] H = some (.ret (.int .i64 5), H) := by
 have hU := jb8 (P := PP) (okf := okC) (prf := prS) (X := XX) (N := N) (hk := hk) (d := d) (args := #[.int .i64 23]) (H := H) (hh _ _ _ rfl) Tryz.func99 (c := codeOf Tryz.f99) rfl rfl rfl (pr := noPr) rfl
 rw [code99] at hU
 generalize hF : finG PP okC prS XX (CH N hk d) N Tryz.f99 = F at hU
 refine hU.trans ?_
 have lL : _ ∧ _ ∧ _ := ⟨lX8 Tryz.f99 0 1 2 3 4 5 6 7, lX8 Tryz.f99 8 9 10 11 12 13 14 15, lX5 Tryz.f99 16 17 18 19 20⟩
 conv at lL in (occs := *) (rgnX _ _) => all_goals simp only [rX, opsAt, Tryz.f99, dL.o, reduceIte, Nat.reduceEqDiff]
 obtain ⟨⟨l0, l1, l2, l3, l4, l5, l6, l7⟩, ⟨l8, l9, l10, l11, l12, l13, l14, l15⟩, ⟨l16, l17, l18, l19, l20⟩⟩ := lL
 simp (decide := true) only [↓uR.o, dG.o, ja1, reduceIte, ↓ja0 l0, ↓ja0 l1, ↓ja0 l2, ↓ja0 l4, ↓ja0 l6, ↓ja0 l8, ↓ja0 l10, Int.reduceBEq, (show (((23 : Int)) == 23) = true from rfl)]
 rw [← hF, ja4 (l := [.int .i64 5]) (by simp (decide := true) [Tryz.f99, resE, ja1])]
 rfl
theorem rank24 (hh : NH hk) : CH N hk (d + 1) 99 #[.int .i64 24] H = some (.ret (.int .i64 5), H) := by
 have hU := jb8 (P := PP) (okf := okC) (prf := prS) (X := XX) (N := N) (hk := hk) (d := d) (args := #[.int .i64 24]) (H := H) (hh _ _ _ rfl) Tryz.func99 (c := codeOf Tryz.f99) rfl rfl rfl (pr := noPr) rfl
 rw [code99] at hU
 generalize hF : finG PP okC prS XX (CH N hk d) N Tryz.f99 = F at hU
 refine hU.trans ?_
 have lL : _ ∧ _ ∧ _ := ⟨lX8 Tryz.f99 0 1 2 3 4 5 6 7, lX8 Tryz.f99 8 9 10 11 12 13 14 15, lX5 Tryz.f99 16 17 18 19 20⟩
 conv at lL in (occs := *) (rgnX _ _) => all_goals simp only [rX, opsAt, Tryz.f99, dL.o, reduceIte, Nat.reduceEqDiff]
 obtain ⟨⟨l0, l1, l2, l3, l4, l5, l6, l7⟩, ⟨l8, l9, l10, l11, l12, l13, l14, l15⟩, ⟨l16, l17, l18, l19, l20⟩⟩ := lL
 simp (decide := true) only [↓uR.o, dG.o, ja1, reduceIte, ↓ja0 l0, ↓ja0 l1, ↓ja0 l2, ↓ja0 l4, ↓ja0 l6, ↓ja0 l8, ↓ja0 l9, ↓ja0 l10, Int.reduceBEq, (show (((24 : Int)) == 24) = true from rfl)]
 rw [← hF, ja4 (l := [.int .i64 5]) (by simp (decide := true) [Tryz.f99, resE, ja1])]
 rfl
theorem rank25 (hh : NH hk) : CH N hk (d + 1) 99 #[.int .i64 25] H = some (.ret (.int .i64 6), H) := by
 have hU := jb8 (P := PP) (okf := okC) (prf := prS) (X := XX) (N := N) (hk := hk) (d := d) (args := #[.int .i64 25]) (H := H) (hh _ _ _ rfl) Tryz.func99 (c := codeOf Tryz.f99) rfl rfl rfl (pr := noPr) rfl
 rw [code99] at hU
 generalize hF : finG PP okC prS XX (CH N hk d) N Tryz.f99 = F at hU
 refine hU.trans ?_
 have lL : _ ∧ _ ∧ _ := ⟨lX8 Tryz.f99 0 1 2 3 4 5 6 7, lX8 Tryz.f99 8 9 10 11 12 13 14 15, lX5 Tryz.f99 16 17 18 19 20⟩
 conv at lL in (occs := *) (rgnX _ _) => all_goals simp only [rX, opsAt, Tryz.f99, dL.o, reduceIte, Nat.reduceEqDiff]
 obtain ⟨⟨l0, l1, l2, l3, l4, l5, l6, l7⟩, ⟨l8, l9, l10, l11, l12, l13, l14, l15⟩, ⟨l16, l17, l18, l19, l20⟩⟩ := lL
 simp (decide := true) only [↓uR.o, dG.o, ja1, reduceIte, ↓ja0 l0, ↓ja0 l1, ↓ja0 l2, ↓ja0 l4, ↓ja0 l6, ↓ja0 l8, ↓ja0 l9, ↓ja0 l11, ↓ja0 l13, Int.reduceBEq, (show (((25 : Int)) == 25) = true from rfl)]
 rw [← hF, ja4 (l := [.int .i64 6]) (by simp (decide := true) [Tryz.f99, resE, ja1])]
 rfl
theorem rank26 (hh : NH hk) : CH N hk (d + 1) 99 #[.int .i64 26] H = some (.ret (.int .i64 6), H) := by
 have hU := jb8 (P := PP) (okf := okC) (prf := prS) (X := XX) (N := N) (hk := hk) (d := d) (args := #[.int .i64 26]) (H := H) (hh _ _ _ rfl) Tryz.func99 (c := codeOf Tryz.f99) rfl rfl rfl (pr := noPr) rfl
 rw [code99] at hU
 generalize hF : finG PP okC prS XX (CH N hk d) N Tryz.f99 = F at hU
 refine hU.trans ?_
 have lL : _ ∧ _ ∧ _ := ⟨lX8 Tryz.f99 0 1 2 3 4 5 6 7, lX8 Tryz.f99 8 9 10 11 12 13 14 15, lX5 Tryz.f99 16 17 18 19 20⟩
 conv at lL in (occs := *) (rgnX _ _) => all_goals simp only [rX, opsAt, Tryz.f99, dL.o, reduceIte, Nat.reduceEqDiff]
 obtain ⟨⟨l0, l1, l2, l3, l4, l5, l6, l7⟩, ⟨l8, l9, l10, l11, l12, l13, l14, l15⟩, ⟨l16, l17, l18, l19, l20⟩⟩ := lL
 simp (decide := true) only [↓uR.o, dG.o, ja1, reduceIte, ↓ja0 l0, ↓ja0 l1, ↓ja0 l2, ↓ja0 l4, ↓ja0 l6, ↓ja0 l8, ↓ja0 l9, ↓ja0 l11, ↓ja0 l12, ↓ja0 l13, Int.reduceBEq, (show (((26 : Int)) == 26) = true from rfl)]
 rw [← hF, ja4 (l := [.int .i64 6]) (by simp (decide := true) [Tryz.f99, resE, ja1])]
 rfl
theorem rank27 (hh : NH hk) : CH N hk (d + 1) 99 #[.int .i64 27] H = some (.ret (.int .i64 7), H) := by
 have hU := jb8 (P := PP) (okf := okC) (prf := prS) (X := XX) (N := N) (hk := hk) (d := d) (args := #[.int .i64 27]) (H := H) (hh _ _ _ rfl) Tryz.func99 (c := codeOf Tryz.f99) rfl rfl rfl (pr := noPr) rfl
 rw [code99] at hU
 generalize hF : finG PP okC prS XX (CH N hk d) N Tryz.f99 = F at hU
 refine hU.trans ?_
 have lL : _ ∧ _ ∧ _ := ⟨lX8 Tryz.f99 0 1 2 3 4 5 6 7, lX8 Tryz.f99 8 9 10 11 12 13 14 15, lX5 Tryz.f99 16 17 18 19 20⟩
 conv at lL in (occs := *) (rgnX _ _) => all_goals simp only [rX, opsAt, Tryz.f99, dL.o, reduceIte, Nat.reduceEqDiff]
 obtain ⟨⟨l0, l1, l2, l3, l4, l5, l6, l7⟩, ⟨l8, l9, l10, l11, l12, l13, l14, l15⟩, ⟨l16, l17, l18, l19, l20⟩⟩ := lL
 simp (decide := true) only [↓uR.o, dG.o, ja1, reduceIte, ↓ja0 l0, ↓ja0 l1, ↓ja0 l2, ↓ja0 l4, ↓ja0 l6, ↓ja0 l8, ↓ja0 l9, ↓ja0 l11, ↓ja0 l12, ↓ja0 l14, ↓ja0 l17, Int.reduceBEq, (show (((27 : Int)) == 27) = true from rfl)]
 rw [← hF, ja4 (l := [.int .i64 7]) (by simp (decide := true) [Tryz.f99, resE, ja1])]
 rfl
theorem rank28 (hh : NH hk) : CH N hk (d + 1) 99 #[.int .i64 28] H = some (.ret (.int .i64 7), H) := by
 have hU := jb8 (P := PP) (okf := okC) (prf := prS) (X := XX) (N := N) (hk := hk) (d := d) (args := #[.int .i64 28]) (H := H) (hh _ _ _ rfl) Tryz.func99 (c := codeOf Tryz.f99) rfl rfl rfl (pr := noPr) rfl
 rw [code99] at hU
 generalize hF : finG PP okC prS XX (CH N hk d) N Tryz.f99 = F at hU
 refine hU.trans ?_
 have lL : _ ∧ _ ∧ _ := ⟨lX8 Tryz.f99 0 1 2 3 4 5 6 7, lX8 Tryz.f99 8 9 10 11 12 13 14 15, lX5 Tryz.f99 16 17 18 19 20⟩
 conv at lL in (occs := *) (rgnX _ _) => all_goals simp only [rX, opsAt, Tryz.f99, dL.o, reduceIte, Nat.reduceEqDiff]
 obtain ⟨⟨l0, l1, l2, l3, l4, l5, l6, l7⟩, ⟨l8, l9, l10, l11, l12, l13, l14, l15⟩, ⟨l16, l17, l18, l19, l20⟩⟩ := lL
 simp (decide := true) only [↓uR.o, dG.o, ja1, reduceIte, ↓ja0 l0, ↓ja0 l1, ↓ja0 l2, ↓ja0 l4, ↓ja0 l6, ↓ja0 l8, ↓ja0 l9, ↓ja0 l11, ↓ja0 l12, ↓ja0 l14, ↓ja0 l15, ↓ja0 l17, Int.reduceBEq, (show (((28 : Int)) == 28) = true from rfl)]
 rw [← hF, ja4 (l := [.int .i64 7]) (by simp (decide := true) [Tryz.f99, resE, ja1])]
 rfl
theorem rank29 (hh : NH hk) : CH N hk (d + 1) 99 #[.int .i64 29] H = some (.ret (.int .i64 7), H) := by
 have hU := jb8 (P := PP) (okf := okC) (prf := prS) (X := XX) (N := N) (hk := hk) (d := d) (args := #[.int .i64 29]) (H := H) (hh _ _ _ rfl) Tryz.func99 (c := codeOf Tryz.f99) rfl rfl rfl (pr := noPr) rfl
 rw [code99] at hU
 generalize hF : finG PP okC prS XX (CH N hk d) N Tryz.f99 = F at hU
 refine hU.trans ?_
 have lL : _ ∧ _ ∧ _ := ⟨lX8 Tryz.f99 0 1 2 3 4 5 6 7, lX8 Tryz.f99 8 9 10 11 12 13 14 15, lX5 Tryz.f99 16 17 18 19 20⟩
 conv at lL in (occs := *) (rgnX _ _) => all_goals simp only [rX, opsAt, Tryz.f99, dL.o, reduceIte, Nat.reduceEqDiff]
 obtain ⟨⟨l0, l1, l2, l3, l4, l5, l6, l7⟩, ⟨l8, l9, l10, l11, l12, l13, l14, l15⟩, ⟨l16, l17, l18, l19, l20⟩⟩ := lL
 simp (decide := true) only [↓uR.o, dG.o, ja1, reduceIte, ↓ja0 l0, ↓ja0 l1, ↓ja0 l2, ↓ja0 l4, ↓ja0 l6, ↓ja0 l8, ↓ja0 l9, ↓ja0 l11, ↓ja0 l12, ↓ja0 l14, ↓ja0 l15, ↓ja0 l16, ↓ja0 l17, Int.reduceBEq, (show (((29 : Int)) == 29) = true from rfl)]
 rw [← hF, ja4 (l := [.int .i64 7]) (by simp (decide := true) [Tryz.f99, resE, ja1])]
 rfl
theorem yn4 (hh : NH hk) {k : Int} (h : k < 14 ∨ 29 < k) : CH N hk (d + 1) 99 #[.int .i64 k] H = some (.ret (.int .i64 0), H) := by
 have z20 : (k == 20) = false := by simp; omega
 have z21 : (k == 21) = false := by simp; omega
 have z22 : (k == 22) = false := by simp; omega
 have z23 : (k == 23) = false := by simp; omega
 have z24 : (k == 24) = false := by simp; omega
 have z25 : (k == 25) = false := by simp; omega
 have z26 : (k == 26) = false := by simp; omega
 have z27 : (k == 27) = false := by simp; omega
 have z28 : (k == 28) = false := by simp; omega
 have z29 : (k == 29) = false := by simp; omega
 have hU := jb8 (P := PP) (okf := okC) (prf := prS) (X := XX) (N := N) (hk := hk) (d := d) (args := #[.int .i64 k]) (H := H) (hh _ _ _ rfl) Tryz.func99 (c := codeOf Tryz.f99) rfl rfl rfl (pr := noPr) rfl
 rw [code99] at hU
 generalize hF : finG PP okC prS XX (CH N hk d) N Tryz.f99 = F at hU
 refine hU.trans ?_
 have lL : _ ∧ _ ∧ _ := ⟨lX8 Tryz.f99 0 1 2 3 4 5 6 7, lX8 Tryz.f99 8 9 10 11 12 13 14 15, lX5 Tryz.f99 16 17 18 19 20⟩
 conv at lL in (occs := *) (rgnX _ _) => all_goals simp only [rX, opsAt, Tryz.f99, dL.o, reduceIte, Nat.reduceEqDiff]
 obtain ⟨⟨l0, l1, l2, l3, l4, l5, l6, l7⟩, ⟨l8, l9, l10, l11, l12, l13, l14, l15⟩, ⟨l16, l17, l18, l19, l20⟩⟩ := lL
 by_cases h14 : k ≥ 14
 · have g1 : decide (k ≥ 14) = true := decide_eq_true h14
   have g2 : decide (k ≤ 19) = false := decide_eq_false (by omega)
   simp (decide := true) only [↓uR.o, dG.o, ja1, reduceIte, ↓ja0 l0, ↓ja0 l1, ↓ja0 l2, ↓ja0 l4, ↓ja0 l6, ↓ja0 l8, ↓ja0 l9, ↓ja0 l11, ↓ja0 l12, ↓ja0 l14, ↓ja0 l15, ↓ja0 l16, ↓ja0 l18, ↓ja0 l20, ↓jb7 _ 2 true 22 _ ji9, g1, g2, z20, z21, z22, z23, z24, z25, z26, z27, z28, z29]
   rw [← hF, ja4 (l := [.int .i64 0]) (by simp (decide := true) [Tryz.f99, resE, ja1])]
   rfl
 · have g1 : decide (k ≥ 14) = false := decide_eq_false h14
   simp (decide := true) only [↓uR.o, dG.o, ja1, reduceIte, Bool.not_true, ↓ja0 l0, ↓ja0 l1, ↓ja0 l2, ↓ja0 l4, ↓ja0 l6, ↓ja0 l8, ↓ja0 l9, ↓ja0 l11, ↓ja0 l12, ↓ja0 l14, ↓ja0 l15, ↓ja0 l16, ↓ja0 l18, ↓ja0 l20, ↓r_no _ 2 true 22 _ ji9, g1, z20, z21, z22, z23, z24, z25, z26, z27, z28, z29]
   rw [← hF, ja4 (l := [.int .i64 0]) (by simp (decide := true) [Tryz.f99, resE, ja1])]
   rfl
theorem j12 (hh : NH hk) (k : Int) : CH N hk (d + 1) 99 #[.int .i64 k] H = some (.ret (.int .i64 (rankI k)), H) := by
 by_cases h : k < 14 ∨ 29 < k
 · rw [yn4 hh h]
   have : rankI k = 0 := by
     unfold rankI
     rw [if_neg (by omega), if_neg (by omega), if_neg (by omega), if_neg (by omega), if_neg (by omega), if_neg (by omega), if_neg (by omega)]
   rw [this]
 · have hc : k = 14 ∨ k = 15 ∨ k = 16 ∨ k = 17 ∨ k = 18 ∨ k = 19 ∨ k = 20 ∨ k = 21 ∨ k = 22 ∨ k = 23 ∨ k = 24 ∨ k = 25 ∨ k = 26 ∨ k = 27 ∨ k = 28 ∨ k = 29 := by omega
   rcases hc with rfl | rfl | rfl | rfl | rfl | rfl | rfl | rfl | rfl | rfl | rfl | rfl | rfl | rfl | rfl | rfl
   · exact rank14 hh
   · exact rank15 hh
   · exact rank16 hh
   · exact rank17 hh
   · exact rank18 hh
   · exact rank19 hh
   · exact rank20 hh
   · exact rank21 hh
   · exact rank22 hh
   · exact rank23 hh
   · exact rank24 hh
   · exact rank25 hh
   · exact rank26 hh
   · exact rank27 hh
   · exact rank28 hh
   · exact rank29 hh
end Go.Am
namespace Go.Am
set_option maxRecDepth 100000
variable {H : Heap} {N d : Nat} {hk : Hook}
theorem yn5 {P : Program} {X : Xf} {K : Kf} {A : Array Oper} {d : Option Tmp} {t : TypeId} {p : String} {af : Array Edge} {E : Env} {ds : List Deferred} {k : KE} {kp : List PanicEntry → KE} (op : Op) (j : Nat) (w : Bool) (e : Tmp) (rest : List Oper) (hd : (A[j]?).bind (·.dst) = some e) (h : E e = undef) :
   execOpsE P X K A (⟨d, op, t, p, af, some (j, w)⟩ :: rest) E ds H k kp = execOpsE P X K A rest (upd E d undef) ds H k kp := by
 show guardE A _ E _ _ = _
 simp only [guardE, hd, h, undef]
theorem code54 : codeOf Tryz.f54 = .seq (rF Tryz.f54 0) (.seq (rF Tryz.f54 1) .ret) := by kernel_rfl
theorem jl8 : ((rgn Tryz.f54 1)[2]?).bind (·.dst) = some 5 := by kernel_rfl
theorem jl9 : ((rgn Tryz.f54 1)[6]?).bind (·.dst) = some 9 := by kernel_rfl
theorem jm0 : ((rgn Tryz.f54 1)[9]?).bind (·.dst) = some 12 := by kernel_rfl
theorem jj0 : ((rgn Tryz.f54 1)[14]?).bind (·.dst) = some 17 := by kernel_rfl
theorem jj1 : ((rgn Tryz.f54 1)[17]?).bind (·.dst) = some 20 := by kernel_rfl
theorem jj2 : ((rgn Tryz.f54 1)[22]?).bind (·.dst) = some 25 := by kernel_rfl
def wbI (u : UInt8) : Bool := decide ((48 ≤ u.toNat ∧ u.toNat ≤ 57) ∨ (97 ≤ u.toNat ∧ u.toNat ≤ 122) ∨ (65 ≤ u.toNat ∧ u.toNat ≤ 90) ∨ u.toNat = 95)
theorem y0v (hh : NH hk) {u : UInt8} (h : 48 ≤ u.toNat ∧ u.toNat ≤ 57) : CH N hk (d + 1) 54 #[.int .u8 (u.toNat : Int)] H = some (.ret (.bool true), H) := by
 have g48 : decide ((u.toNat : Int) ≥ 48) = true := decide_eq_true (by omega)
 have l57 : decide ((u.toNat : Int) ≤ 57) = true := decide_eq_true (by omega)
 have hU := jb8 (P := PP) (okf := okC) (prf := prS) (X := XX) (N := N) (hk := hk) (d := d) (args := #[.int .u8 (u.toNat : Int)]) (H := H) (hh _ _ _ rfl) Tryz.func54 (c := codeOf Tryz.f54) rfl rfl rfl (pr := noPr) rfl
 rw [code54] at hU
 generalize hF : finG PP okC prS XX (CH N hk d) N Tryz.f54 = F at hU
 refine hU.trans ?_
 have lL := lX2 Tryz.f54 0 1
 conv at lL in (occs := *) (rgnX _ _) => all_goals simp only [rX, opsAt, Tryz.f54, dL.o, reduceIte, Nat.reduceEqDiff]
 obtain ⟨l0, l1⟩ := lL
 simp (decide := true) only [↓uR.o, dG.o, ja1, reduceIte, Bool.not_false, ↓ja0 l0, ↓ja0 l1, ↓jb7 _ 2 true 5 _ jl8, ↓r_no _ 6 false 9 _ jl9, ↓yn5 _ 9 true 12 _ jm0, ↓r_no _ 14 false 17 _ jj0, ↓yn5 _ 17 true 20 _ jj1, ↓r_no _ 22 false 25 _ jj2, g48, l57]
 rw [← hF, ja4 (l := [.bool true]) (by simp (decide := true) [Tryz.f54, resE, ja1])]
 rfl
theorem y0w (hh : NH hk) {u : UInt8} (h : 97 ≤ u.toNat ∧ u.toNat ≤ 122) : CH N hk (d + 1) 54 #[.int .u8 (u.toNat : Int)] H = some (.ret (.bool true), H) := by
 have g48 : decide ((u.toNat : Int) ≥ 48) = true := decide_eq_true (by omega)
 have l57 : decide ((u.toNat : Int) ≤ 57) = false := decide_eq_false (by omega)
 have g97 : decide ((u.toNat : Int) ≥ 97) = true := decide_eq_true (by omega)
 have l122 : decide ((u.toNat : Int) ≤ 122) = true := decide_eq_true (by omega)
 have hU := jb8 (P := PP) (okf := okC) (prf := prS) (X := XX) (N := N) (hk := hk) (d := d) (args := #[.int .u8 (u.toNat : Int)]) (H := H) (hh _ _ _ rfl) Tryz.func54 (c := codeOf Tryz.f54) rfl rfl rfl (pr := noPr) rfl
 rw [code54] at hU
 generalize hF : finG PP okC prS XX (CH N hk d) N Tryz.f54 = F at hU
 refine hU.trans ?_
 have lL := lX2 Tryz.f54 0 1
 conv at lL in (occs := *) (rgnX _ _) => all_goals simp only [rX, opsAt, Tryz.f54, dL.o, reduceIte, Nat.reduceEqDiff]
 obtain ⟨l0, l1⟩ := lL
 simp (decide := true) only [↓uR.o, dG.o, ja1, reduceIte, Bool.not_false, ↓ja0 l0, ↓ja0 l1, ↓jb7 _ 2 true 5 _ jl8, ↓jb7 _ 6 false 9 _ jl9, ↓jb7 _ 9 true 12 _ jm0, ↓r_no _ 14 false 17 _ jj0, ↓yn5 _ 17 true 20 _ jj1, ↓r_no _ 22 false 25 _ jj2, g48, l57, g97, l122]
 rw [← hF, ja4 (l := [.bool true]) (by simp (decide := true) [Tryz.f54, resE, ja1])]
 rfl
theorem y0x (hh : NH hk) {u : UInt8} (h : 65 ≤ u.toNat ∧ u.toNat ≤ 90) : CH N hk (d + 1) 54 #[.int .u8 (u.toNat : Int)] H = some (.ret (.bool true), H) := by
 have g48 : decide ((u.toNat : Int) ≥ 48) = true := decide_eq_true (by omega)
 have l57 : decide ((u.toNat : Int) ≤ 57) = false := decide_eq_false (by omega)
 have g97 : decide ((u.toNat : Int) ≥ 97) = false := decide_eq_false (by omega)
 have g65 : decide ((u.toNat : Int) ≥ 65) = true := decide_eq_true (by omega)
 have l90 : decide ((u.toNat : Int) ≤ 90) = true := decide_eq_true (by omega)
 have hU := jb8 (P := PP) (okf := okC) (prf := prS) (X := XX) (N := N) (hk := hk) (d := d) (args := #[.int .u8 (u.toNat : Int)]) (H := H) (hh _ _ _ rfl) Tryz.func54 (c := codeOf Tryz.f54) rfl rfl rfl (pr := noPr) rfl
 rw [code54] at hU
 generalize hF : finG PP okC prS XX (CH N hk d) N Tryz.f54 = F at hU
 refine hU.trans ?_
 have lL := lX2 Tryz.f54 0 1
 conv at lL in (occs := *) (rgnX _ _) => all_goals simp only [rX, opsAt, Tryz.f54, dL.o, reduceIte, Nat.reduceEqDiff]
 obtain ⟨l0, l1⟩ := lL
 simp (decide := true) only [↓uR.o, dG.o, ja1, reduceIte, Bool.not_true, Bool.not_false, ↓ja0 l0, ↓ja0 l1, ↓jb7 _ 2 true 5 _ jl8, ↓jb7 _ 6 false 9 _ jl9, ↓r_no _ 9 true 12 _ jm0, ↓jb7 _ 14 false 17 _ jj0, ↓jb7 _ 17 true 20 _ jj1, ↓r_no _ 22 false 25 _ jj2, g48, l57, g97, g65, l90]
 rw [← hF, ja4 (l := [.bool true]) (by simp (decide := true) [Tryz.f54, resE, ja1])]
 rfl
theorem y37 (hh : NH hk) {u : UInt8} (h : u.toNat = 95) : CH N hk (d + 1) 54 #[.int .u8 (u.toNat : Int)] H = some (.ret (.bool true), H) := by
 have g48 : decide ((u.toNat : Int) ≥ 48) = true := decide_eq_true (by omega)
 have l57 : decide ((u.toNat : Int) ≤ 57) = false := decide_eq_false (by omega)
 have g97 : decide ((u.toNat : Int) ≥ 97) = false := decide_eq_false (by omega)
 have g65 : decide ((u.toNat : Int) ≥ 65) = true := decide_eq_true (by omega)
 have l90 : decide ((u.toNat : Int) ≤ 90) = false := decide_eq_false (by omega)
 have e95 : ((u.toNat : Int) == 95) = true := by simp; omega
 have hU := jb8 (P := PP) (okf := okC) (prf := prS) (X := XX) (N := N) (hk := hk) (d := d) (args := #[.int .u8 (u.toNat : Int)]) (H := H) (hh _ _ _ rfl) Tryz.func54 (c := codeOf Tryz.f54) rfl rfl rfl (pr := noPr) rfl
 rw [code54] at hU
 generalize hF : finG PP okC prS XX (CH N hk d) N Tryz.f54 = F at hU
 refine hU.trans ?_
 have lL := lX2 Tryz.f54 0 1
 conv at lL in (occs := *) (rgnX _ _) => all_goals simp only [rX, opsAt, Tryz.f54, dL.o, reduceIte, Nat.reduceEqDiff]
 obtain ⟨l0, l1⟩ := lL
 simp (decide := true) only [↓uR.o, dG.o, ja1, reduceIte, Bool.not_true, ↓ja0 l0, ↓ja0 l1, ↓jb7 _ 2 true 5 _ jl8, ↓jb7 _ 6 false 9 _ jl9, ↓r_no _ 9 true 12 _ jm0, ↓jb7 _ 14 false 17 _ jj0, ↓jb7 _ 17 true 20 _ jj1, ↓jb7 _ 22 false 25 _ jj2, g48, l57, g97, g65, l90, e95]
 rw [← hF, ja4 (l := [.bool true]) (by simp (decide := true) [Tryz.f54, resE, ja1])]
 rfl
theorem y6d (hh : NH hk) {u : UInt8} (h : u.toNat < 48) : CH N hk (d + 1) 54 #[.int .u8 (u.toNat : Int)] H = some (.ret (.bool false), H) := by
 have g48 : decide ((u.toNat : Int) ≥ 48) = false := decide_eq_false (by omega)
 have g97 : decide ((u.toNat : Int) ≥ 97) = false := decide_eq_false (by omega)
 have g65 : decide ((u.toNat : Int) ≥ 65) = false := decide_eq_false (by omega)
 have e95 : ((u.toNat : Int) == 95) = false := by simp; omega
 have hU := jb8 (P := PP) (okf := okC) (prf := prS) (X := XX) (N := N) (hk := hk) (d := d) (args := #[.int .u8 (u.toNat : Int)]) (H := H) (hh _ _ _ rfl) Tryz.func54 (c := codeOf Tryz.f54) rfl rfl rfl (pr := noPr) rfl
 rw [code54] at hU
 generalize hF : finG PP okC prS XX (CH N hk d) N Tryz.f54 = F at hU
 refine hU.trans ?_
 have lL := lX2 Tryz.f54 0 1
 conv at lL in (occs := *) (rgnX _ _) => all_goals simp only [rX, opsAt, Tryz.f54, dL.o, reduceIte, Nat.reduceEqDiff]
 obtain ⟨l0, l1⟩ := lL
 simp (decide := true) only [↓uR.o, dG.o, ja1, reduceIte, Bool.not_true, ↓ja0 l0, ↓ja0 l1, ↓r_no _ 2 true 5 _ jl8, ↓jb7 _ 6 false 9 _ jl9, ↓r_no _ 9 true 12 _ jm0, ↓jb7 _ 14 false 17 _ jj0, ↓r_no _ 17 true 20 _ jj1, ↓jb7 _ 22 false 25 _ jj2, g48, g97, g65, e95]
 rw [← hF, ja4 (l := [.bool false]) (by simp (decide := true) [Tryz.f54, resE, ja1])]
 rfl
theorem y6e (hh : NH hk) {u : UInt8} (h : 58 ≤ u.toNat ∧ u.toNat ≤ 64) : CH N hk (d + 1) 54 #[.int .u8 (u.toNat : Int)] H = some (.ret (.bool false), H) := by
 have g48 : decide ((u.toNat : Int) ≥ 48) = true := decide_eq_true (by omega)
 have l57 : decide ((u.toNat : Int) ≤ 57) = false := decide_eq_false (by omega)
 have g97 : decide ((u.toNat : Int) ≥ 97) = false := decide_eq_false (by omega)
 have g65 : decide ((u.toNat : Int) ≥ 65) = false := decide_eq_false (by omega)
 have e95 : ((u.toNat : Int) == 95) = false := by simp; omega
 have hU := jb8 (P := PP) (okf := okC) (prf := prS) (X := XX) (N := N) (hk := hk) (d := d) (args := #[.int .u8 (u.toNat : Int)]) (H := H) (hh _ _ _ rfl) Tryz.func54 (c := codeOf Tryz.f54) rfl rfl rfl (pr := noPr) rfl
 rw [code54] at hU
 generalize hF : finG PP okC prS XX (CH N hk d) N Tryz.f54 = F at hU
 refine hU.trans ?_
 have lL := lX2 Tryz.f54 0 1
 conv at lL in (occs := *) (rgnX _ _) => all_goals simp only [rX, opsAt, Tryz.f54, dL.o, reduceIte, Nat.reduceEqDiff]
 obtain ⟨l0, l1⟩ := lL
 simp (decide := true) only [↓uR.o, dG.o, ja1, reduceIte, Bool.not_true, ↓ja0 l0, ↓ja0 l1, ↓jb7 _ 2 true 5 _ jl8, ↓jb7 _ 6 false 9 _ jl9, ↓r_no _ 9 true 12 _ jm0, ↓jb7 _ 14 false 17 _ jj0, ↓r_no _ 17 true 20 _ jj1, ↓jb7 _ 22 false 25 _ jj2, g48, l57, g97, g65, e95]
 rw [← hF, ja4 (l := [.bool false]) (by simp (decide := true) [Tryz.f54, resE, ja1])]
 rfl
theorem y6f (hh : NH hk) {u : UInt8} (h : 91 ≤ u.toNat ∧ u.toNat ≤ 96 ∧ u.toNat ≠ 95) : CH N hk (d + 1) 54 #[.int .u8 (u.toNat : Int)] H = some (.ret (.bool false), H) := by
 have g48 : decide ((u.toNat : Int) ≥ 48) = true := decide_eq_true (by omega)
 have l57 : decide ((u.toNat : Int) ≤ 57) = false := decide_eq_false (by omega)
 have g97 : decide ((u.toNat : Int) ≥ 97) = false := decide_eq_false (by omega)
 have g65 : decide ((u.toNat : Int) ≥ 65) = true := decide_eq_true (by omega)
 have l90 : decide ((u.toNat : Int) ≤ 90) = false := decide_eq_false (by omega)
 have e95 : ((u.toNat : Int) == 95) = false := by simp; omega
 have hU := jb8 (P := PP) (okf := okC) (prf := prS) (X := XX) (N := N) (hk := hk) (d := d) (args := #[.int .u8 (u.toNat : Int)]) (H := H) (hh _ _ _ rfl) Tryz.func54 (c := codeOf Tryz.f54) rfl rfl rfl (pr := noPr) rfl
 rw [code54] at hU
 generalize hF : finG PP okC prS XX (CH N hk d) N Tryz.f54 = F at hU
 refine hU.trans ?_
 have lL := lX2 Tryz.f54 0 1
 conv at lL in (occs := *) (rgnX _ _) => all_goals simp only [rX, opsAt, Tryz.f54, dL.o, reduceIte, Nat.reduceEqDiff]
 obtain ⟨l0, l1⟩ := lL
 simp (decide := true) only [↓uR.o, dG.o, ja1, reduceIte, Bool.not_true, ↓ja0 l0, ↓ja0 l1, ↓jb7 _ 2 true 5 _ jl8, ↓jb7 _ 6 false 9 _ jl9, ↓r_no _ 9 true 12 _ jm0, ↓jb7 _ 14 false 17 _ jj0, ↓jb7 _ 17 true 20 _ jj1, ↓jb7 _ 22 false 25 _ jj2, g48, l57, g97, g65, l90, e95]
 rw [← hF, ja4 (l := [.bool false]) (by simp (decide := true) [Tryz.f54, resE, ja1])]
 rfl
theorem y38 (hh : NH hk) {u : UInt8} (h : 123 ≤ u.toNat) : CH N hk (d + 1) 54 #[.int .u8 (u.toNat : Int)] H = some (.ret (.bool false), H) := by
 have g48 : decide ((u.toNat : Int) ≥ 48) = true := decide_eq_true (by omega)
 have l57 : decide ((u.toNat : Int) ≤ 57) = false := decide_eq_false (by omega)
 have g97 : decide ((u.toNat : Int) ≥ 97) = true := decide_eq_true (by omega)
 have l122 : decide ((u.toNat : Int) ≤ 122) = false := decide_eq_false (by omega)
 have g65 : decide ((u.toNat : Int) ≥ 65) = true := decide_eq_true (by omega)
 have l90 : decide ((u.toNat : Int) ≤ 90) = false := decide_eq_false (by omega)
 have e95 : ((u.toNat : Int) == 95) = false := by simp; omega
 have hU := jb8 (P := PP) (okf := okC) (prf := prS) (X := XX) (N := N) (hk := hk) (d := d) (args := #[.int .u8 (u.toNat : Int)]) (H := H) (hh _ _ _ rfl) Tryz.func54 (c := codeOf Tryz.f54) rfl rfl rfl (pr := noPr) rfl
 rw [code54] at hU
 generalize hF : finG PP okC prS XX (CH N hk d) N Tryz.f54 = F at hU
 refine hU.trans ?_
 have lL := lX2 Tryz.f54 0 1
 conv at lL in (occs := *) (rgnX _ _) => all_goals simp only [rX, opsAt, Tryz.f54, dL.o, reduceIte, Nat.reduceEqDiff]
 obtain ⟨l0, l1⟩ := lL
 simp (decide := true) only [↓uR.o, dG.o, ja1, reduceIte, ↓ja0 l0, ↓ja0 l1, ↓jb7 _ 2 true 5 _ jl8, ↓jb7 _ 6 false 9 _ jl9, ↓jb7 _ 9 true 12 _ jm0, ↓jb7 _ 14 false 17 _ jj0, ↓jb7 _ 17 true 20 _ jj1, ↓jb7 _ 22 false 25 _ jj2, g48, l57, g97, l122, g65, l90, e95]
 rw [← hF, ja4 (l := [.bool false]) (by simp (decide := true) [Tryz.f54, resE, ja1])]
 rfl
theorem j74 (hh : NH hk) (u : UInt8) : CH N hk (d + 1) 54 #[.int .u8 (u.toNat : Int)] H = some (.ret (.bool (wbI u)), H) := by
 have hc : (48 ≤ u.toNat ∧ u.toNat ≤ 57) ∨ (97 ≤ u.toNat ∧ u.toNat ≤ 122) ∨ (65 ≤ u.toNat ∧ u.toNat ≤ 90) ∨ (u.toNat = 95) ∨ (u.toNat < 48) ∨ (58 ≤ u.toNat ∧ u.toNat ≤ 64) ∨ (91 ≤ u.toNat ∧ u.toNat ≤ 96 ∧ u.toNat ≠ 95) ∨ (123 ≤ u.toNat) := by omega
 rcases hc with h | h | h | h | h | h | h | h
 · rw [y0v hh h, show wbI u = true from decide_eq_true (by omega)]
 · rw [y0w hh h, show wbI u = true from decide_eq_true (by omega)]
 · rw [y0x hh h, show wbI u = true from decide_eq_true (by omega)]
 · rw [y37 hh h, show wbI u = true from decide_eq_true (by omega)]
 · rw [y6d hh h, show wbI u = false from decide_eq_false (by omega)]
 · rw [y6e hh h, show wbI u = false from decide_eq_false (by omega)]
 · rw [y6f hh h, show wbI u = false from decide_eq_false (by omega)]
 · rw [y38 hh h, show wbI u = false from decide_eq_false (by omega)]
end Go.Am
namespace Go.Am
def tabH (G : Heap) (gs : List Nat) (f0 : FuncId) (T : Nat → Value) : Hook := fun f args H =>
 cond (Nat.beq f f0) (match args.toList with
   | [.int .u8 n] => cond (decide (0 ≤ n) && decide (n < 256)) (hookP G gs [⟨f0, [.int .u8 n], T n.toNat⟩] f args H) none
   | _ => none) none
theorem j3o {K : Kf} (hK : KSnd PP K) {G : Heap} {gs : List Nat} (hT : Tabs PP G) (hg : ∀ b x, G.get b = some x → b ∈ gs) {f0 : FuncId} {T : Nat → Value}
   (h : (List.range 256).all (fun u => okRow K G ⟨f0, [.int .u8 (u : Int)], T u⟩) = true) : HookSnd PP (tabH G gs f0 T) := by
 intro f args H r H' he
 unfold tabH at he
 cases hf : Nat.beq f f0 with
 | false => rw [hf] at he; cases he
 | true =>
   rw [hf] at he
   simp only [cond_true] at he
   split at he
   · rename_i n hn
     cases hc : (decide (0 ≤ n) && decide (n < 256)) with
     | false => rw [hc] at he; cases he
     | true =>
       rw [hc] at he
       simp only [Bool.and_eq_true, decide_eq_true_eq] at hc
       simp only [cond_true] at he
       refine j1k hK hT hg (fun e hm => ?_) f args H r H' he
       simp only [List.mem_cons, List.not_mem_nil, or_false] at hm
       subst hm
       have := List.all_eq_true.mp h n.toNat (List.mem_range.mpr (by omega))
       simp only [okRow, Bool.and_eq_true] at this
       have e : ((n.toNat : Nat) : Int) = n := by omega
       rw [e] at this
       simpa using this
   · cases he
def singleT (u : Nat) : Int :=
 match u with
 | 124 => 20 | 94 => 21 | 38 => 22 | 43 => 25 | 45 => 26 | 42 => 27 | 47 => 28 | 37 => 29
 | 123 => 4 | 125 => 5 | 91 => 6 | 93 => 7 | 40 => 8 | 41 => 9 | 59 => 10 | 44 => 11
 | _ => 3
def hexT (u : Nat) : Int :=
 if 48 ≤ u ∧ u ≤ 57 then (u : Int) - 48 else if 97 ≤ u ∧ u ≤ 102 then (u : Int) - 87 else if 65 ≤ u ∧ u ≤ 70 then (u : Int) - 55 else 16
theorem yg0 : (List.range 256).all (fun u => okRow (fast hook0) GE ⟨72, [.int .u8 (u : Int)], .int .i64 (singleT u)⟩) = true := by decide +kernel
theorem hexes0 : (List.range' 0 100).all (fun u => okRow (fast hook0) GE ⟨70, [.int .u8 (u : Int)], .int .u64 (hexT u)⟩) = true := by decide +kernel
theorem hexes1 : (List.range' 100 100).all (fun u => okRow (fast hook0) GE ⟨70, [.int .u8 (u : Int)], .int .u64 (hexT u)⟩) = true := by decide +kernel
theorem hexes2 : (List.range' 200 56).all (fun u => okRow (fast hook0) GE ⟨70, [.int .u8 (u : Int)], .int .u64 (hexT u)⟩) = true := by decide +kernel
theorem y0y : (List.range 256).all (fun u => okRow (fast hook0) GE ⟨70, [.int .u8 (u : Int)], .int .u64 (hexT u)⟩) = true := by
 rw [List.all_eq_true]
 intro u hu
 rw [List.mem_range] at hu
 by_cases h0 : u < 100
 · exact List.all_eq_true.mp hexes0 u (by rw [List.mem_range'_1]; omega)
 · by_cases h1 : u < 200
   · exact List.all_eq_true.mp hexes1 u (by rw [List.mem_range'_1]; omega)
   · exact List.all_eq_true.mp hexes2 u (by rw [List.mem_range'_1]; omega)
end Go.Am
