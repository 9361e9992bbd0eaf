/- The class of a byte; is a byte of a class next? -/
import Derived.Test.YtohmeeglehopiaaGreatDoorM06
open Go.Proofs
namespace Go.Am
set_option maxRecDepth 100000
variable {H : Heap} {b n c at_ : Nat} {a : Option Addr}
def okC (f : FuncId) : Bool := f == 36 || f == 43 || f == 27 || f == 28 || f == 45 || f == 47 || f == 65 || f == 8 || f == 6 || f == 24 || f == 34 || f == 44 || f == 46 || f == 63 || f == 3 || f == 5 || f == 9 || f == 10 || f == 14 || f == 22 || f == 23 || f == 29 || f == 30 || f == 49 || f == 50 || f == 52 || f == 53 || f == 54 || f == 11 || f == 12 || f == 13 || f == 15 || f == 16 || f == 17 || f == 18 || f == 19 || f == 20 || f == 21 || f == 31 || f == 32 || f == 33 || f == 55 || f == 69 || f == 71
abbrev NH (hk : Hook) : Prop := ∀ f args H, okC f = true → hk f args H = none
def pr1 : Nat → List (Nat × Nat) := fun i => if i = 1 then [(0, 10), (3, 10), (4, 10), (7, 10), (9, 10)] else if i = 21 then [(0, 2)] else []
def prK : Nat → List (Nat × Nat) := fun i => if i = 1 then [(4, 6), (4, 7)] else []
def prA : Nat → List (Nat × Nat) := fun i => if i = 18 then [(3, 7)] else []
def prS : FuncId → Nat → List (Nat × Nat) := fun f => if f = 47 then pr1 else if f = 11 then prK else if f = 17 then prK else if f = 18 then prA else if f = 20 then prA else noPr
noncomputable abbrev CG (N : Nat) (hk : Hook) (d : Nat) : Kf := callG PP okC prS XX N hk d
def clsI (u : UInt8) : Int := if 127 < u.toNat then 0 else classesL.getD u.toNat 0
theorem yb5 {u : UInt8} (h : u.toNat ≤ 127) : indexAddrA PP 90 (.pointer (some ⟨1, 0, none⟩)) (.int .u8 (u.toNat : Int)) = some (.pointer (some ⟨1, u.toNat, none⟩)) := by
 have h' : (u.toNat : Int) < 128 := by omega
 by_cases h0 : u.toNat = 0
 · simp [indexAddrA, size5, at_, Addr.add, h0]
 · simp [indexAddrA, size5, at_, Addr.add, h', h0]
theorem yl3 (hG : Ext GE H) {j : Nat} (h : j ≤ 127) : loadA PP 5 (.pointer (some ⟨1, j, none⟩)) H = some (.int .u8 (classesL.getD j 0), H) := by
 have g := hG.keep 1 _ (show GE.get 1 = some ⟨classesL.map fun z => .int .u8 z, false, 1, none, false⟩ from rfl)
 have hl : classesL.length = 128 := rfl
 apply jb7
 simp only [ld1, look, g]
 have : j < classesL.length := by omega
 simp [List.getD, this]
theorem code36 : codeOf Tryz.f36 = .seq (rF Tryz.f36 0) (.seq (.seq (rF Tryz.f36 1) (.cond (.tmp 4) (.seq (rF Tryz.f36 2) .ret) .skip)) (.seq (rF Tryz.f36 3) .ret)) := by kernel_rfl
theorem code43 : codeOf Tryz.f43 = .seq (rF Tryz.f43 0) (.seq (rT Tryz.f43 1) .ret) := by kernel_rfl
theorem j4g : ((rgn Tryz.f43 1)[10]?).bind (·.dst) = some 15 := by kernel_rfl
theorem jp7 {N : Nat} {hk : Hook} {d : Nat} (hG : Ext GE H) (u : UInt8) (hh : ∀ args H, hk 36 args H = none) :
   CG N hk (d + 1) 36 #[.int .u8 (u.toNat : Int)] H = some (.ret (.int .u8 (clsI u)), H) := by
 refine (jb6 (hh _ _) Tryz.func36 (c := codeOf Tryz.f36) rfl rfl rfl (pr := noPr) rfl).trans ?_
 have lL := lX4 Tryz.f36 0 1 2 3
 conv at lL in (occs := *) (rq _ _) => all_goals simp only [rX, oA, Tryz.f36, dL.o, reduceIte, Nat.reduceEqDiff]
 obtain ⟨l0, l1, l2, l3⟩ := lL
 rw [code36]
 generalize hF : finE PP Tryz.f36 = F
 by_cases h : 127 < u.toNat
 · have hgt : decide ((u.toNat : Int) > 127) = true := decide_eq_true (by omega)
   simp +decide only [↓uR.o, dG.o, ja1, reduceIte, ↓ja0 l0, ↓ja0 l1, ↓ja0 l2, hgt]
   rw [← hF, jb0 (l := [.int .u8 0]) (by simp +decide [Tryz.f36, resE, ja1])]
   simp [clsI, h, oneOf]
 · have hgt : decide ((u.toNat : Int) > 127) = false := decide_eq_false (by omega)
   simp +decide only [↓uR.o, dG.o, ja1, reduceIte, ↓ja0 l0, ↓ja0 l1, ↓ja0 l3, hgt, yb5 (u := u) (by omega), yl3 hG (j := u.toNat) (by omega)]
   rw [← hF, jb0 (l := [.int .u8 (classesL.getD u.toNat 0)]) (by simp +decide [Tryz.f36, resE, ja1])]
   simp [clsI, h, oneOf]
def cur (a : Option Addr) (n c : Nat) (at_ : Nat) : Blk := ⟨[.slice a n c, .int .i64 (at_ : Int)], true, 1, none, false⟩
theorem fld0 (b : Nat) : fieldAddrA PP 59 (.pointer (some ⟨b, 0, none⟩)) 0 = some (.pointer (some ⟨b, 0, none⟩)) := by kernel_rfl
theorem fld1 (b : Nat) : fieldAddrA PP 59 (.pointer (some ⟨b, 0, none⟩)) 1 = some (.pointer (some ⟨b, 1, none⟩)) := by kernel_rfl
theorem aggB : aggT PP 22 = some false := by decide +kernel
theorem jc0 (h : H.get b = some (cur a n c at_)) : loadA PP 22 (.pointer (some ⟨b, 0, none⟩)) H = some (.slice a n c, H) := by
 simp only [loadA, aggB]
 simp [ld1, look, h, cur]
theorem jb3 (h : H.get b = some (cur a n c at_)) : loadA PP 3 (.pointer (some ⟨b, 1, none⟩)) H = some (.int .i64 (at_ : Int), H) := by
 simp only [loadA, agg3]
 simp [ld1, look, h, cur]
theorem jd1 {at' : Nat} (h : H.get b = some (cur a n c at_)) : storeA PP 3 (.pointer (some ⟨b, 1, none⟩)) (.int .i64 (at' : Int)) H = some (undef, H.set b (cur a n c at')) := by
 simp only [storeA, size3, stV]
 simp [Value.cells, st, look, h, cur, over, Value.oneCell']
def isI (s : List UInt8) (i : Nat) (k : Int) : Bool := decide (i < s.length) && (clsI (s.getD i 0) == k)
theorem jf7 {N : Nat} {hk : Hook} {d : Nat} {s : List UInt8} {i : Nat} (hG : Ext GE H) (hb : Brow H a s) (hc : H.get b = some (cur a s.length c i)) (k : Int) (hh : NH hk) :
   CG N hk (d + 2) 43 #[.pointer (some ⟨b, 0, none⟩), .int .u8 k] H = some (.ret (.bool (isI s i k)), H) := by
 refine (jb6 (hh _ _ _ rfl) Tryz.func43 (c := codeOf Tryz.f43) rfl rfl rfl (pr := noPr) rfl).trans ?_
 have lL := lX2 Tryz.f43 0 1
 conv at lL in (occs := *) (rq _ _) => all_goals simp only [rX, oA, Tryz.f43, dL.o, reduceIte, Nat.reduceEqDiff]
 obtain ⟨l0, l1⟩ := lL
 rw [code43]
 generalize hF : finE PP Tryz.f43 = F
 by_cases h : i < s.length
 · have hlt : decide ((i : Int) < (s.length : Int)) = true := decide_eq_true (by omega)
   have hcls := jp7 (N := N) (hk := hk) (d := d) hG s[i] (fun _ _ => hh _ _ _ rfl)
   obtain ⟨b0, rfl, hl⟩ := hb.bts.cell i h
   have hix := jc4 (n := s.length) (c := c) (a := b0) h
   simp +decide only [↓uR.o, dG.o, ja1, reduceIte, ↓ja0 l0, ↓ja0 l1, ↓jb8 _ 10 true 15 _ j4g, hlt, fld0, fld1, jc0 hc, jb3 hc, ja6 (ts := #[22]) rfl und34, hix, jb7 hl, ja3 Tryz.func36 rfl rfl hcls]
   have e : s.getD i 0 = s[i] := by simp [List.getD, h]
   rw [← hF, jb0 (l := [.bool (clsI s[i] == k)]) (by simp +decide [Tryz.f43, resE, ja1])]
   simp [isI, h, oneOf]
 · have hlt : decide ((i : Int) < (s.length : Int)) = false := decide_eq_false (by omega)
   simp +decide only [↓uR.o, dG.o, ja1, reduceIte, Bool.not_true, ↓ja0 l0, ↓ja0 l1, ↓r_no _ 10 true 15 _ j4g, hlt, fld0, fld1, jc0 hc, jb3 hc, ja6 (ts := #[22]) rfl und34]
   rw [← hF, jb0 (l := [.bool false]) (by simp +decide [Tryz.f43, resE, ja1])]
   simp [isI, h, oneOf]
end Go.Am
namespace Go.Am
set_option maxRecDepth 100000
variable {H0 H : Heap} {b n c i N d : Nat} {a : Option Addr} {s : List UInt8} {K : Kf} {E : Env} {Q : R → Prop} {k : KOE} {hk : Hook}
noncomputable abbrev cSB2 : Code := .seq (.seq (rT Tryz.f27 3) (.cond (.tmp 33) .skip (.exit 2))) (.block 3 (rF Tryz.f27 4))
noncomputable abbrev cSB1 : Code := .seq (.seq (rF Tryz.f27 1) (.cond (.tmp 8) .skip (.exit 0))) (.block 1 (.seq (.seq (rF Tryz.f27 2) (.cond (.tmp 10) (.seq (.block 2 (.loop cSB2)) (.exit 1)) .skip)) (rF Tryz.f27 5)))
structure Ctx (H0 : Heap) (a : Option Addr) (c : Nat) (s : List UInt8) (b : Nat) : Prop where
 gg : Ext GE H0
 low : GE.next ≤ b
 lt : b < H0.next
 row : Brow H0 a s
 ne : ∀ x, a = some x → x.block ≠ b
structure Curs (H0 H : Heap) (b : Nat) (a : Option Addr) (n c i : Nat) : Prop where
 next : H.next = H0.next
 here : H.get b = some (cur a n c i)
 there : ∀ x, x ≠ b → H.get x = H0.get x
theorem Curs.set (h : Curs H0 H b a n c i) (j : Nat) : Curs H0 (H.set b (cur a n c j)) b a n c j :=
 ⟨h.next, by rw [Heap.get_set, if_pos rfl], fun x hx => by rw [Heap.get_set, if_neg hx]; exact h.there x hx⟩
theorem Curs.trans {A B C : Heap} {j : Nat} (h : Curs A B b a n c i) (k : Curs B C b a n c j) : Curs A C b a n c j :=
 ⟨k.next.trans h.next, k.here, fun x hx => (k.there x hx).trans (h.there x hx)⟩
theorem Curs.gg (h : Curs H0 H b a n c i) (x : Ctx H0 a c s b) : Ext GE H := by
 refine ⟨by rw [h.next]; exact x.gg.next, fun y z e => ?_, fun y hy => ?_⟩
 · by_cases e' : y = b
   · rw [e', jy9 b x.low] at e; cases e
   · rw [h.there y e']; exact x.gg.keep y z e
 · rw [h.next] at hy
   have := x.lt
   rw [h.there y (by omega)]
   exact x.gg.fresh y hy
theorem Curs.row (h : Curs H0 H b a n c i) (x : Ctx H0 a c s b) : Brow H a s := by
 refine ⟨fun y hy => ?_, x.row.nil, x.row.small⟩
 obtain ⟨z, h1, h2⟩ := x.row.row y hy
 refine ⟨z, ?_, h2⟩
 have hn := h.there y.block (x.ne y hy)
 unfold look at h1 ⊢
 rw [hn]; exact h1
theorem Curs.ctx (h : Curs H0 H b a n c i) (x : Ctx H0 a c s b) : Ctx H a c s b :=
 ⟨h.gg x, x.low, by rw [h.next]; exact x.lt, h.row x, x.ne⟩
def lineEnd (s : List UInt8) : Nat → Nat → Nat
 | 0, i => i
 | n + 1, i => if s.getD i 0 = 10 then i else lineEnd s n (i + 1)
theorem jl7 (s : List UInt8) : ∀ n i, i ≤ lineEnd s n i ∧ lineEnd s n i ≤ i + n
 | 0, i => by simp [lineEnd]
 | n + 1, i => by
   unfold lineEnd
   have := jl7 s n (i + 1)
   split <;> omega
def skipTo (s : List UInt8) : Nat → Nat → Nat
 | 0, i => i
 | n + 1, i => if isI s i 1 then skipTo s n (i + 1) else if isI s i 2 then skipTo s n (lineEnd s (s.length - i) i) else i
theorem yl4 : clsI 10 = 1 := by decide +kernel
theorem code27 : codeOf Tryz.f27 = .seq (rF Tryz.f27 0) (.seq (.block 0 (.loop cSB1)) (.seq (rT Tryz.f27 6) .ret)) := by kernel_rfl
theorem j21 : ((rgn Tryz.f27 1)[2]?).bind (·.dst) = some 5 := by kernel_rfl
theorem j0r : ((rgn Tryz.f27 3)[10]?).bind (·.dst) = some 21 := by kernel_rfl
theorem yu4 (x : Ctx H0 a c s b) (h : Curs H0 H b a s.length c i) (e0 : E 0 = .pointer (some ⟨b, 0, none⟩)) (hi : i < s.length) (hne : s[i] ≠ 10) (hx : ∀ E', E' 0 = .pointer (some ⟨b, 0, none⟩) → Q (k .norm E' [] (H.set b (cur a s.length c (i + 1))))) :
   Q (execG PP XX K N noPr cSB2 none E [] H k) := by
 have hlt : decide ((i : Int) < (s.length : Int)) = true := decide_eq_true (by omega)
 have hsm := x.row.small
 obtain ⟨b0, rfl, hl⟩ := (h.row x).bts.cell i hi
 have hix := jc4 (n := s.length) (c := c) (a := b0) hi
 have h10 : ((s[i].toNat : Int) != 10) = true := by
   have := ja7 s[i] 10
   have e : ((10 : UInt8).toNat : Int) = 10 := rfl
   rw [e] at this
   simp only [bne, this, decide_eq_false hne, Bool.not_false]
 have w : IntKind.i64.wrap ((i : Int) + 1) = ((i + 1 : Nat) : Int) := by rw [ja4 (by omega) (by omega)]; omega
 have lL := lX2 Tryz.f27 3 4
 conv at lL in (occs := *) (rq _ _) => all_goals simp only [rX, oA, Tryz.f27, dL.o, reduceIte, Nat.reduceEqDiff]
 obtain ⟨l3, l4⟩ := lL
 simp +decide only [↓uR.o, dG.o, ja1, jb1, reduceIte, ↓ja0 l3, ↓ja0 l4, ↓jb8 _ 10 true 21 _ j0r, e0, hlt, h10, w, fld0, fld1, jc0 h.here, jb3 h.here, jd1 h.here, ja6 (ts := #[22]) rfl und34, hix, jb7 hl]
 exact hx _ (e0)
theorem yb6 (x : Ctx H0 a c s b) (h : Curs H0 H b a s.length c i) (e0 : E 0 = .pointer (some ⟨b, 0, none⟩)) (hs : i < s.length → s.getD i 0 = 10) (hx : ∀ E', E' 0 = .pointer (some ⟨b, 0, none⟩) → Q (k (.exit 2) E' [] H)) :
   Q (execG PP XX K N noPr cSB2 none E [] H k) := by
 by_cases hi : i < s.length
 · have hlt : decide ((i : Int) < (s.length : Int)) = true := decide_eq_true (by omega)
   obtain ⟨b0, rfl, hl⟩ := (h.row x).bts.cell i hi
   have hix := jc4 (n := s.length) (c := c) (a := b0) hi
   have he : s[i] = 10 := by have := hs hi; simpa [List.getD, hi] using this
   have h10 : ((s[i].toNat : Int) != 10) = false := by rw [he]; rfl
   have lL := lX2 Tryz.f27 3 4
   conv at lL in (occs := *) (rq _ _) => all_goals simp only [rX, oA, Tryz.f27, dL.o, reduceIte, Nat.reduceEqDiff]
   obtain ⟨l3, l4⟩ := lL
   simp +decide only [↓uR.o, dG.o, ja1, reduceIte, ↓ja0 l3, ↓jb8 _ 10 true 21 _ j0r, e0, hlt, h10, fld0, fld1, jc0 h.here, jb3 h.here, ja6 (ts := #[22]) rfl und34, hix, jb7 hl]
   exact hx _ (e0)
 · have hlt : decide ((i : Int) < (s.length : Int)) = false := decide_eq_false (by omega)
   have lL := lX2 Tryz.f27 3 4
   conv at lL in (occs := *) (rq _ _) => all_goals simp only [rX, oA, Tryz.f27, dL.o, reduceIte, Nat.reduceEqDiff]
   obtain ⟨l3, l4⟩ := lL
   simp +decide only [↓uR.o, dG.o, ja1, reduceIte, Bool.not_true, ↓ja0 l3, ↓r_no _ 10 true 21 _ j0r, e0, hlt, fld0, fld1, jc0 h.here, jb3 h.here, ja6 (ts := #[22]) rfl und34]
   exact hx _ (e0)
theorem yb7 (x : Ctx H0 a c s b) :
   ∀ (n i m : Nat) (_ : i + n = s.length) (_ : n < m) {H : Heap} {E : Env} (_ : Curs H0 H b a s.length c i) (_ : E 0 = .pointer (some ⟨b, 0, none⟩)) (_ : ∀ E' H', E' 0 = .pointer (some ⟨b, 0, none⟩) → Curs H0 H' b a s.length c (lineEnd s n i) → Q (k (.exit 2) E' [] H')),
     Q (loopE (execG PP XX K N noPr cSB2 none) m E [] H k)
 | 0, i, m + 1, hn, hm, H, E, h, e0, hx => by
   rw [ja5]
   exact yb6 x h e0 (fun hi => by omega) fun E' e' => hx E' H e' h
 | n + 1, i, m + 1, hn, hm, H, E, h, e0, hx => by
   rw [ja5]
   by_cases h10 : s.getD i 0 = 10
   · have e : lineEnd s (n + 1) i = i := by unfold lineEnd; rw [if_pos h10]
     rw [e] at hx
     exact yb6 x h e0 (fun _ => h10) fun E' e' => hx E' H e' h
   · have e : lineEnd s (n + 1) i = lineEnd s n (i + 1) := by rw [lineEnd, if_neg h10]
     rw [e] at hx
     have hi : i < s.length := by omega
     refine yu4 x h e0 hi (by simpa [List.getD, hi] using h10) fun E' e' => ?_
     rw [jc9]
     exact yb7 x n (i + 1) m (by omega) (by omega) (h.set (i + 1)) e' hx
theorem j63 (x : Ctx H0 a c s b) (h : Curs H0 H b a s.length c i) (e0 : E 0 = .pointer (some ⟨b, 0, none⟩)) (hh : NH hk) (h1 : isI s i 1 = false) (h2 : isI s i 2 = false) (hx : ∀ E', E' 0 = .pointer (some ⟨b, 0, none⟩) → Q (k (.exit 0) E' [] H)) :
   Q (execG PP XX (CG N hk (d + 2)) N noPr cSB1 none E [] H k) := by
 have r1 := jf7 (N := N) (hk := hk) (d := d) (h.gg x) (h.row x) h.here 1 hh
 have r2 := jf7 (N := N) (hk := hk) (d := d) (h.gg x) (h.row x) h.here 2 hh
 rw [h1] at r1
 rw [h2] at r2
 have l1 := tl (rgn Tryz.f27 1)
 conv at l1 => rhs; simp only [rgn, oA, codeOf, Tryz.f27, gS, gN, reduceIte, Nat.reduceEqDiff, tA]
 simp +decide only [↓uR.o, dG.o, ja1, reduceIte, ↓ja0 l1, ↓jb8 _ 2 false 5 _ j21, e0, ja3 Tryz.func43 rfl rfl r1, ja3 Tryz.func43 rfl rfl r2]
 exact hx _ (e0)
theorem yb8 (x : Ctx H0 a c s b) (h : Curs H0 H b a s.length c i) (e0 : E 0 = .pointer (some ⟨b, 0, none⟩)) (hh : NH hk) (h1 : isI s i 1 = true) (h2 : isI s i 2 = false) (hi : i < s.length) (hx : ∀ E', E' 0 = .pointer (some ⟨b, 0, none⟩) → Q (k .norm E' [] (H.set b (cur a s.length c (i + 1))))) :
   Q (execG PP XX (CG N hk (d + 2)) N noPr cSB1 none E [] H k) := by
 have r1 := jf7 (N := N) (hk := hk) (d := d) (h.gg x) (h.row x) h.here 1 hh
 have r2 := jf7 (N := N) (hk := hk) (d := d) (h.gg x) (h.row x) h.here 2 hh
 rw [h1] at r1
 rw [h2] at r2
 have hsm := x.row.small
 have w : IntKind.i64.wrap ((i : Int) + 1) = ((i + 1 : Nat) : Int) := by rw [ja4 (by omega) (by omega)]; omega
 have lL := lX3 Tryz.f27 1 2 5
 conv at lL in (occs := *) (rq _ _) => all_goals simp only [rX, oA, Tryz.f27, dL.o, reduceIte, Nat.reduceEqDiff]
 obtain ⟨l1, l2, l5⟩ := lL
 simp +decide only [↓uR.o, dG.o, ja1, jb1, reduceIte, Bool.not_false, ↓ja0 l1, ↓ja0 l2, ↓ja0 l5, ↓r_no _ 2 false 5 _ j21, e0, ja3 Tryz.func43 rfl rfl r1, ja3 Tryz.func43 rfl rfl r2, fld1, jb3 h.here, jd1 h.here, w]
 exact hx _ (e0)
theorem yl5 (x : Ctx H0 a c s b) (h : Curs H0 H b a s.length c i) (e0 : E 0 = .pointer (some ⟨b, 0, none⟩)) (hh : NH hk) (h1 : isI s i 1 = false) (h2 : isI s i 2 = true) (hi : i < s.length) (hN : s.length < N) (hx : ∀ E' H', E' 0 = .pointer (some ⟨b, 0, none⟩) → Curs H0 H' b a s.length c (lineEnd s (s.length - i) i) → Q (k .norm E' [] H')) :
   Q (execG PP XX (CG N hk (d + 2)) N noPr cSB1 none E [] H k) := by
 have r1 := jf7 (N := N) (hk := hk) (d := d) (h.gg x) (h.row x) h.here 1 hh
 have r2 := jf7 (N := N) (hk := hk) (d := d) (h.gg x) (h.row x) h.here 2 hh
 rw [h1] at r1
 rw [h2] at r2
 have lL := lX2 Tryz.f27 1 2
 conv at lL in (occs := *) (rq _ _) => all_goals simp only [rX, oA, Tryz.f27, dL.o, reduceIte, Nat.reduceEqDiff]
 obtain ⟨l1, l2⟩ := lL
 simp +decide only [↓uR.o, dG.o, ja1, reduceIte, ↓ja0 l1, ↓ja0 l2, ↓jb8 _ 2 false 5 _ j21, e0, ja3 Tryz.func43 rfl rfl r1, ja3 Tryz.func43 rfl rfl r2, ↓jb4]
 refine yb7 x (s.length - i) i N (by omega) (by omega) h ?_ fun E' H' e' h' => ?_
 · simp +decide only [ja1, reduceIte, e0]
 simp +decide only [↓j1x, dG.o]
 exact hx E' H' e' h'
theorem j22 (x : Ctx H0 a c s b) (hh : NH hk) (hN : s.length < N) :
   ∀ (n i m : Nat) (_ : i ≤ s.length) (_ : s.length ≤ i + n) (_ : n < m) {H : Heap} {E : Env} (_ : Curs H0 H b a s.length c i) (_ : E 0 = .pointer (some ⟨b, 0, none⟩)) (_ : ∀ E' H', E' 0 = .pointer (some ⟨b, 0, none⟩) → Curs H0 H' b a s.length c (skipTo s n i) → Q (k (.exit 0) E' [] H')),
     Q (loopE (execG PP XX (CG N hk (d + 2)) N noPr cSB1 none) m E [] H k)
 | 0, i, m + 1, hi, hn, hm, H, E, h, e0, hx => by
   rw [ja5]
   have z : ∀ q, isI s i q = false := fun q => by simp [isI]; omega
   exact j63 x h e0 hh (z 1) (z 2) fun E' e' => hx E' H e' h
 | n + 1, i, m + 1, hi, hn, hm, H, E, h, e0, hx => by
   rw [ja5]
   by_cases h1 : isI s i 1 = true
   · have e : skipTo s (n + 1) i = skipTo s n (i + 1) := by rw [skipTo, if_pos h1]
     rw [e] at hx
     have q : i < s.length ∧ clsI (s.getD i 0) = 1 := by simpa [isI] using h1
     have h2 : isI s i 2 = false := by simp only [isI, q.2]; simp
     refine yb8 x h e0 hh h1 h2 q.1 fun E' e' => ?_
     rw [jc9]
     exact j22 x hh hN n (i + 1) m (by omega) (by omega) (by omega) (h.set (i + 1)) e' hx
   · have h1' : isI s i 1 = false := by simpa using h1
     by_cases h2 : isI s i 2 = true
     · have e : skipTo s (n + 1) i = skipTo s n (lineEnd s (s.length - i) i) := by rw [skipTo, if_neg h1, if_pos h2]
       rw [e] at hx
       have q : i < s.length ∧ clsI (s.getD i 0) = 2 := by simpa [isI] using h2
       have hge : i + 1 ≤ lineEnd s (s.length - i) i ∧ lineEnd s (s.length - i) i ≤ s.length := by
         obtain ⟨r, hr⟩ : ∃ r, s.length - i = r + 1 := ⟨s.length - i - 1, by omega⟩
         have h10 : ¬ s.getD i 0 = 10 := fun e => by
           have := q.2
           rw [e, yl4] at this
           exact absurd this (by decide)
         rw [hr, lineEnd, if_neg h10]
         have := jl7 s r (i + 1)
         omega
       refine yl5 x h e0 hh h1' h2 q.1 hN fun E' H' e' h' => ?_
       rw [jc9]
       exact j22 x hh hN n _ m hge.2 (by omega) (by omega) h' e' hx
     · have h2' : isI s i 2 = false := by simpa using h2
       have e : skipTo s (n + 1) i = i := by rw [skipTo, if_neg h1, if_neg h2]
       rw [e] at hx
       exact j63 x h e0 hh h1' h2' fun E' e' => hx E' H e' h
theorem yb9 (x : Ctx H0 a c s b) (h : Curs H0 H b a s.length c i) (hh : NH hk) (hi : i ≤ s.length) (hN : s.length < N) :
   ∃ H', Curs H0 H' b a s.length c (skipTo s (s.length - i) i) ∧ CG N hk (d + 3) 27 #[.pointer (some ⟨b, 0, none⟩)] H = some (.ret (.bool (decide (skipTo s (s.length - i) i < s.length))), H') := by
 have main : ∃ R0 : R, CG N hk (d + 3) 27 #[.pointer (some ⟨b, 0, none⟩)] H = R0 ∧ ∃ H', Curs H0 H' b a s.length c (skipTo s (s.length - i) i) ∧ R0 = some (.ret (.bool (decide (skipTo s (s.length - i) i < s.length))), H') := by
   refine ⟨_, jb6 (hh _ _ _ rfl) Tryz.func27 (c := codeOf Tryz.f27) rfl rfl rfl (pr := noPr) rfl, ?_⟩
   rw [code27]
   generalize hF : finE PP Tryz.f27 = F
   have lL := lX2 Tryz.f27 0 6
   conv at lL in (occs := *) (rq _ _) => all_goals simp only [rX, oA, Tryz.f27, dL.o, reduceIte, Nat.reduceEqDiff]
   obtain ⟨l0, l6⟩ := lL
   simp +decide only [↓uR.o, dG.o, ↓ja0 l0, ↓jb4]
   refine j22 (Q := fun r => ∃ H', Curs H0 H' b a s.length c (skipTo s (s.length - i) i) ∧ r = some (.ret (.bool (decide (skipTo s (s.length - i) i < s.length))), H')) x hh hN (s.length - i) i N hi (by omega) (by omega) h ?_ fun E' H' e' h' => ?_
   · simp +decide only [ja1, reduceIte, jc7]
   have hlt : decide (((skipTo s (s.length - i) i : Nat) : Int) < (s.length : Int)) = decide (skipTo s (s.length - i) i < s.length) := by
     by_cases q : skipTo s (s.length - i) i < s.length
     · rw [decide_eq_true q]; exact decide_eq_true (by omega)
     · rw [decide_eq_false q]; exact decide_eq_false (by omega)
   refine ⟨H', h', ?_⟩
   simp +decide only [↓uR.o, dG.o, ja1, reduceIte, ↓ja0 l6, e', hlt, fld0, fld1, jc0 h'.here, jb3 h'.here, ja6 (ts := #[22]) rfl und34]
   rw [← hF, jb0 (l := [.bool (decide (skipTo s (s.length - i) i < s.length))]) (by simp +decide [Tryz.f27, resE, ja1])]
   rfl
 obtain ⟨R0, m1, H', m2, m3⟩ := main
 exact ⟨H', m2, m1.trans m3⟩
end Go.Am
namespace Go.Am
set_option maxRecDepth 100000
variable {H H0 : Heap} {x : Addr} {s : List UInt8} {b t c i N j d : Nat} {k n f e : Int} {w : ByteArray} {a : Option Addr} {Q : R → Prop} {hk : Hook}
noncomputable abbrev cSC4 : Code := .seq (rF Tryz.f45 3) (.cond (.tmp 23) (.seq (rF Tryz.f45 4) .ret) .skip)
noncomputable abbrev cSC3 : Code := .seq cSC4 (rF Tryz.f45 5)
noncomputable abbrev cSC2 : Code := .block 1 cSC3
noncomputable abbrev cSC1 : Code := .seq (.seq (rF Tryz.f45 2) (.cond (.tmp 16) .skip (.exit 0))) cSC2
theorem Brow.mid (h : Brow H (some x) s) {i j : Nat} (hij : i ≤ j) (hj : j ≤ s.length) : Brow H (some (x.add i)) ((s.drop i).take (j - i)) := by
 have hl : ((s.drop i).take (j - i)).length = j - i := by simp; omega
 refine ⟨fun y hy => ?_, (fun e => by cases e), by have := h.small; omega⟩
 obtain rfl := Option.some.inj hy
 obtain ⟨z, h1, h2, h3, h4⟩ := h.row x rfl
 obtain ⟨k1, k2⟩ := j62 h1 i
 refine ⟨z, k1, h2, by rw [k2, hl]; omega, ?_⟩
 rw [k2, hl, List.map_take, List.map_drop, ← h4, List.drop_take, List.drop_drop, List.take_take]
 congr 1
 omega
theorem yc0 (h : Brow H (some x) s) {i j c : Nat} (hij : i ≤ j) (hj : j ≤ s.length) (hc : s.length ≤ c) :
   ∃ q, sliceOpA PP 22 (.slice (some x) s.length c) (some (.int .i64 (i : Int))) (some (.int .i64 (j : Int))) none H = some (.slice (some (x.add i)) (j - i) q) := by
 obtain ⟨z, h1, h2, h3, _⟩ := h.row x rfl
 refine ⟨c - i, ?_⟩
 simp only [sliceOpA, und34, size5, sliceA]
 have hi : (0 : Int) ≤ (i : Int) ∧ (i : Int) ≤ (j : Int) ∧ (j : Int) ≤ (c : Int) := by omega
 rw [if_pos hi]
 simp only [h1, h2]
 have e1 : ((j : Int) - (i : Int)).toNat = j - i := by omega
 have e2 : ((c : Int) - (i : Int)).toNat = c - i := by omega
 simp [e1]
theorem undStr : PP.underlying 9 = some .string := Tryz.underlying9
theorem undU8 : PP.underlying 5 = some (.int .u8) := Tryz.underlying5
theorem yl6 {q : Nat} (h : Brow H (some x) s) : convertA PP 22 9 (.slice (some x) s.length q) H = some (.string ⟨s.toArray⟩, H) := by
 simp only [convertA, und34, undStr, undU8, h.bts.str]
def tok (kind n : Int) (w : ByteArray) (from_ to_ : Int) : Blk := ⟨[.int .i64 kind, .int .u64 n, .string w, .int .i64 from_, .int .i64 to_], true, 1, none, false⟩
theorem tf0 (b : Nat) : fieldAddrA PP 42 (.pointer (some ⟨b, 0, none⟩)) 0 = some (.pointer (some ⟨b, 0, none⟩)) := by kernel_rfl
theorem tf2 (b : Nat) : fieldAddrA PP 42 (.pointer (some ⟨b, 0, none⟩)) 2 = some (.pointer (some ⟨b, 2, none⟩)) := by kernel_rfl
theorem tf4 (b : Nat) : fieldAddrA PP 42 (.pointer (some ⟨b, 0, none⟩)) 4 = some (.pointer (some ⟨b, 4, none⟩)) := by kernel_rfl
theorem sizeStr : sizeT PP 9 = some 1 := by decide +kernel
theorem ji5 (h : H.get b = some (tok k n w f e)) : loadA PP 3 (.pointer (some ⟨b, 0, none⟩)) H = some (.int .i64 k, H) := by
 simp only [loadA, agg3]
 simp [ld1, look, h, tok]
theorem jd0 (h : H.get b = some (tok k n w f e)) (k' : Int) : storeA PP 3 (.pointer (some ⟨b, 0, none⟩)) (.int .i64 k') H = some (undef, H.set b (tok k' n w f e)) := by
 simp only [storeA, size3, stV]
 simp [Value.cells, st, look, h, tok, over, Value.oneCell']
theorem jj2 (h : H.get b = some (tok k n w f e)) (w' : ByteArray) : storeA PP 9 (.pointer (some ⟨b, 2, none⟩)) (.string w') H = some (undef, H.set b (tok k n w' f e)) := by
 simp only [storeA, sizeStr, stV]
 simp [Value.cells, st, look, h, tok, over, Value.oneCell']
theorem jf8 (h : H.get b = some (tok k n w f e)) (e' : Int) : storeA PP 3 (.pointer (some ⟨b, 4, none⟩)) (.int .i64 e') H = some (undef, H.set b (tok k n w f e')) := by
 simp only [storeA, size3, stV]
 simp [Value.cells, st, look, h, tok, over, Value.oneCell']
structure Two (H0 H : Heap) (b : Nat) (x : Blk) (t : Nat) (y : Blk) : Prop where
 next : H.next = H0.next
 one : H.get b = some x
 two : H.get t = some y
 there : ∀ z, z ≠ b → z ≠ t → H.get z = H0.get z
theorem Curs.two {n : Nat} (h : Curs H0 H b a n c i) (hbt : t ≠ b) {y : Blk} (hy : H0.get t = some y) : Two H0 H b (cur a n c i) t y :=
 ⟨h.next, h.here, (h.there t hbt).trans hy, fun z h1 _ => h.there z h1⟩
theorem Two.set {x y : Blk} (h : Two H0 H b x t y) (hbt : t ≠ b) (y' : Blk) : Two H0 (H.set t y') b x t y' :=
 ⟨h.next, by rw [Heap.get_set, if_neg (Ne.symm hbt)]; exact h.one, by rw [Heap.get_set, if_pos rfl], fun z h1 h2 => by rw [Heap.get_set, if_neg h2]; exact h.there z h1 h2⟩
theorem Two.set1 {x y : Blk} (h : Two H0 H b x t y) (hbt : t ≠ b) (x' : Blk) : Two H0 (H.set b x') b x' t y :=
 ⟨h.next, by rw [Heap.get_set, if_pos rfl], by rw [Heap.get_set, if_neg hbt]; exact h.two, fun z h1 h2 => by rw [Heap.get_set, if_neg h1]; exact h.there z h1 h2⟩
def isW (s : List UInt8) (i : Nat) : Bool := isI s i 4 || isI s i 3
def runTo (s : List UInt8) : Nat → Nat → Nat
 | 0, i => i
 | n + 1, i => if isW s i then runTo s n (i + 1) else i
theorem jk7 (s : List UInt8) : ∀ n i, i ≤ runTo s n i ∧ runTo s n i ≤ i + n
 | 0, i => by simp [runTo]
 | n + 1, i => by
   unfold runTo
   have := jk7 s n (i + 1)
   split <;> omega
theorem code45 : codeOf Tryz.f45 = .seq (rF Tryz.f45 0) (.seq (rF Tryz.f45 1) (.seq (.block 0 (.loop cSC1)) (.seq (rT Tryz.f45 6) (.seq (rF Tryz.f45 7) (.seq (.seq (rF Tryz.f45 8) (.cond (.tmp 51) (rF Tryz.f45 9) .skip)) (.seq (rF Tryz.f45 10) .ret)))))) := by kernel_rfl
theorem jt8 : ((rgn Tryz.f45 2)[2]?).bind (·.dst) = some 13 := by kernel_rfl
theorem yp9 {j : Nat} {E : Env} {k : KOE} (x : Ctx H0 a c s b) (h : Curs H0 H b a s.length c i) (e0 : E 0 = .pointer (some ⟨b, 0, none⟩)) (e1 : E 1 = .pointer (some ⟨t, 0, none⟩)) (e5 : E 5 = .int .i64 (j : Int)) (hh : NH hk) (h4 : isI s i 4 = false) (h3 : isI s i 3 = false) (hx : ∀ E', E' 0 = .pointer (some ⟨b, 0, none⟩) ∧ E' 1 = .pointer (some ⟨t, 0, none⟩) ∧ E' 5 = .int .i64 (j : Int) → Q (k (.exit 0) E' [] H)) :
   Q (execG PP XX (CG N hk (d + 2)) N noPr cSC1 none E [] H k) := by
 have r1 := jf7 (N := N) (hk := hk) (d := d) (h.gg x) (h.row x) h.here 4 hh
 have r2 := jf7 (N := N) (hk := hk) (d := d) (h.gg x) (h.row x) h.here 3 hh
 rw [h4] at r1
 rw [h3] at r2
 have l2 := tl (rgn Tryz.f45 2)
 conv at l2 => rhs; simp only [rgn, oA, codeOf, Tryz.f45, gS, gN, reduceIte, Nat.reduceEqDiff, tA]
 simp +decide only [↓uR.o, dG.o, ja1, reduceIte, ↓ja0 l2, ↓jb8 _ 2 false 13 _ jt8, e0, ja3 Tryz.func43 rfl rfl r1, ja3 Tryz.func43 rfl rfl r2]
 exact hx _ ⟨e0, e1, e5⟩
theorem yq0 {E : Env} {k : KOE} (x : Ctx H0 a c s b) (h : Curs H0 H b a s.length c i) (e0 : E 0 = .pointer (some ⟨b, 0, none⟩)) (e1 : E 1 = .pointer (some ⟨t, 0, none⟩)) (e5 : E 5 = .int .i64 (j : Int)) (hh : NH hk) (hw : isW s i = true) (hji : j ≤ i) (hi : i < j + 32) (hl : i < s.length) (hx : ∀ E', E' 0 = .pointer (some ⟨b, 0, none⟩) ∧ E' 1 = .pointer (some ⟨t, 0, none⟩) ∧ E' 5 = .int .i64 (j : Int) → Q (k .norm E' [] (H.set b (cur a s.length c (i + 1))))) :
   Q (execG PP XX (CG N hk (d + 2)) N noPr cSC1 none E [] H k) := by
 have r1 := jf7 (N := N) (hk := hk) (d := d) (h.gg x) (h.row x) h.here 4 hh
 have r2 := jf7 (N := N) (hk := hk) (d := d) (h.gg x) (h.row x) h.here 3 hh
 have hsm := x.row.small
 have w : IntKind.i64.wrap ((i : Int) + 1) = ((i + 1 : Nat) : Int) := by rw [ja4 (by omega) (by omega)]; omega
 have w2 : IntKind.i64.wrap ((i : Int) - (j : Int)) = (i : Int) - (j : Int) := ja4 (by omega) (by omega)
 have hne : (((i : Int) - (j : Int)) == 32) = false := by
   have : ¬ ((i : Int) - (j : Int)) = 32 := by omega
   simpa using this
 have lL := lX3 Tryz.f45 2 3 5
 conv at lL in (occs := *) (rq _ _) => all_goals simp only [rX, oA, Tryz.f45, dL.o, reduceIte, Nat.reduceEqDiff]
 obtain ⟨l2, l3, l5⟩ := lL
 cases h4 : isI s i 4 with
 | true =>
   rw [h4] at r1
   simp +decide only [↓uR.o, dG.o, ja1, jb1, reduceIte, Bool.not_false, ↓ja0 l2, ↓ja0 l3, ↓ja0 l5, ↓r_no _ 2 false 13 _ jt8, e0, e5, ja3 Tryz.func43 rfl rfl r1, fld1, jb3 h.here, jd1 h.here, w, w2, hne]
   exact hx _ ⟨e0, e1, e5⟩
 | false =>
   have h3 : isI s i 3 = true := by simpa [isW, h4] using hw
   rw [h4] at r1
   rw [h3] at r2
   simp +decide only [↓uR.o, dG.o, ja1, jb1, reduceIte, ↓ja0 l2, ↓ja0 l3, ↓ja0 l5, ↓jb8 _ 2 false 13 _ jt8, e0, e5, ja3 Tryz.func43 rfl rfl r1, ja3 Tryz.func43 rfl rfl r2, fld1, jb3 h.here, jd1 h.here, w, w2, hne]
   exact hx _ ⟨e0, e1, e5⟩
theorem yq1 {k : KOE} (x : Ctx H0 a c s b) (hh : NH hk) :
   ∀ (n i m : Nat) (_ : j ≤ i) (_ : i + n = s.length) (_ : n < m) (_ : runTo s n i ≤ j + 32) {H : Heap} {E : Env} (_ : Curs H0 H b a s.length c i) (_ : E 0 = .pointer (some ⟨b, 0, none⟩) ∧ E 1 = .pointer (some ⟨t, 0, none⟩) ∧ E 5 = .int .i64 (j : Int)) (_ : ∀ E' H', (E' 0 = .pointer (some ⟨b, 0, none⟩) ∧ E' 1 = .pointer (some ⟨t, 0, none⟩) ∧ E' 5 = .int .i64 (j : Int)) → Curs H0 H' b a s.length c (runTo s n i) → Q (k (.exit 0) E' [] H')),
     Q (loopE (execG PP XX (CG N hk (d + 2)) N noPr cSC1 none) m E [] H k)
 | 0, i, m + 1, hj, hn, hm, hr, H, E, h, ⟨e0, e1, e5⟩, hx => by
   rw [ja5]
   have z : ∀ q, isI s i q = false := fun q => by simp [isI]; omega
   exact yp9 x h e0 e1 e5 hh (z 4) (z 3) fun E' e' => hx E' H e' h
 | n + 1, i, m + 1, hj, hn, hm, hr, H, E, h, ⟨e0, e1, e5⟩, hx => by
   rw [ja5]
   by_cases hw : isW s i = true
   · have e : runTo s (n + 1) i = runTo s n (i + 1) := by rw [runTo, if_pos hw]
     rw [e] at hx hr
     have := jk7 s n (i + 1)
     refine yq0 x h e0 e1 e5 hh hw hj (by omega) (by omega) fun E' e' => ?_
     rw [jc9]
     exact yq1 x hh n (i + 1) m (by omega) (by omega) (by omega) hr (h.set (i + 1)) e' hx
   · have e : runTo s (n + 1) i = i := by rw [runTo, if_neg hw]
     rw [e] at hx
     have h43 : isI s i 4 = false ∧ isI s i 3 = false := by simpa [isW] using hw
     exact yp9 x h e0 e1 e5 hh h43.1 h43.2 fun E' e' => hx E' H e' h
end Go.Am
namespace Go.Am
set_option maxRecDepth 100000
def nextT (P : Program) (X : Xf) (K : Kf) (A : Array Oper) (rest : List Oper) (tr : List (Env × Heap)) (k : List (Env × Heap) → KE) (kp : List PanicEntry → KE) : KE := fun E ds H => execTrF P X K A rest E ds H tr k kp
section tr
variable {P : Program} {X : Xf} {K : Kf} {A : Array Oper} {d : Option Tmp} {t : TypeId} {p : String} {af : Array Edge} {E : Env} {ds : List Deferred} {H : Heap} {tr : List (Env × Heap)} {k : List (Env × Heap) → KE} {kp : List PanicEntry → KE}
theorem jl8 (rest : List Oper) (E : Env) (ds : List Deferred) (H : Heap) : nextT P X K A rest tr k kp E ds H = execTrF P X K A rest E ds H tr k kp := id rfl
theorem j86 : execTrF P X K A [] E ds H tr k kp = k (tr ++ [(E, H)]) E ds H := id rfl
theorem j1z (op : Op) (rest : List Oper) : execTrF P X K A (⟨d, op, t, p, af, none⟩ :: rest) E ds H tr k kp = opE P X K ⟨d, op, t, p, af, none⟩ E ds H (nextT P X K A rest (tr ++ [(E, H)]) k kp) kp := id rfl
theorem jw5 {L : List Oper} (h : A.toList = L) (E : Env) (ds : List Deferred) (H : Heap) : execTrF P X K A A.toList E ds H tr k kp = execTrF P X K A L E ds H tr k kp := by rw [h]
end tr
theorem yc1 (a : Addr) : veq (.pointer (some a)) (.pointer (some a)) = true := by simp [veq, veq0]
theorem j4h (a : Option Addr) (n c : Nat) : veq (.slice a n c) (.slice a n c) = true := by simp [veq, veq0]
theorem yc2 (i : IntKind) (n : Int) : veq (.int i n) (.int i n) = true := by simp [veq, veq0]
theorem aggPc : aggT PP 57 = some false := by decide +kernel
theorem aggPt : aggT PP 61 = some false := by decide +kernel
theorem esPc : esT PP 57 = 1 := by decide +kernel
theorem esPt : esT PP 61 = 1 := by decide +kernel
theorem yu5 (H : Heap) (v : Value) (hv : v.cells = #[v]) : boxA PP 57 v H = some (.pointer (some ⟨H.next, 0, none⟩), H.alloc 1 [v]) := by simp only [boxA, esPc, mk, hv]
theorem yu6 (H : Heap) (v : Value) (hv : v.cells = #[v]) : boxA PP 61 v H = some (.pointer (some ⟨H.next, 0, none⟩), H.alloc 1 [v]) := by simp only [boxA, esPt, mk, hv]
def one (v : Value) : Blk := ⟨[v], true, 1, none, false⟩
theorem js5 {H : Heap} {b : Nat} {v : Value} (h : H.get b = some (one v)) : loadA PP 57 (.pointer (some ⟨b, 0, none⟩)) H = some (v, H) := by
 simp only [loadA, aggPc]
 simp [ld1, look, h, one]
theorem js6 {H : Heap} {b : Nat} {v : Value} (h : H.get b = some (one v)) : loadA PP 61 (.pointer (some ⟨b, 0, none⟩)) H = some (v, H) := by
 simp only [loadA, aggPt]
 simp [ld1, look, h, one]
theorem jo4 {H : Heap} {b : Nat} {v : Value} (h : H.get b = some (one v)) : loadA PP 5 (.pointer (some ⟨b, 0, none⟩)) H = some (v, H) := by
 apply jb7
 simp [ld1, look, h, one]
theorem yl7 (H : Heap) : allocA PP 5 H = some (.pointer (some ⟨H.next, 0, none⟩), H.alloc 1 [.int .u8 0]) := by
 have z : zeroT PP 5 = some [.int .u8 0] := by kernel_rfl
 have e : esT PP 5 = 1 := by decide +kernel
 simp only [allocA, z, e, mk]
theorem j64 {H : Heap} {b : Nat} {v : Value} (h : H.get b = some (one v)) (n : Int) : storeA PP 5 (.pointer (some ⟨b, 0, none⟩)) (.int .u8 n) H = some (undef, H.set b (one (.int .u8 n))) := by
 simp only [storeA, size5, stV]
 simp [Value.cells, st, look, h, one, over, Value.oneCell']
structure Lexd (H0 H : Heap) (b : Nat) (x : Blk) (t : Nat) (y : Blk) : Prop where
 next : H0.next ≤ H.next
 one : H.get b = some x
 two : H.get t = some y
 there : ∀ z w, z ≠ b → z ≠ t → H0.get z = some w → H.get z = some w
 fresh : Fresh H
theorem Two.lexd {H0 H : Heap} {b t : Nat} {x y : Blk} (h : Two H0 H b x t y) (hf : Fresh H0) (hb : b < H0.next) (ht : t < H0.next) : Lexd H0 H b x t y :=
 ⟨by rw [h.next]; exact Nat.le_refl _, h.one, h.two, fun z w h1 h2 hz => by rw [h.there z h1 h2]; exact hz, fun z hz => by rw [h.next] at hz; rw [h.there z (by omega) (by omega)]; exact hf z hz⟩
theorem Lexd.set1 {H0 H : Heap} {b t : Nat} {x y : Blk} (h : Lexd H0 H b x t y) (hbt : t ≠ b) (hb : b < H.next) (x' : Blk) : Lexd H0 (H.set b x') b x' t y :=
 ⟨h.next, by rw [Heap.get_set, if_pos rfl], by rw [Heap.get_set, if_neg hbt]; exact h.two, fun z w h1 h2 hz => by rw [Heap.get_set, if_neg h1]; exact h.there z w h1 h2 hz, fun z hz => by
   have hz' : H.next ≤ z := hz
   rw [Heap.get_set, if_neg (by omega)]; exact h.fresh z hz'⟩
theorem Lexd.set2 {H0 H : Heap} {b t : Nat} {x y : Blk} (h : Lexd H0 H b x t y) (hbt : t ≠ b) (ht : t < H.next) (y' : Blk) : Lexd H0 (H.set t y') b x t y' :=
 ⟨h.next, by rw [Heap.get_set, if_neg (Ne.symm hbt)]; exact h.one, by rw [Heap.get_set, if_pos rfl], fun z w h1 h2 hz => by rw [Heap.get_set, if_neg h2]; exact h.there z w h1 h2 hz, fun z hz => by
   have hz' : H.next ≤ z := hz
   rw [Heap.get_set, if_neg (by omega)]; exact h.fresh z hz'⟩
theorem Lexd.new {H0 H : Heap} {b t : Nat} {x y : Blk} (h : Lexd H0 H b x t y) (v : Value) (hb : b < H.next) (ht : t < H.next) : Lexd H0 (H.alloc 1 [v]) b x t y :=
 ⟨Nat.le_trans h.next (Nat.le_succ _), by rw [Heap.get_alloc, if_neg (by omega)]; exact h.one, by rw [Heap.get_alloc, if_neg (by omega)]; exact h.two, fun z w h1 h2 hz => by
   have e := h.there z w h1 h2 hz
   rw [Heap.get_alloc, if_neg (fun q => by rw [q, h.fresh _ (Nat.le_refl _)] at e; cases e)]; exact e, fun z hz => by
   have hz' : H.next + 1 ≤ z := hz
   rw [Heap.get_alloc, if_neg (by omega)]; exact h.fresh z (by omega)⟩
theorem Lexd.own {H0 H : Heap} {b t q : Nat} {x y : Blk} (h : Lexd H0 H b x t y) (hq : H0.next ≤ q) (hl : q < H.next) (hf : Fresh H0) (hb : b < H0.next) (ht : t < H0.next) (z' : Blk) : Lexd H0 (H.set q z') b x t y :=
 ⟨h.next, by rw [Heap.get_set, if_neg (by omega)]; exact h.one, by rw [Heap.get_set, if_neg (by omega)]; exact h.two, fun z w h1 h2 hz => by
   rw [Heap.get_set, if_neg (fun e => by rw [e, hf q hq] at hz; cases hz)]; exact h.there z w h1 h2 hz, fun z hz => by
   have hz' : H.next ≤ z := hz
   rw [Heap.get_set, if_neg (by omega)]; exact h.fresh z hz'⟩
theorem Lexd.gg {H0 H : Heap} {b t : Nat} {x y : Blk} {a : Option Addr} {c : Nat} {s : List UInt8} (h : Lexd H0 H b x t y) (k : Ctx H0 a c s b) (ht : GE.next ≤ t) : Ext GE H :=
 ⟨Nat.le_trans k.gg.next h.next, fun z w hz => h.there z w (fun e => by rw [e, jy9 b k.low] at hz; cases hz) (fun e => by rw [e, jy9 t ht] at hz; cases hz) (k.gg.keep z w hz), h.fresh⟩
theorem Lexd.row {H0 H : Heap} {b t : Nat} {x y : Blk} {a : Option Addr} {c : Nat} {s : List UInt8} (h : Lexd H0 H b x t y) (k : Ctx H0 a c s b) (ht : ∀ q, a = some q → q.block ≠ t) : Brow H a s := by
 refine ⟨fun q hq => ?_, k.row.nil, k.row.small⟩
 obtain ⟨z, h1, h2⟩ := k.row.row q hq
 refine ⟨z, ?_, h2⟩
 unfold look at h1 ⊢
 split at h1
 · cases h1
 · rename_i hs
   cases hg : H0.get q.block with
   | none => rw [hg] at h1; cases h1
   | some w =>
     rw [hg] at h1
     rw [h.there _ _ (k.ne q hq) (ht q hq) hg]
     exact h1
theorem code65 : codeOf Tryz.f65 = .seq (rF Tryz.f65 0) (.seq (rF Tryz.f65 1) (.seq (.seq (rF Tryz.f65 2) (.cond (.tmp 16) (.seq (rF Tryz.f65 3) (rF Tryz.f65 4)) .skip)) (.seq (rF Tryz.f65 5) .ret))) := by kernel_rfl
theorem jt9 {N : Nat} {hk : Hook} {d : Nat} {H0 H : Heap} {a : Option Addr} {n c b t i n0 n1 n2 : Nat} {kd nn f0 t0 : Int} {w : ByteArray} (h : Lexd H0 H b (cur a n c i) t (tok kd nn w f0 t0)) (hbt : t ≠ b) (hbl : b < H.next) (htl : t < H.next)
   (c0 : H.get n0 = some (one (.pointer (some ⟨b, 0, none⟩)))) (c1 : H.get n1 = some (one (.pointer (some ⟨t, 0, none⟩)))) (v : Int) (c2 : H.get n2 = some (one (.int .u8 v))) (h1 : n1 ≠ t) (hn1b : n1 ≠ b)
   (second double single_ : Int) (hne : (v == second) = false) (hh : NH hk) :
   ∃ H', Lexd H0 H' b (cur a n c i) t (tok single_ nn w f0 t0) ∧ CG N hk (d + 1) 65 #[.int .u8 second, .int .i64 double, .int .i64 single_, .pointer (some ⟨n1, 0, none⟩), .pointer (some ⟨n2, 0, none⟩), .pointer (some ⟨n0, 0, none⟩)] H = some (.ret (.bool (single_ != 0)), H') := by
 refine ⟨_, h.set2 hbt htl (tok single_ nn w f0 t0), ?_⟩
 refine (jb6 (hh _ _ _ rfl) Tryz.func65 (c := codeOf Tryz.f65) rfl rfl rfl (pr := noPr) rfl).trans ?_
 rw [code65]
 generalize hF : finE PP Tryz.f65 = F
 have h2 : n2 ≠ t := fun e => by rw [e, h.two] at c2; simp [tok, one] at c2
 have c1' : (H.set t (tok single_ nn w f0 t0)).get n1 = some (one (.pointer (some ⟨t, 0, none⟩))) := by rw [Heap.get_set, if_neg h1]; exact c1
 have c2' : (H.set t (tok single_ nn w f0 t0)).get n2 = some (one (.int .u8 v)) := by rw [Heap.get_set, if_neg h2]; exact c2
 have ct' := jc6 H t (tok single_ nn w f0 t0)
 have lL := lX4 Tryz.f65 0 1 2 5
 conv at lL in (occs := *) (rq _ _) => all_goals simp only [rX, oA, Tryz.f65, dL.o, reduceIte, Nat.reduceEqDiff]
 obtain ⟨l0, l1, l2, l5⟩ := lL
 simp +decide only [↓uR.o, dG.o, ja1, jb1, reduceIte, ↓ja0 l0, ↓ja0 l1, ↓ja0 l2, ↓ja0 l5, jy8, js6 c1, tf0, jd0 h.two, jo4 c2', hne, js6 c1', ji5 ct']
 rw [← hF, jb0 (l := [.bool (single_ != 0)]) (by simp +decide [Tryz.f65, resE, ja1])]
 rfl
def chkK (P : Program) (ops : Array Oper) (prs : List (Nat × Nat)) (k : KOE) : List (Env × Heap) → KE := fun tr E ds H => cond (prs.all fun x => pairChkE P ops tr x.1 x.2) (k .norm E ds H) none
theorem jl9 {P : Program} {X : Xf} {K : Kf} {N : Nat} {pr : Nat → List (Nat × Nat)} (i : Nat) (ops : Array Oper) (E : Env) (ds : List Deferred) (H : Heap) (k : KOE) (h : (pr i).isEmpty = false) :
   execG P X K N pr (.region i ops true) none E ds H k = execTrF P X K ops ops.toList E ds H [] (chkK P ops (pr i) k) (panD P ops true k) := j82 i ops E ds H k h
theorem jw6 {P : Program} {ops : Array Oper} {prs : List (Nat × Nat)} {k : KOE} {tr : List (Env × Heap)} {E : Env} {ds : List Deferred} {H : Heap} (h : (prs.all fun x => pairChkE P ops tr x.1 x.2) = true) : chkK P ops prs k tr E ds H = k .norm E ds H := by simp only [chkK, h, cond_true]
structure Own (H : Heap) (n0 b t : Nat) : Prop where
 c0 : H.get n0 = some (one (.pointer (some ⟨b, 0, none⟩)))
 c1 : H.get (n0 + 1) = some (one (.pointer (some ⟨t, 0, none⟩)))
theorem Own.mk0 (H : Heap) (b t : Nat) : Own ((H.alloc 1 [Value.pointer (some ⟨b, 0, none⟩)]).alloc 1 [Value.pointer (some ⟨t, 0, none⟩)]) H.next b t := by
 refine ⟨?_, ?_⟩
 · rw [Heap.get_alloc, if_neg (by show ¬ H.next = H.next + 1; omega), Heap.get_alloc, if_pos rfl]; rfl
 · rw [Heap.get_alloc]; exact if_pos rfl
theorem Own.new {H : Heap} {n0 b t : Nat} (h : Own H n0 b t) (hn : H.next = n0 + 2) (v : Value) : Own (H.alloc 1 [v]) n0 b t :=
 ⟨by rw [Heap.get_alloc, if_neg (by omega)]; exact h.c0, by rw [Heap.get_alloc, if_neg (by omega)]; exact h.c1⟩
theorem Own.set {H : Heap} {n0 b t q : Nat} (h : Own H n0 b t) (h0 : n0 ≠ q) (h1 : n0 + 1 ≠ q) (x : Blk) : Own (H.set q x) n0 b t :=
 ⟨by rw [Heap.get_set, if_neg h0]; exact h.c0, by rw [Heap.get_set, if_neg h1]; exact h.c1⟩
theorem code47 : codeOf Tryz.f47 = .seq (rF Tryz.f47 0) (.seq (rT Tryz.f47 1) (.seq (.seq (rT Tryz.f47 2) (.cond (.tmp 28) (rT Tryz.f47 3) .skip)) (.seq (rF Tryz.f47 4) (.seq (rF Tryz.f47 5) (.seq (.seq (rF Tryz.f47 6) (.block 0 (.seq (rF Tryz.f47 7) (.cond (.tmp 49) (.seq (rF Tryz.f47 8) .ret) (.seq (rF Tryz.f47 9) (.cond (.tmp 53) (.seq (rF Tryz.f47 10) .ret) (.seq (rF Tryz.f47 11) (.cond (.tmp 57) (.seq (rF Tryz.f47 12) .ret) (.seq (rF Tryz.f47 13) (.cond (.tmp 61) (.seq (.seq (rF Tryz.f47 14) (.cond (.tmp 64) (.seq (rF Tryz.f47 15) .ret) .skip)) (.seq (rF Tryz.f47 16) .ret)) (.seq (rF Tryz.f47 17) (.cond (.tmp 69) (.seq (.seq (rF Tryz.f47 18) (.cond (.tmp 72) (.seq (rF Tryz.f47 19) .ret) .skip)) (.seq (rF Tryz.f47 20) .ret)) .skip)))))))))))) (.seq (rT Tryz.f47 21) (.seq (rF Tryz.f47 22) .ret))))))) := by kernel_rfl
section
variable {N : Nat} {hk : Hook} {d : Nat} {H : Heap} {a : Option Addr} {c : Nat} {s : List UInt8} {b t i : Nat} {nn f0 t0 : Int}
theorem jf2 (x : Ctx H a c s b) (hb : H.get b = some (cur a s.length c i)) (ht : H.get t = some (tok 0 nn .empty f0 t0)) (hbt : t ≠ b) (htl : t < H.next) (htg : GE.next ≤ t) (hrt : ∀ q, a = some q → q.block ≠ t) (hi : i < s.length) (hh : NH hk) {K : Kf} {Q : R → Prop} {k : KOE} {rest : Code}
   (hx : ∀ E' H', E' 5 = .int .u8 (s[i].toNat : Int) → E' 7 = .func (.func 65) #[] #[.pointer (some ⟨H.next + 1, 0, none⟩), .pointer (some ⟨H.next + 2, 0, none⟩), .pointer (some ⟨H.next, 0, none⟩)] → E' 3 = .pointer (some ⟨H.next + 1, 0, none⟩) → E' 6 = .pointer (some ⟨H.next + 2, 0, none⟩) →
     Lexd H H' b (cur a s.length c (i + 1)) t (tok 0 nn .empty f0 t0) → H'.next = H.next + 3 → Own H' H.next b t → H'.get (H.next + 2) = some (one (.int .u8 (if i + 1 < s.length then ((s.getD (i + 1) 0).toNat : Int) else 0))) → Q (execG PP XX K N pr1 rest none E' [] H' k)) :
   Q (execG PP XX K N pr1 (.seq (rF Tryz.f47 0) (.seq (rT Tryz.f47 1) (.seq (.seq (rT Tryz.f47 2) (.cond (.tmp 28) (rT Tryz.f47 3) .skip)) (.seq (rF Tryz.f47 4) (.seq (rF Tryz.f47 5) rest))))) none (startE #[.pointer (some ⟨b, 0, none⟩), .pointer (some ⟨t, 0, none⟩)]) [] H k) := by
 have hf := x.gg.fresh
 have hbl := x.lt
 have h0 : Lexd H H b (cur a s.length c i) t (tok 0 nn .empty f0 t0) := ⟨Nat.le_refl _, hb, ht, fun z w _ _ hz => hz, hf⟩
 have ha := h0.new (.pointer (some ⟨b, 0, none⟩)) hbl htl
 have hB := ha.new (.pointer (some ⟨t, 0, none⟩)) (Nat.lt_succ_of_lt hbl) (Nat.lt_succ_of_lt htl)
 have hC := hB.new (.int .u8 0) (by show b < H.next + 1 + 1; omega) (by show t < H.next + 1 + 1; omega)
 have hD := hC.own (q := H.next + 2) (by omega) (by show H.next + 2 < H.next + 1 + 1 + 1; omega) hf hbl htl (one (.int .u8 0))
 have nA : (H.alloc 1 [Value.pointer (some ⟨b, 0, none⟩)]).next = H.next + 1 := rfl
 have nB : ((H.alloc 1 [Value.pointer (some ⟨b, 0, none⟩)]).alloc 1 [Value.pointer (some ⟨t, 0, none⟩)]).next = H.next + 2 := rfl
 have oB : Own ((H.alloc 1 [Value.pointer (some ⟨b, 0, none⟩)]).alloc 1 [Value.pointer (some ⟨t, 0, none⟩)]) H.next b t := .mk0 H b t
 have oC : Own (((H.alloc 1 [Value.pointer (some ⟨b, 0, none⟩)]).alloc 1 [Value.pointer (some ⟨t, 0, none⟩)]).alloc 1 [.int .u8 0]) H.next b t := oB.new rfl _
 have vC : (((H.alloc 1 [Value.pointer (some ⟨b, 0, none⟩)]).alloc 1 [Value.pointer (some ⟨t, 0, none⟩)]).alloc 1 [.int .u8 0]).get (H.next + 2) = some (one (.int .u8 0)) := by rw [Heap.get_alloc]; exact if_pos rfl
 have oD := oC.set (q := H.next + 2) (by omega) (by omega) (one (.int .u8 0))
 obtain ⟨y, rfl⟩ : ∃ y, a = some y := by
   cases a with
   | none => exact absurd (x.row.nil rfl) (by intro e; rw [e] at hi; simp at hi)
   | some y => exact ⟨y, rfl⟩
 have rB := hB.row x hrt
 obtain ⟨y', e', hl⟩ := rB.bts.cell i hi
 obtain rfl := Option.some.inj e'
 obtain ⟨y2, e2, hlC⟩ := (hC.row x hrt).bts.cell i hi
 obtain rfl := Option.some.inj e2
 have hix := jc4 (n := s.length) (c := c) (a := y) hi
 have hsm := x.row.small
 have w : IntKind.i64.wrap ((i : Int) + 1) = ((i + 1 : Nat) : Int) := by rw [ja4 (by omega) (by omega)]; omega
 have lL := lX6 Tryz.f47 0 1 2 3 4 5
 conv at lL in (occs := *) (rq _ _) => all_goals simp only [rX, oA, Tryz.f47, dL.o, reduceIte, Nat.reduceEqDiff]
 obtain ⟨l0, l1, l2, l3, l4, l5⟩ := lL
 simp +decide only [↓jb9, jl9, ↓jw5 l1, ↓j86, ↓j1z, jl8, pr1, ↓uG.o, dG.o, ja1, jb1, reduceIte, ↓ja0 l0, yu5 _ (.pointer (some ⟨b, 0, none⟩)) rfl, yu6 _ (.pointer (some ⟨t, 0, none⟩)) rfl, nA, nB, js5 oB.c0, jc0 hB.one, jb3 hB.one, fld0, fld1, hix, jb7 hl, yl7, j64 vC]
 simp only [List.nil_append, List.cons_append]
 rw [jw6 (by simp +decide only [List.all_cons, List.all_nil, pairChkE, l1, List.getElem?_cons_zero, List.getElem?_cons_succ, guardBE, qval, opK, dG.o, ja1, reduceIte, Bool.and_self, yc1, j4h, yc2, js5 oB.c0, js5 oC.c0, jc0 hB.one, jc0 hC.one, jb3 hB.one, jb3 hC.one, jb7 hl, jb7 hlC])]
 have vD := jc6 (((H.alloc 1 [Value.pointer (some ⟨b, 0, none⟩)]).alloc 1 [Value.pointer (some ⟨t, 0, none⟩)]).alloc 1 [.int .u8 0]) (H.next + 2) (one (.int .u8 0))
 have nD : ((((H.alloc 1 [Value.pointer (some ⟨b, 0, none⟩)]).alloc 1 [Value.pointer (some ⟨t, 0, none⟩)]).alloc 1 [.int .u8 0]).set (H.next + 2) (one (.int .u8 0))).next = H.next + 3 := rfl
 generalize ((((H.alloc 1 [Value.pointer (some ⟨b, 0, none⟩)]).alloc 1 [Value.pointer (some ⟨t, 0, none⟩)]).alloc 1 [.int .u8 0]).set (H.next + 2) (one (.int .u8 0))) = HD at *
 have rD := hD.row x hrt
 by_cases h1 : i + 1 < s.length
 · have hlt : decide (((i + 1 : Nat) : Int) < (s.length : Int)) = true := decide_eq_true (by omega)
   obtain ⟨y3, e3, hl1⟩ := rD.bts.cell (i + 1) h1
   obtain rfl := Option.some.inj e3
   have hix1 := jc4 (n := s.length) (c := c) (a := y) h1
   have hE := hD.own (q := H.next + 2) (by omega) (by omega) hf hbl htl (one (.int .u8 (s[i + 1].toNat : Int)))
   have oE := oD.set (q := H.next + 2) (by omega) (by omega) (one (.int .u8 (s[i + 1].toNat : Int)))
   have vE := jc6 HD (H.next + 2) (one (.int .u8 (s[i + 1].toNat : Int)))
   have hG := hE.set1 hbt (by show b < HD.next; omega) (cur (some y) s.length c (i + 1))
   simp +decide only [↓jb9, jh0 (pr := pr1) 2 _ _ _ _ _ rfl, jh0 (pr := pr1) 3 _ _ _ _ _ rfl, ↓uG.o, dG.o, ja1, jb1, reduceIte, ↓ja0 l2, ↓ja0 l3, ↓ja0 l4, ↓ja0 l5, js5 oD.c0, jc0 hD.one, jb3 hD.one, fld0, fld1, w, ja6 (ts := #[22]) rfl und34, hlt, hix1, jb7 hl1, j64 vD, js5 oE.c0, jb3 hE.one, jd1 hE.one]
   refine hx _ _ ?_ ?_ ?_ ?_ hG (by show HD.next = _; exact nD) (oE.set (by omega) (by omega) _) (by rw [Heap.get_set, if_neg (by omega), vE, if_pos h1]; simp [List.getD, h1])
   all_goals simp +decide only [ja1, reduceIte]
 · have hlt : decide (((i + 1 : Nat) : Int) < (s.length : Int)) = false := decide_eq_false (by omega)
   have hG := hD.set1 hbt (by omega) (cur (some y) s.length c (i + 1))
   simp +decide only [↓jb9, jh0 (pr := pr1) 2 _ _ _ _ _ rfl, ↓uG.o, dG.o, ja1, jb1, reduceIte, ↓ja0 l2, ↓ja0 l4, ↓ja0 l5, js5 oD.c0, jc0 hD.one, jb3 hD.one, fld0, fld1, w, ja6 (ts := #[22]) rfl und34, hlt, jd1 hD.one]
   refine hx _ _ ?_ ?_ ?_ ?_ hG (by show HD.next = _; exact nD) (oD.set (by omega) (by omega) _) (by rw [Heap.get_set, if_neg (by omega), vD, if_neg h1])
   all_goals simp +decide only [ja1, reduceIte]
end
theorem app33 (a b c x y z : Value) : (#[] ++ #[a, b, c] ++ #[x, y, z] : Array Value) = #[a, b, c, x, y, z] := rfl
section
variable {N : Nat} {hk : Hook} {d : Nat} {H : Heap} {a : Option Addr} {c : Nat} {s : List UInt8} {b t i : Nat} {nn f0 t0 : Int}
theorem j87 (x : Ctx H a c s b) (hb : H.get b = some (cur a s.length c i)) (ht : H.get t = some (tok 0 nn .empty f0 t0)) (hbt : t ≠ b) (htl : t < H.next) (htg : GE.next ≤ t) (hrt : ∀ q, a = some q → q.block ≠ t) (hi : i < s.length) (hh : NH hk) (h46 : ((s[i].toNat : Int) == 46) = false) (h33 : ((s[i].toNat : Int) == 33) = false) (h61 : ((s[i].toNat : Int) == 61) = false) (h60 : ((s[i].toNat : Int) == 60) = false) (h62 : ((s[i].toNat : Int) == 62) = false)
   {kd : Int} (hs : ∀ H, Ext GE H → hk 66 #[.int .u8 (s[i].toNat : Int)] H = some (some (.ret (.int .i64 kd), H))) :
   ∃ H', Lexd H H' b (cur a s.length c (i + 1)) t (tok kd nn .empty f0 t0) ∧ CG N hk (d + 2) 47 #[.pointer (some ⟨b, 0, none⟩), .pointer (some ⟨t, 0, none⟩)] H = some (.ret (.bool true), H') := by
 have main : ∃ R0 : R, CG N hk (d + 2) 47 #[.pointer (some ⟨b, 0, none⟩), .pointer (some ⟨t, 0, none⟩)] H = R0 ∧ ∃ H', Lexd H H' b (cur a s.length c (i + 1)) t (tok kd nn .empty f0 t0) ∧ R0 = some (.ret (.bool true), H') := by
   refine ⟨_, jb6 (hh _ _ _ rfl) Tryz.func47 (c := codeOf Tryz.f47) rfl rfl rfl (pr := pr1) rfl, ?_⟩
   rw [code47]
   generalize hF : finE PP Tryz.f47 = F
   refine jf2 (Q := fun r => ∃ H', Lexd H H' b (cur a s.length c (i + 1)) t (tok kd nn .empty f0 t0) ∧ r = some (.ret (.bool true), H')) x hb ht hbt htl htg hrt hi hh fun E H' e5 e7 e3 e6 hL hn own hv => ?_
   have hcall : CG N hk (d + 1) 66 #[.int .u8 (s[i].toNat : Int)] H' = some (.ret (.int .i64 kd), H') := jc1 (hs H' (hL.gg x htg))
   have lL := lX8 Tryz.f47 6 7 9 11 13 17 21 22
   conv at lL in (occs := *) (rq _ _) => all_goals simp only [rX, oA, Tryz.f47, dL.o, reduceIte, Nat.reduceEqDiff]
   obtain ⟨l6, l7, l9, l11, l13, l17, l21, l22⟩ := lL
   simp +decide only [↓jb9, jl9, ↓jw5 l21, ↓j86, ↓j1z, jl8, pr1, ↓uG.o, dG.o, ja1, jb1, reduceIte, ↓ja0 l6, ↓ja0 l7, ↓ja0 l9, ↓ja0 l11, ↓ja0 l13, ↓ja0 l17, e5, e3, h46, h33, h61, h60, h62, js6 own.c1, ja3 Tryz.func66 rfl rfl hcall, tf0, jd0 hL.two]
   simp only [List.nil_append, List.cons_append]
   rw [jw6 (by simp +decide only [List.all_cons, List.all_nil, pairChkE, l21, List.getElem?_cons_zero, List.getElem?_cons_succ, guardBE, qval, opK, dG.o, ja1, reduceIte, Bool.and_self, yc1, e3, js6 own.c1])]
   refine ⟨_, hL.set2 hbt (by omega) _, ?_⟩
   simp +decide only [↓jb9, ↓uG.o, dG.o, ↓ja0 l22]
   rw [← hF, jb0 (l := [.bool true]) (by simp +decide [Tryz.f47, resE, ja1])]
   rfl
 obtain ⟨R0, m1, H', m2, m3⟩ := main
 exact ⟨H', m2, m1.trans m3⟩
theorem yc3 (x : Ctx H a c s b) (hb : H.get b = some (cur a s.length c i)) (ht : H.get t = some (tok 0 nn .empty f0 t0)) (hbt : t ≠ b) (htl : t < H.next) (htg : GE.next ≤ t) (hrt : ∀ q, a = some q → q.block ≠ t) (hi : i < s.length) (hh : NH hk) (h46 : ((s[i].toNat : Int) == 46) = false) (h33 : ((s[i].toNat : Int) == 33) = true) (hn : ((if i + 1 < s.length then ((s.getD (i + 1) 0).toNat : Int) else 0) == 61) = false) :
   ∃ H', Lexd H H' b (cur a s.length c (i + 1)) t (tok 0 nn .empty f0 t0) ∧ CG N hk (d + 2) 47 #[.pointer (some ⟨b, 0, none⟩), .pointer (some ⟨t, 0, none⟩)] H = some (.ret (.bool false), H') := by
 have main : ∃ R0 : R, CG N hk (d + 2) 47 #[.pointer (some ⟨b, 0, none⟩), .pointer (some ⟨t, 0, none⟩)] H = R0 ∧ ∃ H', Lexd H H' b (cur a s.length c (i + 1)) t (tok 0 nn .empty f0 t0) ∧ R0 = some (.ret (.bool false), H') := by
   refine ⟨_, jb6 (hh _ _ _ rfl) Tryz.func47 (c := codeOf Tryz.f47) rfl rfl rfl (pr := pr1) rfl, ?_⟩
   rw [code47]
   generalize hF : finE PP Tryz.f47 = F
   refine jf2 (Q := fun r => ∃ H', Lexd H H' b (cur a s.length c (i + 1)) t (tok 0 nn .empty f0 t0) ∧ r = some (.ret (.bool false), H')) x hb ht hbt htl htg hrt hi hh fun E H' e5 e7 e3 e6 hL hnx own hv => ?_
   obtain ⟨H2, h2, hcall⟩ := jt9 (N := N) (hk := hk) (d := d) hL hbt (by have := x.lt; omega) (by omega) own.c0 own.c1 _ hv (by omega) (by have := x.lt; omega) 61 15 0 hn hh
   have lL := lX4 Tryz.f47 6 7 9 10
   conv at lL in (occs := *) (rq _ _) => all_goals simp only [rX, oA, Tryz.f47, dL.o, reduceIte, Nat.reduceEqDiff]
   obtain ⟨l6, l7, l9, l10⟩ := lL
   simp +decide only [↓jb9, ↓uG.o, dG.o, ja1, reduceIte, ↓ja0 l6, ↓ja0 l7, ↓ja0 l9, ↓ja0 l10, e5, e7, h46, h33, ↓jg0 55 _ _ 65 #[] #[.pointer (some ⟨H.next + 1, 0, none⟩), .pointer (some ⟨H.next + 2, 0, none⟩), .pointer (some ⟨H.next, 0, none⟩)], app33, ja3 Tryz.func65 rfl rfl hcall]
   refine ⟨_, h2, ?_⟩
   rw [← hF, jb0 (l := [.bool ((0 : Int) != 0)]) (by simp +decide [Tryz.f47, resE, ja1])]
   rfl
 obtain ⟨R0, m1, H', m2, m3⟩ := main
 exact ⟨H', m2, m1.trans m3⟩
end
def tabH (G : Heap) (gs : List Nat) (f0 : FuncId) (T : Nat → Value) : Hook := fun f args H =>
 cond (Nat.beq f f0) (match args.toList with
   | [.int .u8 n] => cond (decide (0 ≤ n) && decide (n < 256)) (hookP G gs [⟨f0, [.int .u8 n], T n.toNat⟩] f args H) none
   | _ => none) none
theorem jm0 {K : Kf} (hK : KSnd PP K) {G : Heap} {gs : List Nat} (hT : Tabs PP G) (hg : ∀ b x, G.get b = some x → b ∈ gs) {f0 : FuncId} {T : Nat → Value}
   (h : (List.range 256).all (fun u => okRow K G ⟨f0, [.int .u8 (u : Int)], T u⟩) = true) : HookSnd PP (tabH G gs f0 T) := by
 intro f args H r H' he
 unfold tabH at he
 cases hf : Nat.beq f f0 with
 | false => rw [hf] at he; cases he
 | true =>
   rw [hf] at he
   simp only [cond_true] at he
   split at he
   · rename_i n hn
     cases hc : (decide (0 ≤ n) && decide (n < 256)) with
     | false => rw [hc] at he; cases he
     | true =>
       rw [hc] at he
       simp only [Bool.and_eq_true, decide_eq_true_eq] at hc
       simp only [cond_true] at he
       refine j0k hK hT hg (fun e hm => ?_) f args H r H' he
       simp only [List.mem_cons, List.not_mem_nil, or_false] at hm
       subst hm
       have := List.all_eq_true.mp h n.toNat (List.mem_range.mpr (by omega))
       simp only [okRow, Bool.and_eq_true] at this
       have e : ((n.toNat : Nat) : Int) = n := by omega
       rw [e] at this
       simpa using this
   · cases he
def singleT (u : Nat) : Int :=
 match u with
 | 124 => 20 | 94 => 21 | 38 => 22 | 43 => 25 | 45 => 26 | 42 => 27 | 47 => 28 | 37 => 29
 | 123 => 4 | 125 => 5 | 91 => 6 | 93 => 7 | 40 => 8 | 41 => 9 | 59 => 10 | 44 => 11
 | _ => 3
def hexT (u : Nat) : Int :=
 if 48 ≤ u ∧ u ≤ 57 then (u : Int) - 48 else if 97 ≤ u ∧ u ≤ 102 then (u : Int) - 87 else if 65 ≤ u ∧ u ≤ 70 then (u : Int) - 55 else 16
theorem j88 : (List.range 256).all (fun u => okRow (fast hook0) GE ⟨66, [.int .u8 (u : Int)], .int .i64 (singleT u)⟩) = true := by decide +kernel
theorem hexes0 : (List.range' 0 100).all (fun u => okRow (fast hook0) GE ⟨64, [.int .u8 (u : Int)], .int .u64 (hexT u)⟩) = true := by decide +kernel
theorem hexes1 : (List.range' 100 100).all (fun u => okRow (fast hook0) GE ⟨64, [.int .u8 (u : Int)], .int .u64 (hexT u)⟩) = true := by decide +kernel
theorem hexes2 : (List.range' 200 56).all (fun u => okRow (fast hook0) GE ⟨64, [.int .u8 (u : Int)], .int .u64 (hexT u)⟩) = true := by decide +kernel
theorem yl8 : (List.range 256).all (fun u => okRow (fast hook0) GE ⟨64, [.int .u8 (u : Int)], .int .u64 (hexT u)⟩) = true := by
 rw [List.all_eq_true]
 intro u hu
 rw [List.mem_range] at hu
 by_cases h0 : u < 100
 · exact List.all_eq_true.mp hexes0 u (by rw [List.mem_range'_1]; omega)
 · by_cases h1 : u < 200
   · exact List.all_eq_true.mp hexes1 u (by rw [List.mem_range'_1]; omega)
   · exact List.all_eq_true.mp hexes2 u (by rw [List.mem_range'_1]; omega)
theorem jj8 {N : Nat} {hk : Hook} {d : Nat} {H0 H : Heap} {a : Option Addr} {n c b t i n0 : Nat} {kd nn f0 t0 : Int} {w : ByteArray} (h : Lexd H0 H b (cur a n c i) t (tok kd nn w f0 t0)) (hbt : t ≠ b) (hbl : b < H.next) (htl : t < H.next)
   (c0 : H.get n0 = some (one (.pointer (some ⟨b, 0, none⟩)))) (c1 : H.get (n0 + 1) = some (one (.pointer (some ⟨t, 0, none⟩)))) (v : Int) (c2 : H.get (n0 + 2) = some (one (.int .u8 v))) (h1 : n0 + 1 ≠ t) (hn1b : n0 + 1 ≠ b)
   (second double single_ : Int) (heq : (v == second) = true) (hn0t : n0 ≠ t) (hn0b : n0 ≠ b) (hi : i < 9223372036854775806) (hh : NH hk) :
   ∃ H', Lexd H0 H' b (cur a n c (i + 1)) t (tok double nn w f0 t0) ∧ CG N hk (d + 1) 65 #[.int .u8 second, .int .i64 double, .int .i64 single_, .pointer (some ⟨n0 + 1, 0, none⟩), .pointer (some ⟨n0 + 2, 0, none⟩), .pointer (some ⟨n0, 0, none⟩)] H = some (.ret (.bool (double != 0)), H') := by
 have a1 := h.set2 hbt htl (tok single_ nn w f0 t0)
 have a2 := a1.set2 hbt (by exact htl) (tok double nn w f0 t0)
 have a3 := a2.set1 hbt (by exact hbl) (cur a n c (i + 1))
 refine ⟨_, a3, ?_⟩
 refine (jb6 (hh _ _ _ rfl) Tryz.func65 (c := codeOf Tryz.f65) rfl rfl rfl (pr := noPr) rfl).trans ?_
 rw [code65]
 generalize hF : finE PP Tryz.f65 = F
 have h2 : n0 + 2 ≠ t := fun e => by rw [e, h.two] at c2; simp [tok, one] at c2
 have g : ∀ (G : Heap) (q : Nat) (x : Blk) (z : Nat) (y : Option Blk), z ≠ q → G.get z = y → (G.set q x).get z = y := fun G q x z y hz hy => by rw [Heap.get_set, if_neg hz]; exact hy
 have k1 := g H t (tok single_ nn w f0 t0) _ _ h1 c1
 have k2 := g H t (tok single_ nn w f0 t0) _ _ h2 c2
 have k0 := g _ t (tok double nn w f0 t0) _ _ hn0t (g H t (tok single_ nn w f0 t0) _ _ hn0t c0)
 have k3 := g _ b (cur a n c (i + 1)) _ _ hn1b (g _ t (tok double nn w f0 t0) _ _ h1 k1)
 have w1 : IntKind.i64.wrap ((i : Int) + 1) = ((i + 1 : Nat) : Int) := by rw [ja4 (by omega) (by omega)]; omega
 have lL := lX6 Tryz.f65 0 1 2 3 4 5
 conv at lL in (occs := *) (rq _ _) => all_goals simp only [rX, oA, Tryz.f65, dL.o, reduceIte, Nat.reduceEqDiff]
 obtain ⟨l0, l1, l2, l3, l4, l5⟩ := lL
 simp +decide only [↓uR.o, dG.o, ja1, jb1, reduceIte, ↓ja0 l0, ↓ja0 l1, ↓ja0 l2, ↓ja0 l3, ↓ja0 l4, ↓ja0 l5, jy8, yl2, js6 c1, tf0, jd0 h.two, jo4 k2, heq, js6 k1, jd0 a1.two, js5 k0, fld1, jb3 a2.one, jd1 a2.one, w1, js6 k3, ji5 a3.two]
 rw [← hF, jb0 (l := [.bool (double != 0)]) (by simp +decide [Tryz.f65, resE, ja1])]
 rfl
section
variable {N : Nat} {hk : Hook} {d : Nat} {H : Heap} {a : Option Addr} {c : Nat} {s : List UInt8} {b t i : Nat} {nn f0 t0 : Int}
theorem y1c (x : Ctx H a c s b) (hb : H.get b = some (cur a s.length c i)) (ht : H.get t = some (tok 0 nn .empty f0 t0)) (hbt : t ≠ b) (htl : t < H.next) (htg : GE.next ≤ t) (hrt : ∀ q, a = some q → q.block ≠ t) (hi : i < s.length) (hh : NH hk) (hsl : s.length < 9223372036854775000) (h46 : ((s[i].toNat : Int) == 46) = true) (hn : ((if i + 1 < s.length then ((s.getD (i + 1) 0).toNat : Int) else 0) == 46) = true) :
   ∃ H', Lexd H H' b (cur a s.length c (i + 1 + 1)) t (tok 12 nn .empty f0 t0) ∧ CG N hk (d + 2) 47 #[.pointer (some ⟨b, 0, none⟩), .pointer (some ⟨t, 0, none⟩)] H = some (.ret (.bool true), H') := by
 have main : ∃ R0 : R, CG N hk (d + 2) 47 #[.pointer (some ⟨b, 0, none⟩), .pointer (some ⟨t, 0, none⟩)] H = R0 ∧ ∃ H', Lexd H H' b (cur a s.length c (i + 1 + 1)) t (tok 12 nn .empty f0 t0) ∧ R0 = some (.ret (.bool true), H') := by
   refine ⟨_, jb6 (hh _ _ _ rfl) Tryz.func47 (c := codeOf Tryz.f47) rfl rfl rfl (pr := pr1) rfl, ?_⟩
   rw [code47]
   generalize hF : finE PP Tryz.f47 = F
   refine jf2 (Q := fun r => ∃ H', Lexd H H' b (cur a s.length c (i + 1 + 1)) t (tok 12 nn .empty f0 t0) ∧ r = some (.ret (.bool true), H')) x hb ht hbt htl htg hrt hi hh fun E H' e5 e7 e3 e6 hL hnx own hv => ?_
   have hbl := x.lt
   have hsm := x.row.small
   obtain ⟨H2, h2, hcall⟩ := jj8 (N := N) (hk := hk) (d := d) hL hbt (by omega) (by omega) own.c0 own.c1 _ hv (by omega) (by omega) 46 12 0 hn (by omega) (by omega) (by omega) hh
   have lL := lX3 Tryz.f47 6 7 8
   conv at lL in (occs := *) (rq _ _) => all_goals simp only [rX, oA, Tryz.f47, dL.o, reduceIte, Nat.reduceEqDiff]
   obtain ⟨l6, l7, l8⟩ := lL
   simp +decide only [↓jb9, ↓uG.o, dG.o, ja1, reduceIte, ↓ja0 l6, ↓ja0 l7, ↓ja0 l8, e5, e7, h46, ↓jg0 51 _ _ 65 #[] #[.pointer (some ⟨H.next + 1, 0, none⟩), .pointer (some ⟨H.next + 2, 0, none⟩), .pointer (some ⟨H.next, 0, none⟩)], app33, ja3 Tryz.func65 rfl rfl hcall]
   refine ⟨_, h2, ?_⟩
   rw [← hF, jb0 (l := [.bool ((12 : Int) != 0)]) (by simp +decide [Tryz.f47, resE, ja1])]
   rfl
 obtain ⟨R0, m1, H', m2, m3⟩ := main
 exact ⟨H', m2, m1.trans m3⟩
theorem y1d (x : Ctx H a c s b) (hb : H.get b = some (cur a s.length c i)) (ht : H.get t = some (tok 0 nn .empty f0 t0)) (hbt : t ≠ b) (htl : t < H.next) (htg : GE.next ≤ t) (hrt : ∀ q, a = some q → q.block ≠ t) (hi : i < s.length) (hh : NH hk) (hsl : s.length < 9223372036854775000) (h46 : ((s[i].toNat : Int) == 46) = true) (hn : ((if i + 1 < s.length then ((s.getD (i + 1) 0).toNat : Int) else 0) == 46) = false) :
   ∃ H', Lexd H H' b (cur a s.length c (i + 1)) t (tok 0 nn .empty f0 t0) ∧ CG N hk (d + 2) 47 #[.pointer (some ⟨b, 0, none⟩), .pointer (some ⟨t, 0, none⟩)] H = some (.ret (.bool false), H') := by
 have main : ∃ R0 : R, CG N hk (d + 2) 47 #[.pointer (some ⟨b, 0, none⟩), .pointer (some ⟨t, 0, none⟩)] H = R0 ∧ ∃ H', Lexd H H' b (cur a s.length c (i + 1)) t (tok 0 nn .empty f0 t0) ∧ R0 = some (.ret (.bool false), H') := by
   refine ⟨_, jb6 (hh _ _ _ rfl) Tryz.func47 (c := codeOf Tryz.f47) rfl rfl rfl (pr := pr1) rfl, ?_⟩
   rw [code47]
   generalize hF : finE PP Tryz.f47 = F
   refine jf2 (Q := fun r => ∃ H', Lexd H H' b (cur a s.length c (i + 1)) t (tok 0 nn .empty f0 t0) ∧ r = some (.ret (.bool false), H')) x hb ht hbt htl htg hrt hi hh fun E H' e5 e7 e3 e6 hL hnx own hv => ?_
   have hbl := x.lt
   have hsm := x.row.small
   obtain ⟨H2, h2, hcall⟩ := jt9 (N := N) (hk := hk) (d := d) hL hbt (by omega) (by omega) own.c0 own.c1 _ hv (by omega) (by omega) 46 12 0 hn hh
   have lL := lX3 Tryz.f47 6 7 8
   conv at lL in (occs := *) (rq _ _) => all_goals simp only [rX, oA, Tryz.f47, dL.o, reduceIte, Nat.reduceEqDiff]
   obtain ⟨l6, l7, l8⟩ := lL
   simp +decide only [↓jb9, ↓uG.o, dG.o, ja1, reduceIte, ↓ja0 l6, ↓ja0 l7, ↓ja0 l8, e5, e7, h46, ↓jg0 51 _ _ 65 #[] #[.pointer (some ⟨H.next + 1, 0, none⟩), .pointer (some ⟨H.next + 2, 0, none⟩), .pointer (some ⟨H.next, 0, none⟩)], app33, ja3 Tryz.func65 rfl rfl hcall]
   refine ⟨_, h2, ?_⟩
   rw [← hF, jb0 (l := [.bool ((0 : Int) != 0)]) (by simp +decide [Tryz.f47, resE, ja1])]
   rfl
 obtain ⟨R0, m1, H', m2, m3⟩ := main
 exact ⟨H', m2, m1.trans m3⟩
theorem y1e (x : Ctx H a c s b) (hb : H.get b = some (cur a s.length c i)) (ht : H.get t = some (tok 0 nn .empty f0 t0)) (hbt : t ≠ b) (htl : t < H.next) (htg : GE.next ≤ t) (hrt : ∀ q, a = some q → q.block ≠ t) (hi : i < s.length) (hh : NH hk) (hsl : s.length < 9223372036854775000) (h46 : ((s[i].toNat : Int) == 46) = false) (h33 : ((s[i].toNat : Int) == 33) = true) (hn : ((if i + 1 < s.length then ((s.getD (i + 1) 0).toNat : Int) else 0) == 61) = true) :
   ∃ H', Lexd H H' b (cur a s.length c (i + 1 + 1)) t (tok 15 nn .empty f0 t0) ∧ CG N hk (d + 2) 47 #[.pointer (some ⟨b, 0, none⟩), .pointer (some ⟨t, 0, none⟩)] H = some (.ret (.bool true), H') := by
 have main : ∃ R0 : R, CG N hk (d + 2) 47 #[.pointer (some ⟨b, 0, none⟩), .pointer (some ⟨t, 0, none⟩)] H = R0 ∧ ∃ H', Lexd H H' b (cur a s.length c (i + 1 + 1)) t (tok 15 nn .empty f0 t0) ∧ R0 = some (.ret (.bool true), H') := by
   refine ⟨_, jb6 (hh _ _ _ rfl) Tryz.func47 (c := codeOf Tryz.f47) rfl rfl rfl (pr := pr1) rfl, ?_⟩
   rw [code47]
   generalize hF : finE PP Tryz.f47 = F
   refine jf2 (Q := fun r => ∃ H', Lexd H H' b (cur a s.length c (i + 1 + 1)) t (tok 15 nn .empty f0 t0) ∧ r = some (.ret (.bool true), H')) x hb ht hbt htl htg hrt hi hh fun E H' e5 e7 e3 e6 hL hnx own hv => ?_
   have hbl := x.lt
   have hsm := x.row.small
   obtain ⟨H2, h2, hcall⟩ := jj8 (N := N) (hk := hk) (d := d) hL hbt (by omega) (by omega) own.c0 own.c1 _ hv (by omega) (by omega) 61 15 0 hn (by omega) (by omega) (by omega) hh
   have lL := lX4 Tryz.f47 6 7 9 10
   conv at lL in (occs := *) (rq _ _) => all_goals simp only [rX, oA, Tryz.f47, dL.o, reduceIte, Nat.reduceEqDiff]
   obtain ⟨l6, l7, l9, l10⟩ := lL
   simp +decide only [↓jb9, ↓uG.o, dG.o, ja1, reduceIte, ↓ja0 l6, ↓ja0 l7, ↓ja0 l9, ↓ja0 l10, e5, e7, h46, h33, ↓jg0 55 _ _ 65 #[] #[.pointer (some ⟨H.next + 1, 0, none⟩), .pointer (some ⟨H.next + 2, 0, none⟩), .pointer (some ⟨H.next, 0, none⟩)], app33, ja3 Tryz.func65 rfl rfl hcall]
   refine ⟨_, h2, ?_⟩
   rw [← hF, jb0 (l := [.bool ((15 : Int) != 0)]) (by simp +decide [Tryz.f47, resE, ja1])]
   rfl
 obtain ⟨R0, m1, H', m2, m3⟩ := main
 exact ⟨H', m2, m1.trans m3⟩
theorem y1f (x : Ctx H a c s b) (hb : H.get b = some (cur a s.length c i)) (ht : H.get t = some (tok 0 nn .empty f0 t0)) (hbt : t ≠ b) (htl : t < H.next) (htg : GE.next ≤ t) (hrt : ∀ q, a = some q → q.block ≠ t) (hi : i < s.length) (hh : NH hk) (hsl : s.length < 9223372036854775000) (h46 : ((s[i].toNat : Int) == 46) = false) (h33 : ((s[i].toNat : Int) == 33) = false) (h61 : ((s[i].toNat : Int) == 61) = true) (hn : ((if i + 1 < s.length then ((s.getD (i + 1) 0).toNat : Int) else 0) == 61) = true) :
   ∃ H', Lexd H H' b (cur a s.length c (i + 1 + 1)) t (tok 14 nn .empty f0 t0) ∧ CG N hk (d + 2) 47 #[.pointer (some ⟨b, 0, none⟩), .pointer (some ⟨t, 0, none⟩)] H = some (.ret (.bool true), H') := by
 have main : ∃ R0 : R, CG N hk (d + 2) 47 #[.pointer (some ⟨b, 0, none⟩), .pointer (some ⟨t, 0, none⟩)] H = R0 ∧ ∃ H', Lexd H H' b (cur a s.length c (i + 1 + 1)) t (tok 14 nn .empty f0 t0) ∧ R0 = some (.ret (.bool true), H') := by
   refine ⟨_, jb6 (hh _ _ _ rfl) Tryz.func47 (c := codeOf Tryz.f47) rfl rfl rfl (pr := pr1) rfl, ?_⟩
   rw [code47]
   generalize hF : finE PP Tryz.f47 = F
   refine jf2 (Q := fun r => ∃ H', Lexd H H' b (cur a s.length c (i + 1 + 1)) t (tok 14 nn .empty f0 t0) ∧ r = some (.ret (.bool true), H')) x hb ht hbt htl htg hrt hi hh fun E H' e5 e7 e3 e6 hL hnx own hv => ?_
   have hbl := x.lt
   have hsm := x.row.small
   obtain ⟨H2, h2, hcall⟩ := jj8 (N := N) (hk := hk) (d := d) hL hbt (by omega) (by omega) own.c0 own.c1 _ hv (by omega) (by omega) 61 14 13 hn (by omega) (by omega) (by omega) hh
   have lL := lX5 Tryz.f47 6 7 9 11 12
   conv at lL in (occs := *) (rq _ _) => all_goals simp only [rX, oA, Tryz.f47, dL.o, reduceIte, Nat.reduceEqDiff]
   obtain ⟨l6, l7, l9, l11, l12⟩ := lL
   simp +decide only [↓jb9, ↓uG.o, dG.o, ja1, reduceIte, ↓ja0 l6, ↓ja0 l7, ↓ja0 l9, ↓ja0 l11, ↓ja0 l12, e5, e7, h46, h33, h61, ↓jg0 59 _ _ 65 #[] #[.pointer (some ⟨H.next + 1, 0, none⟩), .pointer (some ⟨H.next + 2, 0, none⟩), .pointer (some ⟨H.next, 0, none⟩)], app33, ja3 Tryz.func65 rfl rfl hcall]
   refine ⟨_, h2, ?_⟩
   rw [← hF, jb0 (l := [.bool ((14 : Int) != 0)]) (by simp +decide [Tryz.f47, resE, ja1])]
   rfl
 obtain ⟨R0, m1, H', m2, m3⟩ := main
 exact ⟨H', m2, m1.trans m3⟩
theorem y1g (x : Ctx H a c s b) (hb : H.get b = some (cur a s.length c i)) (ht : H.get t = some (tok 0 nn .empty f0 t0)) (hbt : t ≠ b) (htl : t < H.next) (htg : GE.next ≤ t) (hrt : ∀ q, a = some q → q.block ≠ t) (hi : i < s.length) (hh : NH hk) (hsl : s.length < 9223372036854775000) (h46 : ((s[i].toNat : Int) == 46) = false) (h33 : ((s[i].toNat : Int) == 33) = false) (h61 : ((s[i].toNat : Int) == 61) = true) (hn : ((if i + 1 < s.length then ((s.getD (i + 1) 0).toNat : Int) else 0) == 61) = false) :
   ∃ H', Lexd H H' b (cur a s.length c (i + 1)) t (tok 13 nn .empty f0 t0) ∧ CG N hk (d + 2) 47 #[.pointer (some ⟨b, 0, none⟩), .pointer (some ⟨t, 0, none⟩)] H = some (.ret (.bool true), H') := by
 have main : ∃ R0 : R, CG N hk (d + 2) 47 #[.pointer (some ⟨b, 0, none⟩), .pointer (some ⟨t, 0, none⟩)] H = R0 ∧ ∃ H', Lexd H H' b (cur a s.length c (i + 1)) t (tok 13 nn .empty f0 t0) ∧ R0 = some (.ret (.bool true), H') := by
   refine ⟨_, jb6 (hh _ _ _ rfl) Tryz.func47 (c := codeOf Tryz.f47) rfl rfl rfl (pr := pr1) rfl, ?_⟩
   rw [code47]
   generalize hF : finE PP Tryz.f47 = F
   refine jf2 (Q := fun r => ∃ H', Lexd H H' b (cur a s.length c (i + 1)) t (tok 13 nn .empty f0 t0) ∧ r = some (.ret (.bool true), H')) x hb ht hbt htl htg hrt hi hh fun E H' e5 e7 e3 e6 hL hnx own hv => ?_
   have hbl := x.lt
   have hsm := x.row.small
   obtain ⟨H2, h2, hcall⟩ := jt9 (N := N) (hk := hk) (d := d) hL hbt (by omega) (by omega) own.c0 own.c1 _ hv (by omega) (by omega) 61 14 13 hn hh
   have lL := lX5 Tryz.f47 6 7 9 11 12
   conv at lL in (occs := *) (rq _ _) => all_goals simp only [rX, oA, Tryz.f47, dL.o, reduceIte, Nat.reduceEqDiff]
   obtain ⟨l6, l7, l9, l11, l12⟩ := lL
   simp +decide only [↓jb9, ↓uG.o, dG.o, ja1, reduceIte, ↓ja0 l6, ↓ja0 l7, ↓ja0 l9, ↓ja0 l11, ↓ja0 l12, e5, e7, h46, h33, h61, ↓jg0 59 _ _ 65 #[] #[.pointer (some ⟨H.next + 1, 0, none⟩), .pointer (some ⟨H.next + 2, 0, none⟩), .pointer (some ⟨H.next, 0, none⟩)], app33, ja3 Tryz.func65 rfl rfl hcall]
   refine ⟨_, h2, ?_⟩
   rw [← hF, jb0 (l := [.bool ((13 : Int) != 0)]) (by simp +decide [Tryz.f47, resE, ja1])]
   rfl
 obtain ⟨R0, m1, H', m2, m3⟩ := main
 exact ⟨H', m2, m1.trans m3⟩
theorem y1h (x : Ctx H a c s b) (hb : H.get b = some (cur a s.length c i)) (ht : H.get t = some (tok 0 nn .empty f0 t0)) (hbt : t ≠ b) (htl : t < H.next) (htg : GE.next ≤ t) (hrt : ∀ q, a = some q → q.block ≠ t) (hi : i < s.length) (hh : NH hk) (hsl : s.length < 9223372036854775000) (h46 : ((s[i].toNat : Int) == 46) = false) (h33 : ((s[i].toNat : Int) == 33) = false) (h61 : ((s[i].toNat : Int) == 61) = false) (h60 : ((s[i].toNat : Int) == 60) = true) (hq : ((if i + 1 < s.length then ((s.getD (i + 1) 0).toNat : Int) else 0) == 60) = true) :
   ∃ H', Lexd H H' b (cur a s.length c (i + 1 + 1)) t (tok 23 nn .empty f0 t0) ∧ CG N hk (d + 2) 47 #[.pointer (some ⟨b, 0, none⟩), .pointer (some ⟨t, 0, none⟩)] H = some (.ret (.bool true), H') := by
 have main : ∃ R0 : R, CG N hk (d + 2) 47 #[.pointer (some ⟨b, 0, none⟩), .pointer (some ⟨t, 0, none⟩)] H = R0 ∧ ∃ H', Lexd H H' b (cur a s.length c (i + 1 + 1)) t (tok 23 nn .empty f0 t0) ∧ R0 = some (.ret (.bool true), H') := by
   refine ⟨_, jb6 (hh _ _ _ rfl) Tryz.func47 (c := codeOf Tryz.f47) rfl rfl rfl (pr := pr1) rfl, ?_⟩
   rw [code47]
   generalize hF : finE PP Tryz.f47 = F
   refine jf2 (Q := fun r => ∃ H', Lexd H H' b (cur a s.length c (i + 1 + 1)) t (tok 23 nn .empty f0 t0) ∧ r = some (.ret (.bool true), H')) x hb ht hbt htl htg hrt hi hh fun E H' e5 e7 e3 e6 hL hnx own hv => ?_
   have hbl := x.lt
   have hsm := x.row.small
   obtain ⟨H2, h2, hcall⟩ := jj8 (N := N) (hk := hk) (d := d) hL hbt (by omega) (by omega) own.c0 own.c1 _ hv (by omega) (by omega) 60 23 0 hq (by omega) (by omega) (by omega) hh
   have lL := lX7 Tryz.f47 6 7 9 11 13 14 15
   conv at lL in (occs := *) (rq _ _) => all_goals simp only [rX, oA, Tryz.f47, dL.o, reduceIte, Nat.reduceEqDiff]
   obtain ⟨l6, l7, l9, l11, l13, l14, l15⟩ := lL
   simp +decide only [↓jb9, ↓uG.o, dG.o, ja1, reduceIte, ↓ja0 l6, ↓ja0 l7, ↓ja0 l9, ↓ja0 l11, ↓ja0 l13, ↓ja0 l14, ↓ja0 l15, e5, e6, e7, h46, h33, h61, h60, hq, jo4 hv, ↓jg0 65 _ _ 65 #[] #[.pointer (some ⟨H.next + 1, 0, none⟩), .pointer (some ⟨H.next + 2, 0, none⟩), .pointer (some ⟨H.next, 0, none⟩)], app33, ja3 Tryz.func65 rfl rfl hcall]
   refine ⟨_, h2, ?_⟩
   rw [← hF, jb0 (l := [.bool ((23 : Int) != 0)]) (by simp +decide [Tryz.f47, resE, ja1])]
   rfl
 obtain ⟨R0, m1, H', m2, m3⟩ := main
 exact ⟨H', m2, m1.trans m3⟩
theorem y1i (x : Ctx H a c s b) (hb : H.get b = some (cur a s.length c i)) (ht : H.get t = some (tok 0 nn .empty f0 t0)) (hbt : t ≠ b) (htl : t < H.next) (htg : GE.next ≤ t) (hrt : ∀ q, a = some q → q.block ≠ t) (hi : i < s.length) (hh : NH hk) (hsl : s.length < 9223372036854775000) (h46 : ((s[i].toNat : Int) == 46) = false) (h33 : ((s[i].toNat : Int) == 33) = false) (h61 : ((s[i].toNat : Int) == 61) = false) (h60 : ((s[i].toNat : Int) == 60) = true) (hq : ((if i + 1 < s.length then ((s.getD (i + 1) 0).toNat : Int) else 0) == 60) = false) (hn : ((if i + 1 < s.length then ((s.getD (i + 1) 0).toNat : Int) else 0) == 61) = true) :
   ∃ H', Lexd H H' b (cur a s.length c (i + 1 + 1)) t (tok 17 nn .empty f0 t0) ∧ CG N hk (d + 2) 47 #[.pointer (some ⟨b, 0, none⟩), .pointer (some ⟨t, 0, none⟩)] H = some (.ret (.bool true), H') := by
 have main : ∃ R0 : R, CG N hk (d + 2) 47 #[.pointer (some ⟨b, 0, none⟩), .pointer (some ⟨t, 0, none⟩)] H = R0 ∧ ∃ H', Lexd H H' b (cur a s.length c (i + 1 + 1)) t (tok 17 nn .empty f0 t0) ∧ R0 = some (.ret (.bool true), H') := by
   refine ⟨_, jb6 (hh _ _ _ rfl) Tryz.func47 (c := codeOf Tryz.f47) rfl rfl rfl (pr := pr1) rfl, ?_⟩
   rw [code47]
   generalize hF : finE PP Tryz.f47 = F
   refine jf2 (Q := fun r => ∃ H', Lexd H H' b (cur a s.length c (i + 1 + 1)) t (tok 17 nn .empty f0 t0) ∧ r = some (.ret (.bool true), H')) x hb ht hbt htl htg hrt hi hh fun E H' e5 e7 e3 e6 hL hnx own hv => ?_
   have hbl := x.lt
   have hsm := x.row.small
   obtain ⟨H2, h2, hcall⟩ := jj8 (N := N) (hk := hk) (d := d) hL hbt (by omega) (by omega) own.c0 own.c1 _ hv (by omega) (by omega) 61 17 16 hn (by omega) (by omega) (by omega) hh
   have lL := lX7 Tryz.f47 6 7 9 11 13 14 16
   conv at lL in (occs := *) (rq _ _) => all_goals simp only [rX, oA, Tryz.f47, dL.o, reduceIte, Nat.reduceEqDiff]
   obtain ⟨l6, l7, l9, l11, l13, l14, l16⟩ := lL
   simp +decide only [↓jb9, ↓uG.o, dG.o, ja1, reduceIte, ↓ja0 l6, ↓ja0 l7, ↓ja0 l9, ↓ja0 l11, ↓ja0 l13, ↓ja0 l14, ↓ja0 l16, e5, e6, e7, h46, h33, h61, h60, hq, jo4 hv, ↓jg0 67 _ _ 65 #[] #[.pointer (some ⟨H.next + 1, 0, none⟩), .pointer (some ⟨H.next + 2, 0, none⟩), .pointer (some ⟨H.next, 0, none⟩)], app33, ja3 Tryz.func65 rfl rfl hcall]
   refine ⟨_, h2, ?_⟩
   rw [← hF, jb0 (l := [.bool ((17 : Int) != 0)]) (by simp +decide [Tryz.f47, resE, ja1])]
   rfl
 obtain ⟨R0, m1, H', m2, m3⟩ := main
 exact ⟨H', m2, m1.trans m3⟩
theorem y1j (x : Ctx H a c s b) (hb : H.get b = some (cur a s.length c i)) (ht : H.get t = some (tok 0 nn .empty f0 t0)) (hbt : t ≠ b) (htl : t < H.next) (htg : GE.next ≤ t) (hrt : ∀ q, a = some q → q.block ≠ t) (hi : i < s.length) (hh : NH hk) (hsl : s.length < 9223372036854775000) (h46 : ((s[i].toNat : Int) == 46) = false) (h33 : ((s[i].toNat : Int) == 33) = false) (h61 : ((s[i].toNat : Int) == 61) = false) (h60 : ((s[i].toNat : Int) == 60) = true) (hq : ((if i + 1 < s.length then ((s.getD (i + 1) 0).toNat : Int) else 0) == 60) = false) (hn : ((if i + 1 < s.length then ((s.getD (i + 1) 0).toNat : Int) else 0) == 61) = false) :
   ∃ H', Lexd H H' b (cur a s.length c (i + 1)) t (tok 16 nn .empty f0 t0) ∧ CG N hk (d + 2) 47 #[.pointer (some ⟨b, 0, none⟩), .pointer (some ⟨t, 0, none⟩)] H = some (.ret (.bool true), H') := by
 have main : ∃ R0 : R, CG N hk (d + 2) 47 #[.pointer (some ⟨b, 0, none⟩), .pointer (some ⟨t, 0, none⟩)] H = R0 ∧ ∃ H', Lexd H H' b (cur a s.length c (i + 1)) t (tok 16 nn .empty f0 t0) ∧ R0 = some (.ret (.bool true), H') := by
   refine ⟨_, jb6 (hh _ _ _ rfl) Tryz.func47 (c := codeOf Tryz.f47) rfl rfl rfl (pr := pr1) rfl, ?_⟩
   rw [code47]
   generalize hF : finE PP Tryz.f47 = F
   refine jf2 (Q := fun r => ∃ H', Lexd H H' b (cur a s.length c (i + 1)) t (tok 16 nn .empty f0 t0) ∧ r = some (.ret (.bool true), H')) x hb ht hbt htl htg hrt hi hh fun E H' e5 e7 e3 e6 hL hnx own hv => ?_
   have hbl := x.lt
   have hsm := x.row.small
   obtain ⟨H2, h2, hcall⟩ := jt9 (N := N) (hk := hk) (d := d) hL hbt (by omega) (by omega) own.c0 own.c1 _ hv (by omega) (by omega) 61 17 16 hn hh
   have lL := lX7 Tryz.f47 6 7 9 11 13 14 16
   conv at lL in (occs := *) (rq _ _) => all_goals simp only [rX, oA, Tryz.f47, dL.o, reduceIte, Nat.reduceEqDiff]
   obtain ⟨l6, l7, l9, l11, l13, l14, l16⟩ := lL
   simp +decide only [↓jb9, ↓uG.o, dG.o, ja1, reduceIte, ↓ja0 l6, ↓ja0 l7, ↓ja0 l9, ↓ja0 l11, ↓ja0 l13, ↓ja0 l14, ↓ja0 l16, e5, e6, e7, h46, h33, h61, h60, hq, jo4 hv, ↓jg0 67 _ _ 65 #[] #[.pointer (some ⟨H.next + 1, 0, none⟩), .pointer (some ⟨H.next + 2, 0, none⟩), .pointer (some ⟨H.next, 0, none⟩)], app33, ja3 Tryz.func65 rfl rfl hcall]
   refine ⟨_, h2, ?_⟩
   rw [← hF, jb0 (l := [.bool ((16 : Int) != 0)]) (by simp +decide [Tryz.f47, resE, ja1])]
   rfl
 obtain ⟨R0, m1, H', m2, m3⟩ := main
 exact ⟨H', m2, m1.trans m3⟩
theorem y1k (x : Ctx H a c s b) (hb : H.get b = some (cur a s.length c i)) (ht : H.get t = some (tok 0 nn .empty f0 t0)) (hbt : t ≠ b) (htl : t < H.next) (htg : GE.next ≤ t) (hrt : ∀ q, a = some q → q.block ≠ t) (hi : i < s.length) (hh : NH hk) (hsl : s.length < 9223372036854775000) (h46 : ((s[i].toNat : Int) == 46) = false) (h33 : ((s[i].toNat : Int) == 33) = false) (h61 : ((s[i].toNat : Int) == 61) = false) (h60 : ((s[i].toNat : Int) == 60) = false) (h62 : ((s[i].toNat : Int) == 62) = true) (hq : ((if i + 1 < s.length then ((s.getD (i + 1) 0).toNat : Int) else 0) == 62) = true) :
   ∃ H', Lexd H H' b (cur a s.length c (i + 1 + 1)) t (tok 24 nn .empty f0 t0) ∧ CG N hk (d + 2) 47 #[.pointer (some ⟨b, 0, none⟩), .pointer (some ⟨t, 0, none⟩)] H = some (.ret (.bool true), H') := by
 have main : ∃ R0 : R, CG N hk (d + 2) 47 #[.pointer (some ⟨b, 0, none⟩), .pointer (some ⟨t, 0, none⟩)] H = R0 ∧ ∃ H', Lexd H H' b (cur a s.length c (i + 1 + 1)) t (tok 24 nn .empty f0 t0) ∧ R0 = some (.ret (.bool true), H') := by
   refine ⟨_, jb6 (hh _ _ _ rfl) Tryz.func47 (c := codeOf Tryz.f47) rfl rfl rfl (pr := pr1) rfl, ?_⟩
   rw [code47]
   generalize hF : finE PP Tryz.f47 = F
   refine jf2 (Q := fun r => ∃ H', Lexd H H' b (cur a s.length c (i + 1 + 1)) t (tok 24 nn .empty f0 t0) ∧ r = some (.ret (.bool true), H')) x hb ht hbt htl htg hrt hi hh fun E H' e5 e7 e3 e6 hL hnx own hv => ?_
   have hbl := x.lt
   have hsm := x.row.small
   obtain ⟨H2, h2, hcall⟩ := jj8 (N := N) (hk := hk) (d := d) hL hbt (by omega) (by omega) own.c0 own.c1 _ hv (by omega) (by omega) 62 24 0 hq (by omega) (by omega) (by omega) hh
   have lL := lX8 Tryz.f47 6 7 9 11 13 17 18 19
   conv at lL in (occs := *) (rq _ _) => all_goals simp only [rX, oA, Tryz.f47, dL.o, reduceIte, Nat.reduceEqDiff]
   obtain ⟨l6, l7, l9, l11, l13, l17, l18, l19⟩ := lL
   simp +decide only [↓jb9, ↓uG.o, dG.o, ja1, reduceIte, ↓ja0 l6, ↓ja0 l7, ↓ja0 l9, ↓ja0 l11, ↓ja0 l13, ↓ja0 l17, ↓ja0 l18, ↓ja0 l19, e5, e6, e7, h46, h33, h61, h60, h62, hq, jo4 hv, ↓jg0 73 _ _ 65 #[] #[.pointer (some ⟨H.next + 1, 0, none⟩), .pointer (some ⟨H.next + 2, 0, none⟩), .pointer (some ⟨H.next, 0, none⟩)], app33, ja3 Tryz.func65 rfl rfl hcall]
   refine ⟨_, h2, ?_⟩
   rw [← hF, jb0 (l := [.bool ((24 : Int) != 0)]) (by simp +decide [Tryz.f47, resE, ja1])]
   rfl
 obtain ⟨R0, m1, H', m2, m3⟩ := main
 exact ⟨H', m2, m1.trans m3⟩
theorem y1l (x : Ctx H a c s b) (hb : H.get b = some (cur a s.length c i)) (ht : H.get t = some (tok 0 nn .empty f0 t0)) (hbt : t ≠ b) (htl : t < H.next) (htg : GE.next ≤ t) (hrt : ∀ q, a = some q → q.block ≠ t) (hi : i < s.length) (hh : NH hk) (hsl : s.length < 9223372036854775000) (h46 : ((s[i].toNat : Int) == 46) = false) (h33 : ((s[i].toNat : Int) == 33) = false) (h61 : ((s[i].toNat : Int) == 61) = false) (h60 : ((s[i].toNat : Int) == 60) = false) (h62 : ((s[i].toNat : Int) == 62) = true) (hq : ((if i + 1 < s.length then ((s.getD (i + 1) 0).toNat : Int) else 0) == 62) = false) (hn : ((if i + 1 < s.length then ((s.getD (i + 1) 0).toNat : Int) else 0) == 61) = true) :
   ∃ H', Lexd H H' b (cur a s.length c (i + 1 + 1)) t (tok 19 nn .empty f0 t0) ∧ CG N hk (d + 2) 47 #[.pointer (some ⟨b, 0, none⟩), .pointer (some ⟨t, 0, none⟩)] H = some (.ret (.bool true), H') := by
 have main : ∃ R0 : R, CG N hk (d + 2) 47 #[.pointer (some ⟨b, 0, none⟩), .pointer (some ⟨t, 0, none⟩)] H = R0 ∧ ∃ H', Lexd H H' b (cur a s.length c (i + 1 + 1)) t (tok 19 nn .empty f0 t0) ∧ R0 = some (.ret (.bool true), H') := by
   refine ⟨_, jb6 (hh _ _ _ rfl) Tryz.func47 (c := codeOf Tryz.f47) rfl rfl rfl (pr := pr1) rfl, ?_⟩
   rw [code47]
   generalize hF : finE PP Tryz.f47 = F
   refine jf2 (Q := fun r => ∃ H', Lexd H H' b (cur a s.length c (i + 1 + 1)) t (tok 19 nn .empty f0 t0) ∧ r = some (.ret (.bool true), H')) x hb ht hbt htl htg hrt hi hh fun E H' e5 e7 e3 e6 hL hnx own hv => ?_
   have hbl := x.lt
   have hsm := x.row.small
   obtain ⟨H2, h2, hcall⟩ := jj8 (N := N) (hk := hk) (d := d) hL hbt (by omega) (by omega) own.c0 own.c1 _ hv (by omega) (by omega) 61 19 18 hn (by omega) (by omega) (by omega) hh
   have lL := lX8 Tryz.f47 6 7 9 11 13 17 18 20
   conv at lL in (occs := *) (rq _ _) => all_goals simp only [rX, oA, Tryz.f47, dL.o, reduceIte, Nat.reduceEqDiff]
   obtain ⟨l6, l7, l9, l11, l13, l17, l18, l20⟩ := lL
   simp +decide only [↓jb9, ↓uG.o, dG.o, ja1, reduceIte, ↓ja0 l6, ↓ja0 l7, ↓ja0 l9, ↓ja0 l11, ↓ja0 l13, ↓ja0 l17, ↓ja0 l18, ↓ja0 l20, e5, e6, e7, h46, h33, h61, h60, h62, hq, jo4 hv, ↓jg0 75 _ _ 65 #[] #[.pointer (some ⟨H.next + 1, 0, none⟩), .pointer (some ⟨H.next + 2, 0, none⟩), .pointer (some ⟨H.next, 0, none⟩)], app33, ja3 Tryz.func65 rfl rfl hcall]
   refine ⟨_, h2, ?_⟩
   rw [← hF, jb0 (l := [.bool ((19 : Int) != 0)]) (by simp +decide [Tryz.f47, resE, ja1])]
   rfl
 obtain ⟨R0, m1, H', m2, m3⟩ := main
 exact ⟨H', m2, m1.trans m3⟩
theorem y1m (x : Ctx H a c s b) (hb : H.get b = some (cur a s.length c i)) (ht : H.get t = some (tok 0 nn .empty f0 t0)) (hbt : t ≠ b) (htl : t < H.next) (htg : GE.next ≤ t) (hrt : ∀ q, a = some q → q.block ≠ t) (hi : i < s.length) (hh : NH hk) (hsl : s.length < 9223372036854775000) (h46 : ((s[i].toNat : Int) == 46) = false) (h33 : ((s[i].toNat : Int) == 33) = false) (h61 : ((s[i].toNat : Int) == 61) = false) (h60 : ((s[i].toNat : Int) == 60) = false) (h62 : ((s[i].toNat : Int) == 62) = true) (hq : ((if i + 1 < s.length then ((s.getD (i + 1) 0).toNat : Int) else 0) == 62) = false) (hn : ((if i + 1 < s.length then ((s.getD (i + 1) 0).toNat : Int) else 0) == 61) = false) :
   ∃ H', Lexd H H' b (cur a s.length c (i + 1)) t (tok 18 nn .empty f0 t0) ∧ CG N hk (d + 2) 47 #[.pointer (some ⟨b, 0, none⟩), .pointer (some ⟨t, 0, none⟩)] H = some (.ret (.bool true), H') := by
 have main : ∃ R0 : R, CG N hk (d + 2) 47 #[.pointer (some ⟨b, 0, none⟩), .pointer (some ⟨t, 0, none⟩)] H = R0 ∧ ∃ H', Lexd H H' b (cur a s.length c (i + 1)) t (tok 18 nn .empty f0 t0) ∧ R0 = some (.ret (.bool true), H') := by
   refine ⟨_, jb6 (hh _ _ _ rfl) Tryz.func47 (c := codeOf Tryz.f47) rfl rfl rfl (pr := pr1) rfl, ?_⟩
   rw [code47]
   generalize hF : finE PP Tryz.f47 = F
   refine jf2 (Q := fun r => ∃ H', Lexd H H' b (cur a s.length c (i + 1)) t (tok 18 nn .empty f0 t0) ∧ r = some (.ret (.bool true), H')) x hb ht hbt htl htg hrt hi hh fun E H' e5 e7 e3 e6 hL hnx own hv => ?_
   have hbl := x.lt
   have hsm := x.row.small
   obtain ⟨H2, h2, hcall⟩ := jt9 (N := N) (hk := hk) (d := d) hL hbt (by omega) (by omega) own.c0 own.c1 _ hv (by omega) (by omega) 61 19 18 hn hh
   have lL := lX8 Tryz.f47 6 7 9 11 13 17 18 20
   conv at lL in (occs := *) (rq _ _) => all_goals simp only [rX, oA, Tryz.f47, dL.o, reduceIte, Nat.reduceEqDiff]
   obtain ⟨l6, l7, l9, l11, l13, l17, l18, l20⟩ := lL
   simp +decide only [↓jb9, ↓uG.o, dG.o, ja1, reduceIte, ↓ja0 l6, ↓ja0 l7, ↓ja0 l9, ↓ja0 l11, ↓ja0 l13, ↓ja0 l17, ↓ja0 l18, ↓ja0 l20, e5, e6, e7, h46, h33, h61, h60, h62, hq, jo4 hv, ↓jg0 75 _ _ 65 #[] #[.pointer (some ⟨H.next + 1, 0, none⟩), .pointer (some ⟨H.next + 2, 0, none⟩), .pointer (some ⟨H.next, 0, none⟩)], app33, ja3 Tryz.func65 rfl rfl hcall]
   refine ⟨_, h2, ?_⟩
   rw [← hF, jb0 (l := [.bool ((18 : Int) != 0)]) (by simp +decide [Tryz.f47, resE, ja1])]
   rfl
 obtain ⟨R0, m1, H', m2, m3⟩ := main
 exact ⟨H', m2, m1.trans m3⟩
end
def signR (u v : Int) : Int × Nat :=
 if u = 46 then (if v = 46 then (12, 2) else (0, 1))
 else if u = 33 then (if v = 61 then (15, 2) else (0, 1))
 else if u = 61 then (if v = 61 then (14, 2) else (13, 1))
 else if u = 60 then (if v = 60 then (23, 2) else if v = 61 then (17, 2) else (16, 1))
 else if u = 62 then (if v = 62 then (24, 2) else if v = 61 then (19, 2) else (18, 1))
 else (singleT u.toNat, 1)
def nextB (s : List UInt8) (i : Nat) : Int := if i + 1 < s.length then ((s.getD (i + 1) 0).toNat : Int) else 0
theorem j89 (u : Nat) : singleT u ≠ 0 := by unfold singleT; split <;> decide
theorem yc4 {N : Nat} {hk : Hook} {d : Nat} {H : Heap} {a : Option Addr} {c : Nat} {s : List UInt8} {b t i : Nat} {nn f0 t0 : Int} (x : Ctx H a c s b) (hb : H.get b = some (cur a s.length c i)) (ht : H.get t = some (tok 0 nn .empty f0 t0)) (hbt : t ≠ b) (htl : t < H.next) (htg : GE.next ≤ t) (hrt : ∀ q, a = some q → q.block ≠ t) (hi : i < s.length) (hh : NH hk) (hsl : s.length < 9223372036854775000)
   (hs : ∀ (u : UInt8) H, Ext GE H → hk 66 #[.int .u8 (u.toNat : Int)] H = some (some (.ret (.int .i64 (singleT u.toNat)), H))) :
   ∃ H', Lexd H H' b (cur a s.length c (i + (signR (s[i].toNat : Int) (nextB s i)).2)) t (tok (signR (s[i].toNat : Int) (nextB s i)).1 nn .empty f0 t0) ∧ CG N hk (d + 2) 47 #[.pointer (some ⟨b, 0, none⟩), .pointer (some ⟨t, 0, none⟩)] H = some (.ret (.bool ((signR (s[i].toNat : Int) (nextB s i)).1 != 0)), H') := by
 have bt : ∀ (x y : Int), x = y → (x == y) = true := fun x y h => by simp [h]
 have bf : ∀ (x y : Int), ¬ x = y → (x == y) = false := fun x y h => by simp [h]
 unfold signR
 by_cases h46 : (s[i].toNat : Int) = 46
 · rw [if_pos h46]
   by_cases hn : nextB s i = 46
   · rw [if_pos hn]; exact y1c x hb ht hbt htl htg hrt hi hh hsl (bt _ _ h46) (bt _ _ hn)
   · rw [if_neg hn]; exact y1d x hb ht hbt htl htg hrt hi hh hsl (bt _ _ h46) (bf _ _ hn)
 rw [if_neg h46]
 by_cases h33 : (s[i].toNat : Int) = 33
 · rw [if_pos h33]
   by_cases hn : nextB s i = 61
   · rw [if_pos hn]; exact y1e x hb ht hbt htl htg hrt hi hh hsl (bf _ _ h46) (bt _ _ h33) (bt _ _ hn)
   · rw [if_neg hn]; exact yc3 x hb ht hbt htl htg hrt hi hh (bf _ _ h46) (bt _ _ h33) (bf _ _ hn)
 rw [if_neg h33]
 by_cases h61 : (s[i].toNat : Int) = 61
 · rw [if_pos h61]
   by_cases hn : nextB s i = 61
   · rw [if_pos hn]; exact y1f x hb ht hbt htl htg hrt hi hh hsl (bf _ _ h46) (bf _ _ h33) (bt _ _ h61) (bt _ _ hn)
   · rw [if_neg hn]; exact y1g x hb ht hbt htl htg hrt hi hh hsl (bf _ _ h46) (bf _ _ h33) (bt _ _ h61) (bf _ _ hn)
 rw [if_neg h61]
 by_cases h60 : (s[i].toNat : Int) = 60
 · rw [if_pos h60]
   by_cases hn : nextB s i = 60
   · rw [if_pos hn]; exact y1h x hb ht hbt htl htg hrt hi hh hsl (bf _ _ h46) (bf _ _ h33) (bf _ _ h61) (bt _ _ h60) (bt _ _ hn)
   · rw [if_neg hn]
     by_cases hn2 : nextB s i = 61
     · rw [if_pos hn2]; exact y1i x hb ht hbt htl htg hrt hi hh hsl (bf _ _ h46) (bf _ _ h33) (bf _ _ h61) (bt _ _ h60) (bf _ _ hn) (bt _ _ hn2)
     · rw [if_neg hn2]; exact y1j x hb ht hbt htl htg hrt hi hh hsl (bf _ _ h46) (bf _ _ h33) (bf _ _ h61) (bt _ _ h60) (bf _ _ hn) (bf _ _ hn2)
 rw [if_neg h60]
 by_cases h62 : (s[i].toNat : Int) = 62
 · rw [if_pos h62]
   by_cases hn : nextB s i = 62
   · rw [if_pos hn]; exact y1k x hb ht hbt htl htg hrt hi hh hsl (bf _ _ h46) (bf _ _ h33) (bf _ _ h61) (bf _ _ h60) (bt _ _ h62) (bt _ _ hn)
   · rw [if_neg hn]
     by_cases hn2 : nextB s i = 61
     · rw [if_pos hn2]; exact y1l x hb ht hbt htl htg hrt hi hh hsl (bf _ _ h46) (bf _ _ h33) (bf _ _ h61) (bf _ _ h60) (bt _ _ h62) (bf _ _ hn) (bt _ _ hn2)
     · rw [if_neg hn2]; exact y1m x hb ht hbt htl htg hrt hi hh hsl (bf _ _ h46) (bf _ _ h33) (bf _ _ h61) (bf _ _ h60) (bt _ _ h62) (bf _ _ hn) (bf _ _ hn2)
 rw [if_neg h62]
 have hz : (singleT (s[i].toNat : Int).toNat != 0) = true := by simp [j89]
 rw [hz]
 have hu : ((s[i].toNat : Int)).toNat = s[i].toNat := by omega
 rw [hu]
 exact j87 x hb ht hbt htl htg hrt hi hh (bf _ _ h46) (bf _ _ h33) (bf _ _ h61) (bf _ _ h60) (bf _ _ h62) (hs s[i])
end Go.Am
