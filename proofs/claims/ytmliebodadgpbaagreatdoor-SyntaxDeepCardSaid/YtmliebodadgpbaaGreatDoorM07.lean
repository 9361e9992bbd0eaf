/- A word. -/
import Derived.Test.YtmliebodadgpbaaGreatDoorM06
import Derived.Test.YtmliebodadgpbaaGreatDoorM01
open Go.Proofs
namespace Go.Am
set_option maxRecDepth 100000
variable {H H0 : Heap} {x : Addr} {s : List UInt8} {b t c i N j d : Nat} {k n f e : Int} {w : ByteArray} {a : Option Addr} {Q : R → Prop} {hk : Hook}
theorem Brow.mid (h : Brow H (some x) s) {i j : Nat} (hij : i ≤ j) (hj : j ≤ s.length) : Brow H (some (x.add i)) ((s.drop i).take (j - i)) := by
 have hl : ((s.drop i).take (j - i)).length = j - i := by simp; omega
 refine ⟨fun y hy => ?_, (fun e => by cases e), by have := h.small; omega⟩
 obtain rfl := Option.some.inj hy
 obtain ⟨z, h1, h2, h3, h4⟩ := h.row x rfl
 obtain ⟨k1, k2⟩ := j9p h1 i
 refine ⟨z, k1, h2, by rw [k2, hl]; omega, ?_⟩
 rw [k2, hl, List.map_take, List.map_drop, ← h4, List.drop_take, List.drop_drop, List.take_take]
 congr 1
 omega
theorem ym1 (h : Brow H (some x) s) {i j c : Nat} (hij : i ≤ j) (hj : j ≤ s.length) (hc : s.length ≤ c) :
   ∃ q, sliceOpA PP 34 (.slice (some x) s.length c) (some (.int .i64 (i : Int))) (some (.int .i64 (j : Int))) none H = some (.slice (some (x.add i)) (j - i) q) := by
 obtain ⟨z, h1, h2, h3, _⟩ := h.row x rfl
 refine ⟨c - i, ?_⟩
 simp only [sliceOpA, und34, size5, sliceA]
 have hi : (0 : Int) ≤ (i : Int) ∧ (i : Int) ≤ (j : Int) ∧ (j : Int) ≤ (c : Int) := by omega
 rw [if_pos hi]
 simp only [h1, h2]
 have e1 : ((j : Int) - (i : Int)).toNat = j - i := by omega
 have e2 : ((c : Int) - (i : Int)).toNat = c - i := by omega
 simp [e1]
theorem undStr : PP.underlying 9 = some .string := Tryz.underlying9
theorem undU8 : PP.underlying 5 = some (.int .u8) := Tryz.underlying5
theorem y0k {q : Nat} (h : Brow H (some x) s) : convertA PP 34 9 (.slice (some x) s.length q) H = some (.string ⟨s.toArray⟩, H) := by
 simp only [convertA, und34, undStr, undU8, h.bts.str]
def tok (kind n : Int) (w : ByteArray) (from_ to_ : Int) : Blk := ⟨[.int .i64 kind, .int .u64 n, .string w, .int .i64 from_, .int .i64 to_], true, 1, none⟩
theorem tf0 (b : Nat) : fieldAddrA PP 49 (.pointer (some ⟨b, 0, none⟩)) 0 = some (.pointer (some ⟨b, 0, none⟩)) := by kernel_rfl
theorem tf2 (b : Nat) : fieldAddrA PP 49 (.pointer (some ⟨b, 0, none⟩)) 2 = some (.pointer (some ⟨b, 2, none⟩)) := by kernel_rfl
theorem tf4 (b : Nat) : fieldAddrA PP 49 (.pointer (some ⟨b, 0, none⟩)) 4 = some (.pointer (some ⟨b, 4, none⟩)) := by kernel_rfl
theorem sizeStr : sizeT PP 9 = some 1 := by decide +kernel
theorem jv9 (h : H.get b = some (tok k n w f e)) : loadA PP 3 (.pointer (some ⟨b, 0, none⟩)) H = some (.int .i64 k, H) := by
 simp only [loadA, agg3]
 simp [ld1, look, h, tok]
theorem jh1 (h : H.get b = some (tok k n w f e)) (k' : Int) : storeA PP 3 (.pointer (some ⟨b, 0, none⟩)) (.int .i64 k') H = some (undef, H.set b (tok k' n w f e)) := by
 simp only [storeA, size3, stV]
 simp [Value.cells, st, look, h, tok, over, Value.oneCell']
theorem yf4 (h : H.get b = some (tok k n w f e)) (w' : ByteArray) : storeA PP 9 (.pointer (some ⟨b, 2, none⟩)) (.string w') H = some (undef, H.set b (tok k n w' f e)) := by
 simp only [storeA, sizeStr, stV]
 simp [Value.cells, st, look, h, tok, over, Value.oneCell']
theorem ym2 (h : H.get b = some (tok k n w f e)) (e' : Int) : storeA PP 3 (.pointer (some ⟨b, 4, none⟩)) (.int .i64 e') H = some (undef, H.set b (tok k n w f e')) := by
 simp only [storeA, size3, stV]
 simp [Value.cells, st, look, h, tok, over, Value.oneCell']
structure Two (H0 H : Heap) (b : Nat) (x : Blk) (t : Nat) (y : Blk) : Prop where
 next : H.next = H0.next
 one : H.get b = some x
 two : H.get t = some y
 there : ∀ z, z ≠ b → z ≠ t → H.get z = H0.get z
theorem Curs.two {n : Nat} (h : Curs H0 H b a n c i) (hbt : t ≠ b) {y : Blk} (hy : H0.get t = some y) : Two H0 H b (cur a n c i) t y :=
 ⟨h.next, h.here, (h.there t hbt).trans hy, fun z h1 _ => h.there z h1⟩
theorem Two.set {x y : Blk} (h : Two H0 H b x t y) (hbt : t ≠ b) (y' : Blk) : Two H0 (H.set t y') b x t y' :=
 ⟨h.next, by rw [Heap.get_set, if_neg (Ne.symm hbt)]; exact h.one, by rw [Heap.get_set, if_pos rfl], fun z h1 h2 => by rw [Heap.get_set, if_neg h2]; exact h.there z h1 h2⟩
theorem Two.set1 {x y : Blk} (h : Two H0 H b x t y) (hbt : t ≠ b) (x' : Blk) : Two H0 (H.set b x') b x' t y :=
 ⟨h.next, by rw [Heap.get_set, if_pos rfl], by rw [Heap.get_set, if_neg hbt]; exact h.two, fun z h1 h2 => by rw [Heap.get_set, if_neg h1]; exact h.there z h1 h2⟩
def isW (s : List UInt8) (i : Nat) : Bool := isI s i 4 || isI s i 3
def runTo (s : List UInt8) : Nat → Nat → Nat
 | 0, i => i
 | n + 1, i => if isW s i then runTo s n (i + 1) else i
theorem j0w (s : List UInt8) : ∀ n i, i ≤ runTo s n i ∧ runTo s n i ≤ i + n
 | 0, i => by simp [runTo]
 | n + 1, i => by
   unfold runTo
   have := j0w s n (i + 1)
   split <;> omega
theorem code50 : codeOf Tryz.f50 = .seq (rF Tryz.f50 0) (.seq (rF Tryz.f50 1) (.seq (.block 0 (.loop (.seq (.seq (rF Tryz.f50 2) (.cond (.tmp 16) .skip (.exit 0))) (.block 1 (.seq (.seq (rF Tryz.f50 3) (.cond (.tmp 23) (.seq (rF Tryz.f50 4) .ret) .skip)) (rF Tryz.f50 5)))))) (.seq (rT Tryz.f50 6) (.seq (rF Tryz.f50 7) (.seq (.seq (rF Tryz.f50 8) (.cond (.tmp 51) (rF Tryz.f50 9) .skip)) (.seq (rF Tryz.f50 10) .ret)))))) := by kernel_rfl
theorem jw0 : ((rgn Tryz.f50 2)[2]?).bind (·.dst) = some 13 := by kernel_rfl
theorem y2l {j : Nat} {E : Env} {k : KOE} (x : Ctx H0 a c s b) (h : Curs H0 H b a s.length c i) (e0 : E 0 = .pointer (some ⟨b, 0, none⟩)) (e1 : E 1 = .pointer (some ⟨t, 0, none⟩)) (e5 : E 5 = .int .i64 (j : Int)) (hh : NH hk) (h4 : isI s i 4 = false) (h3 : isI s i 3 = false) (hx : ∀ E', E' 0 = .pointer (some ⟨b, 0, none⟩) ∧ E' 1 = .pointer (some ⟨t, 0, none⟩) ∧ E' 5 = .int .i64 (j : Int) → Q (k (.exit 0) E' [] H)) :
   Q (execG PP XX (CG N hk (d + 2)) N noPr (.seq (.seq (rF Tryz.f50 2) (.cond (.tmp 16) .skip (.exit 0))) (.block 1 (.seq (.seq (rF Tryz.f50 3) (.cond (.tmp 23) (.seq (rF Tryz.f50 4) .ret) .skip)) (rF Tryz.f50 5)))) none E [] H k) := by
 have r1 := jf6 (N := N) (hk := hk) (d := d) (h.gg x) (h.row x) h.here 4 hh
 have r2 := jf6 (N := N) (hk := hk) (d := d) (h.gg x) (h.row x) h.here 3 hh
 rw [h4] at r1
 rw [h3] at r2
 have l2 := tl (rgn Tryz.f50 2)
 conv at l2 => rhs; simp only [rgn, opsAt, codeOf, Tryz.f50, gS, gN, reduceIte, Nat.reduceEqDiff, tA]
 simp (decide := true) only [↓uR.o, dG.o, ja1, reduceIte, ↓ja0 l2, ↓jb7 _ 2 false 13 _ jw0, e0, ja3 Tryz.func47 rfl rfl r1, ja3 Tryz.func47 rfl rfl r2]
 exact hx _ ⟨e0, e1, e5⟩
theorem y2m {E : Env} {k : KOE} (x : Ctx H0 a c s b) (h : Curs H0 H b a s.length c i) (e0 : E 0 = .pointer (some ⟨b, 0, none⟩)) (e1 : E 1 = .pointer (some ⟨t, 0, none⟩)) (e5 : E 5 = .int .i64 (j : Int)) (hh : NH hk) (hw : isW s i = true) (hji : j ≤ i) (hi : i < j + 32) (hl : i < s.length) (hx : ∀ E', E' 0 = .pointer (some ⟨b, 0, none⟩) ∧ E' 1 = .pointer (some ⟨t, 0, none⟩) ∧ E' 5 = .int .i64 (j : Int) → Q (k .norm E' [] (H.set b (cur a s.length c (i + 1))))) :
   Q (execG PP XX (CG N hk (d + 2)) N noPr (.seq (.seq (rF Tryz.f50 2) (.cond (.tmp 16) .skip (.exit 0))) (.block 1 (.seq (.seq (rF Tryz.f50 3) (.cond (.tmp 23) (.seq (rF Tryz.f50 4) .ret) .skip)) (rF Tryz.f50 5)))) none E [] H k) := by
 have r1 := jf6 (N := N) (hk := hk) (d := d) (h.gg x) (h.row x) h.here 4 hh
 have r2 := jf6 (N := N) (hk := hk) (d := d) (h.gg x) (h.row x) h.here 3 hh
 have hsm := x.row.small
 have w : IntKind.i64.wrap ((i : Int) + 1) = ((i + 1 : Nat) : Int) := by rw [jb2 (by omega) (by omega)]; omega
 have w2 : IntKind.i64.wrap ((i : Int) - (j : Int)) = (i : Int) - (j : Int) := jb2 (by omega) (by omega)
 have hne : (((i : Int) - (j : Int)) == 32) = false := by
   have : ¬ ((i : Int) - (j : Int)) = 32 := by omega
   simpa using this
 have lL := lX3 Tryz.f50 2 3 5
 conv at lL in (occs := *) (rgnX _ _) => all_goals simp only [rX, opsAt, Tryz.f50, dL.o, reduceIte, Nat.reduceEqDiff]
 obtain ⟨l2, l3, l5⟩ := lL
 cases h4 : isI s i 4 with
 | true =>
   rw [h4] at r1
   simp (decide := true) only [↓uR.o, dG.o, ja1, ja5, reduceIte, Bool.not_false, ↓ja0 l2, ↓ja0 l3, ↓ja0 l5, ↓r_no _ 2 false 13 _ jw0, e0, e5, ja3 Tryz.func47 rfl rfl r1, fld1, jd0 h.here, ji5 h.here, w, w2, hne]
   exact hx _ ⟨e0, e1, e5⟩
 | false =>
   have h3 : isI s i 3 = true := by simpa [isW, h4] using hw
   rw [h4] at r1
   rw [h3] at r2
   simp (decide := true) only [↓uR.o, dG.o, ja1, ja5, reduceIte, ↓ja0 l2, ↓ja0 l3, ↓ja0 l5, ↓jb7 _ 2 false 13 _ jw0, e0, e5, ja3 Tryz.func47 rfl rfl r1, ja3 Tryz.func47 rfl rfl r2, fld1, jd0 h.here, ji5 h.here, w, w2, hne]
   exact hx _ ⟨e0, e1, e5⟩
theorem y2n {k : KOE} (x : Ctx H0 a c s b) (hh : NH hk) :
   ∀ (n i m : Nat) (_ : j ≤ i) (_ : i + n = s.length) (_ : n < m) (_ : runTo s n i ≤ j + 32) {H : Heap} {E : Env} (_ : Curs H0 H b a s.length c i) (_ : E 0 = .pointer (some ⟨b, 0, none⟩) ∧ E 1 = .pointer (some ⟨t, 0, none⟩) ∧ E 5 = .int .i64 (j : Int)) (_ : ∀ E' H', (E' 0 = .pointer (some ⟨b, 0, none⟩) ∧ E' 1 = .pointer (some ⟨t, 0, none⟩) ∧ E' 5 = .int .i64 (j : Int)) → Curs H0 H' b a s.length c (runTo s n i) → Q (k (.exit 0) E' [] H')),
     Q (loopE (execG PP XX (CG N hk (d + 2)) N noPr (.seq (.seq (rF Tryz.f50 2) (.cond (.tmp 16) .skip (.exit 0))) (.block 1 (.seq (.seq (rF Tryz.f50 3) (.cond (.tmp 23) (.seq (rF Tryz.f50 4) .ret) .skip)) (rF Tryz.f50 5)))) none) m E [] H k)
 | 0, i, m + 1, hj, hn, hm, hr, H, E, h, ⟨e0, e1, e5⟩, hx => by
   rw [jb5]
   have z : ∀ q, isI s i q = false := fun q => by simp [isI]; omega
   exact y2l x h e0 e1 e5 hh (z 4) (z 3) fun E' e' => hx E' H e' h
 | n + 1, i, m + 1, hj, hn, hm, hr, H, E, h, ⟨e0, e1, e5⟩, hx => by
   rw [jb5]
   by_cases hw : isW s i = true
   · have e : runTo s (n + 1) i = runTo s n (i + 1) := by rw [runTo, if_pos hw]
     rw [e] at hx hr
     have := j0w s n (i + 1)
     refine y2m x h e0 e1 e5 hh hw hj (by omega) (by omega) fun E' e' => ?_
     rw [jc4]
     exact y2n x hh n (i + 1) m (by omega) (by omega) (by omega) hr (h.set (i + 1)) e' hx
   · have e : runTo s (n + 1) i = i := by rw [runTo, if_neg hw]
     rw [e] at hx
     have h43 : isI s i 4 = false ∧ isI s i 3 = false := by simpa [isW] using hw
     exact y2l x h e0 e1 e5 hh h43.1 h43.2 fun E' e' => hx E' H e' h
end Go.Am
namespace Go.Am
set_option maxRecDepth 100000
def nextT (P : Program) (X : Xf) (K : Kf) (A : Array Oper) (rest : List Oper) (tr : List (Env × Heap)) (k : List (Env × Heap) → KE) (kp : List PanicEntry → KE) : KE := fun E ds H => execTrF P X K A rest E ds H tr k kp
section tr
variable {P : Program} {X : Xf} {K : Kf} {A : Array Oper} {d : Option Tmp} {t : TypeId} {p : String} {af : Array Edge} {E : Env} {ds : List Deferred} {H : Heap} {tr : List (Env × Heap)} {k : List (Env × Heap) → KE} {kp : List PanicEntry → KE}
theorem jf1 (rest : List Oper) (E : Env) (ds : List Deferred) (H : Heap) : nextT P X K A rest tr k kp E ds H = execTrF P X K A rest E ds H tr k kp := id rfl
theorem j4i : execTrF P X K A [] E ds H tr k kp = k (tr ++ [(E, H)]) E ds H := id rfl
theorem jp3 (op : Op) (rest : List Oper) : execTrF P X K A (⟨d, op, t, p, af, none⟩ :: rest) E ds H tr k kp = opE P X K ⟨d, op, t, p, af, none⟩ E ds H (nextT P X K A rest (tr ++ [(E, H)]) k kp) kp := id rfl
theorem jk6 {L : List Oper} (h : A.toList = L) (E : Env) (ds : List Deferred) (H : Heap) : execTrF P X K A A.toList E ds H tr k kp = execTrF P X K A L E ds H tr k kp := by rw [h]
end tr
theorem ym3 (a : Addr) : veq (.pointer (some a)) (.pointer (some a)) = true := by simp [veq, veq0]
theorem ji8 (a : Option Addr) (n c : Nat) : veq (.slice a n c) (.slice a n c) = true := by simp [veq, veq0]
theorem j7x (i : IntKind) (n : Int) : veq (.int i n) (.int i n) = true := by simp [veq, veq0]
theorem aggPc : aggT PP 69 = some false := by decide +kernel
theorem aggPt : aggT PP 73 = some false := by decide +kernel
theorem esPc : esT PP 69 = 1 := by decide +kernel
theorem esPt : esT PP 73 = 1 := by decide +kernel
theorem y3w (H : Heap) (v : Value) (hv : v.cells = #[v]) : boxA PP 69 v H = some (.pointer (some ⟨H.next, 0, none⟩), H.alloc 1 [v]) := by simp only [boxA, esPc, mk, hv]
theorem y3x (H : Heap) (v : Value) (hv : v.cells = #[v]) : boxA PP 73 v H = some (.pointer (some ⟨H.next, 0, none⟩), H.alloc 1 [v]) := by simp only [boxA, esPt, mk, hv]
def one (v : Value) : Blk := ⟨[v], true, 1, none⟩
theorem ju0 {H : Heap} {b : Nat} {v : Value} (h : H.get b = some (one v)) : loadA PP 69 (.pointer (some ⟨b, 0, none⟩)) H = some (v, H) := by
 simp only [loadA, aggPc]
 simp [ld1, look, h, one]
theorem ju1 {H : Heap} {b : Nat} {v : Value} (h : H.get b = some (one v)) : loadA PP 73 (.pointer (some ⟨b, 0, none⟩)) H = some (v, H) := by
 simp only [loadA, aggPt]
 simp [ld1, look, h, one]
theorem jq1 {H : Heap} {b : Nat} {v : Value} (h : H.get b = some (one v)) : loadA PP 5 (.pointer (some ⟨b, 0, none⟩)) H = some (v, H) := by
 apply ja9
 simp [ld1, look, h, one]
theorem y0l (H : Heap) : allocA PP 5 H = some (.pointer (some ⟨H.next, 0, none⟩), H.alloc 1 [.int .u8 0]) := by
 have z : zeroT PP 5 = some [.int .u8 0] := by kernel_rfl
 have e : esT PP 5 = 1 := by decide +kernel
 simp only [allocA, z, e, mk]
theorem j9r {H : Heap} {b : Nat} {v : Value} (h : H.get b = some (one v)) (n : Int) : storeA PP 5 (.pointer (some ⟨b, 0, none⟩)) (.int .u8 n) H = some (undef, H.set b (one (.int .u8 n))) := by
 simp only [storeA, size5, stV]
 simp [Value.cells, st, look, h, one, over, Value.oneCell']
structure Lexd (H0 H : Heap) (b : Nat) (x : Blk) (t : Nat) (y : Blk) : Prop where
 next : H0.next ≤ H.next
 one : H.get b = some x
 two : H.get t = some y
 there : ∀ z w, z ≠ b → z ≠ t → H0.get z = some w → H.get z = some w
 fresh : Fresh H
theorem Two.lexd {H0 H : Heap} {b t : Nat} {x y : Blk} (h : Two H0 H b x t y) (hf : Fresh H0) (hb : b < H0.next) (ht : t < H0.next) : Lexd H0 H b x t y :=
 ⟨by rw [h.next]; exact Nat.le_refl _, h.one, h.two, fun z w h1 h2 hz => by rw [h.there z h1 h2]; exact hz, fun z hz => by rw [h.next] at hz; rw [h.there z (by omega) (by omega)]; exact hf z hz⟩
theorem Lexd.set1 {H0 H : Heap} {b t : Nat} {x y : Blk} (h : Lexd H0 H b x t y) (hbt : t ≠ b) (hb : b < H.next) (x' : Blk) : Lexd H0 (H.set b x') b x' t y :=
 ⟨h.next, by rw [Heap.get_set, if_pos rfl], by rw [Heap.get_set, if_neg hbt]; exact h.two, fun z w h1 h2 hz => by rw [Heap.get_set, if_neg h1]; exact h.there z w h1 h2 hz, fun z hz => by
   have hz' : H.next ≤ z := hz
   rw [Heap.get_set, if_neg (by omega)]; exact h.fresh z hz'⟩
theorem Lexd.set2 {H0 H : Heap} {b t : Nat} {x y : Blk} (h : Lexd H0 H b x t y) (hbt : t ≠ b) (ht : t < H.next) (y' : Blk) : Lexd H0 (H.set t y') b x t y' :=
 ⟨h.next, by rw [Heap.get_set, if_neg (Ne.symm hbt)]; exact h.one, by rw [Heap.get_set, if_pos rfl], fun z w h1 h2 hz => by rw [Heap.get_set, if_neg h2]; exact h.there z w h1 h2 hz, fun z hz => by
   have hz' : H.next ≤ z := hz
   rw [Heap.get_set, if_neg (by omega)]; exact h.fresh z hz'⟩
theorem Lexd.new {H0 H : Heap} {b t : Nat} {x y : Blk} (h : Lexd H0 H b x t y) (v : Value) (hb : b < H.next) (ht : t < H.next) : Lexd H0 (H.alloc 1 [v]) b x t y :=
 ⟨Nat.le_trans h.next (Nat.le_succ _), by rw [Heap.get_alloc, if_neg (by omega)]; exact h.one, by rw [Heap.get_alloc, if_neg (by omega)]; exact h.two, fun z w h1 h2 hz => by
   have e := h.there z w h1 h2 hz
   rw [Heap.get_alloc, if_neg (fun q => by rw [q, h.fresh _ (Nat.le_refl _)] at e; cases e)]; exact e, fun z hz => by
   have hz' : H.next + 1 ≤ z := hz
   rw [Heap.get_alloc, if_neg (by omega)]; exact h.fresh z (by omega)⟩
theorem Lexd.own {H0 H : Heap} {b t q : Nat} {x y : Blk} (h : Lexd H0 H b x t y) (hq : H0.next ≤ q) (hl : q < H.next) (hf : Fresh H0) (hb : b < H0.next) (ht : t < H0.next) (z' : Blk) : Lexd H0 (H.set q z') b x t y :=
 ⟨h.next, by rw [Heap.get_set, if_neg (by omega)]; exact h.one, by rw [Heap.get_set, if_neg (by omega)]; exact h.two, fun z w h1 h2 hz => by
   rw [Heap.get_set, if_neg (fun e => by rw [e, hf q hq] at hz; cases hz)]; exact h.there z w h1 h2 hz, fun z hz => by
   have hz' : H.next ≤ z := hz
   rw [Heap.get_set, if_neg (by omega)]; exact h.fresh z hz'⟩
theorem Lexd.gg {H0 H : Heap} {b t : Nat} {x y : Blk} {a : Option Addr} {c : Nat} {s : List UInt8} (h : Lexd H0 H b x t y) (k : Ctx H0 a c s b) (ht : GE.next ≤ t) : Ext GE H :=
 ⟨Nat.le_trans k.gg.next h.next, fun z w hz => h.there z w (fun e => by rw [e, j0v b k.low] at hz; cases hz) (fun e => by rw [e, j0v t ht] at hz; cases hz) (k.gg.keep z w hz), h.fresh⟩
theorem Lexd.row {H0 H : Heap} {b t : Nat} {x y : Blk} {a : Option Addr} {c : Nat} {s : List UInt8} (h : Lexd H0 H b x t y) (k : Ctx H0 a c s b) (ht : ∀ q, a = some q → q.block ≠ t) : Brow H a s := by
 refine ⟨fun q hq => ?_, k.row.nil, k.row.small⟩
 obtain ⟨z, h1, h2⟩ := k.row.row q hq
 refine ⟨z, ?_, h2⟩
 unfold look at h1 ⊢
 split at h1
 · cases h1
 · rename_i hs
   cases hg : H0.get q.block with
   | none => rw [hg] at h1; cases h1
   | some w =>
     rw [hg] at h1
     rw [h.there _ _ (k.ne q hq) (ht q hq) hg]
     exact h1
theorem code71 : codeOf Tryz.f71 = .seq (rF Tryz.f71 0) (.seq (rF Tryz.f71 1) (.seq (.seq (rF Tryz.f71 2) (.cond (.tmp 16) (.seq (rF Tryz.f71 3) (rF Tryz.f71 4)) .skip)) (.seq (rF Tryz.f71 5) .ret))) := by kernel_rfl
theorem jw1 {N : Nat} {hk : Hook} {d : Nat} {H0 H : Heap} {a : Option Addr} {n c b t i n0 n1 n2 : Nat} {kd nn f0 t0 : Int} {w : ByteArray} (h : Lexd H0 H b (cur a n c i) t (tok kd nn w f0 t0)) (hbt : t ≠ b) (hbl : b < H.next) (htl : t < H.next)
   (c0 : H.get n0 = some (one (.pointer (some ⟨b, 0, none⟩)))) (c1 : H.get n1 = some (one (.pointer (some ⟨t, 0, none⟩)))) (v : Int) (c2 : H.get n2 = some (one (.int .u8 v))) (h1 : n1 ≠ t) (hn1b : n1 ≠ b)
   (second double single_ : Int) (hne : (v == second) = false) (hh : NH hk) :
   ∃ H', Lexd H0 H' b (cur a n c i) t (tok single_ nn w f0 t0) ∧ CG N hk (d + 1) 71 #[.int .u8 second, .int .i64 double, .int .i64 single_, .pointer (some ⟨n1, 0, none⟩), .pointer (some ⟨n2, 0, none⟩), .pointer (some ⟨n0, 0, none⟩)] H = some (.ret (.bool (single_ != 0)), H') := by
 refine ⟨_, h.set2 hbt htl (tok single_ nn w f0 t0), ?_⟩
 refine (jc2 (hh _ _ _ rfl) Tryz.func71 (c := codeOf Tryz.f71) rfl rfl rfl (pr := noPr) rfl).trans ?_
 rw [code71]
 generalize hF : finE PP Tryz.f71 = F
 have h2 : n2 ≠ t := fun e => by rw [e, h.two] at c2; simp [tok, one] at c2
 have c1' : (H.set t (tok single_ nn w f0 t0)).get n1 = some (one (.pointer (some ⟨t, 0, none⟩))) := by rw [Heap.get_set, if_neg h1]; exact c1
 have c2' : (H.set t (tok single_ nn w f0 t0)).get n2 = some (one (.int .u8 v)) := by rw [Heap.get_set, if_neg h2]; exact c2
 have ct' := jv8 H t (tok single_ nn w f0 t0)
 have lL := lX4 Tryz.f71 0 1 2 5
 conv at lL in (occs := *) (rgnX _ _) => all_goals simp only [rX, opsAt, Tryz.f71, dL.o, reduceIte, Nat.reduceEqDiff]
 obtain ⟨l0, l1, l2, l5⟩ := lL
 simp (decide := true) only [↓uR.o, dG.o, ja1, ja5, reduceIte, ↓ja0 l0, ↓ja0 l1, ↓ja0 l2, ↓ja0 l5, j9o, ju1 c1, tf0, jh1 h.two, jq1 c2', hne, ju1 c1', jv9 ct']
 rw [← hF, jb6 (l := [.bool (single_ != 0)]) (by simp (decide := true) [Tryz.f71, resE, ja1])]
 rfl
def chkK (P : Program) (ops : Array Oper) (prs : List (Nat × Nat)) (k : KOE) : List (Env × Heap) → KE := fun tr E ds H => cond (prs.all fun x => pairChkE P ops tr x.1 x.2) (k .norm E ds H) none
theorem jh4 {P : Program} {X : Xf} {K : Kf} {N : Nat} {pr : Nat → List (Nat × Nat)} (i : Nat) (ops : Array Oper) (E : Env) (ds : List Deferred) (H : Heap) (k : KOE) (h : (pr i).isEmpty = false) :
   execG P X K N pr (.region i ops true) none E ds H k = execTrF P X K ops ops.toList E ds H [] (chkK P ops (pr i) k) (panD P ops true k) := yf1 i ops E ds H k h
theorem jo5 {P : Program} {ops : Array Oper} {prs : List (Nat × Nat)} {k : KOE} {tr : List (Env × Heap)} {E : Env} {ds : List Deferred} {H : Heap} (h : (prs.all fun x => pairChkE P ops tr x.1 x.2) = true) : chkK P ops prs k tr E ds H = k .norm E ds H := by simp only [chkK, h, cond_true]
structure Own (H : Heap) (n0 b t : Nat) : Prop where
 c0 : H.get n0 = some (one (.pointer (some ⟨b, 0, none⟩)))
 c1 : H.get (n0 + 1) = some (one (.pointer (some ⟨t, 0, none⟩)))
theorem Own.mk0 (H : Heap) (b t : Nat) : Own ((H.alloc 1 [Value.pointer (some ⟨b, 0, none⟩)]).alloc 1 [Value.pointer (some ⟨t, 0, none⟩)]) H.next b t := by
 refine ⟨?_, ?_⟩
 · rw [Heap.get_alloc, if_neg (by show ¬ H.next = H.next + 1; omega), Heap.get_alloc, if_pos rfl]; rfl
 · rw [Heap.get_alloc]; exact if_pos rfl
theorem Own.new {H : Heap} {n0 b t : Nat} (h : Own H n0 b t) (hn : H.next = n0 + 2) (v : Value) : Own (H.alloc 1 [v]) n0 b t :=
 ⟨by rw [Heap.get_alloc, if_neg (by omega)]; exact h.c0, by rw [Heap.get_alloc, if_neg (by omega)]; exact h.c1⟩
theorem Own.set {H : Heap} {n0 b t q : Nat} (h : Own H n0 b t) (h0 : n0 ≠ q) (h1 : n0 + 1 ≠ q) (x : Blk) : Own (H.set q x) n0 b t :=
 ⟨by rw [Heap.get_set, if_neg h0]; exact h.c0, by rw [Heap.get_set, if_neg h1]; exact h.c1⟩
theorem code52 : codeOf Tryz.f52 = .seq (rF Tryz.f52 0) (.seq (rT Tryz.f52 1) (.seq (.seq (rT Tryz.f52 2) (.cond (.tmp 28) (rT Tryz.f52 3) .skip)) (.seq (rF Tryz.f52 4) (.seq (rF Tryz.f52 5) (.seq (.seq (rF Tryz.f52 6) (.block 0 (.seq (rF Tryz.f52 7) (.cond (.tmp 49) (.seq (rF Tryz.f52 8) .ret) (.seq (rF Tryz.f52 9) (.cond (.tmp 53) (.seq (rF Tryz.f52 10) .ret) (.seq (rF Tryz.f52 11) (.cond (.tmp 57) (.seq (rF Tryz.f52 12) .ret) (.seq (rF Tryz.f52 13) (.cond (.tmp 61) (.seq (.seq (rF Tryz.f52 14) (.cond (.tmp 64) (.seq (rF Tryz.f52 15) .ret) .skip)) (.seq (rF Tryz.f52 16) .ret)) (.seq (rF Tryz.f52 17) (.cond (.tmp 69) (.seq (.seq (rF Tryz.f52 18) (.cond (.tmp 72) (.seq (rF Tryz.f52 19) .ret) .skip)) (.seq (rF Tryz.f52 20) .ret)) .skip)))))))))))) (.seq (rT Tryz.f52 21) (.seq (rF Tryz.f52 22) .ret))))))) := by kernel_rfl
section
variable {N : Nat} {hk : Hook} {d : Nat} {H : Heap} {a : Option Addr} {c : Nat} {s : List UInt8} {b t i : Nat} {nn f0 t0 : Int}
theorem je7 (x : Ctx H a c s b) (hb : H.get b = some (cur a s.length c i)) (ht : H.get t = some (tok 0 nn .empty f0 t0)) (hbt : t ≠ b) (htl : t < H.next) (htg : GE.next ≤ t) (hrt : ∀ q, a = some q → q.block ≠ t) (hi : i < s.length) (hh : NH hk) {K : Kf} {Q : R → Prop} {k : KOE} {rest : Code}
   (hx : ∀ E' H', E' 5 = .int .u8 (s[i].toNat : Int) → E' 7 = .func (.func 71) #[] #[.pointer (some ⟨H.next + 1, 0, none⟩), .pointer (some ⟨H.next + 2, 0, none⟩), .pointer (some ⟨H.next, 0, none⟩)] → E' 3 = .pointer (some ⟨H.next + 1, 0, none⟩) → E' 6 = .pointer (some ⟨H.next + 2, 0, none⟩) →
     Lexd H H' b (cur a s.length c (i + 1)) t (tok 0 nn .empty f0 t0) → H'.next = H.next + 3 → Own H' H.next b t → H'.get (H.next + 2) = some (one (.int .u8 (if i + 1 < s.length then ((s.getD (i + 1) 0).toNat : Int) else 0))) → Q (execG PP XX K N pr1 rest none E' [] H' k)) :
   Q (execG PP XX K N pr1 (.seq (rF Tryz.f52 0) (.seq (rT Tryz.f52 1) (.seq (.seq (rT Tryz.f52 2) (.cond (.tmp 28) (rT Tryz.f52 3) .skip)) (.seq (rF Tryz.f52 4) (.seq (rF Tryz.f52 5) rest))))) none (startE #[.pointer (some ⟨b, 0, none⟩), .pointer (some ⟨t, 0, none⟩)]) [] H k) := by
 have hf := x.gg.fresh
 have hbl := x.lt
 have h0 : Lexd H H b (cur a s.length c i) t (tok 0 nn .empty f0 t0) := ⟨Nat.le_refl _, hb, ht, fun z w _ _ hz => hz, hf⟩
 have ha := h0.new (.pointer (some ⟨b, 0, none⟩)) hbl htl
 have hB := ha.new (.pointer (some ⟨t, 0, none⟩)) (Nat.lt_succ_of_lt hbl) (Nat.lt_succ_of_lt htl)
 have hC := hB.new (.int .u8 0) (by show b < H.next + 1 + 1; omega) (by show t < H.next + 1 + 1; omega)
 have hD := hC.own (q := H.next + 2) (by omega) (by show H.next + 2 < H.next + 1 + 1 + 1; omega) hf hbl htl (one (.int .u8 0))
 have nA : (H.alloc 1 [Value.pointer (some ⟨b, 0, none⟩)]).next = H.next + 1 := rfl
 have nB : ((H.alloc 1 [Value.pointer (some ⟨b, 0, none⟩)]).alloc 1 [Value.pointer (some ⟨t, 0, none⟩)]).next = H.next + 2 := rfl
 have oB : Own ((H.alloc 1 [Value.pointer (some ⟨b, 0, none⟩)]).alloc 1 [Value.pointer (some ⟨t, 0, none⟩)]) H.next b t := .mk0 H b t
 have oC : Own (((H.alloc 1 [Value.pointer (some ⟨b, 0, none⟩)]).alloc 1 [Value.pointer (some ⟨t, 0, none⟩)]).alloc 1 [.int .u8 0]) H.next b t := oB.new rfl _
 have vC : (((H.alloc 1 [Value.pointer (some ⟨b, 0, none⟩)]).alloc 1 [Value.pointer (some ⟨t, 0, none⟩)]).alloc 1 [.int .u8 0]).get (H.next + 2) = some (one (.int .u8 0)) := by rw [Heap.get_alloc]; exact if_pos rfl
 have oD := oC.set (q := H.next + 2) (by omega) (by omega) (one (.int .u8 0))
 obtain ⟨y, rfl⟩ : ∃ y, a = some y := by
   cases a with
   | none => exact absurd (x.row.nil rfl) (by intro e; rw [e] at hi; simp at hi)
   | some y => exact ⟨y, rfl⟩
 have rB := hB.row x hrt
 obtain ⟨y', e', hl⟩ := rB.bts.cell i hi
 obtain rfl := Option.some.inj e'
 obtain ⟨y2, e2, hlC⟩ := (hC.row x hrt).bts.cell i hi
 obtain rfl := Option.some.inj e2
 have hix := jc1 (n := s.length) (c := c) (a := y) hi
 have hsm := x.row.small
 have w : IntKind.i64.wrap ((i : Int) + 1) = ((i + 1 : Nat) : Int) := by rw [jb2 (by omega) (by omega)]; omega
 have lL := lX6 Tryz.f52 0 1 2 3 4 5
 conv at lL in (occs := *) (rgnX _ _) => all_goals simp only [rX, opsAt, Tryz.f52, dL.o, reduceIte, Nat.reduceEqDiff]
 obtain ⟨l0, l1, l2, l3, l4, l5⟩ := lL
 simp (decide := true) only [↓jb9, jh4, ↓jk6 l1, ↓j4i, ↓jp3, jf1, pr1, ↓uG.o, dG.o, ja1, ja5, reduceIte, ↓ja0 l0, y3w _ (.pointer (some ⟨b, 0, none⟩)) rfl, y3x _ (.pointer (some ⟨t, 0, none⟩)) rfl, nA, nB, ju0 oB.c0, jd2 hB.one, jd0 hB.one, fld0, fld1, hix, ja9 hl, y0l, j9r vC]
 simp only [List.nil_append, List.cons_append]
 rw [jo5 (by simp (decide := true) only [List.all_cons, List.all_nil, pairChkE, l1, List.getElem?_cons_zero, List.getElem?_cons_succ, guardBE, qval, opK, dG.o, ja1, reduceIte, Bool.and_self, ym3, ji8, j7x, ju0 oB.c0, ju0 oC.c0, jd2 hB.one, jd2 hC.one, jd0 hB.one, jd0 hC.one, ja9 hl, ja9 hlC])]
 have vD := jv8 (((H.alloc 1 [Value.pointer (some ⟨b, 0, none⟩)]).alloc 1 [Value.pointer (some ⟨t, 0, none⟩)]).alloc 1 [.int .u8 0]) (H.next + 2) (one (.int .u8 0))
 have nD : ((((H.alloc 1 [Value.pointer (some ⟨b, 0, none⟩)]).alloc 1 [Value.pointer (some ⟨t, 0, none⟩)]).alloc 1 [.int .u8 0]).set (H.next + 2) (one (.int .u8 0))).next = H.next + 3 := rfl
 generalize ((((H.alloc 1 [Value.pointer (some ⟨b, 0, none⟩)]).alloc 1 [Value.pointer (some ⟨t, 0, none⟩)]).alloc 1 [.int .u8 0]).set (H.next + 2) (one (.int .u8 0))) = HD at *
 have rD := hD.row x hrt
 by_cases h1 : i + 1 < s.length
 · have hlt : decide (((i + 1 : Nat) : Int) < (s.length : Int)) = true := decide_eq_true (by omega)
   obtain ⟨y3, e3, hl1⟩ := rD.bts.cell (i + 1) h1
   obtain rfl := Option.some.inj e3
   have hix1 := jc1 (n := s.length) (c := c) (a := y) h1
   have hE := hD.own (q := H.next + 2) (by omega) (by omega) hf hbl htl (one (.int .u8 (s[i + 1].toNat : Int)))
   have oE := oD.set (q := H.next + 2) (by omega) (by omega) (one (.int .u8 (s[i + 1].toNat : Int)))
   have vE := jv8 HD (H.next + 2) (one (.int .u8 (s[i + 1].toNat : Int)))
   have hG := hE.set1 hbt (by show b < HD.next; omega) (cur (some y) s.length c (i + 1))
   simp (decide := true) only [↓jb9, j7w (pr := pr1) 2 _ _ _ _ _ rfl, j7w (pr := pr1) 3 _ _ _ _ _ rfl, ↓uG.o, dG.o, ja1, ja5, reduceIte, ↓ja0 l2, ↓ja0 l3, ↓ja0 l4, ↓ja0 l5, ju0 oD.c0, jd2 hD.one, jd0 hD.one, fld0, fld1, w, ja7 (ts := #[34]) rfl und34, hlt, hix1, ja9 hl1, j9r vD, ju0 oE.c0, jd0 hE.one, ji5 hE.one]
   refine hx _ _ ?_ ?_ ?_ ?_ hG (by show HD.next = _; exact nD) (oE.set (by omega) (by omega) _) (by rw [Heap.get_set, if_neg (by omega), vE, if_pos h1]; simp [List.getD, h1])
   all_goals simp (decide := true) only [ja1, reduceIte]
 · have hlt : decide (((i + 1 : Nat) : Int) < (s.length : Int)) = false := decide_eq_false (by omega)
   have hG := hD.set1 hbt (by omega) (cur (some y) s.length c (i + 1))
   simp (decide := true) only [↓jb9, j7w (pr := pr1) 2 _ _ _ _ _ rfl, ↓uG.o, dG.o, ja1, ja5, reduceIte, ↓ja0 l2, ↓ja0 l4, ↓ja0 l5, ju0 oD.c0, jd2 hD.one, jd0 hD.one, fld0, fld1, w, ja7 (ts := #[34]) rfl und34, hlt, ji5 hD.one]
   refine hx _ _ ?_ ?_ ?_ ?_ hG (by show HD.next = _; exact nD) (oD.set (by omega) (by omega) _) (by rw [Heap.get_set, if_neg (by omega), vD, if_neg h1])
   all_goals simp (decide := true) only [ja1, reduceIte]
end
theorem app33 (a b c x y z : Value) : (#[] ++ #[a, b, c] ++ #[x, y, z] : Array Value) = #[a, b, c, x, y, z] := rfl
section
variable {N : Nat} {hk : Hook} {d : Nat} {H : Heap} {a : Option Addr} {c : Nat} {s : List UInt8} {b t i : Nat} {nn f0 t0 : Int}
theorem yf5 (x : Ctx H a c s b) (hb : H.get b = some (cur a s.length c i)) (ht : H.get t = some (tok 0 nn .empty f0 t0)) (hbt : t ≠ b) (htl : t < H.next) (htg : GE.next ≤ t) (hrt : ∀ q, a = some q → q.block ≠ t) (hi : i < s.length) (hh : NH hk) (h46 : ((s[i].toNat : Int) == 46) = false) (h33 : ((s[i].toNat : Int) == 33) = false) (h61 : ((s[i].toNat : Int) == 61) = false) (h60 : ((s[i].toNat : Int) == 60) = false) (h62 : ((s[i].toNat : Int) == 62) = false)
   {kd : Int} (hs : ∀ H, Ext GE H → hk 72 #[.int .u8 (s[i].toNat : Int)] H = some (some (.ret (.int .i64 kd), H))) :
   ∃ H', Lexd H H' b (cur a s.length c (i + 1)) t (tok kd nn .empty f0 t0) ∧ CG N hk (d + 2) 52 #[.pointer (some ⟨b, 0, none⟩), .pointer (some ⟨t, 0, none⟩)] H = some (.ret (.bool true), H') := by
 have main : ∃ R0 : R, CG N hk (d + 2) 52 #[.pointer (some ⟨b, 0, none⟩), .pointer (some ⟨t, 0, none⟩)] H = R0 ∧ ∃ H', Lexd H H' b (cur a s.length c (i + 1)) t (tok kd nn .empty f0 t0) ∧ R0 = some (.ret (.bool true), H') := by
   refine ⟨_, jc2 (hh _ _ _ rfl) Tryz.func52 (c := codeOf Tryz.f52) rfl rfl rfl (pr := pr1) rfl, ?_⟩
   rw [code52]
   generalize hF : finE PP Tryz.f52 = F
   refine je7 (Q := fun r => ∃ H', Lexd H H' b (cur a s.length c (i + 1)) t (tok kd nn .empty f0 t0) ∧ r = some (.ret (.bool true), H')) x hb ht hbt htl htg hrt hi hh fun E H' e5 e7 e3 e6 hL hn own hv => ?_
   have hcall : CG N hk (d + 1) 72 #[.int .u8 (s[i].toNat : Int)] H' = some (.ret (.int .i64 kd), H') := jj9 (hs H' (hL.gg x htg))
   have lL := lX8 Tryz.f52 6 7 9 11 13 17 21 22
   conv at lL in (occs := *) (rgnX _ _) => all_goals simp only [rX, opsAt, Tryz.f52, dL.o, reduceIte, Nat.reduceEqDiff]
   obtain ⟨l6, l7, l9, l11, l13, l17, l21, l22⟩ := lL
   simp (decide := true) only [↓jb9, jh4, ↓jk6 l21, ↓j4i, ↓jp3, jf1, pr1, ↓uG.o, dG.o, ja1, ja5, reduceIte, ↓ja0 l6, ↓ja0 l7, ↓ja0 l9, ↓ja0 l11, ↓ja0 l13, ↓ja0 l17, e5, e3, h46, h33, h61, h60, h62, ju1 own.c1, ja3 Tryz.func72 rfl rfl hcall, tf0, jh1 hL.two]
   simp only [List.nil_append, List.cons_append]
   rw [jo5 (by simp (decide := true) only [List.all_cons, List.all_nil, pairChkE, l21, List.getElem?_cons_zero, List.getElem?_cons_succ, guardBE, qval, opK, dG.o, ja1, reduceIte, Bool.and_self, ym3, e3, ju1 own.c1])]
   refine ⟨_, hL.set2 hbt (by omega) _, ?_⟩
   simp (decide := true) only [↓jb9, ↓uG.o, dG.o, ↓ja0 l22]
   rw [← hF, jb6 (l := [.bool true]) (by simp (decide := true) [Tryz.f52, resE, ja1])]
   rfl
 obtain ⟨R0, m1, H', m2, m3⟩ := main
 exact ⟨H', m2, m1.trans m3⟩
theorem ym4 (x : Ctx H a c s b) (hb : H.get b = some (cur a s.length c i)) (ht : H.get t = some (tok 0 nn .empty f0 t0)) (hbt : t ≠ b) (htl : t < H.next) (htg : GE.next ≤ t) (hrt : ∀ q, a = some q → q.block ≠ t) (hi : i < s.length) (hh : NH hk) (h46 : ((s[i].toNat : Int) == 46) = false) (h33 : ((s[i].toNat : Int) == 33) = true) (hn : ((if i + 1 < s.length then ((s.getD (i + 1) 0).toNat : Int) else 0) == 61) = false) :
   ∃ H', Lexd H H' b (cur a s.length c (i + 1)) t (tok 0 nn .empty f0 t0) ∧ CG N hk (d + 2) 52 #[.pointer (some ⟨b, 0, none⟩), .pointer (some ⟨t, 0, none⟩)] H = some (.ret (.bool false), H') := by
 have main : ∃ R0 : R, CG N hk (d + 2) 52 #[.pointer (some ⟨b, 0, none⟩), .pointer (some ⟨t, 0, none⟩)] H = R0 ∧ ∃ H', Lexd H H' b (cur a s.length c (i + 1)) t (tok 0 nn .empty f0 t0) ∧ R0 = some (.ret (.bool false), H') := by
   refine ⟨_, jc2 (hh _ _ _ rfl) Tryz.func52 (c := codeOf Tryz.f52) rfl rfl rfl (pr := pr1) rfl, ?_⟩
   rw [code52]
   generalize hF : finE PP Tryz.f52 = F
   refine je7 (Q := fun r => ∃ H', Lexd H H' b (cur a s.length c (i + 1)) t (tok 0 nn .empty f0 t0) ∧ r = some (.ret (.bool false), H')) x hb ht hbt htl htg hrt hi hh fun E H' e5 e7 e3 e6 hL hnx own hv => ?_
   obtain ⟨H2, h2, hcall⟩ := jw1 (N := N) (hk := hk) (d := d) hL hbt (by have := x.lt; omega) (by omega) own.c0 own.c1 _ hv (by omega) (by have := x.lt; omega) 61 15 0 hn hh
   have lL := lX4 Tryz.f52 6 7 9 10
   conv at lL in (occs := *) (rgnX _ _) => all_goals simp only [rX, opsAt, Tryz.f52, dL.o, reduceIte, Nat.reduceEqDiff]
   obtain ⟨l6, l7, l9, l10⟩ := lL
   simp (decide := true) only [↓jb9, ↓uG.o, dG.o, ja1, reduceIte, ↓ja0 l6, ↓ja0 l7, ↓ja0 l9, ↓ja0 l10, e5, e7, h46, h33, ↓jg2 55 _ _ 71 #[] #[.pointer (some ⟨H.next + 1, 0, none⟩), .pointer (some ⟨H.next + 2, 0, none⟩), .pointer (some ⟨H.next, 0, none⟩)], app33, ja3 Tryz.func71 rfl rfl hcall]
   refine ⟨_, h2, ?_⟩
   rw [← hF, jb6 (l := [.bool ((0 : Int) != 0)]) (by simp (decide := true) [Tryz.f52, resE, ja1])]
   rfl
 obtain ⟨R0, m1, H', m2, m3⟩ := main
 exact ⟨H', m2, m1.trans m3⟩
end
theorem eq43 : (((4 : Int)) == 3) = false := rfl
theorem eq44 : (((4 : Int)) == 4) = true := rfl
theorem eq63 : (((6 : Int)) == 3) = false := rfl
theorem eq64 : (((6 : Int)) == 4) = false := rfl
theorem eq65 : (((6 : Int)) == 5) = false := rfl
theorem eq66 : (((6 : Int)) == 6) = true := rfl
theorem code27 : codeOf Tryz.f27 = .seq (rF Tryz.f27 0) (.seq (.seq (rT Tryz.f27 1) (.block 0 (.seq (rF Tryz.f27 2) (.cond (.tmp 16) (.seq (rF Tryz.f27 3) (.seq (rF Tryz.f27 4) .ret)) (.seq (rF Tryz.f27 5) (.cond (.tmp 24) (.seq (rF Tryz.f27 6) .ret) (.seq (rF Tryz.f27 7) (.cond (.tmp 29) (.seq (rF Tryz.f27 8) (.seq (rF Tryz.f27 9) .ret)) (.seq (rF Tryz.f27 10) (.cond (.tmp 37) (.seq (rF Tryz.f27 11) .ret) .skip)))))))))) (.seq (rF Tryz.f27 12) .ret)) := by kernel_rfl
theorem j9s {N : Nat} {hk : Hook} {d : Nat} {H H' : Heap} {a : Option Addr} {c : Nat} {s : List UInt8} {b t i : Nat} {r : Bool} (x : Ctx H a c s b) (hb : H.get b = some (cur a s.length c i)) (hi : i < s.length) (hcl : clsI s[i] = 4) (hh : NH hk)
   (hr : CG N hk (d + 1) 50 #[.pointer (some ⟨b, 0, none⟩), .pointer (some ⟨t, 0, none⟩)] H = some (.ret (.bool r), H')) :
   CG N hk (d + 2) 27 #[.pointer (some ⟨b, 0, none⟩), .pointer (some ⟨t, 0, none⟩)] H = some (.ret (.bool r), H') := by
 refine (jc2 (hh _ _ _ rfl) Tryz.func27 (c := codeOf Tryz.f27) rfl rfl rfl (pr := noPr) rfl).trans ?_
 rw [code27]
 generalize hF : finE PP Tryz.f27 = F
 have hcls := jo4 (N := N) (hk := hk) (d := d) x.gg s[i] (fun _ _ => hh _ _ _ rfl)
 rw [hcl] at hcls
 obtain ⟨y, rfl, hl⟩ := x.row.bts.cell i hi
 have hix := jc1 (n := s.length) (c := c) (a := y) hi
 have lL := lX5 Tryz.f27 0 1 2 5 6
 conv at lL in (occs := *) (rgnX _ _) => all_goals simp only [rX, opsAt, Tryz.f27, dL.o, reduceIte, Nat.reduceEqDiff]
 obtain ⟨l0, l1, l2, l5, l6⟩ := lL
 simp (decide := true) only [↓uR.o, dG.o, ja1, reduceIte, ↓ja0 l0, ↓ja0 l1, ↓ja0 l2, ↓ja0 l5, ↓ja0 l6, fld0, fld1, jd2 hb, jd0 hb, hix, ja9 hl, ja3 Tryz.func48 rfl rfl hcls, eq43, eq44, ja3 Tryz.func50 rfl rfl hr]
 rw [← hF, jb6 (l := [.bool r]) (by simp (decide := true) [Tryz.f27, resE, ja1])]
 rfl
theorem j9t {N : Nat} {hk : Hook} {d : Nat} {H H' : Heap} {a : Option Addr} {c : Nat} {s : List UInt8} {b t i : Nat} {r : Bool} (x : Ctx H a c s b) (hb : H.get b = some (cur a s.length c i)) (hi : i < s.length) (hcl : clsI s[i] = 6) (hh : NH hk)
   (hr : CG N hk (d + 1) 52 #[.pointer (some ⟨b, 0, none⟩), .pointer (some ⟨t, 0, none⟩)] H = some (.ret (.bool r), H')) :
   CG N hk (d + 2) 27 #[.pointer (some ⟨b, 0, none⟩), .pointer (some ⟨t, 0, none⟩)] H = some (.ret (.bool r), H') := by
 refine (jc2 (hh _ _ _ rfl) Tryz.func27 (c := codeOf Tryz.f27) rfl rfl rfl (pr := noPr) rfl).trans ?_
 rw [code27]
 generalize hF : finE PP Tryz.f27 = F
 have hcls := jo4 (N := N) (hk := hk) (d := d) x.gg s[i] (fun _ _ => hh _ _ _ rfl)
 rw [hcl] at hcls
 obtain ⟨y, rfl, hl⟩ := x.row.bts.cell i hi
 have hix := jc1 (n := s.length) (c := c) (a := y) hi
 have lL := lX7 Tryz.f27 0 1 2 5 7 10 11
 conv at lL in (occs := *) (rgnX _ _) => all_goals simp only [rX, opsAt, Tryz.f27, dL.o, reduceIte, Nat.reduceEqDiff]
 obtain ⟨l0, l1, l2, l5, l7, l10, l11⟩ := lL
 simp (decide := true) only [↓uR.o, dG.o, ja1, reduceIte, ↓ja0 l0, ↓ja0 l1, ↓ja0 l2, ↓ja0 l5, ↓ja0 l7, ↓ja0 l10, ↓ja0 l11, fld0, fld1, jd2 hb, jd0 hb, hix, ja9 hl, ja3 Tryz.func48 rfl rfl hcls, eq63, eq64, eq65, eq66, ja3 Tryz.func52 rfl rfl hr]
 rw [← hF, jb6 (l := [.bool r]) (by simp (decide := true) [Tryz.f27, resE, ja1])]
 rfl
structure Tk where
 kind : Int
 n : Int
 w : ByteArray
 from_ : Nat
 to_ : Nat
def Tk.cells (k : Tk) : List Value := [.int .i64 k.kind, .int .u64 k.n, .string k.w, .int .i64 (k.from_ : Int), .int .i64 (k.to_ : Int)]
def TkRow (H : Heap) (v : Value) (ts : List Tk) (lo : Nat) : Prop :=
 (ts = [] ∧ v = .slice none 0 0) ∨ (ts ≠ [] ∧ ∃ q, v = .slice (some ⟨q, 0, none⟩) ts.length ts.length ∧ H.get q = some ⟨ts.flatMap Tk.cells, true, 5, none⟩ ∧ lo ≤ q)
theorem j6a : ∀ ts : List Tk, (ts.flatMap Tk.cells).length = ts.length * 5
 | [] => rfl
 | k :: l => by simp [List.flatMap_cons, Tk.cells, j6a l]; omega
theorem undTs : PP.underlying 44 = some (.slice 49) := Tryz.underlying44
theorem infoT : ∃ i, PP.info? 49 = some i ∧ i.size = 5 ∧ i.bytes = 48 := by
 have h : (PP.info? 49).map (fun i => (i.size, i.bytes)) = some (5, 48) := by kernel_rfl
 cases hi : PP.info? 49 with
 | none => rw [hi] at h; cases h
 | some i => rw [hi] at h; simp at h; exact ⟨i, rfl, h.1, h.2⟩
theorem zeroT29 : zeroT PP 49 = some [.int .i64 0, .int .u64 0, .string .empty, .int .i64 0, .int .i64 0] := by kernel_rfl
theorem size29 : sizeT PP 49 = some 5 := by decide +kernel
theorem agg29 : aggT PP 49 = some true := by decide +kernel
theorem es29 : esT PP 49 = 1 := by decide +kernel
theorem esCur : esT PP 71 = 1 := by decide +kernel
theorem yf6 {H : Heap} {v : Value} {ts : List Tk} {lo q1 : Nat} (ho : TkRow H v ts lo) (hf : Fresh H) (hlo : lo ≤ H.next) (tk : Tk) (hq : H.get q1 = some ⟨tk.cells, true, 5, none⟩) (hn : ts.length ≤ 1048576) :
   ∃ v' H', appendA PP #[44, 44] v (.slice (some ⟨q1, 0, none⟩) 1 1) H = some (v', H') ∧ TkRow H' v' (ts ++ [tk]) lo ∧ (∀ z w, z < lo → H.get z = some w → H'.get z = some w) ∧ H.next ≤ H'.next ∧ Fresh H' := by
 obtain ⟨i, h1, h2, h3⟩ := infoT
 have src : srcCells H 5 (.slice (some ⟨q1, 0, none⟩) 1 1) = some (1, tk.cells) := by simp [srcCells, look, hq, Tk.cells]
 have hA : appendA PP #[44, 44] v (.slice (some ⟨q1, 0, none⟩) 1 1) H = app H 5 48 v 1 tk.cells := by
   simp only [appendA]
   simp [h1, h2, h3, zeroT29, src]
 rw [hA]
 have al : ∀ (G : Heap) (cells : List Value), Fresh G → Fresh (G.alloc 5 cells) := fun G cells hG z hz => by
   have hz' : G.next + 1 ≤ z := hz
   rw [Heap.get_alloc, if_neg (by omega)]; exact hG z (by omega)
 rcases ho with ⟨rfl, rfl⟩ | ⟨hne, q, rfl, hg, hlq⟩
 · refine ⟨_, _, by simp only [app]; rw [if_neg (by decide), if_pos (by decide)]; rfl, .inr ⟨by simp, H.next, rfl, ?_, hlo⟩, fun z w hz hg => ?_, Nat.le_succ _, al _ _ hf⟩
   · rw [Heap.get_alloc, if_pos rfl]; simp
   · rw [Heap.get_alloc, if_neg (by omega)]; exact hg
 · have hlen : ts.length ≠ 0 := by simpa using hne
   have hl5 := j6a ts
   have hlk : look H ⟨q, 0, none⟩ = some ⟨ts.flatMap Tk.cells, true, 5, none⟩ := by simp [look, hg]
   have hp : tk.cells.all Value.oneCell' = true := rfl
   have hqn : q < H.next := by
     by_cases c : H.next ≤ q
     · rw [hf q c] at hg; cases hg
     · omega
   have fd : Fresh (H.drop q) := fun z hz => by
     have hz' : H.next ≤ z := hz
     rw [Heap.get_drop]; split
     · rfl
     · exact hf z hz'
   refine ⟨_, (H.drop q).alloc 5 ((ts ++ [tk]).flatMap Tk.cells), ?_, .inr ⟨by simp, H.next, rfl, ?_, hlo⟩, fun z w hz hg => ?_, Nat.le_succ _, al (H.drop q) _ fd⟩
   · simp only [app, hlk]
     rw [if_pos ⟨trivial, trivial, by simp only [Nat.zero_add]; rw [hl5]; exact Nat.le_refl _, hp, by unfold most; omega, by unfold most; omega⟩, if_neg (by omega)]
     have e1 : (List.drop 0 (ts.flatMap Tk.cells)).take (ts.length * 5) = ts.flatMap Tk.cells := by rw [List.drop_zero, ← hl5, List.take_length]
     simp only [e1, mkRow, List.flatMap_append, List.length_append, List.length_cons, List.length_nil]
     have e2 : List.flatMap Tk.cells [tk] = tk.cells := by simp
     rw [e2]; rfl
   · rw [Heap.get_alloc]; exact if_pos rfl
   · rw [Heap.get_alloc, if_neg (by show ¬ z = H.next; omega), Heap.get_drop, if_neg (by omega)]; exact hg
theorem j6b (i : Int) : buildA PP 49 #[(3, .int .i64 i)] = some (.agg #[.int .i64 0, .int .u64 0, .string .empty, .int .i64 i, .int .i64 0]) := by kernel_rfl
theorem ym5 (a : Option Addr) (n c : Nat) : buildA PP 71 #[(0, .slice a n c)] = some (.agg #[.slice a n c, .int .i64 0]) := by kernel_rfl
theorem y3y (H : Heap) (a : Option Addr) (n c : Nat) : boxA PP 71 (.agg #[.slice a n c, .int .i64 0]) H = some (.pointer (some ⟨H.next, 0, none⟩), H.alloc 1 [.slice a n c, .int .i64 0]) := by simp only [boxA, esCur, mk, Value.cells]
theorem j6c (H : Heap) : allocA PP 49 H = some (.pointer (some ⟨H.next, 0, none⟩), H.alloc 1 [.int .i64 0, .int .u64 0, .string .empty, .int .i64 0, .int .i64 0]) := by simp only [allocA, zeroT29, es29, mk]
theorem j6d {H : Heap} {b : Nat} {k n f e k' n' f' e' : Int} {w w' : ByteArray} (h : H.get b = some (tok k n w f e)) : storeA PP 49 (.pointer (some ⟨b, 0, none⟩)) (.agg #[.int .i64 k', .int .u64 n', .string w', .int .i64 f', .int .i64 e']) H = some (undef, H.set b (tok k' n' w' f' e')) := by
 simp only [storeA, size29, stV]
 simp [Value.cells, st, look, h, tok, over, Value.oneCell']
theorem y0m {H : Heap} {b : Nat} {k n f e : Int} {w : ByteArray} (h : H.get b = some (tok k n w f e)) : loadA PP 49 (.pointer (some ⟨b, 0, none⟩)) H = some (.agg #[.int .i64 k, .int .u64 n, .string w, .int .i64 f, .int .i64 e], H) := by
 simp only [loadA, agg29, size29]
 simp [ldN, look, h, tok]
theorem yf7 (H : Heap) (k n f e : Int) (w : ByteArray) : buildSliceA PP 44 1 #[(0, .agg #[.int .i64 k, .int .u64 n, .string w, .int .i64 f, .int .i64 e])] H = some (.slice (some ⟨H.next, 0, none⟩) 1 1, H.alloc 5 [.int .i64 k, .int .u64 n, .string w, .int .i64 f, .int .i64 e]) := by
 have hf : Instr.fill (fun i => some (i * 5, 5)) (zeroRow [.int .i64 0, .int .u64 0, .string .empty, .int .i64 0, .int .i64 0] (1 * 5)).toArray [(0, .agg #[.int .i64 k, .int .u64 n, .string w, .int .i64 f, .int .i64 e])] = some #[.int .i64 k, .int .u64 n, .string w, .int .i64 f, .int .i64 e] := by rfl
 simp only [buildSliceA, undTs, size29, zeroT29, mkRow, hf]
 simp
theorem Lexd.trans {A B C : Heap} {b t : Nat} {x y x' y' : Blk} (h : Lexd A B b x t y) (k : Lexd B C b x' t y') : Lexd A C b x' t y' :=
 ⟨Nat.le_trans h.next k.next, k.one, k.two, fun z w h1 h2 hz => k.there z w h1 h2 (h.there z w h1 h2 hz), k.fresh⟩
theorem j3k {H H1 : Heap} {b : Nat} {a : Option Addr} {n c i : Nat} (h : Curs H H1 b a n c i) (hf : Fresh H) (hb : b < H.next) (cs : List Value) (y : Blk) : Lexd H ((H1.alloc 1 cs).set H1.next y) b (cur a n c i) H1.next y := by
 have hn := h.next
 refine ⟨by show H.next ≤ H1.next + 1; omega, ?_, jv8 _ _ _, fun z w h1 h2 hz => ?_, fun z hz => ?_⟩
 · rw [Heap.get_set, if_neg (by omega), Heap.get_alloc, if_neg (by omega)]; exact h.here
 · rw [Heap.get_set, if_neg h2, Heap.get_alloc, if_neg h2, h.there z h1]; exact hz
 · have hz' : H1.next + 1 ≤ z := hz
   rw [Heap.get_set, if_neg (by omega), Heap.get_alloc, if_neg (by omega), h.there z (by omega)]; exact hf z (by omega)
structure TS (H0 H : Heap) (b : Nat) (a : Option Addr) (n c i : Nat) (v : Value) (ts : List Tk) : Prop where
 ext : Ext H0 H
 here : H.get b = some (cur a n c i)
 lb : H0.next ≤ b
 bl : b < H.next
 out : TkRow H v ts (b + 1)
theorem TS.ctx {H0 H : Heap} {b : Nat} {a : Option Addr} {c i : Nat} {s : List UInt8} {v : Value} {ts : List Tk} (h : TS H0 H b a s.length c i v ts) (hG : Ext GE H0) (hr : Brow H0 a s) : Ctx H a c s b :=
 ⟨hG.trans h.ext, Nat.le_trans hG.next h.lb, h.bl, hr.ext h.ext, fun q hq e => by
   obtain ⟨z, h1, _⟩ := hr.row q hq
   have := h.lb
   unfold look at h1
   split at h1
   · cases h1
   · rw [e, hG.fresh b h.lb] at h1; cases h1⟩
def LexOk (N : Nat) (hk : Hook) (d : Nat) (a : Option Addr) (c : Nat) (s : List UInt8) (tk : Tk) : Prop :=
 ∀ H b t, Ctx H a c s b → H.get b = some (cur a s.length c tk.from_) → H.get t = some (tok 0 0 .empty (tk.from_ : Int) 0) → t ≠ b → t < H.next → GE.next ≤ t → (∀ q, a = some q → q.block ≠ t) →
   ∃ H', Lexd H H' b (cur a s.length c tk.to_) t (tok tk.kind tk.n tk.w (tk.from_ : Int) 0) ∧ CG N hk d 27 #[.pointer (some ⟨b, 0, none⟩), .pointer (some ⟨t, 0, none⟩)] H = some (.ret (.bool true), H')
def LexBad (N : Nat) (hk : Hook) (d : Nat) (a : Option Addr) (c : Nat) (s : List UInt8) (i e : Nat) : Prop :=
 ∀ H b t, Ctx H a c s b → H.get b = some (cur a s.length c i) → H.get t = some (tok 0 0 .empty (i : Int) 0) → t ≠ b → t < H.next → GE.next ≤ t → (∀ q, a = some q → q.block ≠ t) →
   ∃ H' y, Lexd H H' b (cur a s.length c e) t y ∧ CG N hk d 27 #[.pointer (some ⟨b, 0, none⟩), .pointer (some ⟨t, 0, none⟩)] H = some (.ret (.bool false), H')
inductive TRun (s : List UInt8) (ok : Tk → Prop) (bad : Nat → Nat → Prop) : Nat → List Tk → Option Nat → Prop
 | stop (i : Nat) (h : ¬ skipTo s (s.length - i) i < s.length) : TRun s ok bad i [] none
 | wrong (i e : Nat) (h : skipTo s (s.length - i) i < s.length) (hb : bad (skipTo s (s.length - i) i) e) : TRun s ok bad i [] (some e)
 | step (i : Nat) (tk : Tk) (l : List Tk) (r : Option Nat) (h : skipTo s (s.length - i) i < s.length) (hf : tk.from_ = skipTo s (s.length - i) i) (ht : tk.to_ ≤ s.length) (hl : ok tk) (hr : TRun s ok bad tk.to_ l r) : TRun s ok bad i (tk :: l) r
theorem code12 : codeOf Tryz.f12 = .seq (rF Tryz.f12 0) (.seq (.seq (rF Tryz.f12 1) (.cond (.tmp 10) (.seq (rF Tryz.f12 2) .ret) .skip)) (.seq (rF Tryz.f12 3) (.seq (rF Tryz.f12 4) (.seq (.block 0 (.loop (.seq (.seq (rF Tryz.f12 5) (.cond (.tmp 15) .skip (.exit 0))) (.block 1 (.seq (rF Tryz.f12 6) (.seq (.seq (rF Tryz.f12 7) (.cond (.tmp 23) (.seq (rT Tryz.f12 8) .ret) .skip)) (.seq (rF Tryz.f12 9) (rF Tryz.f12 10)))))))) (.seq (rF Tryz.f12 11) .ret))))) := by kernel_rfl
theorem yf8 : unA PP .not (.bool false) = some (.bool true) := by kernel_rfl
theorem yf9 : unA PP .not (.bool true) = some (.bool false) := by kernel_rfl
theorem j7y (s x : Value) (H : Heap) (k : Value → Heap → R) : builtinK PP .append #[44, 44] #[s, x] H k = bindV (appendA PP #[44, 44] s x H) k := by simp [builtinK]
section
variable {N : Nat} {hk : Hook} {d : Nat} {H0 : Heap} {a : Option Addr} {c : Nat} {s : List UInt8} {b : Nat} {Q : R → Prop} {k : KOE}
theorem ym6 (hG : Ext GE H0) (hr : Brow H0 a s) (hh : NH hk) (hN : s.length < N) {H : Heap} {i : Nat} {v : Value} {ts : List Tk} (h : TS H0 H b a s.length c i v ts) (hi : i ≤ s.length) :
   ∃ H1, Curs H H1 b a s.length c (skipTo s (s.length - i) i) ∧ TS H0 H1 b a s.length c (skipTo s (s.length - i) i) v ts ∧ CG N hk (d + 4) 26 #[.pointer (some ⟨b, 0, none⟩)] H = some (.ret (.bool (decide (skipTo s (s.length - i) i < s.length))), H1) := by
 have x := h.ctx hG hr
 obtain ⟨H1, h1, h2⟩ := ym0 (N := N) (hk := hk) (d := d + 1) x ⟨rfl, h.here, fun _ _ => rfl⟩ hh hi hN
 have g := h1.gg x
 refine ⟨H1, h1, ⟨⟨by rw [h1.next]; exact h.ext.next, fun z w hz => ?_, g.fresh⟩, h1.here, h.lb, by rw [h1.next]; exact h.bl, ?_⟩, h2⟩
 · have hzb : z ≠ b := fun e => by rw [e, hG.fresh b h.lb] at hz; cases hz
   rw [h1.there z hzb]; exact h.ext.keep z w hz
 · rcases h.out with o | ⟨o1, q, o2, o3, o4⟩
   · exact .inl o
   · exact .inr ⟨o1, q, o2, by rw [h1.there q (by omega)]; exact o3, o4⟩
theorem y3z (hG : Ext GE H0) (hr : Brow H0 a s) (hh : NH hk) (hN : s.length < N) {H : Heap} {i : Nat} {v : Value} {ts : List Tk} {E : Env} (h : TS H0 H b a s.length c i v ts) (hi : i ≤ s.length) (e5 : E 5 = .pointer (some ⟨b, 0, none⟩)) (e6 : E 6 = v)
   (hs : ¬ skipTo s (s.length - i) i < s.length) (hx : ∀ E' H', E' 6 = v → TS H0 H' b a s.length c (skipTo s (s.length - i) i) v ts → Q (k (.exit 0) E' [] H')) :
   Q (execG PP XX (CG N hk (d + 4)) N noPr (.seq (.seq (rF Tryz.f12 5) (.cond (.tmp 15) .skip (.exit 0))) (.block 1 (.seq (rF Tryz.f12 6) (.seq (.seq (rF Tryz.f12 7) (.cond (.tmp 23) (.seq (rT Tryz.f12 8) .ret) .skip)) (.seq (rF Tryz.f12 9) (rF Tryz.f12 10)))))) none E [] H k) := by
 obtain ⟨H1, _, h2, h3⟩ := ym6 (d := d) hG hr hh hN h hi
 rw [decide_eq_false hs] at h3
 have l5 := tl (rgn Tryz.f12 5)
 conv at l5 => rhs; simp only [rgn, opsAt, codeOf, Tryz.f12, gS, gN, reduceIte, Nat.reduceEqDiff, tA]
 simp (decide := true) only [↓uR.o, dG.o, ja1, reduceIte, ↓ja0 l5, e5, ja3 Tryz.func26 rfl rfl h3]
 exact hx _ H1 (e6) h2
theorem y0n (hG : Ext GE H0) (hr : Brow H0 a s) (hh : NH hk) (hN : s.length < N) {H : Heap} {i e : Nat} {v : Value} {ts : List Tk} {E : Env} (h : TS H0 H b a s.length c i v ts) (hi : i ≤ s.length) (e5 : E 5 = .pointer (some ⟨b, 0, none⟩))
   (hs : skipTo s (s.length - i) i < s.length) (hb : LexBad N hk (d + 4) a c s (skipTo s (s.length - i) i) e) (hx : ∀ E' H', E' 2 = .slice none 0 0 → E' 3 = .int .i64 (e : Int) → E' 4 = .int .i64 60 → Ext H0 H' → Q (k .ret E' [] H')) :
   Q (execG PP XX (CG N hk (d + 4)) N noPr (.seq (.seq (rF Tryz.f12 5) (.cond (.tmp 15) .skip (.exit 0))) (.block 1 (.seq (rF Tryz.f12 6) (.seq (.seq (rF Tryz.f12 7) (.cond (.tmp 23) (.seq (rT Tryz.f12 8) .ret) .skip)) (.seq (rF Tryz.f12 9) (rF Tryz.f12 10)))))) none E [] H k) := by
 obtain ⟨H1, h1, h2, h3⟩ := ym6 (d := d) hG hr hh hN h hi
 rw [decide_eq_true hs] at h3
 have x0 := h.ctx hG hr
 have st := j3k h1 x0.gg.fresh h.bl [.int .i64 0, .int .u64 0, .string .empty, .int .i64 0, .int .i64 0] (tok 0 0 .empty (skipTo s (s.length - i) i : Nat) 0)
 have g0 : (H1.alloc 1 [.int .i64 0, .int .u64 0, .string .empty, .int .i64 0, .int .i64 0]).get H1.next = some (tok 0 0 .empty 0 0) := by rw [Heap.get_alloc]; exact if_pos rfl
 have hlt : H.next = H1.next := h1.next.symm
 have hbl := h.bl
 have hnt : ∀ q, a = some q → q.block ≠ H1.next := fun q hq e' => by
   obtain ⟨z, z1, _⟩ := x0.row.row q hq
   unfold look at z1
   split at z1
   · cases z1
   · rw [e', x0.gg.fresh _ (by omega)] at z1; cases z1
 have gl : GE.next ≤ H1.next := by have := x0.low; omega
 have x3 : Ctx ((H1.alloc 1 [.int .i64 0, .int .u64 0, .string .empty, .int .i64 0, .int .i64 0]).set H1.next (tok 0 0 .empty (skipTo s (s.length - i) i : Nat) 0)) a c s b := ⟨st.gg x0 gl, x0.low, by show b < H1.next + 1; omega, st.row x0 hnt, x0.ne⟩
 obtain ⟨H4, y, h4, hc⟩ := hb _ b H1.next x3 st.one st.two (by omega) (by show H1.next < H1.next + 1; omega) gl hnt
 have l4 := st.trans h4
 have lL := lX4 Tryz.f12 5 6 7 8
 conv at lL in (occs := *) (rgnX _ _) => all_goals simp only [rX, opsAt, Tryz.f12, dL.o, reduceIte, Nat.reduceEqDiff]
 obtain ⟨l5, l6, l7, l8⟩ := lL
 simp (decide := true) only [↓uR.o, dG.o, ja1, ja5, reduceIte, ↓ja0 l5, ↓ja0 l6, ↓ja0 l7, ↓ja0 l8, e5, ja3 Tryz.func26 rfl rfl h3, fld1, jd0 h2.here, j6b, j6c, j6d g0, ja3 Tryz.func27 rfl rfl hc, yf8, jd0 h4.one]
 exact hx _ H4 (by simp (decide := true) only [ja1, reduceIte]) (by simp (decide := true) only [ja1, reduceIte]) (by simp (decide := true) only [ja1, reduceIte])
   ⟨Nat.le_trans h.ext.next l4.next, fun z w hz => l4.there z w (fun e' => by rw [e', hG.fresh b h.lb] at hz; cases hz) (fun e' => by rw [e', hG.fresh _ (by have := h.ext.next; omega)] at hz; cases hz) (h.ext.keep z w hz), l4.fresh⟩
theorem y30 (hG : Ext GE H0) (hr : Brow H0 a s) (hh : NH hk) (hN : s.length < N) {H : Heap} {i : Nat} {v : Value} {ts : List Tk} {tk : Tk} {E : Env} (h : TS H0 H b a s.length c i v ts) (hi : i ≤ s.length) (e5 : E 5 = .pointer (some ⟨b, 0, none⟩)) (e6 : E 6 = v) (hts : ts.length ≤ 1048576)
   (hs : skipTo s (s.length - i) i < s.length) (hfr : tk.from_ = skipTo s (s.length - i) i) (hb : LexOk N hk (d + 4) a c s tk) (hx : ∀ E' H' v', E' 5 = .pointer (some ⟨b, 0, none⟩) → E' 6 = v' → TS H0 H' b a s.length c tk.to_ v' (ts ++ [tk]) → Q (k .norm E' [] H')) :
   Q (execG PP XX (CG N hk (d + 4)) N noPr (.seq (.seq (rF Tryz.f12 5) (.cond (.tmp 15) .skip (.exit 0))) (.block 1 (.seq (rF Tryz.f12 6) (.seq (.seq (rF Tryz.f12 7) (.cond (.tmp 23) (.seq (rT Tryz.f12 8) .ret) .skip)) (.seq (rF Tryz.f12 9) (rF Tryz.f12 10)))))) none E [] H k) := by
 obtain ⟨H1, h1, h2, h3⟩ := ym6 (d := d) hG hr hh hN h hi
 rw [decide_eq_true hs] at h3
 have x0 := h.ctx hG hr
 rw [← hfr] at h1 h2
 have st := j3k h1 x0.gg.fresh h.bl [.int .i64 0, .int .u64 0, .string .empty, .int .i64 0, .int .i64 0] (tok 0 0 .empty (tk.from_ : Int) 0)
 have g0 : (H1.alloc 1 [.int .i64 0, .int .u64 0, .string .empty, .int .i64 0, .int .i64 0]).get H1.next = some (tok 0 0 .empty 0 0) := by rw [Heap.get_alloc]; exact if_pos rfl
 have hlt : H.next = H1.next := h1.next.symm
 have hbl := h.bl
 have hnt : ∀ q, a = some q → q.block ≠ H1.next := fun q hq e' => by
   obtain ⟨z, z1, _⟩ := x0.row.row q hq
   unfold look at z1
   split at z1
   · cases z1
   · rw [e', x0.gg.fresh _ (by omega)] at z1; cases z1
 have gl : GE.next ≤ H1.next := by have := x0.low; omega
 have x3 : Ctx ((H1.alloc 1 [.int .i64 0, .int .u64 0, .string .empty, .int .i64 0, .int .i64 0]).set H1.next (tok 0 0 .empty (tk.from_ : Int) 0)) a c s b := ⟨st.gg x0 gl, x0.low, by show b < H1.next + 1; omega, st.row x0 hnt, x0.ne⟩
 obtain ⟨H4, h4, hc⟩ := hb _ b H1.next x3 st.one st.two (by omega) (by show H1.next < H1.next + 1; omega) gl hnt
 have l4 := st.trans h4
 have n4 : H1.next < H4.next := Nat.lt_of_lt_of_le (by show H1.next < H1.next + 1; omega) h4.next
 have m5 := l4.set2 (by omega) n4 (tok tk.kind tk.n tk.w (tk.from_ : Int) (tk.to_ : Int))
 generalize hH5 : H4.set H1.next (tok tk.kind tk.n tk.w (tk.from_ : Int) (tk.to_ : Int)) = H5 at m5
 have q1 : (H5.alloc 5 [.int .i64 tk.kind, .int .u64 tk.n, .string tk.w, .int .i64 (tk.from_ : Int), .int .i64 (tk.to_ : Int)]).get H5.next = some ⟨tk.cells, true, 5, none⟩ := by rw [Heap.get_alloc, if_pos rfl]; rfl
 have n5 : H.next ≤ H5.next := m5.next
 have f6 : Fresh (H5.alloc 5 [.int .i64 tk.kind, .int .u64 tk.n, .string tk.w, .int .i64 (tk.from_ : Int), .int .i64 (tk.to_ : Int)]) := (Ext.alloc m5.fresh 5 _).fresh
 have o6 : TkRow (H5.alloc 5 [.int .i64 tk.kind, .int .u64 tk.n, .string tk.w, .int .i64 (tk.from_ : Int), .int .i64 (tk.to_ : Int)]) v ts (b + 1) := by
   rcases h.out with o | ⟨o1, q, o2, o3, o4⟩
   · exact .inl o
   · have hqn : q < H.next := by
       by_cases cq : H.next ≤ q
       · rw [x0.gg.fresh q cq] at o3; cases o3
       · omega
     exact .inr ⟨o1, q, o2, by rw [Heap.get_alloc, if_neg (by omega)]; exact m5.there q _ (by omega) (by omega) o3, o4⟩
 obtain ⟨v', H7, a1, a2, a3, a4, a5⟩ := yf6 (lo := b + 1) o6 f6 (by show b + 1 ≤ H5.next + 1; omega) tk q1 hts
 have two5 := m5.two
 have one5 := m5.one
 have lL := lX5 Tryz.f12 5 6 7 9 10
 conv at lL in (occs := *) (rgnX _ _) => all_goals simp only [rX, opsAt, Tryz.f12, dL.o, reduceIte, Nat.reduceEqDiff]
 obtain ⟨l5, l6, l7, l9, l10⟩ := lL
 simp (decide := true) only [↓uR.o, dG.o, ja1, ja5, reduceIte, ↓ja0 l5, ↓ja0 l6, ↓ja0 l7, ↓ja0 l9, ↓ja0 l10, e5, e6, ja3 Tryz.func26 rfl rfl h3, fld1, jd0 h2.here, j6b, j6c, j6d g0, ja3 Tryz.func27 rfl rfl hc, yf9, jd0 h4.one, tf4, ym2 h4.two, hH5, y0m two5, yf7, j7y, a1]
 refine hx _ H7 v' (e5) (by simp (decide := true) only [ja1, reduceIte]) ⟨⟨?_, fun z w hz => ?_, a5⟩, ?_, h.lb, ?_, a2⟩
 · have := h.ext.next
   have n6 : H5.next + 1 ≤ H7.next := a4
   omega
 · have hzb : z < b := by
     have := h.lb
     by_cases cz : H0.next ≤ z
     · rw [hG.fresh z cz] at hz; cases hz
     · omega
   refine a3 z w (by omega) ?_
   rw [Heap.get_alloc, if_neg (by omega)]
   exact m5.there z w (by omega) (by omega) (h.ext.keep z w hz)
 · refine a3 b _ (by omega) ?_
   rw [Heap.get_alloc, if_neg (by omega)]; exact one5
 · have n6 : H5.next + 1 ≤ H7.next := a4
   omega
end
theorem Tr.put_put {α : Type} : ∀ (f : Nat) (t : Tr α) (n : Nat) (x y : Option α), n < f → Tr.put f (Tr.put f t n x) n y = Tr.put f t n y := by
 intro f
 induction f with
 | zero => intro t n x y h; omega
 | succ f ih =>
   intro t n x y h
   by_cases h0 : n = 0
   · subst h0
     cases t <;> simp [Tr.put]
   · by_cases h1 : n % 2 = 1
     · cases t <;> simp only [Tr.put, h0, h1, if_false, if_true] <;> rw [ih _ _ _ _ (by omega)]
     · cases t <;> simp only [Tr.put, h0, h1, if_false] <;> rw [ih _ _ _ _ (by omega)]
theorem Heap.set_set (H : Heap) (b : Nat) (x y : Blk) : (H.set b x).set b y = H.set b y := by
 simp only [Heap.set, Tr.set]
 rw [Tr.put_put _ _ _ _ _ (Nat.lt_succ_self b)]
theorem Heap.next_set (H : Heap) (b : Nat) (x : Blk) : (H.set b x).next = H.next := rfl
def finDG (P : Program) (fn : Func) (u : FrameMode) (kd : End → FrameMode → Heap → R) : KOE := fun o E ds H =>
 match o with
 | .norm | .ret => match ds with
   | [] => match resE P E H fn.results.toList with | some l => kd (.ret (oneOf l)) u H | none => none
   | _ => none
 | .pan c => match ds with | [] => kd (.pan c) u H | _ => none
 | _ => none
def bodyG (P : Program) (X : Xf) (K : Kf) (N : Nat) (pr : Nat → List (Nat × Nat)) (fn : Func) (c : Code) (args : Array Value) (u : FrameMode) (H : Heap) (kd : End → FrameMode → Heap → R) : R :=
 match c with
 | .seq (.region _ ops false) rest => match ops.toList with
   | o :: os => cond (isRec o)
     (execOpsE P X K ops os (upd (startE args) o.dst (recM u).1) [] H (fun E ds H => execG P X K N pr rest none E ds H (finDG P fn (recM u).2 kd)) (fun c E ds H => finDG P fn (recM u).2 kd (.pan c) E ds H))
     (execG P X K N pr c none (startE args) [] H (finDG P fn u kd))
   | [] => execG P X K N pr c none (startE args) [] H (finDG P fn u kd)
 | c => execG P X K N pr c none (startE args) [] H (finDG P fn u kd)
def goodB (P : Program) (pr : Nat → List (Nat × Nat)) (n : Nat) (c : Code) : Bool :=
 match c with
 | .seq (.region _ ops false) rest => match ops.toList with
   | o :: os => cond (isRec o) (dstOk n o && (os.all (opsOk P n ops) && goodG P pr n rest)) (goodG P pr n c)
   | [] => goodG P pr n c
 | c => goodG P pr n c
def leaveG (P : Program) (okb : FuncId → Bool) (prf : FuncId → Nat → List (Nat × Nat)) (X : Xf) (K : Kf) (N : Nat) (fn : Func) (wk : Bool) (E : Env) : List Deferred → FrameMode → Heap → R
 | [], .returning, H => match resE P E H fn.results.toList with | some l => cond (wk && l.any isUndef) none (some (.ret (oneOf l), H)) | none => none
 | [], .panicking c, H => some (.pan c, H)
 | [], .run, _ => none
 | _ :: _, .run, _ => none
 | d :: ds, u, H => match d.target with
   | .fn (.func g) cap => match P.funcs[g]? with
     | some gn => if gn.name == "runtime.NumGoroutine" then none else match gn.body with
       | some c => cond (okb g && Nat.ble (d.args ++ cap).size gn.ntmps) (bodyG P X K N (prf g) gn c (d.args ++ cap) u H fun e u' H' => match e with
         | .ret _ => match settleA u' with | some u2 => leaveG P okb prf X K N fn wk E ds u2 H' | none => none
         | .pan ch => leaveG P okb prf X K N fn wk E ds (raised u' ch) H') none
       | none => none
     | none => none
   | _ => none
def finG (P : Program) (okb : FuncId → Bool) (prf : FuncId → Nat → List (Nat × Nat)) (X : Xf) (K : Kf) (N : Nat) (fn : Func) : KOE := fun o E ds H =>
 match o with
 | .norm | .ret => leaveG P okb prf X K N fn false E ds .returning H
 | .pan c => leaveG P okb prf X K N fn true E ds (.panicking c) H
 | _ => none
theorem j1y {P : Program} {n : Nat} {fn : Func} {r : End × Heap} {u : FrameMode} {kd kd' : End → FrameMode → Heap → R} (h : ∀ e u H, kd e u H = some r → kd' e u H = some r) : KSoE n r (finDG P fn u kd) (finD P fn u kd') := by
 intro o E ds a H hs he
 unfold finD
 unfold finDG at he
 rw [hs.ds]
 cases o with
 | norm | ret =>
   simp only at he ⊢
   split at he
   · rw [j4e hs] at he
     split at he
     · rename_i l hl; rw [hl]; exact h _ _ _ he
     · cases he
   · cases he
 | pan c =>
   simp only at he ⊢
   split at he
   · exact h _ _ _ he
   · cases he
 | _ => cases he
theorem j6e {P : Program} {X : Xf} {K K' : Kf} (hK : KLe K K') {N : Nat} {pr : Nat → List (Nat × Nat)} {fn : Func} {c : Code} {args : Array Value} {u : FrameMode} {H : Heap} {r : End × Heap} {kd kd' : End → FrameMode → Heap → R}
   (hg : goodB P pr fn.ntmps c = true) (ha : args.size ≤ fn.ntmps) (h : ∀ e u H, kd e u H = some r → kd' e u H = some r) (he : bodyG P X K N pr fn c args u H kd = some r) : bodyD P X K' N fn c args u H kd' = some r := by
 have plain : ∀ c, goodG P pr fn.ntmps c = true → execG P X K N pr c none (startE args) [] H (finDG P fn u kd) = some r → exec P X K' N c none (act0 fn args) H (finD P fn u kd') = some r := fun c hg he =>
   je6 hK c hg none _ _ (j1y h) (startE args) [] _ H (j1q ha) he
 unfold bodyD
 unfold bodyG at he
 unfold goodB at hg
 split at he
 · rename_i i ops rest
   simp only at hg ⊢
   split at he
   · rename_i o os ho
     rw [ho] at hg
     simp only [ho] at hg ⊢
     cases hr : isRec o with
     | false =>
       rw [hr] at he hg
       exact plain _ hg he
     | true =>
       rw [hr] at he hg
       simp only [cond_true, Bool.and_eq_true] at he hg ⊢
       exact jl7 (k' := fun a H => exec P X K' N rest none a H (finD P fn (recM u).2 kd')) (kp' := fun c a H => finD P fn (recM u).2 kd' (.pan c) a H) hK
         (fun E ds a H hs h' => je6 hK rest hg.2.2 none _ _ (j1y h) E ds a H hs h') (fun c E ds a H hs h' => j1y h (.pan c) E ds a H hs h') os (fun x hx => List.all_eq_true.mp hg.2.1 x hx)
         _ _ _ _ ((j1q ha).put hg.1 _) he
   · rename_i ho
     rw [ho] at hg
     simp only [ho] at hg ⊢
     exact plain _ hg he
 · rename_i hne
   split
   · rename_i i ops rest
     exact absurd rfl (hne i ops rest)
   · rename_i hne2
     split at hg
     · rename_i i ops rest
       exact absurd rfl (hne i ops rest)
     · exact plain _ hg he
theorem jh8 {P : Program} {okb : FuncId → Bool} {prf : FuncId → Nat → List (Nat × Nat)} {X : Xf} {K K' : Kf} (hK : KLe K K') (hB : ∀ (f : FuncId) fn c, okb f = true → P.funcs[f]? = some fn → fn.body = some c → goodB P (prf f) fn.ntmps c = true)
   {N n : Nat} {fn : Func} {wk : Bool} {E : Env} {ds0 : List Deferred} {a : Act} (hs : SimE n E ds0 a) {r : End × Heap} : ∀ (ds : List Deferred) (u : FrameMode) (H : Heap), leaveG P okb prf X K N fn wk E ds u H = some r → leave P X K' N fn wk a.tmps ds u H = some r
 | [], .returning, H, h => by unfold leave; unfold leaveG at h; rw [← j4e hs]; exact h
 | [], .panicking c, H, h => by unfold leave; unfold leaveG at h; exact h
 | [], .run, H, h => by unfold leaveG at h; cases h
 | _ :: _, .run, H, h => by unfold leaveG at h; cases h
 | d :: ds, .returning, H, h => by
   unfold leave
   unfold leaveG at h
   split at h
   · rename_i g cap ht
     simp only [ht]
     split at h
     · rename_i gn hg
       simp only [hg]
       split at h
       · cases h
       · rename_i hn
         rw [if_neg hn]
         split at h
         · rename_i c hc
           simp only [hc]
           cases ho : (okb g && Nat.ble (d.args ++ cap).size gn.ntmps) with
           | false => rw [ho] at h; cases h
           | true =>
             rw [ho] at h
             simp only [Bool.and_eq_true] at ho
             refine j6e hK (hB g gn c ho.1 hg hc) (Nat.le_of_ble_eq_true ho.2) (fun e u' H' he => ?_) h
             cases e with
             | ret v =>
               simp only at he ⊢
               split at he
               · rename_i u2 hu; simp only [hu]; exact jh8 hK hB hs ds u2 H' he
               · cases he
             | pan ch => exact jh8 hK hB hs ds _ H' he
         · cases h
     · cases h
   · cases h
 | d :: ds, .panicking pc, H, h => by
   unfold leave
   unfold leaveG at h
   split at h
   · rename_i g cap ht
     simp only [ht]
     split at h
     · rename_i gn hg
       simp only [hg]
       split at h
       · cases h
       · rename_i hn
         rw [if_neg hn]
         split at h
         · rename_i c hc
           simp only [hc]
           cases ho : (okb g && Nat.ble (d.args ++ cap).size gn.ntmps) with
           | false => rw [ho] at h; cases h
           | true =>
             rw [ho] at h
             simp only [Bool.and_eq_true] at ho
             refine j6e hK (hB g gn c ho.1 hg hc) (Nat.le_of_ble_eq_true ho.2) (fun e u' H' he => ?_) h
             cases e with
             | ret v =>
               simp only at he ⊢
               split at he
               · rename_i u2 hu; simp only [hu]; exact jh8 hK hB hs ds u2 H' he
               · cases he
             | pan ch => exact jh8 hK hB hs ds _ H' he
         · cases h
     · cases h
   · cases h
theorem y0o {P : Program} {okb : FuncId → Bool} {prf : FuncId → Nat → List (Nat × Nat)} {X : Xf} {K K' : Kf} (hK : KLe K K') (hB : ∀ (f : FuncId) fn c, okb f = true → P.funcs[f]? = some fn → fn.body = some c → goodB P (prf f) fn.ntmps c = true)
   {N n : Nat} {fn : Func} {r : End × Heap} : KSoE n r (finG P okb prf X K N fn) (finishR P X K' N fn) := by
 intro o E ds a H hs h
 unfold finishR
 unfold finG at h
 rw [hs.ds]
 cases o with
 | norm => exact jh8 hK hB hs ds _ H h
 | ret => exact jh8 hK hB hs ds _ H h
 | pan c => exact jh8 hK hB hs ds _ H h
 | _ => cases h
theorem y0p {P : Program} {pr : Nat → List (Nat × Nat)} {n : Nat} {c : Code} (h : goodG P pr n c = true) : goodB P pr n c = true := by
 unfold goodB
 split
 · rename_i i ops rest
   split
   · rename_i o os ho
     cases hr : isRec o with
     | false => exact h
     | true =>
       simp only [goodG, ho, List.all_cons, Bool.and_eq_true, Bool.not_false, Bool.true_or, and_true] at h
       simp only [cond_true, Bool.and_eq_true]
       have h1 := h.1.1
       simp only [opsOk, Bool.and_eq_true] at h1
       exact ⟨h1.2.1, h.1.2, h.2⟩
   · exact h
 · exact h
def callH (P : Program) (okf : FuncId → Bool) (prf : FuncId → Nat → List (Nat × Nat)) (X : Xf) (N : Nat) (hk : Hook) : Nat → Kf
 | 0 => fun _ _ _ => none
 | d + 1 => fun f args H =>
   match hk f args H with
   | some r => r
   | none =>
     match P.funcs[f]? with
     | some fn => match fn.body with
       | some c => cond (okf f && Nat.ble args.size fn.ntmps) (execG P X (callH P okf prf X N hk d) N (prf f) c none (startE args) [] H (finG P okf prf X (callH P okf prf X N hk d) N fn)) none
       | none => none
     | none => none
theorem j4j {P : Program} {okf : FuncId → Bool} {prf : FuncId → Nat → List (Nat × Nat)} (hg : GoodG P okf prf) {X : Xf} {N : Nat} {hk : Hook} : ∀ d, KLe (callH P okf prf X N hk d) (callR P X N hk d)
 | 0 => fun f args H r h => by cases h
 | d + 1 => fun f args H r h => by
   unfold callH at h
   unfold callR
   split at h
   · rename_i q e; simp only [e]; exact h
   · rename_i e
     simp only [e]
     split at h
     · rename_i fn hf
       simp only [hf]
       split at h
       · rename_i c hc
         simp only [hc]
         cases ho : (okf f && Nat.ble args.size fn.ntmps) with
         | false => rw [ho] at h; cases h
         | true =>
           rw [ho] at h
           simp only [Bool.and_eq_true] at ho
           exact je6 (j4j hg d) c (hg f fn c ho.1 hf hc) none _ _ (y0o (j4j hg d) (fun f fn c h1 h2 h3 => y0p (hg f fn c h1 h2 h3))) (startE args) [] _ H (j1q (Nat.le_of_ble_eq_true ho.2)) h
       · cases h
     · cases h
theorem j7z {P : Program} {okf : FuncId → Bool} {prf : FuncId → Nat → List (Nat × Nat)} (hg : GoodG P okf prf) {X : Xf} {N : Nat} {hk : Hook} (hX : XSnd P X) (hH : HookSnd P hk) (hm : P.follows .mixedOrders = true) (d : Nat) : KSnd P (callH P okf prf X N hk d) :=
 fun f args H r H' he => jt1 hX hH hm d f args H r H' (j4j hg d _ _ _ _ he)
/-! What the machine without defers answers, this one answers. -/
def KEle (r : End × Heap) (k k' : KE) : Prop := ∀ E ds H, k E ds H = some r → k' E ds H = some r
def KOle (r : End × Heap) (k k' : KOE) : Prop := ∀ o, KEle r (k o) (k' o)
theorem j9u {P : Program} {X : Xf} {K K' : Kf} (hK : KLe K K') {o : Oper} {E : Env} {ds : List Deferred} {H : Heap} {r : End × Heap} {k k' : KE} {kp kp' : List PanicEntry → KE}
   (hk : KEle r k k') (hp : ∀ c, KEle r (kp c) (kp' c)) (h : opE P X K o E ds H k kp = some r) : opE P X K' o E ds H k' kp' = some r := by
 unfold opE at h ⊢
 split at h
 · split at h
   · exact hk _ _ _ h
   · cases h
 · exact j4a hK (fun v H h => hk _ _ _ h) (fun c H h => hp c _ _ _ h) h
theorem j1z {ops : Array Oper} {o : Oper} {E : Env} {r : End × Heap} {run run' skip skip' : R} (h1 : run = some r → run' = some r) (h2 : skip = some r → skip' = some r) (h : guardE ops o E run skip = some r) : guardE ops o E run' skip' = some r := by
 unfold guardE at h ⊢
 split at h
 · exact h1 h
 · split at h
   · exact h2 h
   · split at h
     · rename_i want e1 d0 d e2 v b e3
       cases hb : (b == want) with
       | true => rw [hb] at h; exact h1 h
       | false => rw [hb] at h; exact h2 h
     · exact h2 h
     · cases h
theorem jj6 {P : Program} {X : Xf} {K K' : Kf} (hK : KLe K K') {ops : Array Oper} {r : End × Heap} {k k' : KE} {kp kp' : List PanicEntry → KE} (hk : KEle r k k') (hp : ∀ c, KEle r (kp c) (kp' c)) :
   ∀ (l : List Oper) (E : Env) (ds : List Deferred) (H : Heap), execOpsE P X K ops l E ds H k kp = some r → execOpsE P X K' ops l E ds H k' kp' = some r
 | [], E, ds, H, h => hk _ _ _ h
 | o :: rest, E, ds, H, h => j1z (fun h => j9u hK (fun E ds H h => jj6 hK hk hp rest E ds H h) hp h) (fun h => jj6 hK hk hp rest _ _ _ h) h
theorem jq2 {P : Program} {X : Xf} {K K' : Kf} (hK : KLe K K') {ops : Array Oper} {r : End × Heap} {k k' : List (Env × Heap) → KE} {kp kp' : List PanicEntry → KE} (hk : ∀ tr, KEle r (k tr) (k' tr)) (hp : ∀ c, KEle r (kp c) (kp' c)) :
   ∀ (l : List Oper) (E : Env) (ds : List Deferred) (H : Heap) (tr : List (Env × Heap)), execTrF P X K ops l E ds H tr k kp = some r → execTrF P X K' ops l E ds H tr k' kp' = some r
 | [], E, ds, H, tr, h => hk _ _ _ _ h
 | o :: rest, E, ds, H, tr, h => j1z (fun h => j9u hK (fun E ds H h => jq2 hK hk hp rest E ds H _ h) hp h) (fun h => jq2 hK hk hp rest _ _ _ _ h) h
def BEle (r : End × Heap) (b b' : Env → List Deferred → Heap → KOE → R) : Prop := ∀ k k', KOle r k k' → ∀ E ds H, b E ds H k = some r → b' E ds H k' = some r
theorem jn1 {r : End × Heap} {b b' : Env → List Deferred → Heap → KOE → R} (hb : BEle r b b') {k k' : KOE} (hk : KOle r k k') : KOle r (thenE b k) (thenE b' k') := by
 intro o E ds H h
 cases o with
 | norm => exact hb k k' hk _ _ _ h
 | _ => exact hk _ _ _ _ h
theorem jz7 {r : End × Heap} {b b' : Env → List Deferred → Heap → KOE → R} (hb : BEle r b b') : ∀ n, BEle r (loopE b n) (loopE b' n)
 | 0, _, _, _, _, _, _, h => by cases h
 | n + 1, k, k', hk, E, ds, H, h => hb _ _ (jn1 (jz7 hb n) hk) E ds H h
theorem ju2 {r : End × Heap} {c : Code} {b b' : Option Nat → Env → List Deferred → Heap → KOE → R} (hb : ∀ s, BEle r (b s) (b' s)) : ∀ n s, BEle r (scopeE c b n s) (scopeE c b' n s)
 | 0, _, _, _, _, _, _, _, h => by cases h
 | n + 1, s, k, k', hk, E, ds, H, h => by
   refine hb s _ _ (fun o E ds H h => ?_) E ds H h
   cases o with
   | goto l =>
     simp only at h ⊢
     cases e : hasLabel l c with
     | true => rw [e] at h; exact ju2 hb n _ k k' hk _ _ _ h
     | false => rw [e] at h; exact hk _ _ _ _ h
   | _ => exact hk _ _ _ _ h
theorem j6f {P : Program} {ops : Array Oper} {dr : Bool} {r : End × Heap} {k k' : KOE} (hk : KOle r k k') : ∀ c, KEle r (panD P ops dr k c) (panD P ops dr k' c) := by
 intro c E ds H h
 unfold panD at h ⊢
 cases dr with
 | false => exact hk _ _ _ _ h
 | true =>
   simp only [cond_true] at h ⊢
   cases hp : panAll P ops.toList with
   | false => rw [hp] at h; cases h
   | true => rw [hp] at h; exact hk _ _ _ _ h
theorem je8 {P : Program} {X : Xf} {K K' : Kf} (hK : KLe K K') {N : Nat} {pr : Nat → List (Nat × Nat)} {r : End × Heap} : ∀ (c : Code) (s : Option Nat), BEle r (execG P X K N pr c s) (execG P X K' N pr c s)
 | .skip, none, k, k', hk, E, ds, H, h => by unfold execG at h ⊢; exact hk _ _ _ _ h
 | .skip, some _, k, k', hk, E, ds, H, h => by unfold execG at h; cases h
 | .region id ops draw, none, k, k', hk, E, ds, H, h => by
   unfold execG at h ⊢
   cases hc : (draw && !(pr id).isEmpty) with
   | true =>
     rw [hc] at h
     refine jq2 hK (fun tr E ds H h => ?_) (j6f hk) _ _ _ _ _ h
     cases ha : ((pr id).all fun x => pairChkE P ops tr x.1 x.2) with
     | true => rw [ha] at h; exact hk _ _ _ _ h
     | false => rw [ha] at h; cases h
   | false =>
     rw [hc] at h
     exact jj6 hK (fun E ds H h => hk _ _ _ _ h) (j6f hk) _ _ _ _ h
 | .region .., some _, k, k', hk, E, ds, H, h => by unfold execG at h; cases h
 | .seq x y, none, k, k', hk, E, ds, H, h => by
   unfold execG at h ⊢
   exact je8 hK x none _ _ (jn1 (je8 hK y none) hk) E ds H h
 | .seq x y, some l, k, k', hk, E, ds, H, h => by
   unfold execG at h ⊢
   cases e : hasLabel l x with
   | true => rw [e] at h; exact je8 hK x (some l) _ _ (jn1 (je8 hK y none) hk) E ds H h
   | false => rw [e] at h; exact je8 hK y (some l) _ _ hk E ds H h
 | .cond c x y, none, k, k', hk, E, ds, H, h => by
   unfold execG condE at h ⊢
   split at h
   · rename_i b e
     cases b with
     | true => exact je8 hK x none _ _ hk E ds H h
     | false => exact je8 hK y none _ _ hk E ds H h
   · cases h
 | .cond .., some _, k, k', hk, E, ds, H, h => by unfold execG at h; cases h
 | .block id b, none, k, k', hk, E, ds, H, h => by
   unfold execG at h ⊢
   refine je8 hK b none _ _ (fun o E ds H h => ?_) E ds H h
   cases o with
   | exit i =>
     simp only [leaveB] at h ⊢
     cases e : (i == id) with
     | true => rw [e] at h; exact hk _ _ _ _ h
     | false => rw [e] at h; exact hk _ _ _ _ h
   | _ => exact hk _ _ _ _ h
 | .block .., some _, k, k', hk, E, ds, H, h => by unfold execG at h; cases h
 | .loop b, none, k, k', hk, E, ds, H, h => by
   unfold execG at h ⊢
   exact jz7 (je8 hK b none) N k k' hk E ds H h
 | .loop _, some _, k, k', hk, E, ds, H, h => by unfold execG at h; cases h
 | .rangeFunc .., s, k, k', hk, E, ds, H, h => by cases s <;> (unfold execG at h; cases h)
 | .exit id, none, k, k', hk, E, ds, H, h => by unfold execG at h ⊢; exact hk _ _ _ _ h
 | .exit _, some _, k, k', hk, E, ds, H, h => by unfold execG at h; cases h
 | .scope b, none, k, k', hk, E, ds, H, h => by
   unfold execG at h ⊢
   exact ju2 (fun s => je8 hK b s) N none k k' hk E ds H h
 | .scope _, some _, k, k', hk, E, ds, H, h => by unfold execG at h; cases h
 | .label l', none, k, k', hk, E, ds, H, h => by unfold execG at h ⊢; exact hk _ _ _ _ h
 | .label l', some l, k, k', hk, E, ds, H, h => by
   unfold execG at h ⊢
   cases e : (l' == l) with
   | true => rw [e] at h; exact hk _ _ _ _ h
   | false => rw [e] at h; cases h
 | .goto l, none, k, k', hk, E, ds, H, h => by unfold execG at h ⊢; exact hk _ _ _ _ h
 | .goto _, some _, k, k', hk, E, ds, H, h => by unfold execG at h; cases h
 | .ret, none, k, k', hk, E, ds, H, h => by unfold execG at h ⊢; exact hk _ _ _ _ h
 | .ret, some _, k, k', hk, E, ds, H, h => by unfold execG at h; cases h
 | .refuse _, s, k, k', hk, E, ds, H, h => by cases s <;> (unfold execG at h; cases h)
theorem j9v {P : Program} {okb : FuncId → Bool} {prf : FuncId → Nat → List (Nat × Nat)} {X : Xf} {K : Kf} {N : Nat} {fn : Func} {r : End × Heap} : KOle r (finE P fn) (finG P okb prf X K N fn) := by
 intro o E ds H h
 unfold finE at h
 unfold finG
 split at h
 · split at h
   · unfold leaveG; exact h
   · cases h
 · split at h
   · unfold leaveG; exact h
   · cases h
 · split at h
   · unfold leaveG; exact h
   · cases h
 · cases h
theorem j6g {P : Program} {okf okf' : FuncId → Bool} {prf : FuncId → Nat → List (Nat × Nat)} (ho : ∀ f, okf f = true → okf' f = true) {X : Xf} {N : Nat} {hk : Hook} : ∀ d, KLe (callG P okf prf X N hk d) (callH P okf' prf X N hk d)
 | 0 => fun f args H r h => by cases h
 | d + 1 => fun f args H r h => by
   unfold callG at h
   unfold callH
   split at h
   · rename_i q e; simp only [e]; exact h
   · rename_i e
     simp only [e]
     split at h
     · rename_i fn hf
       simp only [hf]
       split at h
       · rename_i c hc
         simp only [hc]
         cases hq : (okf f && Nat.ble args.size fn.ntmps) with
         | false => rw [hq] at h; cases h
         | true =>
           rw [hq] at h
           simp only [Bool.and_eq_true] at hq
           rw [ho f hq.1, hq.2]
           exact je8 (j6g ho d) c none _ _ j9v (startE args) [] H h
       · cases h
     · cases h
theorem jb8 {P : Program} {okf : FuncId → Bool} {prf : FuncId → Nat → List (Nat × Nat)} {X : Xf} {N : Nat} {hk : Hook} {d : Nat} {f : FuncId} {fn : Func} {c : Code} {args : Array Value} {H : Heap} (hh : hk f args H = none) (hf : P.funcs[f]? = some fn) (hc : fn.body = some c) (ho : okf f = true) (hs : Nat.ble args.size fn.ntmps = true) {pr : Nat → List (Nat × Nat)} (hp : prf f = pr) :
   callH P okf prf X N hk (d + 1) f args H = execG P X (callH P okf prf X N hk d) N pr c none (startE args) [] H (finG P okf prf X (callH P okf prf X N hk d) N fn) := by
 simp [callH, hh, hf, hc, ho, hs, hp]
theorem jc0 {P : Program} {X : Xf} {K : Kf} {f : FuncId} {fn : Func} (hf : P.funcs[f]? = some fn) (hn : (fn.name == "runtime.NumGoroutine") = false) (hb : fn.body.isNone = false) {args : Array Value} {H H' : Heap} {c : List PanicEntry} (hr : K f args H = some (.pan c, H')) (k : Value → Heap → R) (kp : List PanicEntry → Heap → R) :
   callK P X K f args H k kp = kp c H' := by
 simp [callK, hf, hn, hb, hr, bindR]
theorem jr4 (E : Env) (ds : List Deferred) (kp : List PanicEntry → KE) (c : List PanicEntry) (H : Heap) : panK E ds kp c H = kp c E ds H := id rfl
theorem jw2 (P : Program) (ops : Array Oper) (k : KOE) (c : List PanicEntry) (E : Env) (ds : List Deferred) (H : Heap) : panD P ops false k c E ds H = k (.pan c) E ds H := id rfl
theorem jh5 (b2 : Env → List Deferred → Heap → KOE → R) (k : KOE) (c : List PanicEntry) (E : Env) (ds : List Deferred) (H : Heap) : thenE b2 k (.pan c) E ds H = k (.pan c) E ds H := id rfl
theorem jn2 (i : Nat) (k : KOE) (c : List PanicEntry) (E : Env) (ds : List Deferred) (H : Heap) : leaveB i k (.pan c) E ds H = k (.pan c) E ds H := id rfl
section
variable {P : Program} {okb : FuncId → Bool} {prf : FuncId → Nat → List (Nat × Nat)} {X : Xf} {K : Kf} {N : Nat} {fn : Func}
theorem ja4 {E : Env} {H : Heap} {l : List Value} (h : resE P E H fn.results.toList = some l) : finG P okb prf X K N fn .ret E [] H = some (.ret (oneOf l), H) := by simp [finG, leaveG, h]
theorem jq3 {E : Env} {H : Heap} {l : List Value} (h : resE P E H fn.results.toList = some l) : finG P okb prf X K N fn .norm E [] H = some (.ret (oneOf l), H) := by simp [finG, leaveG, h]
theorem jc5 {E : Env} {H : Heap} {c : List PanicEntry} : finG P okb prf X K N fn (.pan c) E [] H = some (.pan c, H) := by simp [finG, leaveG]
theorem j3l {E : Env} {H H' : Heap} {l : List Value} {g : FuncId} {gn : Func} {c : Code} {args cap : Array Value} {v : Value} (hg : P.funcs[g]? = some gn) (hn : (gn.name == "runtime.NumGoroutine") = false) (hc : gn.body = some c) (ho : okb g = true) (hs : Nat.ble (args ++ cap).size gn.ntmps = true)
   (hb : ∀ kd : End → FrameMode → Heap → R, bodyG P X K N (prf g) gn c (args ++ cap) .returning H kd = kd (.ret v) .returning H') (h : resE P E H' fn.results.toList = some l) :
   finG P okb prf X K N fn .ret E [{ target := .fn (.func g) cap, args := args }] H = some (.ret (oneOf l), H') := by
 simp only [finG]
 unfold leaveG
 simp only [hg, hn, hc, ho, hs, Bool.and_self, cond_true, Bool.false_eq_true, if_false]
 rw [hb]
 simp [settleA, leaveG, h]
end
theorem j9w {P : Program} {X : Xf} {K : Kf} {d : Option Tmp} {t : TypeId} {p : String} {af : Array Edge} {E : Env} {ds : List Deferred} {H : Heap} {k : KE} {kp : List PanicEntry → KE} {g : Option (Nat × Bool)} (c : Call) : opE P X K ⟨d, .defer c, t, p, af, g⟩ E ds H k kp = match deferOf (evalE E) c with | some q => k (upd E d undef) (q :: ds) H | none => none := id rfl
theorem y31 {P : Program} {X : Xf} {K : Kf} {d : Option Tmp} {t : TypeId} {p : String} {af : Array Edge} {E : Env} {ds : List Deferred} {H : Heap} {k : KE} {kp : List PanicEntry → KE} {g : Option (Nat × Bool)} (f : FuncId) (args : Array Operand) (ts : Array TypeId) :
   opE P X K ⟨d, .defer { callee := .value (.func f), args := args, argTypes := ts }, t, p, af, g⟩ E ds H k kp = k (upd E d undef) ({ target := .fn (.func f) #[], args := args.map (evalE E) } :: ds) H := by
 rw [j9w]
 simp [deferOf, evalE]
theorem j70 {P : Program} {X : Xf} {K : Kf} {d : Option Tmp} {t : TypeId} {p : String} {af : Array Edge} {E : Env} {ds : List Deferred} {H : Heap} {k : KE} {kp : List PanicEntry → KE} {g : Option (Nat × Bool)} (x : Operand) {ty : TypeId} {v : Value} (h : evalE E x = .iface ty v) :
   opE P X K ⟨d, .panic x, t, p, af, g⟩ E ds H k kp = kp [{ v := .iface ty v, recovered := false }] E ds H := by
 simp only [opE, opK, h]
def notIface (P : Program) (ty : TypeId) : Bool := match P.underlying ty with | some (.interface _) => false | some _ => true | none => false
theorem j10 {P : Program} {X : Xf} {K : Kf} {d : Option Tmp} {t : TypeId} {p : String} {af : Array Edge} {E : Env} {ds : List Deferred} {H : Heap} {k : KE} {kp : List PanicEntry → KE} {g : Option (Nat × Bool)} (ty : TypeId) (x : Operand) (h : notIface P ty = true) :
   opE P X K ⟨d, .makeInterface ty x, t, p, af, g⟩ E ds H k kp = k (upd E d (.iface ty (evalE E x))) ds H := by
 simp only [opE, opK]
 unfold notIface at h
 cases hU : P.underlying ty with
 | none => rw [hU] at h; cases h
 | some q =>
   rw [hU] at h
   cases q <;> first | rfl | cases h
def dH := Pf.mk (And.intro @jr4 (And.intro @jw2 (And.intro @jh5 (@jn2))))
end Go.Am
