/- Where a lexeme ends, however wrong it is. -/
import Derived.Test.YtmliebodadgpbaaGreatDoorM07
open Go.Proofs
namespace Go.Am
set_option maxRecDepth 100000
def runW (s : List UInt8) : Nat → Nat → Nat
 | 0, i => i
 | n + 1, i => if i < s.length ∧ wbI (s.getD i 0) = true then runW s n (i + 1) else i
def qend (s : List UInt8) : Nat → Nat → Nat
 | 0, i => i
 | n + 1, i => if i < s.length ∧ s.getD i 0 ≠ 34 then (if s.getD i 0 = 92 then qend s n (i + 2) else qend s n (i + 1)) else i
def one : List Tk × Option Nat → Option Tk | ([tk], none) => some tk | _ => none
def lex1 (w : List UInt8) : Option Tk := one (toksI w (w.length + 1) 0)
def twoI (s : List UInt8) (i : Nat) : Bool := match lex1 ((s.drop i).take 2) with | some tk => tk.to_ == 2 | none => false
def reachI (s : List UInt8) (i : Nat) : Nat :=
 if wbI (s.getD i 0) = true then runW s (s.length - (i + 1)) (i + 1)
 else if s.getD i 0 = 34 then min (qend s (s.length - (i + 1)) (i + 1) + 1) s.length
 else if i + 1 < s.length then (if twoI s i = true then i + 2 else i + 1) else i + 1
theorem j4c (s : List UInt8) : ∀ n i, i ≤ s.length → i ≤ runW s n i ∧ runW s n i ≤ s.length
 | 0, i, h => ⟨Nat.le_refl _, h⟩
 | n + 1, i, h => by
   unfold runW
   split
   · rename_i h1
     have := j4c s n (i + 1) h1.1
     omega
   · exact ⟨Nat.le_refl _, h⟩
theorem j0i (s : List UInt8) : ∀ n i, i ≤ s.length + 1 → i ≤ qend s n i ∧ qend s n i ≤ s.length + 1
 | 0, i, h => ⟨Nat.le_refl _, h⟩
 | n + 1, i, h => by
   unfold qend
   split
   · rename_i h1
     split
     · have := j0i s n (i + 2) (by omega); omega
     · have := j0i s n (i + 1) (by omega); omega
   · exact ⟨Nat.le_refl _, h⟩
theorem ji6 (s : List UInt8) {i : Nat} (h : i < s.length) : i < reachI s i ∧ reachI s i ≤ s.length := by
 unfold reachI
 split
 · have := j4c s (s.length - (i + 1)) (i + 1) (by omega); omega
 · split
   · have := j0i s (s.length - (i + 1)) (i + 1) (by omega); omega
   · split
     · split <;> omega
     · omega
theorem je6 {s : List UInt8} {i : Nat} (h : i < s.length) : s.getD i 0 = s[i] := by rw [List.getD_eq_getElem?_getD, List.getElem?_eq_getElem h]; rfl
theorem ixT1 : ixT PP 44 = some (none, 5) := by decide +kernel
theorem jy1 {H : Heap} (f : Fresh H) {q : Nat} (hq : H.next ≤ q) (n : Nat) (y : Blk) : Ghost ((H.to n).set q y) (H.to n) := ⟨rfl, fun b x e => ⟨x, by
 have : b ≠ q := fun k => by
   have e' : H.get b = some x := e
   rw [k, f q hq] at e'; cases e'
 rw [Heap.get_set, if_neg this]; exact e, rfl, id⟩⟩
theorem j4d (l : List Tk) (e : Nat) : one (l, some e) = none := by cases l with | nil => rfl | cons a r => cases r <;> rfl
theorem j1n {l : List Tk} (h : l.length ≠ 1) : one (l, none) = none := by
 cases l with
 | nil => rfl
 | cons a r => cases r with
   | nil => exact absurd rfl h
   | cons => rfl
theorem z11 : (((1 : Nat) : Int) == 1) = true := rfl
theorem j4e (q : Nat) : indexAddrA PP 44 (.slice (some ⟨q, 0, none⟩) 1 1) (.int .i64 0) = some (.pointer (some ⟨q, 0, none⟩)) := by
 have := je4 ixT1 (j := 0) (n := 1) (by decide) q 0 1 .i64
 simpa using this
theorem jn8 (a : Option Addr) (n c : Nat) (H : Heap) : builtinA PP .len #[44] #[.slice a n c] H = some (.int .i64 n, H) := jd8 Tryz.underlying44 a n c H
section
variable {z : Cx} {T : Tc} {H : Heap} {p : PS} {w : Nat} {k : KV} {kp : KP}
theorem Base.at (x : Base z H) {j : Nat} (h : j < z.s.length) : ∃ q o cs r, z.a = some ⟨q, o, none⟩ ∧ H.get q = some ⟨cs, r, 1, none⟩ ∧ cs[o + j]? = some (.int .u8 (z.s[j].toNat : Int)) := x.row.at h
theorem j8g (a b : Int) : builtinA PP .min #[3, 3] #[.int .i64 a, .int .i64 b] H = some (.int .i64 (if b < a then b else a), H) := rfl
theorem j91 (x : Rd z T H p w) (hi : p.at_ < z.s.length) (hk : ∀ n, H.next ≤ n → k (.int .i64 (reachI z.s p.at_ : Nat)) (H.to n)) : callW PP 35 #[pt z.b] H k kp := by
 obtain ⟨f, t, bad, wv, nm, nu, iv, nv, hb, r⟩ := x.ex
 have hs := x.base.short
 have hk0 := hk H.next (Nat.le_refl _)
 rw [Heap.to_next] at hk0
 refine ja4 (.refl _) (run 1 rfl Tryz.func35 (pr := noPr) (by decide +kernel) (by kernel_rfl) ?_)
 obtain ⟨q, o, cs, rr, ea, hq, hc⟩ := x.base.at hi
 have w1 : IntKind.i64.wrap ((p.at_ : Int) + 1) = ((p.at_ + 1 : Nat) : Int) := ja1 (by omega)
 have fin : ∀ {k : KV} {v : Value}, k v H → ∃ H', Ghost H H' ∧ k v H' := fun h => ⟨_, .refl _, h⟩
 simp +decide only [zf35.o, ↓GR.o, reduceIte, hb, ea, hq, hi, hc, w1]
 refine wb_w _ ?_
 by_cases h1 : wbI z.s[p.at_] = true
 · rw [reachI, je6 hi, if_pos h1] at hk hk0
   simp +decide only [↓GR.o, reduceIte, h1]
   refine ja6 (I := fun m E ds H' => ds = [] ∧ E 0 = pt z.b ∧ ∃ j, E 3 = .int .i64 ((j : Nat) : Int) ∧ j + m = z.s.length ∧ H = H' ∧ runW z.s m j = runW z.s (z.s.length - (p.at_ + 1)) (p.at_ + 1)) (i := z.s.length - (p.at_ + 1)) ?_ ⟨rfl, ?_, p.at_ + 1, ?_, by omega, rfl, rfl⟩
   · rintro Z m E _ _ ⟨rfl, e0, j, e3, hm, rfl, hj⟩ hZ
     by_cases h : j < z.s.length
     · obtain ⟨m, rfl⟩ : ∃ m', m = m' + 1 := ⟨m - 1, by omega⟩
       obtain ⟨q, o, cs, rr, ea, hq, hc⟩ := x.base.at h
       simp +decide only [zf35.o, ↓GR.o, reduceIte, e0, e3, hb, h, ea, hq, hc]
       refine wb_w _ ?_
       rw [runW, je6 h] at hj
       by_cases hw : wbI z.s[j] = true
       · rw [if_pos ⟨h, hw⟩] at hj
         simp +decide only [zf35.o, ↓GR.o, reduceIte, e3, hw, ja1 (show j < 2 ^ 62 by omega)]
         refine hZ m _ _ _ (by omega) ⟨rfl, ?_, j + 1, ?_, by omega, rfl, hj⟩ <;> simp +decide only [↓GR.o, reduceIte, e0]
       · have hw' : wbI z.s[j] = false := by simpa using hw
         rw [if_neg fun c => hw c.2] at hj
         simp +decide only [zf35.o, ↓GR.o, reduceIte, e3, hw']
         rw [← hj] at hk0
         exact fin hk0
     · have : m = 0 := by omega
       subst this
       simp +decide only [zf35.o, ↓GR.o, reduceIte, e0, e3, hb, ea, h]
       rw [← hj] at hk0
       exact fin hk0
   all_goals simp +decide only [↓GR.o, reduceIte]
 have h1 : wbI z.s[p.at_] = false := by simpa using h1
 rw [reachI, je6 hi, h1, if_neg (by decide)] at hk hk0
 by_cases h2 : z.s[p.at_] = 34
 · rw [if_pos h2] at hk hk0
   have b2 : ((z.s[p.at_].toNat : Int) == 34) = true := by rw [jb7 _ 34 (n := 34) rfl]; exact decide_eq_true h2
   simp +decide only [zf35.o, ↓GR.o, reduceIte, h1, b2]
   refine ja6 (I := fun m E ds H' => ds = [] ∧ E 0 = pt z.b ∧ ∃ j f, E 3 = .int .i64 ((j : Nat) : Int) ∧ j ≤ z.s.length + 1 ∧ m = z.s.length + 1 - j ∧ z.s.length ≤ j + f ∧ H = H' ∧ qend z.s f j = qend z.s (z.s.length - (p.at_ + 1)) (p.at_ + 1)) (i := z.s.length - p.at_) ?_ ⟨rfl, ?_, p.at_ + 1, _, ?_, by omega, by omega, by omega, rfl, rfl⟩
   · rintro Z m E _ _ ⟨rfl, e0, j, g, e3, h3, rfl, h4, rfl, hj⟩ hZ
     have stop : ¬ (j < z.s.length ∧ z.s.getD j 0 ≠ 34) → k (.int .i64 ((min (j + 1) z.s.length : Nat) : Int)) H := fun hn => by
       have : qend z.s g j = j := by cases g with | zero => rfl | succ g => rw [qend, if_neg hn]
       rw [this] at hj
       rw [← hj] at hk0; exact hk0
     have mn : (if z.s.length < j + 1 then (z.s.length : Int) else ((j + 1 : Nat) : Int)) = ((min (j + 1) z.s.length : Nat) : Int) := by split <;> omega
     by_cases h : j < z.s.length
     · obtain ⟨q, o, cs, rr, ea, hq, hc⟩ := x.base.at h
       by_cases hv : z.s[j] = 34
       · simp +decide only [zf35.o, ↓GR.o, reduceIte, e0, e3, hb, h, ea, hq, hc, jr7 _ 34 (n := 34) rfl, hv, decide_true, Bool.not_true, ja1 (show j < 2 ^ 62 by omega), j8g, mn]
         exact fin (stop fun c => c.2 (by rw [je6 h, hv]))
       · obtain ⟨g, rfl⟩ : ∃ g', g = g' + 1 := ⟨g - 1, by omega⟩
         rw [qend, if_pos ⟨h, by rw [je6 h]; exact hv⟩, je6 h] at hj
         by_cases h92 : z.s[j] = 92
         · rw [if_pos h92] at hj
           simp +decide only [zf35.o, ↓GR.o, reduceIte, e0, e3, hb, h, ea, hq, hc, jr7 _ 34 (n := 34) rfl, decide_false, Bool.not_false, jb7 _ 92 (n := 92) rfl, h92, decide_true, ja1 (show j < 2 ^ 62 by omega), ja1 (show j + 1 < 2 ^ 62 by omega)]
           refine hZ _ _ _ _ (by omega) ⟨rfl, ?_, j + 2, g, ?_, by omega, rfl, by omega, rfl, hj⟩ <;> simp +decide only [↓GR.o, reduceIte, e0]
         · rw [if_neg h92] at hj
           simp +decide only [zf35.o, ↓GR.o, reduceIte, e0, e3, hb, h, ea, hq, hc, jr7 _ 34 (n := 34) rfl, hv, decide_false, Bool.not_false, jb7 _ 92 (n := 92) rfl, h92, ja1 (show j < 2 ^ 62 by omega)]
           refine hZ _ _ _ _ (by omega) ⟨rfl, ?_, j + 1, g, ?_, by omega, rfl, by omega, rfl, hj⟩ <;> simp +decide only [↓GR.o, reduceIte, e0]
     · simp +decide only [zf35.o, ↓GR.o, reduceIte, e0, e3, hb, ea, h, ja1 (show j < 2 ^ 62 by omega), j8g, mn]
       exact fin (stop fun c => h c.1)
   all_goals simp +decide only [↓GR.o, reduceIte]
 rw [if_neg h2] at hk hk0
 by_cases h3 : p.at_ + 1 < z.s.length
 · rw [if_pos h3] at hk hk0
   obtain ⟨a', c', sl, br, hc'⟩ := jn4 x.base.row (show p.at_ ≤ p.at_ + 2 by omega) (show p.at_ + 2 ≤ z.s.length by omega) x.base.cap
   rw [show p.at_ + 2 - p.at_ = 2 by omega] at sl br hc'
   simp +decide only [zf35.o, ↓GR.o, reduceIte, h1, jb7 _ 34 (n := 34) rfl, h2, hb, h3, ja1 (show p.at_ + 1 < 2 ^ 62 by omega), Option.map_some, Option.map_none, sl]
   have sm : ((z.s.drop p.at_).take 2).length ≤ 1048576 := by simp; omega
   refine jm0 x.base.tabs br hc' (fun h => by omega) (fun e n _ h hn => ?_) fun _ h => ?_
   · have tw : twoI z.s p.at_ = false := by unfold twoI lex1; rw [show toksI _ _ _ = (_, some e) from Prod.ext rfl h, j4d]
     rw [tw, if_neg (by decide)] at hk
     simp +decide only [zf35.o, ↓GR.o, reduceIte, ex_0, ex_1, ex_2]
     exact ⟨_, .refl _, hk n hn⟩
   · generalize hl : (toksI ((z.s.drop p.at_).take 2) (((z.s.drop p.at_).take 2).length + 1) 0).1 = l at *
     have lx : lex1 ((z.s.drop p.at_).take 2) = one (l, none) := by unfold lex1; rw [show toksI _ _ _ = (l, none) from Prod.ext hl h]
     have many : l.length ≠ 1 → ∀ n, H.next ≤ n → k (.int .i64 ((p.at_ + 1 : Nat) : Int)) (H.to n) := fun h1 n hn => by
       have tw : twoI z.s p.at_ = false := by unfold twoI; rw [lx, j1n h1]
       rw [tw, if_neg (by decide)] at hk; exact hk n hn
     refine ⟨fun h0 n hn => ?_, fun q n h1 h2 => ?_⟩
     · simp +decide only [zf35.o, ↓GR.o, reduceIte, ex_0, ex_1, ex_2, beq_self_eq_true, jn8]
       exact ⟨_, .refl _, many (by rw [h0]; decide) n hn⟩
     · have g0 := jy1 x.fresh h1 n ⟨cellsK l, true, 5, none⟩
       by_cases h1' : l.length = 1
       · obtain ⟨tk, rfl⟩ : ∃ tk, l = [tk] := List.length_eq_one_iff.1 h1'
         have tw : twoI z.s p.at_ = decide (tk.to_ = 2) := by unfold twoI; rw [lx]; rfl
         have e2 : ((tk.to_ : Int) == 2) = decide (tk.to_ = 2) := ja7 _ 2
         rw [tw] at hk
         by_cases h5 : tk.to_ = 2
         · rw [decide_eq_true h5, if_pos rfl] at hk
           simp +decide only [zf35.o, ↓GR.o, reduceIte, ex_0, ex_1, ex_2, beq_self_eq_true, z11, jn8, List.length_singleton, j4e, cellsK, List.flatMap_cons, List.flatMap_nil, Tk.cells, List.append_nil, e2.trans (decide_eq_true h5), ja1 (show p.at_ + 1 < 2 ^ 62 by omega)]
           exact ⟨_, g0, hk n (by omega)⟩
         · rw [decide_eq_false h5, if_neg (by decide)] at hk
           simp +decide only [zf35.o, ↓GR.o, reduceIte, ex_0, ex_1, ex_2, beq_self_eq_true, z11, jn8, List.length_singleton, j4e, cellsK, List.flatMap_cons, List.flatMap_nil, Tk.cells, List.append_nil, e2, h5]
           exact ⟨_, g0, hk n (by omega)⟩
       · simp +decide only [zf35.o, ↓GR.o, reduceIte, ex_0, ex_1, ex_2, beq_self_eq_true, jn8, show ((l.length : Int) == 1) = false by rw [show ((l.length : Int) == 1) = decide (l.length = 1) from ja7 _ 1]; exact decide_eq_false h1']
         exact ⟨_, g0, many h1' n (by omega)⟩
 · rw [if_neg h3] at hk0
   simp +decide only [zf35.o, ↓GR.o, reduceIte, h1, jb7 _ 34 (n := 34) rfl, h2, hb, h3]
   exact fin hk0
end
def hashE (s : List UInt8) : Nat → Nat → Nat
 | 0, i => i
 | n + 1, i => if i + 1 < s.length ∧ s.getD (i + 1) 0 ≠ 10 then hashE s n (i + 1) else i
def blankI (u : UInt8) : Bool := decide (u = 32 ∨ u = 9 ∨ u = 10 ∨ u = 13)
def skipP (s : List UInt8) : Nat → Nat → Nat
 | 0, i => i
 | n + 1, i => if i < s.length then (if blankI (s.getD i 0) = true then skipP s n (i + 1) else if s.getD i 0 = 35 then skipP s n (hashE s (s.length - i) i + 1) else i) else i
theorem ji7 (s : List UInt8) : ∀ n i, i < s.length → i ≤ hashE s n i ∧ hashE s n i < s.length
 | 0, i, h => ⟨Nat.le_refl _, h⟩
 | n + 1, i, h => by
   unfold hashE
   split
   · rename_i h1
     have := ji7 s n (i + 1) h1.1
     omega
   · exact ⟨Nat.le_refl _, h⟩
theorem ji8 (s : List UInt8) : ∀ n i, i ≤ s.length → i ≤ skipP s n i ∧ skipP s n i ≤ s.length
 | 0, i, h => ⟨Nat.le_refl _, h⟩
 | n + 1, i, h => by
   unfold skipP
   split
   · rename_i h1
     split
     · have := ji8 s n (i + 1) (by omega); omega
     · split
       · have h2 := ji7 s (s.length - i) i h1
         have := ji8 s n (hashE s (s.length - i) i + 1) (by omega)
         omega
       · exact ⟨Nat.le_refl _, h⟩
   · exact ⟨Nat.le_refl _, h⟩
def tk0 : Tk := ⟨0, 0, .empty, 0, 0⟩
def jb2 (s : List UInt8) (i : Nat) : Nat := skipP s (s.length + 1 - i) i
def nextP (s : List UInt8) (p : PS) : PS :=
 if jb2 s p.to_ < s.length then
   { p with at_ := jb2 s p.to_, to_ := reachI s (jb2 s p.to_), k := (lex1 ((s.drop (jb2 s p.to_)).take (reachI s (jb2 s p.to_) - jb2 s p.to_))).getD tk0 }
 else { p with at_ := jb2 s p.to_, to_ := jb2 s p.to_, k := tk0 }
theorem Rw.cut {H : Heap} {v : Value} {n : Nat} {cells : List Value} (r : Rw H v 1 n cells) : ∃ v', sliceOpA PP 22 v none (some (.int .i64 0)) none H = some v' ∧ Rw H v' 1 0 [] ∧ (blkOf v' = blkOf v ∨ blkOf v' = none) := by
 have hz : sizeT PP 3 = some 1 := by decide +kernel
 rcases r with ⟨rfl, rfl, _⟩ | ⟨q, m, cs, rfl, h1, h2, _⟩
 · refine ⟨_, ?_, Rw.nil H 1, .inl rfl⟩
   simp [sliceOpA, Tryz.underlying22, hz, sliceA]
 · refine ⟨.slice (some ⟨q, 0, none⟩) 0 m, ?_, .inr ⟨q, m, cs, rfl, h1, h2, Nat.zero_le _, by simp⟩, .inl rfl⟩
   simp [sliceOpA, Tryz.underlying22, hz, sliceA, look, h1, Addr.add]
def st5 (x : Option Blk) (q off : Nat) (v0 v1 v2 v3 v4 : Value) (H : Heap) : VH := match x with | some ⟨cells, true, es, none⟩ => if off + 5 ≤ cells.length then some (undef, H.set q ⟨over cells off [v0, v1, v2, v3, v4], true, es, none⟩) else none | _ => none
theorem j8h {q off : Nat} (k n f t : Int) (w : ByteArray) (H : Heap) : storeA PP 49 (.pointer (some ⟨q, off, none⟩)) (.agg #[.int .i64 k, .int .u64 n, .string w, .int .i64 f, .int .i64 t]) H = st5 (H.get q) q off (.int .i64 k) (.int .u64 n) (.string w) (.int .i64 f) (.int .i64 t) H := by
 have hs : sizeT PP 49 = some 5 := by decide +kernel
 simp only [storeA, hs, stV, Value.cells, st, look, st5]
 cases H.get q with
 | none => rfl
 | some x =>
   obtain ⟨c, r, e, o⟩ := x
   cases o with
   | some o => cases r <;> rfl
   | none => cases r <;> simp [Value.oneCell']
theorem j8i (es q : Nat) (c0 c1 c2 c3 c4 c5 c6 c7 : Value) (l : List Value) (v0 v1 v2 v3 v4 : Value) (H : Heap) : st5 (some ⟨c0 :: c1 :: c2 :: c3 :: c4 :: c5 :: c6 :: c7 :: l, true, es, none⟩) q 3 v0 v1 v2 v3 v4 H = some (undef, H.set q ⟨c0 :: c1 :: c2 :: v0 :: v1 :: v2 :: v3 :: v4 :: l, true, es, none⟩) := by
 simp [st5, over]
theorem yr6 : buildA PP 49 #[] = some (.agg #[.int .i64 0, .int .u64 0, .string .empty, .int .i64 0, .int .i64 0]) := by kernel_rfl
theorem joinW {k : KO} {Q : KO → Prop} (J : KE) (main : ∀ Z : KO, (∀ E ds H, J E ds H → Z .norm E ds H) → Q Z) (rest : ∀ E ds H, J E ds H → k .norm E ds H) : Q k := main k rest
theorem z01 : (((0 : Nat) : Int) == 1) = false := rfl
theorem ghost3 {H : Heap} {q b : Nat} (h : q ≠ b) (hq : H.get q = none) (X Y Y' : Blk) (n : Nat) : Ghost ((((H.set b Y).set q X).set b Y').to n) ((H.set b Y').to n) := ⟨rfl, fun c y e => by
 have e' : (H.set b Y').get c = some y := e
 refine ⟨y, ?_, rfl, id⟩
 show (((H.set b Y).set q X).set b Y').get c = some y
 rw [Heap.get_set] at e' ⊢
 by_cases hc : c = b
 · rw [if_pos hc] at e' ⊢; exact e'
 · rw [if_neg hc] at e' ⊢
   have : c ≠ q := fun k => by rw [k, hq] at e'; cases e'
   rw [Heap.get_set, if_neg this, Heap.get_set, if_neg hc]; exact e'⟩
section
variable {z : Cx} {T : Tc} {H : Heap} {p : PS} {w : Nat} {k : KV} {kp : KP}
theorem Base.ix (x : Base z H) {j : Nat} (h : j < z.s.length) : ∃ q o cs r, indexAddrA PP 34 (.slice z.a z.s.length z.c) (.int .i64 (j : Int)) = some (.pointer (some ⟨q, o, none⟩)) ∧ H.get q = some ⟨cs, r, 1, none⟩ ∧ cs[o]? = some (.int .u8 (z.s[j].toNat : Int)) := by
 obtain ⟨q, o, cs, r, e, h1, h2⟩ := x.at h
 refine ⟨q, o + j, cs, r, ?_, h1, h2⟩
 rw [e]; simpa using je4 ixB h q o z.c .i64
theorem j8j (x : Rd z T H p w) {K : KO} (hK : ∀ o E H' H'', (o = .norm ∨ o = .ret) → Ghost H' H'' → Fle H H'' → Rd z T H'' (nextP z.s p) 0 → K o E [] H') : exU PP noPr Tryz.f18 (skX Tryz.f18) none (startE #[pt z.b]) [] H K := by
 obtain ⟨f, t, bad, wv, nm, nu, iv, nv, hb, r⟩ := x.ex
 have hs := x.base.short
 obtain ⟨wn, wl, wl2, wr⟩ := r.want
 obtain ⟨w0, cut, wr0, wb0⟩ := wr.cut
 have sw0 := wr0.sc.2
 have nb0 : blkOf w0 ≠ some z.b := by rcases wb0 with e | e <;> rw [e]; exact wn; simp
 have lw : lk PP 22 = 1 := tyK.2.2.2.2.1
 have sz := r.sz
 simp +decide only [zf18.o, ↓GR.o]
 refine jk2 [] rfl (fun _ s E ds H' => s = none ∧ E = startE #[pt z.b] ∧ ds = [] ∧ H = H') ?_ (i := 0) ⟨rfl, rfl, rfl, rfl⟩
 rintro Zl C Bl hB _ _ _ _ _ H' ⟨rfl, rfl, rfl, rfl⟩ _
 rw [hB]
 -- blocks that hold the reader at some place
 have B : ∀ j, Base z (H.set z.b (rdB z T { p with at_ := j, k := tk0 } 0 0 0 w0 false false iv nv)) := fun j => x.base.fle (.set x.fresh hb _)
 simp +decide only [zf18.o, ↓GR.o, reduceIte, hb, Option.map_some, Option.map_none, cut, yr6, sw0, j8h, j8i]
 have ha := ji8 z.s (z.s.length + 1 - p.to_) p.to_ (by have := sz.2.2.2.2; omega)
 -- what comes to its end
 have fin : ∀ n y f t bad, H.next ≤ n → y = rdB z T (nextP z.s p) f t bad w0 false false iv nv → ∀ o E H', (o = .norm ∨ o = .ret) → Ghost H' ((H.set z.b y).to n) → K o E [] H' := fun n y f t bad hn hy o E H' ho hg => by
   have szn : Sz z.s (nextP z.s p) := by
     unfold nextP
     split
     · rename_i h
       have := ji6 z.s h
       unfold Sz jb2 at *
       dsimp only; omega
     · unfold Sz jb2 at *
       dsimp only; omega
   have e1 : (nextP z.s p).its = p.its ∧ (nextP z.s p).nds = p.nds := by unfold nextP; split <;> exact ⟨rfl, rfl⟩
   have r2 : Rx z H (nextP z.s p) 0 w0 iv nv := ⟨⟨nb0, [], Nat.le_refl _, wr0⟩, by rw [e1.1]; exact r.its, by rw [e1.2]; exact r.nds, szn, by
     unfold nextP
     split
     · rename_i h; exact fun _ => (ji6 z.s h).1
     · exact fun h => absurd rfl h⟩
   have x2 := Rd.set x.base x.low hb r2 hy
   exact hK _ _ _ _ ho hg ((Fle.set x.fresh hb _).trans (.to x2.fresh hn)) (x2.to hn)
 refine joinW (Q := fun k => loopW _ _ _ _ (leaveW 0 k)) (fun E ds H' => ds = [] ∧ E 0 = pt z.b ∧ H' = H.set z.b (rdB z T { p with at_ := jb2 z.s p.to_, k := tk0 } 0 0 0 w0 false false iv nv)) (fun Z hZ => ?_) ?_
 · refine ja6 (I := fun m E ds H' => ds = [] ∧ E 0 = pt z.b ∧ ∃ j f, j ≤ z.s.length ∧ H' = H.set z.b (rdB z T { p with at_ := j, k := tk0 } 0 0 0 w0 false false iv nv) ∧ z.s.length < j + f ∧ m = z.s.length + 1 - j ∧ skipP z.s f j = jb2 z.s p.to_) (i := z.s.length + 1 - p.to_) ?_ ⟨rfl, ?_, p.to_, z.s.length + 1 - p.to_, sz.2.2.2.2, rfl, by omega, rfl, rfl⟩
   · rintro L m E _ _ ⟨rfl, e0, j, g, hj, rfl, hg, rfl, hT⟩ hL
     have hbj := Heap.get_self H z.b (rdB z T { p with at_ := j, k := tk0 } 0 0 0 w0 false false iv nv)
     obtain ⟨g, rfl⟩ : ∃ g', g = g' + 1 := ⟨g - 1, by omega⟩
     rw [skipP] at hT
     by_cases h : j < z.s.length
     · rw [if_pos h, je6 h] at hT
       obtain ⟨q, o, cs, rr, ea, hq, hc⟩ := (B j).ix h
       have w1 : IntKind.i64.wrap ((j : Int) + 1) = ((j + 1 : Nat) : Int) := ja1 (by omega)
       have b1 := jb7 z.s[j] 32 (n := 32) rfl
       have b2 := jb7 z.s[j] 9 (n := 9) rfl
       have b3 := jb7 z.s[j] 10 (n := 10) rfl
       have b4 := jb7 z.s[j] 13 (n := 13) rfl
       have b5 := jb7 z.s[j] 35 (n := 35) rfl
       have step : blankI z.s[j] = true → skipP z.s g (j + 1) = jb2 z.s p.to_ := fun hb => by rw [if_pos hb] at hT; exact hT
       generalize hu : z.s[j] = u at b1 b2 b3 b4 b5 hc hT step
       have go : blankI u = true → ∀ E', E' 0 = pt z.b → L E' [] (H.set z.b (rdB z T { p with at_ := j + 1, k := tk0 } 0 0 0 w0 false false iv nv)) := fun hb E' e' => hL _ _ _ _ (by omega) ⟨rfl, e', j + 1, g, h, rfl, by omega, rfl, step hb⟩
       by_cases h1 : u = 32
       · rw [decide_eq_true h1] at b1
         simp +decide only [zf18.o, ↓GR.o, reduceIte, e0, h, ea, hq, hc, b1, w1]
         exact go (by rw [h1]; rfl) _ (by simp +decide only [↓G.o, reduceIte, e0])
       rw [decide_eq_false h1] at b1
       by_cases h2 : u = 9
       · rw [decide_eq_true h2] at b2
         simp +decide only [zf18.o, ↓GR.o, reduceIte, e0, h, ea, hq, hc, b1, b2, w1]
         exact go (by rw [h2]; rfl) _ (by simp +decide only [↓G.o, reduceIte, e0])
       rw [decide_eq_false h2] at b2
       by_cases h3 : u = 10
       · rw [decide_eq_true h3] at b3
         simp +decide only [zf18.o, ↓GR.o, reduceIte, e0, h, ea, hq, hc, b1, b2, b3, w1]
         exact go (by rw [h3]; rfl) _ (by simp +decide only [↓G.o, reduceIte, e0])
       rw [decide_eq_false h3] at b3
       by_cases h4 : u = 13
       · rw [decide_eq_true h4] at b4
         simp +decide only [zf18.o, ↓GR.o, reduceIte, e0, h, ea, hq, hc, b1, b2, b3, b4, w1]
         exact go (by rw [h4]; rfl) _ (by simp +decide only [↓G.o, reduceIte, e0])
       rw [decide_eq_false h4] at b4
       have nbl : blankI u = false := decide_eq_false (by simp [h1, h2, h3, h4])
       rw [if_neg (by rw [nbl]; decide)] at hT
       by_cases h5 : u = 35
       · rw [if_pos h5] at hT
         rw [decide_eq_true h5] at b5
         simp +decide only [zf18.o, ↓GR.o, reduceIte, e0, h, ea, hq, hc, b1, b2, b3, b4, b5]
         have hle := ji7 z.s (z.s.length - j) j h
         generalize hE : hashE z.s (z.s.length - j) j = e at hT hle
         refine ja6 (I := fun m E ds H' => ds = [] ∧ E 0 = pt z.b ∧ ∃ i f, i < z.s.length ∧ H' = H.set z.b (rdB z T { p with at_ := i, k := tk0 } 0 0 0 w0 false false iv nv) ∧ z.s.length ≤ i + f ∧ m = z.s.length - i ∧ hashE z.s f i = e) (i := z.s.length - j) ?_ ⟨rfl, ?_, j, z.s.length - j, h, rfl, by omega, rfl, hE⟩
         · rintro L' m E _ _ ⟨rfl, e0, i, f, hi, rfl, hf, rfl, hE⟩ hL'
           have hbi := Heap.get_self H z.b (rdB z T { p with at_ := i, k := tk0 } 0 0 0 w0 false false iv nv)
           obtain ⟨f, rfl⟩ : ∃ f', f = f' + 1 := ⟨f - 1, by omega⟩
           rw [hashE] at hE
           have w2 : IntKind.i64.wrap ((i : Int) + 1) = ((i + 1 : Nat) : Int) := ja1 (by omega)
           have stop : ∀ E' : Env, i = e → E' 0 = pt z.b → L E' [] (H.set z.b (rdB z T { p with at_ := i + 1, k := tk0 } 0 0 0 w0 false false iv nv)) := fun E' he e' => by
             subst he; exact hL _ _ _ _ (by omega) ⟨rfl, e', i + 1, g, by omega, rfl, by omega, rfl, hT⟩
           by_cases h6 : i + 1 < z.s.length
           · obtain ⟨q, o, cs, rr, ea, hq, hc⟩ := (B i).ix h6
             have b6 := jr7 z.s[i + 1] 10 (n := 10) rfl
             rw [je6 h6] at hE
             by_cases h7 : z.s[i + 1] = 10
             · rw [if_neg fun c => c.2 h7] at hE
               rw [decide_eq_true h7] at b6
               simp +decide only [zf18.o, ↓GR.o, reduceIte, e0, w2, h6, ea, hq, hc, b6]
               exact stop _ hE (by simp +decide only [↓G.o, reduceIte, e0])
             · rw [if_pos ⟨h6, h7⟩] at hE
               rw [decide_eq_false h7] at b6
               simp +decide only [zf18.o, ↓GR.o, reduceIte, e0, w2, h6, ea, hq, hc, b6, Bool.not_false]
               exact hL' _ _ _ _ (by omega) ⟨rfl, by simp +decide only [↓G.o, reduceIte, e0], i + 1, f, h6, rfl, by omega, rfl, hE⟩
           · rw [if_neg fun c => h6 c.1] at hE
             simp +decide only [zf18.o, ↓GR.o, reduceIte, e0, w2, h6]
             exact stop _ hE (by simp +decide only [↓G.o, reduceIte, e0])
         simp +decide only [↓G.o, reduceIte, e0]
       · rw [if_neg h5] at hT
         rw [decide_eq_false h5] at b5
         simp +decide only [zf18.o, ↓GR.o, reduceIte, e0, h, ea, hq, hc, b1, b2, b3, b4, b5]
         exact hZ _ _ _ ⟨rfl, by simp +decide only [↓G.o, reduceIte, e0], by rw [hT]⟩
     · rw [if_neg h] at hT
       simp +decide only [zf18.o, ↓GR.o, reduceIte, e0, h]
       exact hZ _ _ _ ⟨rfl, by simp +decide only [↓G.o, reduceIte, e0], by rw [hT]⟩
   simp +decide only [↓G.o, reduceIte]
 rintro E _ _ ⟨rfl, e0, rfl⟩
 have hb2 := Heap.get_self H z.b (rdB z T { p with at_ := jb2 z.s p.to_, k := tk0 } 0 0 0 w0 false false iv nv)
 have ha' : p.to_ ≤ jb2 z.s p.to_ ∧ jb2 z.s p.to_ ≤ z.s.length := ha
 by_cases h : jb2 z.s p.to_ < z.s.length
 · have re := ji6 z.s h
   have hne : ((jb2 z.s p.to_ : Nat) : Int) ≠ (z.s.length : Int) := by omega
   have q0 : (((jb2 z.s p.to_ : Nat) : Int) == (z.s.length : Int)) = false := by simpa using hne
   have np : nextP z.s p = { p with at_ := jb2 z.s p.to_, to_ := reachI z.s (jb2 z.s p.to_), k := (lex1 ((z.s.drop (jb2 z.s p.to_)).take (reachI z.s (jb2 z.s p.to_) - jb2 z.s p.to_))).getD tk0 } := if_pos h
   rw [np] at fin
   generalize jb2 z.s p.to_ = a at *
   have r1 : ∀ e', a ≤ e' → e' ≤ z.s.length → Rx z H { p with at_ := a, to_ := e', k := tk0 } 0 w0 iv nv := fun e' h1 h2 => ⟨⟨nb0, [], Nat.le_refl _, wr0⟩, r.its, r.nds, by unfold Sz at *; dsimp only; omega, fun h => absurd rfl h⟩
   simp +decide only [zf18.o, ↓GR.o, reduceIte, e0, q0]
   refine j91 (Rd.set (T := T) x.base x.low hb (r1 a (Nat.le_refl _) (by omega)) rfl) h fun n hn => ?_
   dsimp only at *
   generalize reachI z.s a = e at *
   have hb3 := Heap.get_self H z.b (rdB z T { p with at_ := a, to_ := a, k := tk0 } 0 0 0 w0 false false iv nv)
   have x2 := (Rd.set (T := T) (nm := false) (nu := false) (f := 0) (t := 0) (bad := 0) x.base x.low hb (r1 e (by omega) re.2) rfl).to hn
   obtain ⟨a', c', sl, br, hc'⟩ := jn4 x2.base.row (show a ≤ e by omega) re.2 x.base.cap
   have sm : ((z.s.drop a).take (e - a)).length ≤ 1048576 := by simp; omega
   simp +decide only [zf18.o, ↓GR.o, reduceIte, e0, Option.map_some, Option.map_none, sl]
   refine jm0 x2.base.tabs br hc' (fun h => by omega) (fun e2 n2 _ h2 hn2 => ?_) fun _ h2 => ?_
   · have lx : lex1 ((z.s.drop a).take (e - a)) = none := by unfold lex1; rw [show toksI _ _ _ = (_, some e2) from Prod.ext rfl h2, j4d]
     rw [lx] at fin
     simp +decide only [zf18.o, ↓GR.o, reduceIte, e0, ex_0, ex_1, ex_2, Int.reduceBEq, j0f]
     exact fin n2 _ 0 0 e2 (by have : H.next ≤ n := hn; have : n ≤ n2 := hn2; omega) rfl _ _ _ (.inl rfl) (.refl _)
   · generalize hl : (toksI ((z.s.drop a).take (e - a)) (((z.s.drop a).take (e - a)).length + 1) 0).1 = l at *
     have lx : lex1 ((z.s.drop a).take (e - a)) = one (l, none) := by unfold lex1; rw [show toksI _ _ _ = (l, none) from Prod.ext hl h2]
     have hn' : H.next ≤ n := hn
     have bad0 : l.length ≠ 1 → ∀ n2, n ≤ n2 → ∀ E H', Ghost H' ((H.set z.b (rdB z T { p with at_ := a, to_ := e, k := tk0 } 0 0 0 w0 false false iv nv)).to n2) → K .norm E [] H' := fun h1 n2 h2 E H' hg => by
       rw [lx, j1n h1] at fin
       exact fin n2 _ 0 0 0 (by omega) rfl _ _ _ (.inl rfl) hg
     refine ⟨fun h0 n2 hn2 => ?_, fun q n2 h1 h2 => ?_⟩
     · simp +decide only [zf18.o, ↓GR.o, reduceIte, e0, ex_0, ex_1, ex_2, Int.reduceBEq, z01, jn8, j0f]
       exact bad0 (by rw [h0]; decide) n2 hn2 _ _ (.refl _)
     · have g0 := jy1 x2.fresh h1 n2 ⟨cellsK l, true, 5, none⟩
       have hq : q ≠ z.b := fun c => by
         have := (Rd.set (T := T) (nm := false) (nu := false) (f := 0) (t := 0) (bad := 0) x.base x.low hb (r1 e (by omega) re.2) rfl).fresh q (by have : n ≤ q := h1; exact Nat.le_trans hn this)
         rw [c, Heap.get_self] at this; cases this
       have hqn : H.get q = none := x.fresh q (by have : n ≤ q := h1; omega)
       have zq : (z.b = q) = False := eq_false (Ne.symm hq)
       by_cases h1' : l.length = 1
       · obtain ⟨tk, rfl⟩ : ∃ tk, l = [tk] := List.length_eq_one_iff.1 h1'
         rw [lx] at fin
         simp +decide only [zf18.o, ↓GR.o, reduceIte, e0, ex_0, ex_1, ex_2, Int.reduceBEq, z11, jn8, List.length_singleton, j4e, cellsK, List.flatMap_cons, List.flatMap_nil, Tk.cells, List.append_nil, jb9, j8h, Heap.get_set, zq, j8i]
         exact fin n2 _ _ _ 0 (by have : n ≤ q := h1; omega) rfl _ _ _ (.inr rfl) (ghost3 hq hqn _ _ _ _)
       · simp +decide only [zf18.o, ↓GR.o, reduceIte, e0, ex_0, ex_1, ex_2, Int.reduceBEq, jn8, show ((l.length : Int) == 1) = false by rw [show ((l.length : Int) == 1) = decide (l.length = 1) from ja7 _ 1]; exact decide_eq_false h1', j0f, Heap.get_set, zq]
         exact bad0 h1' n2 (by have : n ≤ q := h1; omega) _ _ (ghost3 hq hqn _ _ _ _)
 · have q0 : (((jb2 z.s p.to_ : Nat) : Int) == (z.s.length : Int)) = true := by simp; omega
   have np : nextP z.s p = { p with at_ := jb2 z.s p.to_, to_ := jb2 z.s p.to_, k := tk0 } := if_neg h
   simp +decide only [zf18.o, ↓GR.o, reduceIte, e0, q0, jb9]
   exact fin H.next _ 0 0 0 (Nat.le_refl _) (by rw [np]) _ _ _ (.inr rfl) (.refl _)
theorem jn9 (x : Rd z T H p w) (hk : ∀ H', Fle H H' → Rd z T H' (nextP z.s p) 0 → k (.tuple #[]) H') : callW PP 18 #[pt z.b] H k kp := by
 refine ja4 (.refl _) (run 1 rfl Tryz.func18 (pr := noPr) (by decide +kernel) (by kernel_rfl) (j8j x ?_))
 intro o E H' H'' ho g f r
 rcases ho with rfl | rfl
 all_goals
   simp +decide only [zf18.o, ↓GR.o]
   exact ⟨_, g, hk _ f r⟩
theorem DAns.ghost {g : FuncId} {args : Array Value} {u u' : FrameMode} {e : End} {H1 H2 : Heap} (h : DAns PP g args u H e u' H1) (gh : Ghost H1 H2) : DAns PP g args u H e u' H2 := fun m w args' uw hr hg ha hu => by
 refine (h m w args' uw hr hg ha hu).mono fun e' uw' w' ⟨m', a, b, c⟩ => ⟨m', a, b, c.trans (gh.step c.rel)⟩
theorem j8k (x : Rd z T H p w) : ∃ H', DAns PP 18 #[pt z.b] .returning H (.ret (.tuple #[])) .returning H' ∧ Fle H H' ∧ Rd z T H' (nextP z.s p) 0 := by
 have r : Runs PP noPr 18 Tryz.f18 (codeOf Tryz.f18) 1 := jk0 Tryz.func18 (by decide +kernel)
 have hu : un Tryz.f18 (skX Tryz.f18) = codeOf Tryz.f18 := by kernel_rfl
 obtain ⟨e, H1, h1, rfl, H', h2, h3, h4⟩ := j29 mixed r (u := .returning) (H := H) (args := #[pt z.b]) (kd := fun e u H' => e = .ret (.tuple #[]) ∧ ∃ H'', Ghost H' H'' ∧ Fle H H'' ∧ Rd z T H'' (nextP z.s p) 0) (by
   rw [← hu]
   refine j8j x fun o E H' H'' ho g f r => ⟨rfl, ?_⟩
   have res : Tryz.f18.results.toList = [] := by rw [Tryz.f18.eq_1]
   rcases ho with rfl | rfl <;> simp only [res, jj9, j6c] <;> exact ⟨trivial, H'', g, f, r⟩)
 exact ⟨H', h1.ghost h2, h3, h4⟩
end
theorem Tabs.gone {H : Heap} (h : Tabs H) (es : Nat) (cells : List Value) : Ghost (H.alloc es cells) (H.to (H.next + 1)) := h.ghost es cells
section
variable {H : Heap} {k : KV} {kp : KP}
theorem j4f (t : Tabs H) (i : Int) (hk : ∀ w n, H.next ≤ n → k (strV w) (H.to n)) : callW PP 62 #[.int .i64 i] H k kp := by
 refine ja4 (.refl _) (run 1 rfl Tryz.func62 (pr := noPr) (by decide +kernel) (by kernel_rfl) ?_)
 have no : ∃ H', Ghost H H' ∧ k (strV []) H' := ⟨_, .refl _, by have := hk [] H.next (Nat.le_refl _); rwa [Heap.to_next] at this⟩
 have hit : ∀ w es c, ∃ H', Ghost (H.alloc es c) H' ∧ k (strV w) H' := fun w es c => ⟨_, t.gone es c, hk w _ (Nat.le_succ _)⟩
 by_cases h1 : i ≥ 30 <;> by_cases h2 : i ≤ 79 <;> by_cases h3 : i ≥ 4 <;> by_cases h4 : i ≤ 29 <;> first
   | (exfalso; omega)
   | (simp +decide only [zf62.o, ↓GR.o, reduceIte, h1, h2, h3, h4]; exact no)
   | (obtain ⟨j, rfl⟩ : ∃ j : Nat, i = ((j : Nat) : Int) + 30 := ⟨(i - 30).toNat, by omega⟩
      have hj : j < wordsL.length := by have : wordsL.length = 50 := rfl; omega
      simp +decide only [zf62.o, ↓GR.o, reduceIte, h1, h2]
      refine jt7 words_ok t ?_
      simp +decide only [zf62.o, ↓GR.o, reduceIte, show IntKind.i64.wrap ((j : Int) + 30 - 30) = (j : Int) by rw [ja8 (by omega) (by omega)]; omega, je4 ixS hj, Heap.get_new, jt8 hj]
      exact hit _ _ _)
   | (obtain ⟨j, rfl⟩ : ∃ j : Nat, i = ((j : Nat) : Int) + 4 := ⟨(i - 4).toNat, by omega⟩
      have hj : j < signsL.length := by have : signsL.length = 26 := rfl; omega
      simp +decide only [zf62.o, ↓GR.o, reduceIte, h1, h3, h4]
      refine jt7 signs_ok t ?_
      simp +decide only [zf62.o, ↓GR.o, reduceIte, show IntKind.i64.wrap ((j : Int) + 4 - 4) = (j : Int) by rw [ja8 (by omega) (by omega)]; omega, je4 ixS hj, Heap.get_new, jt8 hj]
      exact hit _ _ _)
theorem yr7 (o1 o2 : Operand) (x y : ByteArray) : ∃ v, binA PP .eql 9 o1 o2 (.string x) (.string y) = some (.bool v) := by
 obtain ⟨⟨l⟩⟩ := x
 obtain ⟨⟨m⟩⟩ := y
 exact ⟨_, j6p o1 o2 l m⟩
theorem yr8 (a b : List UInt8) (hk : ∀ v, k (.bool v) H) : callW PP 61 #[strV a, strV b] H k kp := by
 refine run 2 rfl Tryz.func61 (pr := noPr) (by decide +kernel) (by kernel_rfl) ?_
 simp +decide only [fx Tryz.f61.eq_1, ↓GR.o, reduceIte]
 have A : ∀ {k : KV} {kp : KP}, (∀ v, k (.bool v) H) → callW PP 91 #[strV a, strV b] H k kp := fun {k kp} hk => by
   refine run 2 rfl Tryz.func91 (pr := noPr) (by decide +kernel) (by kernel_rfl) ?_
   have ln : ∀ c : List UInt8, builtinA PP .len #[9] #[strV c] H = some (.int .i64 (c.length : Int), H) := fun c => jn1 Tryz.underlying9 _ H
   by_cases h : (a.length : Int) ≥ (b.length : Int)
   · obtain ⟨x, sl⟩ : ∃ x, sliceOpA PP 9 (strV a) none (some (.int .i64 (b.length : Int))) none H = some (.string x) := by
       refine ⟨(⟨⟨a⟩⟩ : ByteArray).extract 0 b.length, ?_⟩
       simp only [sliceOpA, Tryz.underlying9, strV, sliceS]
       rw [if_pos ⟨by omega, by omega, by show (b.length : Int) ≤ (a.length : Int); omega⟩]
       simp
     obtain ⟨v, e⟩ := yr7 (.tmp 14) (.tmp 15) x ⟨⟨b⟩⟩
     simp +decide only [fx Tryz.f91.eq_1, ↓GR.o, reduceIte, ln, h, Option.map_some, Option.map_none, sl, show binA PP .eql 9 (.tmp 14) (.tmp 15) (.string x) (strV b) = _ from e]
     exact hk _
   · simp +decide only [fx Tryz.f91.eq_1, ↓GR.o, reduceIte, ln, h]
     exact hk _
 refine A fun v => ?_
 simp +decide only [fx Tryz.f61.eq_1, ↓GR.o, reduceIte]
 exact hk _
end
theorem yi6 {P : Program} {pr : Nat → List (Nat × Nat)} {f : Func} {E : Env} {ds : List Deferred} {H : Heap} {k : KO} (x y r : Code) : exU P pr f (.seq x (.seq y r)) none E ds H k = exU P pr f (.seq x y) none E ds H (thenU P pr f r k) := by
 rw [jt6, jt6]
 congr 1
 funext o E ds H
 cases o <;> first | rfl | (rw [jg6, jg6, jt6])
theorem joinO {k : KO} {Q : KO → Prop} (J : Out → KE) (main : ∀ Z : KO, (∀ o E ds H, J o E ds H → Z o E ds H) → Q Z) (rest : ∀ o E ds H, J o E ds H → k o E ds H) : Q k := main k rest
theorem j92 (s : List UInt8) (hs : s.length ≤ most) (H : Heap) : convertA PP 9 34 (strV s) H = some (.slice (some ⟨H.next, 0, none⟩) s.length s.length, H.alloc 1 (rowB s)) := by
 simp only [convertA, Tryz.underlying9, Tryz.underlying34, Tryz.underlying5, strV, mkRow]
 exact if_pos hs
theorem j6w (H : Heap) (s : List UInt8) (hs : s.length < 2 ^ 47) : Brow (H.alloc 1 (rowB s)) (some ⟨H.next, 0, none⟩) s := by
 refine ⟨fun e => (by cases e), fun y e => ?_, hs⟩
 cases e
 exact ⟨rowB s, true, rfl, by rw [Heap.get_alloc, if_pos rfl], by simp [rowB], fun j hj => by simp [rowB, hj]⟩
theorem Hle.alloc {H G : Heap} (h : Hle H G) (es : Nat) (cells : List Value) : Hle H (G.alloc es cells) := by
 have f : Fresh G := h.fresh
 refine h.trans ⟨Nat.le_succ _, fun q y e => ?_, fun q hq => ?_⟩
 · rw [Heap.get_alloc, if_neg (Nat.ne_of_lt (f.lt e))]; exact e
 · have hq' : G.next + 1 ≤ q := hq
   rw [Heap.get_alloc, if_neg (by omega)]; exact f q (by omega)
theorem Hle.put {H G : Heap} (h : Hle H G) {q n : Nat} (h1 : G.next ≤ q) (h2 : q < n) (y : Blk) : Hle H ((G.to n).set q y) := by
 have f : Fresh G := h.fresh
 refine h.trans ⟨by show G.next ≤ n; omega, fun c x e => ?_, fun c hc => ?_⟩
 · rw [Heap.get_set, if_neg (by have := f.lt e; omega)]; exact e
 · have hc' : n ≤ c := hc
   rw [Heap.get_set, if_neg (by omega)]; exact f c (by omega)
theorem Hle.toN {H G : Heap} (h : Hle H G) {n : Nat} (hn : G.next ≤ n) : Hle H (G.to n) := h.trans (.to h.fresh hn)
theorem Hle.ghost {H G : Heap} (h : Hle H G) : Ghost G (H.to G.next) := ⟨rfl, fun b y e => ⟨y, h.keep b y e, rfl, id⟩⟩
theorem Rw.at {H : Heap} {v : Value} {l : List Int} (r : Rw H v 1 l.length (ints l)) {j : Nat} (hj : j < l.length) : ∃ q m cs, v = .slice (some ⟨q, 0, none⟩) l.length m ∧ H.get q = some ⟨cs, true, 1, none⟩ ∧ cs[j]? = some (.int .i64 l[j]) := by
 rcases r with ⟨_, h, _⟩ | ⟨q, m, cs, e, h1, h2, h3, h4⟩
 · omega
 · refine ⟨q, m, cs, e, h1, ?_⟩
   have : (ints l)[j]? = cs[j]? := by rw [h4, List.getElem?_take, if_pos (by omega)]
   rw [← this]; simp [ints, hj]
section
variable {z : Cx} {T : Tc} {H : Heap} {p : PS} {w : Nat} {k : KV} {kp : KP}
theorem yi7 (x : Rd z T H p w) (hw : w < 2 ^ 30) {s : List UInt8} (h0 : 0 < s.length) (hs : s.length ≤ 1048576) (hk : ∀ v n, H.next ≤ n → k (.bool v) (H.to n)) : callW PP 42 #[pt z.b, strV s] H k kp := by
 obtain ⟨f, t, bad, wv, nm, nu, iv, nv, hb, r⟩ := x.ex
 refine ja4 (.refl _) (run 2 rfl Tryz.func42 (pr := noPr) (by decide +kernel) (by kernel_rfl) ?_)
 have fin : ∀ v H', Hle H H' → ∃ H'', Ghost H' H'' ∧ k (.bool v) H'' := fun v H' h => ⟨_, h.ghost, hk v _ h.next⟩
 have t0 := x.base.tabs
 have hf := x.fresh
 simp +decide only [zf42.o, ↓dG.o]
 let J : Out → KE := fun o E ds H' => ds = [] ∧ Hle H H' ∧ match o with
   | .norm => E 0 = pt z.b ∧ E 1 = strV s
   | .ret => E 4 = .bool true
   | _ => False
 rw [yi6]
 refine joinO (Q := fun k => exU PP noPr Tryz.f42 _ none _ _ _ k) J (fun Z hZ => ?_) ?_
 · cases nm with
   | false =>
     simp +decide only [zf42.o, ↓GR.o, reduceIte, hb]
     exact hZ .norm _ _ _ ⟨rfl, .refl hf, (by simp +decide only [↓G.o, reduceIte]), (by simp +decide only [↓G.o, reduceIte])⟩
   | true =>
     simp +decide only [zf42.o, ↓GR.o, reduceIte, hb]
     refine j90 t0 s fun n hn => ?_
     cases hl : legalI s with
     | true =>
       simp +decide only [zf42.o, ↓GR.o, reduceIte]
       exact hZ .ret _ _ _ ⟨rfl, .to hf hn, (by simp +decide only [↓G.o, reduceIte])⟩
     | false =>
       simp +decide only [zf42.o, ↓GR.o, reduceIte]
       refine j9t (t0.to hn) s ?_
       by_cases hr : resI s = 0
       · simp +decide only [zf42.o, ↓GR.o, reduceIte, show (resI s != 0) = false by rw [hr]; rfl]
         exact hZ .norm _ _ _ ⟨rfl, .to hf (Nat.le_succ_of_le hn), (by simp +decide only [↓G.o, reduceIte]), (by simp +decide only [↓G.o, reduceIte])⟩
       · simp +decide only [zf42.o, ↓GR.o, reduceIte, show (resI s != 0) = true by simpa using hr]
         exact hZ .ret _ _ _ ⟨rfl, .to hf (Nat.le_succ_of_le hn), (by simp +decide only [↓G.o, reduceIte])⟩
 rintro o E _ H1 ⟨rfl, l1, ho⟩
 cases o <;> try exact ho.elim
 case ret =>
   simp +decide only [zf42.o, ↓GR.o, ho]
   exact fin _ _ l1
 obtain ⟨e0, e1⟩ := ho
 rw [jg6, jt6]
 refine joinO (Q := fun k => exU PP noPr Tryz.f42 _ none _ _ _ k) J (fun Z hZ => ?_) ?_
 · have hb1 := l1.keep _ _ hb
   have t1 := t0.hle l1
   have ix : indexA PP 9 (strV s) (.int .i64 0) = some (.int .u8 (s[0].toNat : Int)) := j4b h0
   have no := fun (E' : Env) (H' : Heap) (l : Hle H H') (a : E' 0 = pt z.b) (b : E' 1 = strV s) => hZ .norm E' [] H' ⟨rfl, l, a, b⟩
   have yes := fun (E' : Env) (H' : Heap) (l : Hle H H') (a : E' 4 = .bool true) => hZ .ret E' [] H' ⟨rfl, l, a⟩
   cases nu with
   | false =>
     simp +decide only [zf42.o, ↓GR.o, reduceIte, e0, hb1]
     exact no _ _ l1 (by simp +decide only [↓G.o, reduceIte, e0]) (by simp +decide only [↓G.o, reduceIte, e1])
   | true =>
     by_cases h1 : (s[0].toNat : Int) ≥ 48
     · by_cases h2 : (s[0].toNat : Int) ≤ 57
       · simp +decide only [zf42.o, ↓GR.o, reduceIte, e0, e1, hb1, ix, h1, h2, j92 s (show s.length ≤ most by unfold most; omega)]
         have l2 := l1.alloc 1 (rowB s)
         have ls : ∀ H, builtinA PP .len #[9] #[strV s] H = some (.int .i64 (s.length : Int), H) := fun H => jn1 Tryz.underlying9 _ H
         refine jm0 (t1.alloc 1 (rowB s)) (j6w H1 s (by omega)) (Nat.le_refl _) (fun h => by omega) (fun e2 n2 _ h3 hn2 => ?_) fun _ h3 => ⟨fun h4 n2 hn2 => ?_, fun q n2 h4 h5 => ?_⟩
         · have ec : ((e2 : Int) == (s.length : Int)) = decide (e2 = s.length) := ja7 _ _
           by_cases h6 : e2 = s.length
           · simp +decide only [zf42.o, ↓GR.o, reduceIte, e1, ex_0, ex_1, ex_2, Int.reduceBEq, ls, ec.trans (decide_eq_true h6)]
             exact yes _ _ (l2.toN hn2) (by simp +decide only [↓G.o, reduceIte])
           · simp +decide only [zf42.o, ↓GR.o, reduceIte, e1, ex_0, ex_1, ex_2, Int.reduceBEq, ls, ec.trans (decide_eq_false h6)]
             exact no _ _ (l2.toN hn2) (by simp +decide only [↓G.o, reduceIte, e0]) (by simp +decide only [↓G.o, reduceIte, e1])
         · simp +decide only [zf42.o, ↓GR.o, reduceIte, ex_0, ex_1, ex_2, Int.reduceBEq]
           exact yes _ _ (l2.toN hn2) (by simp +decide only [↓G.o, reduceIte])
         · simp +decide only [zf42.o, ↓GR.o, reduceIte, ex_0, ex_1, ex_2, Int.reduceBEq]
           exact yes _ _ (l2.put h4 h5 _) (by simp +decide only [↓G.o, reduceIte])
       · simp +decide only [zf42.o, ↓GR.o, reduceIte, e0, e1, hb1, ix, h1, h2]
         exact no _ _ l1 (by simp +decide only [↓G.o, reduceIte, e0]) (by simp +decide only [↓G.o, reduceIte, e1])
     · simp +decide only [zf42.o, ↓GR.o, reduceIte, e0, e1, hb1, ix, h1]
       exact no _ _ l1 (by simp +decide only [↓G.o, reduceIte, e0]) (by simp +decide only [↓G.o, reduceIte, e1])
 clear e0 e1 l1
 rintro o E _ H1 ⟨rfl, l1, ho⟩
 cases o <;> try exact ho.elim
 case ret =>
   simp +decide only [zf42.o, ↓GR.o, ho]
   exact fin _ _ l1
 obtain ⟨e0, e1⟩ := ho
 have hb1 := l1.keep _ _ hb
 obtain ⟨wn, wl, wl2, wr⟩ := r.want
 obtain ⟨⟨a, m, rfl⟩, _⟩ := wr.sc
 simp +decide only [zf42.o, ↓GR.o, reduceIte, e0, hb1]
 refine ja6 (I := fun i E ds H' => ds = [] ∧ E 1 = strV s ∧ E 55 = .slice a wl.length m ∧ E 56 = .int .i64 (wl.length : Int) ∧ ∃ j : Nat, E 57 = .int .i64 (j : Int) ∧ i = wl.length - j ∧ Hle H H') (i := wl.length) ?_ ⟨rfl, ?_, ?_, ?_, 0, ?_, rfl, l1⟩
 · clear e0 e1 l1 hb1
   rintro L i E _ H1 ⟨rfl, e1, e55, e56, j, e57, rfl, l1⟩ hL
   by_cases h : j < wl.length
   · obtain ⟨q, m', cs, e, hq, hc⟩ := wr.at h
     cases e
     have hq1 := l1.keep _ _ hq
     simp +decide only [zf42.o, ↓GR.o, reduceIte, e55, e56, e57, h, hq1, hc]
     refine j4f (t0.hle l1) _ fun u n hn => ?_
     simp +decide only [↓GR.o, reduceIte, e1]
     refine yr8 u s fun v => ?_
     cases v with
     | true =>
       simp +decide only [zf42.o, ↓GR.o, reduceIte]
       exact fin _ _ (l1.toN hn)
     | false =>
       simp +decide only [zf42.o, ↓GR.o, reduceIte, e57, ja1 (show j < 2 ^ 62 by omega)]
       refine hL (wl.length - (j + 1)) _ _ _ (by omega) ⟨rfl, ?_, ?_, ?_, j + 1, ?_, rfl, l1.toN hn⟩ <;> simp +decide only [↓G.o, reduceIte, e1, e55, e56]
   · simp +decide only [zf42.o, ↓GR.o, reduceIte, e56, e57, h]
     exact fin _ _ l1
 all_goals simp +decide only [↓G.o, reduceIte, e1] <;> rfl
end
def haltE (i : Int) (e : Int) : PanicEntry := { v := .iface 58 (.agg #[.int .i64 i, .int .i64 e]), recovered := false }
theorem jt9 (x y : Int) : buildA PP 58 #[(0, .int .i64 x), (1, .int .i64 y)] = some (.agg #[.int .i64 x, .int .i64 y]) := by kernel_rfl
theorem ju0 : notIface PP 58 = true := by decide +kernel
theorem yi8 (f : Nat × Operand → Nat × Value) (x y : Nat × Operand) : (#[x, y] : Array (Nat × Operand)).map f = #[f x, f y] := by simp
section
variable {P : Program} {d : Option Tmp} {E : Env} {ds : List Deferred} {H : Heap} {k : KE} {kp : KX}
def panV (v : Value) (E : Env) (ds : List Deferred) (H : Heap) (kp : KX) : Prop := match v with | .iface t v => kp [{ v := .iface t v, recovered := false }] E ds H | _ => False
theorem j6x (x : Operand) : opU P d (.panic x) E ds H k kp = panV (evalE E x) E ds H kp := by
 show (match evalE E x with | .iface t v => _ | _ => False) = _
 unfold panV
 cases evalE E x <;> rfl
theorem ju1 (t : TypeId) (v : Value) : panV (.iface t v) E ds H kp = kp [{ v := .iface t v, recovered := false }] E ds H := id rfl
end
section
variable {z : Cx} {T : Tc} {H : Heap} {p : PS} {w : Nat} {k : KV} {kp : KP}
theorem jo0 (x : Rd z T H p w) (hw : w < 2 ^ 30) (hk : ∀ i H', Fle H H' → kp [haltE i 60] H') : callW PP 23 #[pt z.b] H k kp := by
 obtain ⟨f, t, bad, wv, nm, nu, iv, nv, hb, r⟩ := x.ex
 refine run 1 rfl Tryz.func23 (pr := noPr) (by decide +kernel) (by kernel_rfl) ?_
 have sz := r.sz
 have hat := sz.2.2.2.1
 have hto := sz.2.2.2.2
 have hs := x.base.short
 have fl : ∀ i, kp [{ v := .iface 58 (.agg #[.int .i64 i, .int .i64 60]), recovered := false }] H := fun i => hk i H (.refl x.fresh)
 obtain ⟨wn, wl, wl2, wr⟩ := r.want
 obtain ⟨⟨a, m, rfl⟩, _⟩ := wr.sc
 by_cases h : p.at_ < p.to_ ∧ z.s.getD p.at_ 0 = 34
 · obtain ⟨h1, h2⟩ := h
   have h3 : p.at_ < z.s.length := Nat.lt_of_lt_of_le h1 sz.2.2.2.2
   obtain ⟨q, o, cs, rr, ix, hq, hc⟩ := x.base.ix h3
   rw [je6 h3] at h2
   have b1 : ((z.s[p.at_].toNat : Int) == 34) = true := by rw [jb7 _ 34 (n := 34) rfl]; exact decide_eq_true h2
   simp +decide only [zf23.o, ↓GR.o, reduceIte, hb, h1, ix, hq, hc, b1]
   refine joinO (Q := fun k => loopW _ _ _ _ (leaveW 0 k)) (fun o E ds H' => o = .norm ∧ ds = [] ∧ E 0 = pt z.b ∧ (∃ i, E 2 = .int .i64 i) ∧ H' = H) (fun Z hZ => ?_) ?_
   · refine ja6 (I := fun i E ds H' => ds = [] ∧ E 0 = pt z.b ∧ (∃ c, E 2 = .int .i64 c) ∧ E 30 = .slice a wl.length m ∧ E 31 = .int .i64 (wl.length : Int) ∧ ∃ j : Nat, E 32 = .int .i64 (j : Int) ∧ i = wl.length - j ∧ H' = H) (i := wl.length) ?_ ⟨rfl, ?_, ⟨0, ?_⟩, ?_, ?_, 0, ?_, rfl, rfl⟩
     · rintro L i E _ _ ⟨rfl, e0, ⟨c, e2⟩, e30, e31, j, e32, rfl, rfl⟩ hL
       by_cases h4 : j < wl.length
       · obtain ⟨q, m', cs, e, hq, hc⟩ := wr.at h4
         cases e
         have go : ∀ E' : Env, E' 0 = pt z.b → (∃ c, E' 2 = .int .i64 c) → E' 30 = .slice (some ⟨q, 0, none⟩) wl.length m → E' 31 = .int .i64 (wl.length : Int) → E' 32 = .int .i64 ((j + 1 : Nat) : Int) → L E' [] _ := fun E' a b c d e => hL (wl.length - (j + 1)) _ _ _ (by omega) ⟨rfl, a, b, c, d, j + 1, e, rfl, rfl⟩
         by_cases h5 : wl[j] = 3
         · simp +decide only [zf23.o, ↓GR.o, reduceIte, e0, e30, e31, e32, h4, hq, hc, h5, Int.reduceBEq, hb, ja1 (show j < 2 ^ 62 by omega)]
           refine go _ ?_ ⟨bad, ?_⟩ ?_ ?_ ?_ <;> simp +decide only [↓G.o, reduceIte, e0, e30, e31]
         · simp +decide only [zf23.o, ↓GR.o, reduceIte, e30, e31, e32, h4, hq, hc, show (wl[j] == 3) = false by simpa using h5, ja1 (show j < 2 ^ 62 by omega)]
           refine go _ ?_ ⟨c, ?_⟩ ?_ ?_ ?_ <;> simp +decide only [↓G.o, reduceIte, e0, e2, e30, e31]
       · simp +decide only [zf23.o, ↓GR.o, reduceIte, e31, e32, h4]
         refine hZ .norm _ _ _ ⟨rfl, rfl, ?_, ⟨c, ?_⟩, rfl⟩ <;> simp +decide only [↓G.o, reduceIte, e0, e2]
     all_goals simp +decide only [↓G.o, reduceIte] <;> rfl
   rintro _ E _ _ ⟨rfl, rfl, e0, ⟨c, e2⟩, rfl⟩
   simp +decide only [zf23.o, ↓GR.o, reduceIte, e0, e2, hb, jt9, ju0, ↓j6x, ju1]
   exact fl _
 · simp +decide only [zf23.o, ↓dG.o]
   rw [yi6]
   refine joinO (Q := fun k => exU PP noPr Tryz.f23 _ none _ _ _ k) (fun o E ds H' => o = .norm ∧ ds = [] ∧ E 0 = pt z.b ∧ E 2 = .int .i64 ((0 : Nat) : Int) ∧ H' = H) (fun Z hZ => ?_) ?_
   · by_cases h1 : p.at_ < p.to_
     · have h3 : p.at_ < z.s.length := Nat.lt_of_lt_of_le h1 sz.2.2.2.2
       obtain ⟨q, o, cs, rr, ix, hq, hc⟩ := x.base.ix h3
       have b1 : ((z.s[p.at_].toNat : Int) == 34) = false := by rw [jb7 _ 34 (n := 34) rfl]; exact decide_eq_false fun e => h ⟨h1, by rw [je6 h3]; exact e⟩
       simp +decide only [zf23.o, ↓GR.o, reduceIte, hb, h1, ix, hq, hc, b1]
       refine hZ .norm _ _ _ ⟨rfl, rfl, ?_, ?_, rfl⟩ <;> simp +decide only [↓G.o, reduceIte] <;> rfl
     · simp +decide only [zf23.o, ↓GR.o, reduceIte, hb, h1]
       refine hZ .norm _ _ _ ⟨rfl, rfl, ?_, ?_, rfl⟩ <;> simp +decide only [↓G.o, reduceIte] <;> rfl
   rintro _ E _ H' ⟨rfl, rfl, e0, e2, rfl⟩
   simp +decide only [↓GR.o]
   refine ja6 (I := fun i E ds G => ds = [] ∧ E 0 = pt z.b ∧ ∃ j n : Nat, E 2 = .int .i64 (j : Int) ∧ p.at_ + j ≤ p.to_ ∧ i = p.to_ - (p.at_ + j) ∧ H'.next ≤ n ∧ G = H'.to n) (i := p.to_ - p.at_) ?_ ⟨rfl, e0, 0, H'.next, e2, by omega, by omega, Nat.le_refl _, rfl⟩
   clear e0 e2 fl
   rintro L i E _ _ ⟨rfl, e0, j, n, e2, hj, rfl, hn, rfl⟩ hL
   have x1 := x.to hn
   have hb1 : (H'.to n).get z.b = _ := hb
   have fl : ∀ i n, H'.next ≤ n → kp [{ v := .iface 58 (.agg #[.int .i64 i, .int .i64 60]), recovered := false }] (H'.to n) := fun i n hn => hk i _ (.to x.fresh hn)
   have w0 : IntKind.i64.wrap ((p.at_ : Int) + (j : Int)) = ((p.at_ + j : Nat) : Int) := by rw [ja8 (by omega) (by omega)]; rfl
   by_cases h4 : p.at_ + j < p.to_
   · obtain ⟨a', c', sl, br, hc'⟩ := jn4 x1.base.row (i := p.at_) (j := p.at_ + j + 1) (by omega) (by omega) x.base.cap
     have hl : ((z.s.drop p.at_).take (p.at_ + j + 1 - p.at_)).length = j + 1 := by simp; omega
     simp +decide only [zf23.o, ↓GR.o, reduceIte, e0, e2, hb, w0, h4, ja1 (show p.at_ + j < 2 ^ 62 by omega), Option.map_some, Option.map_none, sl, jl9 br]
     refine yi7 x1 hw (by omega) (by omega) fun v n2 hn2 => ?_
     have hn2' : n ≤ n2 := hn2
     cases v with
     | true =>
       simp +decide only [zf23.o, ↓GR.o, reduceIte, e2, ja1 (show j < 2 ^ 62 by omega)]
       refine hL (p.to_ - (p.at_ + (j + 1))) _ _ _ (by omega) ⟨rfl, ?_, j + 1, n2, ?_, by omega, rfl, by omega, rfl⟩ <;> simp +decide only [↓G.o, reduceIte, e0]
     | false =>
       simp +decide only [zf23.o, ↓GR.o, reduceIte, e0, e2, hb, w0, jt9, ju0, ↓j6x, ju1]
       exact fl _ _ (by omega)
   · simp +decide only [zf23.o, ↓GR.o, reduceIte, e0, e2, hb, w0, h4, jt9, ju0, ↓j6x, ju1]
     exact fl _ _ hn
end
inductive Er where | bad | deep
def Er.code : Er → Int | .bad => 60 | .deep => 61
inductive Ou (α : Type) where
 | ok (v : α) (p : PS)
 | er (e : Er)
def Ou.bind {α β : Type} (x : Ou α) (f : α → PS → Ou β) : Ou β := match x with | .ok v p => f v p | .er e => .er e
theorem Ou.bind_ok {α β : Type} (v : α) (p : PS) (f : α → PS → Ou β) : (Ou.ok v p).bind f = f v p := rfl
structure Go (p q : PS) : Prop where
 le : p.at_ ≤ q.at_
 its : p.its.length ≤ q.its.length
 its' : q.its.length + p.at_ ≤ p.its.length + q.at_
 nds' : q.nds.length + p.at_ ≤ p.nds.length + q.at_
def Lv (p : PS) : Prop := p.its.length ≤ p.at_ ∧ p.nds.length ≤ p.at_
theorem Go.refl (p : PS) : Go p p := ⟨Nat.le_refl _, Nat.le_refl _, Nat.le_refl _, Nat.le_refl _⟩
theorem Go.trans {p q r : PS} (g : Go p q) (h : Go q r) : Go p r := ⟨Nat.le_trans g.le h.le, Nat.le_trans g.its h.its, by have := g.its'; have := h.its'; omega, by have := g.nds'; have := h.nds'; omega⟩
theorem Go.lv {p q : PS} (g : Go p q) (l : Lv p) : Lv q := ⟨by have := g.its'; have := l.1; omega, by have := g.nds'; have := l.2; omega⟩
theorem jd1 (s : List UInt8) (p : PS) : (nextP s p).opened = p.opened ∧ (nextP s p).its = p.its ∧ (nextP s p).nds = p.nds := by
 unfold nextP
 split <;> exact ⟨rfl, rfl, rfl⟩
theorem j0j (s : List UInt8) (p : PS) : (nextP s p).at_ = jb2 s p.to_ := by unfold nextP; split <;> rfl
theorem jd3 {s : List UInt8} {p : PS} (h : Sz s p) : Go p (nextP s p) ∧ p.to_ ≤ (nextP s p).at_ ∧ (nextP s p).opened = p.opened ∧ Lv (nextP s p) := by
 obtain ⟨e1, e2, e3⟩ := jd1 s p
 have := ji8 s (s.length + 1 - p.to_) p.to_ (by have := h.2.2.2.2; omega)
 have e4 := j0j s p
 unfold jb2 at e4
 obtain ⟨h1, h2, h3, h4, h5⟩ := h
 exact ⟨⟨by omega, by rw [e2]; exact Nat.le_refl _, by rw [e2]; omega, by rw [e3]; omega⟩, by omega, e1, by rw [e2]; omega, by rw [e3]; omega⟩
def An {α : Type} (z : Cx) (T : Tc) (H : Heap) (p : PS) (o W : Nat) (rel : Heap → α → Value → Prop) (k : KV) (kp : KP) : Ou α → Prop
 | .ok v q => ∀ H' u, Fle H H' → Rd z T H' q W → Go p q → q.opened = o → rel H' v u → k u H'
 | .er e => ∀ i H', Fle H H' → kp [haltE i e.code] H'
def vU : Heap → Unit → Value → Prop := fun _ _ u => u = .tuple #[]
def vB : Heap → Bool → Value → Prop := fun _ b u => u = .bool b
def vN : Heap → Nat → Value → Prop := fun _ n u => u = .int .i64 (n : Int)
def mustP (s : List UInt8) (k : Int) (p : PS) : Ou Unit := if p.k.kind = k then .ok () (nextP s p) else .er .bad
def takeP (s : List UInt8) (k : Int) (p : PS) : Ou Bool := if p.k.kind = k then .ok true (nextP s p) else .ok false p
def openP (s : List UInt8) (k : Int) (p : PS) : Ou Unit := if p.k.kind = k then (if p.opened = 32 then .er .deep else .ok () (nextP s { p with opened := p.opened + 1 })) else .er .bad
def shutP (s : List UInt8) (k : Int) (p : PS) : Ou Unit := if p.k.kind = k then .ok () { nextP s p with opened := p.opened - 1 } else .er .bad
def wordP (s : List UInt8) (p : PS) : Ou Rf := if p.k.kind = 1 then .ok ⟨p.k.w, p.at_, []⟩ (nextP s p) else .er .bad
section
variable {z : Cx} {T : Tc} {H : Heap} {p : PS} {w : Nat} {k : KV} {kp : KP}
theorem Rd.sz (x : Rd z T H p w) : Sz z.s p := let ⟨_, _, _, _, _, _, _, _, _, _, _, h⟩ := x; h.sz
theorem Rd.tok (x : Rd z T H p w) : p.k.kind ≠ 0 → p.at_ < p.to_ := let ⟨_, _, _, _, _, _, _, _, _, _, _, h⟩ := x; h.tok
theorem j1o (x : Rd z T H p w) (hw : w < 2 ^ 29) (kd : Int) (h1 : p.k.kind = kd → ∀ H', Fle H H' → Rd z T H' (nextP z.s p) 0 → k (.bool true) H') (h2 : p.k.kind ≠ kd → ∀ H', Fle H H' → Rd z T H' p (w + 1) → k (.bool false) H') : callW PP 36 #[pt z.b, .int .i64 kd] H k kp := by
 refine run 2 rfl Tryz.func36 (pr := noPr) (by decide +kernel) (by kernel_rfl) ?_
 simp +decide only [zf36.o, ↓GR.o, reduceIte]
 refine jg9 x (by omega) kd fun H1 f1 x1 => ?_
 by_cases h : p.k.kind = kd
 · simp +decide only [zf36.o, ↓GR.o, reduceIte, show (p.k.kind == kd) = true by simpa using h]
   refine jn9 x1 fun H2 f2 x2 => ?_
   simp +decide only [zf36.o, ↓GR.o, reduceIte]
   exact h1 h H2 (f1.trans f2) x2
 · simp +decide only [↓GR.o, reduceIte, show (p.k.kind == kd) = false by simpa using h]
   exact h2 h H1 f1 x1
theorem j8l (x : Rd z T H p w) (hw : w < 2 ^ 29) (kd : Int) (hk : An z T H p p.opened (w + 1) vB k kp (takeP z.s kd p)) : callW PP 36 #[pt z.b, .int .i64 kd] H k kp := by
 have g := jd3 x.sz
 unfold takeP at hk
 refine j1o x hw kd (fun h H1 f1 x1 => ?_) fun h H1 f1 x1 => ?_
 · rw [if_pos h] at hk; exact hk H1 _ f1 (x1.mono (Nat.zero_le _)) g.1 g.2.2.1 rfl
 · rw [if_neg h] at hk; exact hk H1 _ f1 x1 (.refl p) rfl rfl
theorem jo1 (x : Rd z T H p w) (hw : w < 2 ^ 28) (kd : Int) (hk : An z T H p p.opened 0 vU k kp (mustP z.s kd p)) : callW PP 19 #[pt z.b, .int .i64 kd] H k kp := by
 refine run 2 rfl Tryz.func19 (pr := noPr) (by decide +kernel) (by kernel_rfl) ?_
 simp +decide only [zf19.o, ↓GR.o, reduceIte]
 have g := jd3 x.sz
 unfold mustP at hk
 refine j1o x (by omega) kd (fun h H1 f1 x1 => ?_) fun h H1 f1 x1 => ?_
 · rw [if_pos h] at hk
   simp +decide only [zf19.o, ↓GR.o, reduceIte]
   exact hk H1 _ f1 x1 g.1 g.2.2.1 rfl
 · rw [if_neg h] at hk
   simp +decide only [zf19.o, ↓GR.o, reduceIte, Bool.not_false]
   refine jo0 x1 (by omega) fun i H2 f2 => ?_
   simp +decide only [↓GR.o]
   exact hk i H2 (f1.trans f2)
theorem Rd.opens (x : Rd z T H p w) {o : Nat} (ho : o ≤ 32) {cs : List Value} (hb : H.get z.b = some ⟨cs, true, 1, none⟩) : Rd z T (H.set z.b ⟨cs.set 12 (.int .i64 (o : Int)), true, 1, none⟩) { p with opened := o } w := by
 obtain ⟨h1, h2, f, t, bad, wv, nm, nu, iv, nv, h3, h4, h5, h6, h7, h8⟩ := x
 rw [h3] at hb; cases hb
 exact Rd.set h1 h2 h3 ⟨h4, h5, h6, ⟨h7.1, h7.2.1, ho, h7.2.2.2⟩, h8⟩ rfl
theorem jy2 (x : Rd z T H p w) (hw : w < 2 ^ 28) (kd : Int) (hk : An z T H p (p.opened + 1) 0 vU k kp (openP z.s kd p)) : callW PP 37 #[pt z.b, .int .i64 kd] H k kp := by
 refine run 2 rfl Tryz.func37 (pr := noPr) (by decide +kernel) (by kernel_rfl) ?_
 simp +decide only [zf37.o, ↓GR.o, reduceIte]
 have so := x.sz.2.2.1
 unfold openP at hk
 refine jg9 x (by omega) kd fun H1 f1 x1 => ?_
 by_cases h : p.k.kind = kd
 · rw [if_pos h] at hk
   obtain ⟨f, t, bad, wv, nm, nu, iv, nv, hb, r⟩ := x1.ex
   have oe : ((p.opened : Int) == 32) = decide (p.opened = 32) := ja7 _ 32
   by_cases h32 : p.opened = 32
   · rw [if_pos h32] at hk
     simp +decide only [zf37.o, ↓GR.o, reduceIte, show (p.k.kind == kd) = true by simpa using h, hb, oe.trans (decide_eq_true h32), jt9, ju0, ↓j6x, ju1]
     exact hk _ _ f1
   · rw [if_neg h32] at hk
     have x2 := x1.opens (o := p.opened + 1) (by omega) hb
     simp +decide only [zf37.o, ↓GR.o, reduceIte, show (p.k.kind == kd) = true by simpa using h, hb, oe.trans (decide_eq_false h32), ja1 (show p.opened < 2 ^ 62 by omega)]
     refine jn9 x2 fun H2 f2 x3 => ?_
     simp +decide only [zf37.o, ↓GR.o]
     have g := jd3 x2.sz
     exact hk H2 _ (f1.trans ((Fle.set x1.fresh hb _).trans f2)) x3 ⟨g.1.le, g.1.its, g.1.its', g.1.nds'⟩ g.2.2.1 rfl
 · rw [if_neg h] at hk
   simp +decide only [zf37.o, ↓GR.o, reduceIte, show (p.k.kind == kd) = false by simpa using h, Bool.not_false]
   refine jo0 x1 (by omega) fun i H2 f2 => ?_
   simp +decide only [↓GR.o]
   exact hk i H2 (f1.trans f2)
theorem jy3 (x : Rd z T H p w) (hw : w < 2 ^ 27) (ho : 1 ≤ p.opened) (kd : Int) (hk : An z T H p (p.opened - 1) 0 vU k kp (shutP z.s kd p)) : callW PP 39 #[pt z.b, .int .i64 kd] H k kp := by
 refine run 2 rfl Tryz.func39 (pr := noPr) (by decide +kernel) (by kernel_rfl) ?_
 simp +decide only [fx Tryz.f39.eq_1, ↓GR.o, reduceIte]
 have so := x.sz.2.2.1
 unfold shutP at hk
 refine jo1 x (by omega) kd ?_
 unfold mustP
 by_cases h : p.k.kind = kd
 · rw [if_pos h] at hk ⊢
   rintro H1 _ f1 x1 g1 o1 rfl
   obtain ⟨f, t, bad, wv, nm, nu, iv, nv, hb, r⟩ := x1.ex
   have x2 := x1.opens (o := p.opened - 1) (by omega) hb
   simp +decide only [fx Tryz.f39.eq_1, ↓GR.o, reduceIte, hb, show IntKind.i64.wrap (((nextP z.s p).opened : Int) - 1) = ((p.opened - 1 : Nat) : Int) by rw [o1, ja8 (by omega) (by omega)]; omega]
   exact hk _ _ (f1.trans (Fle.set x1.fresh hb _)) x2 ⟨g1.le, g1.its, g1.its', g1.nds'⟩ rfl rfl
 · rw [if_neg h] at hk ⊢
   intro i H1 f1
   simp +decide only [↓GR.o]
   exact hk i H1 f1
end
def st3 (x : Option Blk) (q off : Nat) (a b c : Value) (H : Heap) : VH := match x with
 | some ⟨cells, true, es, none⟩ => if inL (off + 2) cells = true then some (undef, H.set q ⟨((cells.set off a).set (off + 1) b).set (off + 2) c, true, es, none⟩) else none
 | _ => none
theorem over3 (a b c : Value) : ∀ (off : Nat) (cells : List Value), off + 3 ≤ cells.length → over cells off [a, b, c] = ((cells.set off a).set (off + 1) b).set (off + 2) c
 | 0, x :: y :: z :: l, _ => by simp [over]
 | 0, [], h => by simp at h
 | 0, [_], h => by simp at h
 | 0, [_, _], h => by simp at h
 | n + 1, [], h => by simp at h
 | n + 1, x :: l, h => by
   have := over3 a b c n l (by simp at h; omega)
   simp only [over, List.take_succ_cons, List.cons_append, List.length_cons, List.length_nil, List.set_cons_succ, show n + 1 + (0 + 1 + 1 + 1) = (n + (0 + 1 + 1 + 1)) + 1 by omega, List.drop_succ_cons] at this ⊢
   rw [this]
theorem yi9 {q off : Nat} {a b c : Value} {H : Heap} (ha : sc a = true) (hb : sc b = true) (hc : sc c = true) : storeA PP 24 (.pointer (some ⟨q, off, none⟩)) (.agg #[a, b, c]) H = st3 (H.get q) q off a b c H := by
 have hs : sizeT PP 24 = some 3 := by decide +kernel
 have h1 := (jd6 ha).2
 have h2 := (jd6 hb).2
 have h3 := (jd6 hc).2
 simp only [storeA, hs, stV, Value.cells, st, look, st3]
 cases H.get q with
 | none => rfl
 | some x =>
   obtain ⟨cs, r, e, o⟩ := x
   cases o with
   | some o => cases r <;> rfl
   | none =>
     cases r with
     | false => simp
     | true =>
       by_cases h : off + 3 ≤ cs.length
       · have hi : inL (off + 2) cs = true := (jc9 _ _).2 (by omega)
         simp [h1, h2, h3, h, hi, over3 a b c off cs h]
       · have hi : ¬ inL (off + 2) cs = true := fun k => h (by have := (jc9 _ _).1 k; omega)
         simp [h, hi]
theorem yj0 {cells : List Value} {off : Nat} (h : inL (off + 2) cells = true) (es q : Nat) (a b c : Value) (H : Heap) : st3 (some ⟨cells, true, es, none⟩) q off a b c H = some (undef, H.set q ⟨((cells.set off a).set (off + 1) b).set (off + 2) c, true, es, none⟩) := if_pos h
theorem yj1 (w : ByteArray) (n : Int) : buildA PP 24 #[(0, .string w), (1, .int .i64 n)] = some (.agg #[.string w, .int .i64 n, .slice none 0 0]) := by kernel_rfl
theorem zrR : zeroT PP 24 = some [.string .empty, .int .i64 0, .slice none 0 0] := by kernel_rfl
theorem tyW : lk PP 24 = 5 ∧ esT PP 24 = 1 ∧ foff PP 24 0 = some 0 ∧ foff PP 24 1 = some 1 ∧ foff PP 24 2 = some 2 := by decide +kernel
def cellO (x : VH) (l : Option (List Value)) : Option (List Value) := match x with | some (v, _) => consO v l | none => none
theorem j1p (v : Value) (H : Heap) (l : Option (List Value)) : cellO (some (v, H)) l = consO v l := id rfl
theorem j4g {P : Program} {E : Env} {H : Heap} (a : Tmp) (t : TypeId) (l : List ResultVar) : resE P E H (.cell a t :: l) = cellO (loadA P t (E a) H) (resE P E H l) := by
 simp only [resE]
 cases loadA P t (E a) H with
 | none => rfl
 | some x => cases resE P E H l <;> rfl
def GW := Pf.mk (And.intro GR.o (And.intro @yi9 (And.intro @yj0 (And.intro @yj1 (And.intro (je5 zrR) (And.intro tyW (And.intro @j1p (And.intro @j4g @yi8))))))))
theorem Fr.in {H0 H : Heap} {L : List (Nat × Blk)} (f : Fr H0 H L) {g : FuncId} {args : Array Value} {k : KV} {kp : KP} (h : callW PP g args H (fun v H' => k v (H'.plus L)) (fun c H' => kp c (H'.plus L))) : callW PP g args (H.plus L) k kp := j2c f.beside h
theorem jo2 : ∀ (L L' : List (Nat × Blk)), L'.map (·.1) = L.map (·.1) → ∀ q y, L'.lookup q = some y → ∃ y', L.lookup q = some y'
 | [], [], _, q, y, e => by cases e
 | [], _ :: _, h, _, _, _ => by cases h
 | _ :: _, [], h, _, _, _ => by cases h
 | (n, b) :: L, (n', b') :: L', h, q, y, e => by
   simp only [List.map_cons, List.cons.injEq] at h
   obtain ⟨rfl, h⟩ := h
   simp only [List.lookup] at e ⊢
   split at e
   · exact ⟨_, rfl⟩
   · exact jo2 L L' h q y e
theorem Fr.as {H0 H : Heap} {L : List (Nat × Blk)} (f : Fr H0 H L) {L' : List (Nat × Blk)} (h : L'.map (·.1) = L.map (·.1)) : Fr H0 H L' := ⟨f.fle, fun q y e => let ⟨y', h'⟩ := jo2 L L' h q y e; f.keys q y' h'⟩
def prWord : Nat → List (Nat × Nat) := fun i => if i = 4 then [(4, 10), (8, 10)] else []
def vR0 : Heap → Rf → Value → Prop := fun _ f u => u = .agg #[.string f.word, .int .i64 (f.at_ : Int), .slice none 0 0]
section
variable {z : Cx} {T : Tc} {H : Heap} {p : PS} {w : Nat} {k : KV} {kp : KP}
theorem Rd.flags (x : Rd z T H p w) {nm nu nm' nu' : Bool} {f t bad : Int} {wv iv nv : Value} (hb : H.get z.b = some (rdB z T p f t bad wv nm nu iv nv)) : Rd z T (H.set z.b (rdB z T p f t bad wv nm' nu' iv nv)) p w := by
 obtain ⟨h1, h2, f', t', bad', wv', nm'', nu'', iv', nv', h3, h4⟩ := x
 rw [h3] at hb
 simp only [Option.some.injEq, Blk.mk.injEq, List.cons.injEq, Value.int.injEq, Value.bool.injEq, true_and, and_true] at hb
 obtain ⟨rfl, rfl, rfl, rfl, rfl, rfl, rfl, rfl⟩ := hb
 exact Rd.set h1 h2 h3 h4 rfl
theorem je7 (x : Rd z T H p w) (hw : w < 2 ^ 28) (hk : An z T H p p.opened 0 vR0 k kp (wordP z.s p)) : callW PP 20 #[pt z.b] H k kp := by
 have lb : z.b < H.next := let ⟨_, _, _, _, _, _, _, _, hb, _⟩ := x.ex; x.fresh.lt hb
 show callW PP 20 #[pt z.b] (H.plus []) k kp
 refine run 1 rfl Tryz.func20 (pr := prWord) (by decide +kernel) (by kernel_rfl) ?_
 obtain ⟨f, t, bad, wv, nm, nu, iv, nv, hb, r⟩ := x.ex
 have f1 := (Fr.start x.fresh).new ⟨[.string .empty, .int .i64 0, .slice none 0 0], true, 1, none⟩
 have x1 := x.to (show H.next ≤ H.next + 1 by omega)
 have x2 := x1.flags (nm' := true) (nu' := nu) hb
 have f2 := f1.call (.set x1.fresh hb (rdB z T p f t bad wv true nu iv nv))
 unfold wordP at hk
 by_cases h : p.k.kind = 1
 · rw [if_pos h] at hk
   simp +decide only [zf20.o, ↓GW.o, reduceIte, hb, lb, show (p.k.kind != 1) = false by rw [h]; rfl, prWord]
   have f3 : Fr H ((H.set z.b (rdB z T p f t bad wv true nu iv nv)).to (H.next + 1 + 1)) [(H.next + 1, ⟨[.string p.k.w, .int .i64 (p.at_ : Int), .slice none 0 0], true, 1, none⟩), _] := f2.new _
   refine f3.in (jn9 (x2.to (show H.next + 1 ≤ H.next + 1 + 1 by omega)) fun H4 f4 x4 => ?_)
   have f5 := f3.call f4
   have g := jd3 x.sz
   simp +decide only [zf20.o, ↓GW.o, reduceIte]
   exact hk _ _ (f5.as (by rfl)).out (x4.hle (f5.as (by rfl)).hle) g.1 g.2.2.1 rfl
 · rw [if_neg h] at hk
   simp +decide only [zf20.o, ↓GW.o, reduceIte, hb, lb, show (p.k.kind != 1) = true by simpa using h]
   refine f2.in (jo0 x2 (by omega) fun i H3 f3 => ?_)
   simp +decide only [↓GW.o]
   exact hk i _ (f2.call f3).out
end
def rankN (k : Int) : Nat := if k = 20 then 2 else if k = 21 then 3 else if k = 22 then 4 else if k = 23 ∨ k = 24 then 5 else if k = 25 ∨ k = 26 then 6 else if k = 27 ∨ k = 28 ∨ k = 29 then 7 else if 14 ≤ k ∧ k ≤ 19 then 1 else 0
theorem j93 (k : Int) : rankN k ≤ 7 := by unfold rankN; repeat' split <;> try omega
theorem jr9 {H : Heap} (i : Int) {k : KV} {kp : KP} (hk : k (.int .i64 (rankN i : Nat)) H) : callW PP 99 #[.int .i64 i] H k kp := by
 refine run 1 rfl Tryz.func99 (pr := noPr) (by decide +kernel) (by kernel_rfl) ?_
 by_cases h : 20 ≤ i ∧ i ≤ 29
 · rcases (by omega : i = 20 ∨ i = 21 ∨ i = 22 ∨ i = 23 ∨ i = 24 ∨ i = 25 ∨ i = 26 ∨ i = 27 ∨ i = 28 ∨ i = 29) with rfl | rfl | rfl | rfl | rfl | rfl | rfl | rfl | rfl | rfl <;>
     (simp +decide only [zf99.o, ↓GR.o, reduceIte, Int.reduceBEq]; exact hk)
 · have nb : ∀ n : Int, 20 ≤ n ∧ n ≤ 29 → (i == n) = false := fun n hn => by
     have : i ≠ n := fun e => h (e ▸ hn)
     simpa using this
   have hr : rankN i = if 14 ≤ i ∧ i ≤ 19 then 1 else 0 := by
     unfold rankN
     rw [if_neg (by omega), if_neg (by omega), if_neg (by omega), if_neg (by omega), if_neg (by omega), if_neg (by omega)]
   rw [hr] at hk
   have n0 := nb 20 (by decide)
   have n1 := nb 21 (by decide)
   have n2 := nb 22 (by decide)
   have n3 := nb 23 (by decide)
   have n4 := nb 24 (by decide)
   have n5 := nb 25 (by decide)
   have n6 := nb 26 (by decide)
   have n7 := nb 27 (by decide)
   have n8 := nb 28 (by decide)
   have n9 := nb 29 (by decide)
   by_cases h1 : i ≥ 14 <;> by_cases h2 : i ≤ 19
   · rw [if_pos ⟨h1, h2⟩] at hk
     simp +decide only [zf99.o, ↓GR.o, reduceIte, n0, n1, n2, n3, n4, n5, n6, n7, n8, n9, h1, h2]
     exact hk
   all_goals
     rw [if_neg (by omega)] at hk
     simp +decide only [zf99.o, ↓GR.o, reduceIte, n0, n1, n2, n3, n4, n5, n6, n7, n8, n9, h1, h2]
     exact hk
theorem Ch.weak {H H' : Heap} (c : Ch none H H') (s : Option Nat) : Ch s H H' := ⟨c.next, fun q y e _ => c.keep q y e (by simp), c.gap, c.fresh⟩
theorem Rw.chE {H H' : Heap} {v : Value} {es n e : Nat} {cells : List Value} (r : Rw H v es n cells) {s : Option Nat} (c : Ch s H H') (he : es ≠ e) (h : ∀ q, s = some q → ∃ y, H.get q = some ⟨y, true, e, none⟩) : Rw H' v es n cells := r.ch c fun q hq hb => by
 obtain ⟨y, hy⟩ := h q hq
 obtain ⟨y', hy'⟩ := r.blk q hb
 rw [hy] at hy'; cases hy'; exact he rfl
theorem OwnD.blk {H : Heap} {v : Value} {es n : Nat} {l : List DV} (o : OwnD H v es n l) : ∀ q, blkOf v = some q → ∃ x, H.get q = some ⟨x, true, es, none⟩ := let ⟨_, o1, _, _⟩ := o; o1.blk
theorem OwnD.ne {H : Heap} {v : Value} {es n e b : Nat} {l : List DV} {cs : List Value} (o : OwnD H v es n l) (hb : H.get b = some ⟨cs, true, e, none⟩) (he : es ≠ e) : blkOf v ≠ some b := fun h => by
 obtain ⟨x, hx⟩ := o.blk b h
 rw [hx] at hb; cases hb; exact he rfl
theorem j8m {t te es bytes : Nat} {z : List Value} (h1 : PP.underlying t = some (.slice te)) (h2 : (PP.info? te).map (fun i => (i.size, i.bytes)) = some (es, bytes)) (h3 : zeroT PP te = some z) (hz : z.length = es) (h0 : 0 < es) (hb : bytes ≤ 2 ^ 20) {H : Heap} {v : Value} {n : Nat} {l dn : List DV} {cells : List Value}
   (o : OwnD H v es n l) (f : Fresh H) (hd : Vds H dn cells) (hl : cells.length = es) (hc : cells.all Value.oneCell' = true) (hn : n ≤ 2 ^ 21) :
   ∃ v' H', appendA PP #[t, t] v (.slice (some ⟨H.next, 0, none⟩) 1 1) (H.alloc es cells) = some (v', H') ∧ OwnD H' v' es (n + 1) (l ++ dn) ∧ Ch (blkOf v) H H' ∧ (blkOf v' = blkOf v ∨ blkOf v' = some (H.next + 1)) ∧ sc v' = true ∧ ∃ a m, v' = .slice a (n + 1) m := by
 obtain ⟨cs, o1, o2, _⟩ := o
 have c1 := Ch.alloc f es cells
 have r1 := o1.ch c1 (fun q e => by cases e)
 have hm : (n + 1) * bytes ≤ most := Nat.le_trans (Nat.mul_le_mul (show n + 1 ≤ 2 ^ 22 by omega) hb) (by decide)
 obtain ⟨v', H', e1, e2, e3, e4, e5⟩ := r1.app c1.fresh hl hc hm (by unfold most; omega)
 have c2 : Ch (blkOf v) H H' := (c1.weak _).trans f e3 fun q e => .inl e
 have fl := c2.fle fun q e => let ⟨x, hx⟩ := o1.blk q e; ⟨x, es, hx⟩
 refine ⟨v', H', ?_, ⟨_, e2, (o2.append hd).mono fl.keep, fun h => by have := hd.1; simp at h; rw [h.2] at this; simp at this; omega⟩, c2, e4, e2.sc.2, e2.sc.1⟩
 rw [← e1]
 exact je8 h1 h2 h3 hz h0 (by rw [Heap.get_alloc, if_pos rfl]) hl v
theorem infoN : (PP.info? 37).map (fun i => (i.size, i.bytes)) = some (5, 64) := by kernel_rfl
theorem zrN : zeroT PP 37 = some [.int .i64 0, .int .u64 0, .string .empty, .slice none 0 0, .int .i64 0] := by kernel_rfl
theorem bs_n (H : Heap) (o n a : Int) (s : ByteArray) (x : Option Addr) (l m : Nat) : buildSliceA PP 26 1 #[(0, .agg #[.int .i64 o, .int .u64 n, .string s, .slice x l m, .int .i64 a])] H = some (.slice (some ⟨H.next, 0, none⟩) 1 1, H.alloc 5 [.int .i64 o, .int .u64 n, .string s, .slice x l m, .int .i64 a]) := by kernel_rfl
theorem tyN : lk PP 37 = 7 ∧ esT PP 37 = 1 := by decide +kernel
section
variable {z : Cx} {T : Tc} {H H' : Heap} {p : PS} {w : Nat} {k : KV} {kp : KP}
theorem Rx.node {wv iv nv v : Value} {nd : Nd} (x : Rx z H p w wv iv nv) (c : Ch (blkOf nv) H H') (o : OwnD H' v 5 (p.nds.length + 1) (p.nds.flatMap Nd.dv ++ nd.dv)) (hs : p.nds.length + 1 ≤ p.to_) : Rx z H' { p with nds := p.nds ++ [nd] } w wv iv v := by
 obtain ⟨⟨w1, l, w2, w3⟩, h1, h2, h3, h4⟩ := x
 have wr := h2.blk
 exact ⟨⟨w1, l, w2, w3.chE c (by decide) wr⟩, h1.chE c (by decide) wr, by simpa using o, ⟨h3.1, by simpa using hs, h3.2.2⟩, h4⟩
theorem j4h (x : Rd z T H p w) {nd : Nd} {a : Option Addr} {l m : Nat} (hd : Vd H (rowD nd.kids) (.slice a l m)) (hs : p.nds.length + 1 ≤ p.to_) (hk : ∀ H', Fle H H' → Rd z T H' { p with nds := p.nds ++ [nd] } w → k (.int .i64 (p.nds.length : Nat)) H') :
   callW PP 100 #[pt z.b, .agg #[.int .i64 nd.op, .int .u64 nd.n, .string nd.s, .slice a l m, .int .i64 (nd.at_ : Int)]] H k kp := by
 refine run 2 rfl Tryz.func100 (pr := fun i => if i = 1 then [(5, 7)] else []) (by decide +kernel) (by kernel_rfl) ?_
 obtain ⟨f, t, bad, wv, nm, nu, iv, nv, hb, r⟩ := x.ex
 have lb := x.fresh.lt hb
 have sz := x.sz
 have sh := x.base.short
 have c1 := Ch.alloc x.fresh 1 [.int .i64 nd.op, .int .u64 nd.n, .string nd.s, .slice a l m, .int .i64 (nd.at_ : Int)]
 have r1 := r.ch c1 fun q e => by cases e
 have hb1 := c1.keep _ _ hb (by simp)
 have f1 := c1.fle fun q e => by cases e
 have hq1 := Heap.get_new H 1 [.int .i64 nd.op, .int .u64 nd.n, .string nd.s, .slice a l m, .int .i64 (nd.at_ : Int)]
 have dv : Vds (H.alloc 1 [.int .i64 nd.op, .int .u64 nd.n, .string nd.s, .slice a l m, .int .i64 (nd.at_ : Int)]) nd.dv [.int .i64 nd.op, .int .u64 nd.n, .string nd.s, .slice a l m, .int .i64 (nd.at_ : Int)] := .cons (.p _) (.cons (.p _) (.cons (.p _) (.cons (hd.mono f1.keep) (.cons (.p _) (.nil _)))))
 obtain ⟨v', H2, e1, o2, c2, b2, s2, a2, m2, rfl⟩ := j8m (n := p.nds.length) Tryz.underlying26 infoN zrN rfl (by decide) (by decide) r1.nds c1.fresh dv rfl rfl (by have := sz.2.1; have := sz.2.2.2.2; omega)
 have hb2 := c2.keep _ _ hb1 (r1.nds.ne hb1 (by decide))
 have r2 := r1.node c2 o2 hs
 have f2 := c2.fle fun q e => let ⟨y, hy⟩ := r1.nds.blk q e; ⟨y, 5, hy⟩
 have hb1' : (H.alloc 1 [.int .i64 nd.op, .int .u64 nd.n, .string nd.s, .slice a l m, .int .i64 (nd.at_ : Int)]).get z.b = some _ := hb1
 generalize hH1 : H.alloc 1 [.int .i64 nd.op, .int .u64 nd.n, .string nd.s, .slice a l m, .int .i64 (nd.at_ : Int)] = H1 at *
 have hb1a : (H1.alloc 5 [.int .i64 nd.op, .int .u64 nd.n, .string nd.s, .slice a l m, .int .i64 (nd.at_ : Int)]).get z.b = some (rdB z T p f t bad wv nm nu iv nv) := by
   rw [Heap.get_alloc, if_neg (Nat.ne_of_lt (c1.fresh.lt hb1))]; exact hb1
 simp +decide only [fx Tryz.f100.eq_1, ↓GW.o, reduceIte, jn5, tyN, hH1, hb1, hb1a, hq1, bs_n, e1, hb2, jd8 Tryz.underlying26, show IntKind.i64.wrap (((p.nds.length + 1 : Nat) : Int) - 1) = ((p.nds.length : Nat) : Int) by rw [ja8 (by omega) (by have := sz.2.1; have := sz.2.2.2.2; omega)]; omega]
 exact hk _ (f1.trans (f2.trans (.set c2.fresh hb2 _))) (Rd.set ((x.base.fle f1).fle f2) x.low hb2 r2 rfl)
end
def addNd (p : PS) (nd : Nd) : PS := { p with nds := p.nds ++ [nd] }
def atomP (s : List UInt8) (ex : Nat → PS → Ou Nat) (p : PS) : Ou Nat :=
 if p.k.kind = 8 then (openP s 8 p).bind fun _ p => (ex 0 p).bind fun v p => (shutP s 9 p).bind fun _ p => .ok v p
 else if p.k.kind = 2 then .ok p.nds.length (nextP s (addNd p ⟨2, p.k.n, .empty, [], p.at_⟩))
 else if p.k.kind = 1 then .ok p.nds.length (nextP s (addNd p ⟨1, 0, p.k.w, [], p.at_⟩))
 else .er .bad
def opsP (s : List UInt8) (ex : Nat → PS → Ou Nat) (ab : Nat) : Nat → Nat → Nat → PS → Ou Nat
 | 0, _, _, _ => .er .bad
 | n + 1, mo, v, p =>
   if rankN p.k.kind ≤ ab ∨ mo ≤ rankN p.k.kind then .ok v p
   else (ex (rankN p.k.kind) (nextP s p)).bind fun w q => opsP s ex ab n (if rankN p.k.kind = 1 then 1 else mo) q.nds.length (addNd q ⟨p.k.kind, 0, .empty, [v, w], p.at_⟩)
def exprP (s : List UInt8) : Nat → Nat → PS → Ou Nat
 | 0, _, _ => .er .bad
 | n + 1, ab, p => (atomP s (exprP s n) p).bind fun v q => opsP s (exprP s n) ab (n + 1) 8 v q
def ExOk (z : Cx) (T : Tc) (n : Nat) : Prop := ∀ {H : Heap} {p : PS} {w : Nat} {ab : Nat} {k : KV} {kp : KP}, Rd z T H p w → w < 2 ^ 20 → Lv p → z.s.length < p.at_ + n → ab ≤ 7 → An z T H p p.opened (16 * (8 - ab)) vN k kp (exprP z.s n ab p) → callW PP 73 #[pt z.b, .int .i64 (ab : Int)] H k kp
theorem yj2 {fn : Func} {E : Env} {H H' : Heap} {k : KV} {kp : KP} {g : FuncId} {args : Array Value} {v : Value} (hn : named PP g = true) (hd : DAns PP g args .returning H (.ret v) .returning H') (h : retW H' k (resE PP E H' fn.results.toList)) : finW PP fn k kp .ret E [{ target := .fn (.func g) #[], args := args }] H := by
 have h' : finW PP fn k kp .ret E [] H' := by rw [jn0]; exact h
 simp only [finW] at h' ⊢
 rw [exitW]
 · exact ⟨hn, .ret v, .returning, H', by simpa using hd, h'⟩
 · intro e; cases e
theorem yr9 (n a : Int) : buildA PP 37 #[(0, .int .i64 2), (1, .int .u64 n), (4, .int .i64 a)] = some (.agg #[.int .i64 2, .int .u64 n, .string .empty, .slice none 0 0, .int .i64 a]) := by kernel_rfl
theorem ys0 (s : ByteArray) (a : Int) : buildA PP 37 #[(0, .int .i64 1), (2, .string s), (4, .int .i64 a)] = some (.agg #[.int .i64 1, .int .u64 0, .string s, .slice none 0 0, .int .i64 a]) := by kernel_rfl
theorem j0k (s : List UInt8) (p : PS) (o : Nat) (l : List It) (m : List Nd) : nextP s { p with opened := o, its := l, nds := m } = { nextP s p with opened := o, its := l, nds := m } := by
 unfold nextP
 by_cases h : jb2 s p.to_ < s.length
 · rw [if_pos h, if_pos h]
 · rw [if_neg h, if_neg h]
theorem j1q {s : List UInt8} {p : PS} (sz : Sz s p) (lv : Lv p) (lt : p.at_ < p.to_) {nd : Nd} : Go p (nextP s (addNd p nd)) ∧ (nextP s (addNd p nd)).opened = p.opened := by
 have e : nextP s (addNd p nd) = { nextP s p with opened := p.opened, its := p.its, nds := p.nds ++ [nd] } := j0k s p p.opened p.its (p.nds ++ [nd])
 obtain ⟨g1, g2, g3, g4⟩ := jd3 sz
 rw [e]
 exact ⟨⟨g1.le, Nat.le_refl _, by have := g1.le; show p.its.length + p.at_ ≤ p.its.length + (nextP s p).at_; omega, by show (p.nds ++ [nd]).length + p.at_ ≤ p.nds.length + (nextP s p).at_; simp; omega⟩, rfl⟩
section
variable {z : Cx} {T : Tc} {H : Heap} {p : PS} {w : Nat} {k : KV} {kp : KP}
theorem yj3 {n : Nat} (EX : ExOk z T n) (x : Rd z T H p w) (hw : w < 2 ^ 20) (lv : Lv p) (hn : z.s.length < p.at_ + n + 1) (hk : An z T H p p.opened 0 vN k kp (atomP z.s (exprP z.s n) p)) : callW PP 98 #[pt z.b] H k kp := by
 refine run 1 rfl Tryz.func98 (pr := noPr) (by decide +kernel) (by kernel_rfl) ?_
 obtain ⟨f, t, bad, wv, nm, nu, iv, nv, hb, r⟩ := x.ex
 have x1 := x.flags (nm' := true) (nu' := true) hb
 have f1 := Fle.set x.fresh hb (rdB z T p f t bad wv true true iv nv)
 have sz := x.sz
 simp +decide only [zf98.o, ↓GW.o, reduceIte, hb]
 refine jg9 x1 (by omega) 8 fun H2 f2 x2 => ?_
 unfold atomP at hk
 have tok := x.tok
 by_cases h8 : p.k.kind = 8
 · rw [if_pos h8] at hk
   simp +decide only [zf98.o, ↓GW.o, reduceIte, show (p.k.kind == 8) = true by simpa using h8]
   refine jy2 x2 (by omega) 8 ?_
   unfold openP at hk ⊢
   rw [if_pos h8] at hk ⊢
   by_cases h32 : p.opened = 32
   · rw [if_pos h32] at hk ⊢
     intro i H3 f3
     simp +decide only [↓GW.o]
     exact hk i H3 (f1.trans (f2.trans f3))
   · rw [if_neg h32] at hk ⊢
     rw [Ou.bind_ok] at hk
     have g0 := jd3 (s := z.s) (p := { p with opened := p.opened + 1 }) ⟨sz.1, sz.2.1, by have := sz.2.2.1; show p.opened + 1 ≤ 32; omega, sz.2.2.2⟩
     generalize hq : nextP z.s { p with opened := p.opened + 1 } = q at *
     rintro H3 _ f3 x3 g3 o3 rfl
     simp +decide only [zf98.o, ↓GW.o, reduceIte]
     have lt := tok (by omega)
     have hto : p.to_ ≤ q.at_ := g0.2.1
     refine EX (ab := 0) x3 (by omega) g0.2.2.2 (by omega) (by omega) ?_
     cases hex : exprP z.s n 0 q with
     | er e =>
       rw [hex] at hk
       intro i H4 f4
       simp +decide only [↓GW.o]
       exact hk i H4 (f1.trans (f2.trans (f3.trans f4)))
     | ok v q4 =>
       rw [hex, Ou.bind_ok] at hk
       rintro H4 _ f4 x4 g4 o4 rfl
       simp +decide only [zf98.o, ↓GW.o, reduceIte]
       refine jy3 x4 (by omega) (by omega) 9 ?_
       cases hsh : shutP z.s 9 q4 with
       | er e =>
         rw [hsh] at hk
         intro i H5 f5
         simp +decide only [↓GW.o]
         exact hk i H5 (f1.trans (f2.trans (f3.trans (f4.trans f5))))
       | ok u q5 =>
         rw [hsh, Ou.bind_ok] at hk
         rintro H5 _ f5 x5 g5 o5 rfl
         simp +decide only [zf98.o, ↓GW.o, reduceIte]
         exact hk H5 _ (f1.trans (f2.trans (f3.trans (f4.trans f5)))) x5 (g3.trans (g4.trans g5)) (by omega) rfl
 rw [if_neg h8] at hk
 have e8 : (p.k.kind == 8) = false := by simpa using h8
 obtain ⟨f', t', bad', wv', nm', nu', iv', nv', hb2, r2⟩ := x2.ex
 by_cases h2 : p.k.kind = 2
 · rw [if_pos h2] at hk
   simp +decide only [zf98.o, ↓GW.o, reduceIte, e8, hb2, show (p.k.kind == 2) = true by simpa using h2, yr9]
   have lt := tok (by omega)
   refine j4h x2 (nd := ⟨2, p.k.n, .empty, [], p.at_⟩) (.z 1) (by have := lv.2; omega) fun H3 f3 x3 => ?_
   obtain ⟨H4, d4, f4, x4⟩ := j8k x3
   simp +decide only [↓GW.o, reduceIte]
   refine yj2 (by decide +kernel) d4 ?_
   simp +decide only [zf98.o, ↓GW.o, reduceIte]
   have g := j1q sz lv lt (nd := ⟨2, p.k.n, .empty, [], p.at_⟩)
   exact hk H4 _ (f1.trans (f2.trans (f3.trans f4))) x4 g.1 g.2 rfl
 rw [if_neg h2] at hk
 have e2 : (p.k.kind == 2) = false := by simpa using h2
 by_cases h1 : p.k.kind = 1
 · rw [if_pos h1] at hk
   simp +decide only [zf98.o, ↓GW.o, reduceIte, e8, e2, hb2, show (p.k.kind == 1) = true by simpa using h1, ys0]
   have lt := tok (by omega)
   refine j4h x2 (nd := ⟨1, 0, p.k.w, [], p.at_⟩) (.z 1) (by have := lv.2; omega) fun H3 f3 x3 => ?_
   obtain ⟨H4, d4, f4, x4⟩ := j8k x3
   simp +decide only [↓GW.o, reduceIte]
   refine yj2 (by decide +kernel) d4 ?_
   simp +decide only [zf98.o, ↓GW.o, reduceIte]
   have g := j1q sz lv lt (nd := ⟨1, 0, p.k.w, [], p.at_⟩)
   exact hk H4 _ (f1.trans (f2.trans (f3.trans f4))) x4 g.1 g.2 rfl
 rw [if_neg h1] at hk
 simp +decide only [zf98.o, ↓GW.o, reduceIte, e8, e2, hb2, show (p.k.kind == 1) = false by simpa using h1]
 refine jo0 x2 (by omega) fun i H3 f3 => ?_
 simp +decide only [↓GW.o]
 exact hk i H3 (f1.trans (f2.trans f3))
end
end Go.Am
