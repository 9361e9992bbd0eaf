/- Expressions. -/
import Derived.Test.YtmliebodadgpbaaGreatDoorM08
open Go.Proofs
namespace Go.Am
set_option maxRecDepth 100000
theorem ys1 (k a : Int) (x : Option Addr) (l m : Nat) : buildA PP 37 #[(0, .int .i64 k), (3, .slice x l m), (4, .int .i64 a)] = some (.agg #[.int .i64 k, .int .u64 0, .string .empty, .slice x l m, .int .i64 a]) := by kernel_rfl
theorem bs_2 (H : Heap) (a b : Int) : buildSliceA PP 22 2 #[(0, .int .i64 a), (1, .int .i64 b)] H = some (.slice (some ⟨H.next, 0, none⟩) 2 2, H.alloc 1 [.int .i64 a, .int .i64 b]) := by kernel_rfl
abbrev Heap.keep (H : Heap) (es : Nat) (cells : List Value) : Heap := (H.alloc es cells).set H.next ⟨cells, false, es, none⟩
theorem j94 (H : Heap) (es : Nat) (cells : List Value) : Ghost (H.alloc es cells) (H.keep es cells) := ⟨rfl, fun b y e => by
 rw [Heap.get_set] at e
 by_cases h : b = H.next
 · rw [if_pos h] at e; cases e; subst h
   exact ⟨_, Heap.get_new H es cells, rfl, fun e => by cases e⟩
 · rw [if_neg h] at e; exact ⟨y, e, rfl, id⟩⟩
theorem Ch.kept {H : Heap} (f : Fresh H) (es : Nat) (cells : List Value) : Ch none H (H.keep es cells) := by
 have c := Ch.alloc f es cells
 exact c.trans f (Ch.set c.fresh (Heap.get_new H es cells) _) (fun q e => .inr (by cases e; exact Nat.le_refl _))
theorem j6y (H : Heap) (es : Nat) (cells : List Value) : (H.keep es cells).get H.next = some ⟨cells, false, es, none⟩ := Heap.get_self _ _ _
theorem j6z {H : Heap} {es n : Nat} {cells : List Value} {l : List DV} (hn : l ≠ []) (hl : l.length = n * es) (hd : Vds (H.keep es cells) l cells) : Vd (H.keep es cells) (.r es l) (.slice (some ⟨H.next, 0, none⟩) n n) := by
 refine Vd.row (j6y H es cells) hn hl (by rw [hd.1]; omega) ?_
 rw [List.drop_zero, hd.1, List.take_length]; exact hd
section
variable {z : Cx} {T : Tc}
theorem exprN : ∀ n, ExOk z T n
 | 0, H, p, w, ab, k, kp, x, hw, lv, hn, ha, hk => by
   have := x.sz.2.2.2.1
   have := x.sz.2.2.2.2
   omega
 | n + 1, H, p, w, ab, k, kp, x, hw, lv, hn, ha, hk => by
   have EX : ExOk z T n := fun {H p w ab k kp} => exprN n
   have sh := x.base.short
   refine run 2 rfl Tryz.func73 (pr := noPr) (by decide +kernel) (by kernel_rfl) ?_
   simp +decide only [zf73.o, ↓GW.o, reduceIte]
   refine yj3 EX x hw lv (by omega) ?_
   unfold exprP at hk
   cases hat : atomP z.s (exprP z.s n) p with
   | er e =>
     rw [hat] at hk
     intro i H1 f1
     simp +decide only [↓GW.o]
     exact hk i H1 f1
   | ok v q =>
     rw [hat, Ou.bind_ok] at hk
     rintro H1 _ f1 x1 g1 o1 rfl
     simp +decide only [zf73.o, ↓GW.o, reduceIte]
     generalize hR : opsP z.s (exprP z.s n) ab (n + 1) 8 v q = R at hk
     refine ja6 (I := fun m E ds H' => ds = [] ∧ E 0 = pt z.b ∧ E 1 = .int .i64 (ab : Int) ∧ ∃ (v mo w' : Nat) (q : PS), E 5 = .int .i64 (v : Int) ∧ E 6 = .int .i64 (mo : Int) ∧ Fle H H' ∧ Rd z T H' q w' ∧ w' ≤ 16 * (7 - ab) ∧ Go p q ∧ q.opened = p.opened ∧ z.s.length < q.at_ + m ∧ opsP z.s (exprP z.s n) ab m mo v q = R) (i := n + 1) ?_ ⟨rfl, ?_, ?_, v, 8, 0, q, ?_, ?_, f1, x1, Nat.zero_le _, g1, o1, by have := g1.le; omega, hR⟩
     · clear f1 x1 g1 o1 hR hat
       rintro L m E _ H1 ⟨rfl, e0, e1, v, mo, w', q, e5, e6, f1, x1, hw', g1, o1, hm, hR⟩ hL
       have hq1 := x1.sz.2.2.2.1
       have hq2 := x1.sz.2.2.2.2
       obtain ⟨m, rfl⟩ : ∃ m', m = m' + 1 := ⟨m - 1, by omega⟩
       simp +decide only [zf73.o, ↓GW.o, reduceIte]
       refine joinO (Q := fun k => loopW _ _ _ _ (leaveW 2 k)) (fun o E ds H' => o = .norm ∧ ds = [] ∧ E 0 = pt z.b ∧ E 1 = .int .i64 (ab : Int) ∧ E 5 = .int .i64 (v : Int) ∧ E 6 = .int .i64 (mo : Int) ∧ Fle H1 H' ∧ Rd z T H' q (w' + 16)) (fun Z hZ => ?_) ?_
       · refine ja6 (I := fun i E ds H' => ds = [] ∧ E 0 = pt z.b ∧ E 1 = .int .i64 (ab : Int) ∧ E 5 = .int .i64 (v : Int) ∧ E 6 = .int .i64 (mo : Int) ∧ ∃ j : Nat, E 7 = .int .i64 (j : Int) ∧ j + i = 30 ∧ 14 ≤ j ∧ Fle H1 H' ∧ Rd z T H' q (w' + (j - 14))) (i := 16) ?_ ⟨rfl, ?_, ?_, ?_, ?_, 14, ?_, rfl, Nat.le_refl _, .refl x1.fresh, x1⟩
         · rintro L' i E _ H2 ⟨rfl, e0, e1, e5, e6, j, e7, hj, hj', f2, x2⟩ hL'
           by_cases h : j ≤ 29
           · have h' : (j : Int) ≤ 29 := by omega
             have wj : IntKind.i64.wrap ((j : Int) + 1) = ((j + 1 : Nat) : Int) := ja1 (by omega)
             have go : ∀ (E' : Env) (H3 : Heap), E' 0 = pt z.b → E' 1 = .int .i64 (ab : Int) → E' 5 = .int .i64 (v : Int) → E' 6 = .int .i64 (mo : Int) → E' 7 = .int .i64 ((j + 1 : Nat) : Int) → Fle H1 H3 → Rd z T H3 q (w' + (j - 14) + 1) → L' E' [] H3 := fun E' H3 a b c d e f g => hL' (i - 1) _ _ _ (by omega) ⟨rfl, a, b, c, d, j + 1, e, by omega, by omega, f, g.mono (by omega)⟩
             simp +decide only [zf73.o, ↓GW.o, reduceIte, e7, h']
             refine jr9 _ ?_
             by_cases h1 : ab < rankN (j : Int)
             · simp +decide only [zf73.o, ↓GW.o, reduceIte, e1, e7, h1]
               refine jr9 _ ?_
               by_cases h2 : rankN (j : Int) < mo
               · simp +decide only [zf73.o, ↓GW.o, reduceIte, e0, e6, e7, h2]
                 refine jg9 x2 (by omega) _ fun H3 f3 x3 => ?_
                 simp +decide only [zf73.o, ↓GW.o, reduceIte, e7, wj]
                 refine go _ _ ?_ ?_ ?_ ?_ ?_ (f2.trans f3) x3 <;> simp +decide only [↓G.o, reduceIte, e0, e1, e5, e6]
               · simp +decide only [zf73.o, ↓GW.o, reduceIte, e6, e7, h2, wj]
                 refine go _ _ ?_ ?_ ?_ ?_ ?_ f2 (x2.mono (Nat.le_succ _)) <;> simp +decide only [↓G.o, reduceIte, e0, e1, e5, e6]
             · simp +decide only [zf73.o, ↓GW.o, reduceIte, e1, e7, h1, wj]
               refine go _ _ ?_ ?_ ?_ ?_ ?_ f2 (x2.mono (Nat.le_succ _)) <;> simp +decide only [↓G.o, reduceIte, e0, e1, e5, e6]
           · have h' : ¬ (j : Int) ≤ 29 := by omega
             simp +decide only [zf73.o, ↓GW.o, reduceIte, e7, h']
             refine hZ .norm _ _ _ ⟨rfl, rfl, ?_, ?_, ?_, ?_, f2, x2.mono (by omega)⟩ <;> simp +decide only [↓G.o, reduceIte, e0, e1, e5, e6]
         all_goals simp +decide only [↓G.o, reduceIte, e0, e1, e5, e6] <;> rfl
       clear e0 e1 e5 e6
       rintro _ E _ H2 ⟨rfl, rfl, e0, e1, e5, e6, f2, x2⟩
       obtain ⟨f, t, bad, wv, nm, nu, iv, nv, hb, r⟩ := x2.ex
       simp +decide only [zf73.o, ↓GW.o, reduceIte, e0, hb]
       refine jr9 _ ?_
       have stop : (rankN q.k.kind ≤ ab ∨ mo ≤ rankN q.k.kind) → k (.int .i64 (v : Int)) H2 := fun h => by
         rw [opsP, if_pos h] at hR
         rw [← hR] at hk
         exact hk H2 _ (f1.trans f2) (x2.mono (by omega)) g1 o1 rfl
       by_cases h1 : ((rankN q.k.kind : Nat) : Int) ≤ (ab : Int)
       · simp +decide only [zf73.o, ↓GW.o, reduceIte, e1, e5, h1]
         exact stop (.inl (by omega))
       · simp +decide only [zf73.o, ↓GW.o, reduceIte, e1, h1]
         refine jr9 _ ?_
         by_cases h2 : ((rankN q.k.kind : Nat) : Int) ≥ (mo : Int)
         · simp +decide only [zf73.o, ↓GW.o, reduceIte, e5, e6, h2]
           exact stop (.inr (by omega))
         · simp +decide only [zf73.o, ↓GW.o, reduceIte, e0, e6, h2, hb]
           have hno : ¬ (rankN q.k.kind ≤ ab ∨ mo ≤ rankN q.k.kind) := by omega
           rw [opsP, if_neg hno] at hR
           have hk0 : q.k.kind ≠ 0 := fun e => by
             rw [e] at h1
             exact h1 (by show ((0 : Nat) : Int) ≤ _; omega)
           have lt := x1.tok hk0
           obtain ⟨gn, hto, on, lvn⟩ := jd3 x1.sz
           have rk := j93 q.k.kind
           have gl := g1.le
           refine jn9 x2 fun H3 f3 x3 => ?_
           simp +decide only [zf73.o, ↓GW.o, reduceIte, e0]
           refine jr9 _ ?_
           simp +decide only [↓GW.o, reduceIte]
           refine EX x3 (by omega) lvn (by omega) rk ?_
           cases hex : exprP z.s n (rankN q.k.kind) (nextP z.s q) with
           | er e =>
             rw [hex] at hR
             rw [← hR] at hk
             intro i H4 f4
             simp +decide only [↓GW.o]
             exact hk i H4 (f1.trans (f2.trans (f3.trans f4)))
           | ok v2 q4 =>
             rw [hex, Ou.bind_ok] at hR
             rintro H4 _ f4 x4 g4 o4 rfl
             have lv4 := g4.lv lvn
             have gq : Go q (addNd q4 ⟨q.k.kind, 0, .empty, [v, v2], q.at_⟩) := by
               obtain ⟨a1, a2, a3, a4⟩ := gn
               obtain ⟨b1, b2, b3, b4⟩ := g4
               refine ⟨Nat.le_trans a1 b1, Nat.le_trans a2 b2, by show q4.its.length + q.at_ ≤ q.its.length + q4.at_; omega, ?_⟩
               have e1 := (jd1 z.s q).2.2
               rw [e1] at b4
               show (q4.nds ++ [_]).length + q.at_ ≤ q.nds.length + q4.at_
               simp; omega
             have lq := (g1.lv lv).2
             have hsz : q4.nds.length + 1 ≤ q4.to_ := by
               have := gq.nds'
               have e : (addNd q4 ⟨q.k.kind, 0, .empty, [v, v2], q.at_⟩).nds.length = q4.nds.length + 1 := by simp [addNd]
               rw [e] at this
               have : q4.nds.length + 1 + q.at_ ≤ q.nds.length + q4.at_ := this
               have := x4.sz.2.2.2.1
               omega
             have x5 : Rd z T (H4.keep 1 [.int .i64 (v : Int), .int .i64 (v2 : Int)]) q4 _ := x4.ch (Ch.kept x4.fresh _ _)
             have f5 : Fle H4 (H4.keep 1 [.int .i64 (v : Int), .int .i64 (v2 : Int)]) := (Ch.kept x4.fresh _ _).fle fun q e => by cases e
             have hd : Vd (H4.keep 1 [.int .i64 (v : Int), .int .i64 (v2 : Int)]) (rowD [v, v2]) (.slice (some ⟨H4.next, 0, none⟩) 2 2) := j6z (by simp) rfl (.cons (.p _) (.cons (.p _) (.nil _)))
             simp +decide only [zf73.o, ↓GW.o, reduceIte, e0, e5, bs_2, ys1]
             refine ja4 (j94 _ _ _) (j4h x5 (nd := ⟨q.k.kind, 0, .empty, [v, v2], q.at_⟩) hd hsz fun H6 f6 x6 => ⟨_, .refl _, ?_⟩)
             simp +decide only [zf73.o, ↓GW.o, reduceIte]
             refine jr9 _ ?_
             have fin : ∀ E' : Env, E' 0 = pt z.b → E' 1 = .int .i64 (ab : Int) → E' 5 = .int .i64 (q4.nds.length : Int) → E' 6 = .int .i64 ((if rankN q.k.kind = 1 then 1 else mo : Nat) : Int) → L E' [] H6 := fun E' a b c d =>
               hL m _ _ _ (Nat.lt_succ_self m) ⟨rfl, a, b, q4.nds.length, _, _, addNd q4 ⟨q.k.kind, 0, .empty, [v, v2], q.at_⟩, c, d, f1.trans (f2.trans (f3.trans (f4.trans (f5.trans f6)))), x6, by omega, g1.trans gq, o4.trans (on.trans o1), by show z.s.length < q4.at_ + m; have := g4.le; omega, hR⟩
             have re : (((rankN q.k.kind : Nat) : Int) == 1) = decide (rankN q.k.kind = 1) := ja7 _ 1
             by_cases h3 : rankN q.k.kind = 1
             · simp +decide only [zf73.o, ↓GW.o, reduceIte, re.trans (decide_eq_true h3)]
               refine fin _ ?_ ?_ ?_ ?_ <;> simp +decide only [↓G.o, reduceIte, e0, e1, e5, e6, h3] <;> rfl
             · simp +decide only [↓GW.o, reduceIte, re.trans (decide_eq_false h3)]
               refine fin _ ?_ ?_ ?_ ?_ <;> simp +decide only [↓G.o, reduceIte, e0, e1, e5, e6, h3]
     all_goals simp +decide only [↓G.o, reduceIte] <;> rfl
end
end Go.Am
namespace Go.Am
variable {H H0 : Heap} {L : List (Nat × Blk)}
set_option maxRecDepth 100000
def dropL (q : Nat) : List (Nat × Blk) → List (Nat × Blk)
 | [] => []
 | (n, y) :: L => if n = q then dropL q L else (n, y) :: dropL q L
theorem jc5 (q k : Nat) : ∀ L : List (Nat × Blk), (dropL q L).lookup k = if k = q then none else L.lookup k
 | [] => by simp [dropL]
 | (n, y) :: L => by
   have ih := jc5 q k L
   simp only [dropL]
   by_cases h : n = q
   · rw [if_pos h, ih]
     by_cases hk : k = q
     · rw [if_pos hk, if_pos hk]
     · have : (k == n) = false := by simp; omega
       rw [if_neg hk, if_neg hk, List.lookup, this]
   · rw [if_neg h]
     simp only [List.lookup]
     by_cases hk : k = n
     · subst hk; simp [h]
     · have : (k == n) = false := by simpa using hk
       simp only [this]; exact ih
theorem jy4 {q : Nat} (h : H.get q = none) : (H.plus L).drop q = H.plus (dropL q L) := by
 simp only [Heap.drop, Heap.plus]
 congr 1
 funext k
 rw [jc5]
 by_cases e : k = q
 · subst e; simp [h]
 · simp [e]
def LRow (L : List (Nat × Blk)) (es : Nat) (v : Value) (n : Nat) (cells : List Value) : Prop := (v = .slice none 0 0 ∧ n = 0 ∧ cells = []) ∨ ∃ q, v = .slice (some ⟨q, 0, none⟩) n n ∧ L.lookup q = some ⟨cells, true, es, none⟩ ∧ cells.length = n * es ∧ cells ≠ []
theorem LRow.sc {es n : Nat} {v : Value} {cells : List Value} (r : LRow L es v n cells) : sc v = true ∧ ∃ a, v = .slice a n n := by
 rcases r with ⟨rfl, rfl, _⟩ | ⟨q, rfl, _⟩ <;> exact ⟨rfl, _, rfl⟩
theorem LRow.up {es n : Nat} {v : Value} {cells : List Value} (r : LRow L es v n cells) {q : Nat} (h : blkOf v ≠ some q) (x : Blk) : LRow (upL q x L) es v n cells := by
 rcases r with r | ⟨q', rfl, h1, h2⟩
 · exact .inl r
 · refine .inr ⟨q', rfl, ?_, h2⟩
   rw [ja3, if_neg fun e => h (by rw [← e]; rfl)]; exact h1
theorem j8n (f : Fr H0 H L) {es bytes n : Nat} {v : Value} {cells news : List Value} (r : LRow L es v n cells) (h0 : news ≠ []) (hl : news.length = es) (hc : news.all Value.oneCell' = true) (hb : bytes ≤ 2 ^ 20) (hn : n ≤ 2 ^ 21) (tmp : Blk) :
   ∃ v' L', app ((H.to (H.next + 1)).plus ((H.next, tmp) :: L)) es bytes v 1 news = some (v', (H.to (H.next + 1 + 1)).plus L') ∧ Fr H0 (H.to (H.next + 1 + 1)) L' ∧ LRow L' es v' (n + 1) (cells ++ news) ∧ blkOf v' = some (H.next + 1) ∧ ∀ q, blkOf v ≠ some q → q < H.next → L'.lookup q = L.lookup q := by
 have hm : (n + 1) * bytes ≤ most := Nat.le_trans (Nat.mul_le_mul (show n + 1 ≤ 2 ^ 22 by omega) hb) (by decide)
 have f1 := f.new tmp
 have hn1 : (H.to (H.next + 1)).next = H.next + 1 := rfl
 rcases r with ⟨rfl, rfl, rfl⟩ | ⟨q, rfl, h1, h2, _⟩
 · refine ⟨.slice (some ⟨H.next + 1, 0, none⟩) 1 1, (H.next + 1, ⟨news, true, es, none⟩) :: (H.next, tmp) :: L, ?_, f1.new _, .inr ⟨H.next + 1, rfl, ja5 _ _ _, by simp [hl], by simpa using h0⟩, rfl, fun q _ hq => ?_⟩
   · simp only [app, mkRow]
     rw [if_neg (by omega), if_pos ⟨by omega, by unfold most; omega⟩, Heap.alloc_plus]; rfl
   · rw [jc7 (by omega), jc7 hq]
 · have hq := f.keys q _ h1
   have e1 : ((H.next, tmp) :: L).lookup q = some ⟨cells, true, es, none⟩ := by rw [jc7 hq.2.1]; exact h1
   have e : look ((H.to (H.next + 1)).plus ((H.next, tmp) :: L)) ⟨q, 0, none⟩ = some ⟨cells, true, es, none⟩ := by
     simp only [look, ja2, e1]; rfl
   have fd : Fr H0 (H.to (H.next + 1)) (dropL q ((H.next, tmp) :: L)) := ⟨f1.fle, fun k y ek => by
     rw [jc5] at ek
     split at ek
     · cases ek
     · exact f1.keys k y ek⟩
   refine ⟨.slice (some ⟨H.next + 1, 0, none⟩) (n + 1) (n + 1), (H.next + 1, ⟨cells ++ news, true, es, none⟩) :: dropL q ((H.next, tmp) :: L), ?_, fd.new _, .inr ⟨H.next + 1, rfl, ja5 _ _ _, by simp [h2, hl, Nat.add_mul], by simp [h0]⟩, rfl, fun k hk hlt => ?_⟩
   · simp only [app, e, Nat.zero_add]
     rw [if_pos ⟨trivial, trivial, by omega, hc, hm, by unfold most; omega⟩, if_neg (by omega), mkRow, List.drop_zero, List.take_of_length_le (by omega), jy4 (show (H.to (H.next + 1)).get q = none from hq.2.2), Heap.alloc_plus]
     rfl
   · rw [jc7 (by omega), jc5, if_neg fun c => hk (by rw [c]; rfl), jc7 hlt]
def natsV (l : List Nat) : List Value := l.map fun (i : Nat) => Value.int .i64 (i : Int)
theorem j0l (f : Fr H0 H L) {v : Value} {l : List Nat} (r : LRow L 1 v l.length (natsV l)) (hn : l.length ≤ 2 ^ 21) (i : Nat) :
   ∃ v' L', appendA PP #[22, 22] v (.slice (some ⟨H.next, 0, none⟩) 1 1) ((H.to (H.next + 1)).plus ((H.next, ⟨[.int .i64 (i : Int)], true, 1, none⟩) :: L)) = some (v', (H.to (H.next + 1 + 1)).plus L') ∧ Fr H0 (H.to (H.next + 1 + 1)) L' ∧ LRow L' 1 v' (l ++ [i]).length (natsV (l ++ [i])) ∧ blkOf v' = some (H.next + 1) ∧ ∀ q, blkOf v ≠ some q → q < H.next → L'.lookup q = L.lookup q := by
 obtain ⟨v', L', e1, e2, e3, e4, e5⟩ := j8n f r (bytes := 8) (news := [.int .i64 (i : Int)]) (by simp) rfl rfl (by decide) hn ⟨[.int .i64 (i : Int)], true, 1, none⟩
 refine ⟨v', L', ?_, e2, by simpa [natsV] using e3, e4, e5⟩
 rw [← e1]
 refine je8 Tryz.underlying22 infoI zrI rfl (by decide) ?_ rfl v
 rw [ja2, ja5]; rfl
def frzL (L : List (Nat × Blk)) : List (Nat × Blk) := L.map fun x => (x.1, { x.2 with rw := false })
theorem jb6 (q : Nat) : ∀ L : List (Nat × Blk), (frzL L).lookup q = (L.lookup q).map fun b => { b with rw := false }
 | [] => rfl
 | (n, y) :: L => by
   have ih := jb6 q L
   simp only [frzL, List.map_cons, List.lookup] at ih ⊢
   split
   · rfl
   · exact ih
theorem Fr.frz (f : Fr H0 H L) : Fr H0 H (frzL L) ∧ Ghost (H.plus L) (H.plus (frzL L)) := ⟨f.as (by simp [frzL]), rfl, fun b y e => by
 rw [ja2, jb6] at e
 rw [ja2]
 cases h : L.lookup b with
 | none => rw [h] at e; exact ⟨y, e, rfl, id⟩
 | some x => rw [h] at e; cases e; exact ⟨x, rfl, rfl, fun e => by cases e⟩⟩
theorem LRow.frz (f : Fr H0 H L) {es n : Nat} {v : Value} {cells : List Value} (r : LRow L es v n cells) {l : List DV} (hd : Vds (H.plus (frzL L)) l cells) : Vd (H.plus (frzL L)) (.r es l) v := by
 rcases r with ⟨rfl, rfl, rfl⟩ | ⟨q, rfl, h1, h2, h3⟩
 · obtain rfl : l = [] := List.length_eq_zero_iff.1 hd.1
   exact .z es
 · have hq : (H.plus (frzL L)).get q = some ⟨cells, false, es, none⟩ := by rw [ja2, jb6, h1]; rfl
   exact .row hq (fun e => h3 (by rw [e] at hd; exact hd.nil_inv)) (hd.1.trans h2) (by rw [hd.1]; omega) (by rw [List.drop_zero, hd.1, List.take_length]; exact hd)
theorem jm1 (H : Heap) : ∀ l : List Nat, Vds H (l.map iD) (natsV l)
 | [] => .nil H
 | _ :: l => .cons (.p _) (jm1 H l)
def refL (s : List UInt8) (ex : Nat → PS → Ou Nat) : Nat → Rf → PS → Ou Rf
 | 0, _, _ => .er .bad
 | n + 1, f, p => if p.k.kind = 6 then (openP s 6 p).bind fun _ p => (ex 0 p).bind fun v p => (shutP s 7 p).bind fun _ p => refL s ex n { f with index := f.index ++ [v] } p else .ok f p
def refP (s : List UInt8) (ex : Nat → PS → Ou Nat) (n : Nat) (p : PS) : Ou Rf := (wordP s p).bind fun f p => refL s ex n f p
def vR : Heap → Rf → Value → Prop := fun H f u => ∃ a n m, u = .agg #[.string f.word, .int .i64 (f.at_ : Int), .slice a n m] ∧ Vd H (rowD f.index) (.slice a n m)
end Go.Am
namespace Go.Am
set_option maxRecDepth 100000
theorem j4i {n q : Nat} (h : n ≠ q) (x y : Blk) (L : List (Nat × Blk)) : upL q x ((n, y) :: L) = (n, y) :: upL q x L := by simp [upL, h]
section
variable {z : Cx} {T : Tc} {H : Heap} {p : PS} {w : Nat} {k : KV} {kp : KP}
theorem j60 {s : List UInt8} {kd : Int} {p q : PS} {u : Unit} (h : openP s kd p = .ok u q) : p.k.kind = kd ∧ q = nextP s { p with opened := p.opened + 1 } := by
 unfold openP at h
 split at h
 · split at h
   · cases h
   · cases h; exact ⟨by assumption, rfl⟩
 · cases h
theorem j4j {s : List UInt8} {kd : Int} {p q : PS} {u : Unit} (sz : Sz s p) (tok : p.k.kind ≠ 0 → p.at_ < p.to_) (hk : kd ≠ 0) (h : openP s kd p = .ok u q) : p.at_ < q.at_ ∧ Lv q := by
 obtain ⟨h1, rfl⟩ := j60 h
 have e : nextP s { p with opened := p.opened + 1 } = { nextP s p with opened := p.opened + 1, its := p.its, nds := p.nds } := j0k s p (p.opened + 1) p.its p.nds
 obtain ⟨g1, g2, g3, g4⟩ := jd3 sz
 have := tok (by rw [h1]; exact hk)
 rw [e]
 have := jd1 s p
 exact ⟨by show p.at_ < (nextP s p).at_; omega, by rw [← this.2.1]; exact g4.1, by rw [← this.2.2]; exact g4.2⟩
theorem ys2 {n : Nat} (EX : ExOk z T n) (x : Rd z T H p w) (hw : w < 2 ^ 20) (lv : Lv p) {m : Nat} (hn : z.s.length < p.at_ + n) (hm : z.s.length < p.at_ + m) (hk : An z T H p p.opened 1 vR k kp (refP z.s (exprP z.s n) m p)) : callW PP 102 #[pt z.b] H k kp := by
 have lb : z.b < H.next := let ⟨_, _, _, _, _, _, _, _, hb, _⟩ := x.ex; x.fresh.lt hb
 have sh := x.base.short
 refine ja4 (H0 := H.plus []) (.refl _) (run 1 rfl Tryz.func102 (pr := fun i => if i = 4 then [(1, 3), (1, 4)] else []) (by decide +kernel) (by kernel_rfl) ?_)
 simp +decide only [zf102.o, ↓GW.o, reduceIte]
 have f0 := (Fr.start x.fresh).new ⟨[.string .empty, .int .i64 0, .slice none 0 0], true, 1, none⟩
 refine f0.in (je7 (x.to (Nat.le_succ _)) (by omega) ?_)
 unfold refP at hk
 cases hwd : wordP z.s p with
 | er e =>
   rw [hwd] at hk
   intro i H1 f1
   simp +decide only [↓GW.o]
   exact ⟨_, .refl _, hk i _ (f0.call f1).out⟩
 | ok rf q =>
   rw [hwd, Ou.bind_ok] at hk
   rintro H1 _ f1 x1 g1 o1 rfl
   have lq : H.next < H1.next := f1.next
   have hix : rf.index = [] := by
     unfold wordP at hwd
     split at hwd <;> cases hwd; rfl
   simp +decide only [↓GW.o, reduceIte, j4i (Nat.ne_of_lt lq)]
   have fa : Fr H (H1.to (H1.next + 1)) [(H1.next, ⟨[.string rf.word, .int .i64 (rf.at_ : Int), .slice none 0 0], true, 1, none⟩), (H.next, ⟨[.string .empty, .int .i64 0, .slice none 0 0], true, 1, none⟩)] := (f0.call f1).new _
   generalize hR : refL z.s (exprP z.s n) m rf q = R at hk
   refine ja6 (I := fun m E ds G => ds = [] ∧ E 0 = pt z.b ∧ E 2 = pt H.next ∧ E 3 = pt H1.next ∧ ∃ (rf : Rf) (q : PS) (Hb : Heap) (L : List (Nat × Blk)) (v : Value), G = Hb.plus L ∧ Fr H Hb L ∧ Rd z T Hb q 0 ∧ Go p q ∧ q.opened = p.opened ∧ z.s.length < q.at_ + m ∧ LRow L 1 v rf.index.length (natsV rf.index) ∧ L.lookup H1.next = some ⟨[.string rf.word, .int .i64 (rf.at_ : Int), v], true, 1, none⟩ ∧ L.lookup H.next = some ⟨[.string .empty, .int .i64 0, .slice none 0 0], true, 1, none⟩ ∧ blkOf v ≠ some H1.next ∧ blkOf v ≠ some H.next ∧ rf.index.length ≤ q.at_ ∧ refL z.s (exprP z.s n) m rf q = R) (i := m) ?_
     ⟨rfl, ?_, ?_, ?_, rf, q, _, _, .slice none 0 0, rfl, fa, x1.to (Nat.le_succ _), g1, o1, by have := g1.le; omega, .inl ⟨rfl, by rw [hix]; rfl, by rw [hix]; rfl⟩, ja5 _ _ _, by rw [jc7 lq]; exact ja5 _ _ _, by simp [blkOf], by simp [blkOf], by rw [hix]; exact Nat.zero_le _, hR⟩
   · clear f1 x1 g1 o1 hwd hR fa hix rf q f0
     rintro L' m E _ _ ⟨rfl, e0, e2, e3, rf, q, Hb, L, v, rfl, fr, x1, g1, o1, hm, lr, l3, l2, n3, n2, hi, hR⟩ hL
     have hq1 := x1.sz.2.2.2.1
     have hq2 := x1.sz.2.2.2.2
     obtain ⟨m, rfl⟩ : ∃ m', m = m' + 1 := ⟨m - 1, by omega⟩
     simp +decide only [zf102.o, ↓GW.o, reduceIte, e0]
     refine fr.in (jg9 x1 (by omega) 6 fun H2 f2 x2 => ?_)
     have fr2 := fr.call f2
     unfold refL at hR
     obtain ⟨sv, a, rfl⟩ := lr.sc
     by_cases h6 : q.k.kind = 6
     · rw [if_pos h6] at hR
       simp +decide only [zf102.o, ↓GW.o, reduceIte, show (q.k.kind == 6) = true by simpa using h6, e0]
       refine fr2.in (jy2 x2 (by omega) 6 ?_)
       have sz1 := x1.sz
       have tk1 := x1.tok
       cases hop : openP z.s 6 q with
       | er e =>
         rw [hop] at hR
         subst hR
         intro i H3 f3
         simp +decide only [↓GW.o]
         exact ⟨_, .refl _, hk i _ (fr2.call f3).out⟩
       | ok u q3 =>
         rw [hop, Ou.bind_ok] at hR
         rintro H3 _ f3 x3 g3 o3 rfl
         have fr3 := fr2.call f3
         obtain ⟨lt3, lv3⟩ := j4j sz1 tk1 (by decide) hop
         simp +decide only [zf102.o, ↓GW.o, reduceIte, e0, e3, l3]
         refine fr3.in (EX (ab := 0) x3 (by omega) lv3 (by have := g1.le; omega) (by omega) ?_)
         cases hex : exprP z.s n 0 q3 with
         | er e =>
           rw [hex] at hR
           subst hR
           intro i H4 f4
           simp +decide only [↓GW.o]
           refine ⟨by decide +kernel, _, .refl _, hk i _ (fr3.call f4).out⟩
         | ok v4 q4 =>
           rw [hex, Ou.bind_ok] at hR
           rintro H4 _ f4 x4 g4 o4 rfl
           have fr4 := fr3.call f4
           have hlen : rf.index.length ≤ 2 ^ 21 := by omega
           obtain ⟨v', L5, e5, fr5, lr5, b5, k5⟩ := j0l fr4 lr hlen v4
           have lt3' := (fr4.keys _ _ l3).2.1
           have l5 : L5.lookup H1.next = some ⟨[.string rf.word, .int .i64 (rf.at_ : Int), .slice a rf.index.length rf.index.length], true, 1, none⟩ := by rw [k5 _ n3 lt3']; exact l3
           have l5' : L5.lookup H.next = some ⟨[.string .empty, .int .i64 0, .slice none 0 0], true, 1, none⟩ := by rw [k5 _ n2 (fr4.keys _ _ l2).2.1]; exact l2
           have s5 := lr5.sc.1
           simp +decide only [zf102.o, ↓GW.o, reduceIte, e0, e3, e5, l5, s5, jc7 lt3', l3]
           have fr6 := fr5.up H1.next ⟨[.string rf.word, .int .i64 (rf.at_ : Int), v'], true, 1, none⟩
           have lt2' := (fr4.keys _ _ l2).2.1
           refine fr6.in (jy3 (x4.to (show H4.next ≤ H4.next + 1 + 1 by omega)) (by omega) (by omega) 7 ?_)
           cases hsh : shutP z.s 7 q4 with
           | er e =>
             rw [hsh] at hR
             subst hR
             intro i H7 f7
             simp +decide only [↓GW.o]
             exact ⟨_, .refl _, hk i _ (fr6.call f7).out⟩
           | ok u q7 =>
             rw [hsh, Ou.bind_ok] at hR
             rintro H7 _ f7 x7 g7 o7 rfl
             simp +decide only [↓GW.o]
             have n5 : ∀ q, q < H4.next → blkOf v' ≠ some q := fun q hq e => by rw [b5] at e; injection e with e; omega
             have la : q.at_ < q7.at_ := by have := g4.le; have := g7.le; omega
             refine hL m _ _ _ (Nat.lt_succ_self m) ⟨rfl, ?_, ?_, ?_, { rf with index := rf.index ++ [v4] }, q7, H7, _, v', rfl, fr6.call f7, x7, g1.trans (g3.trans (g4.trans g7)), by omega, by omega, lr5.up (n5 _ lt3') _, ?_, ?_, n5 _ lt3', n5 _ lt2', by simp; omega, hR⟩
             · simp +decide only [↓G.o, reduceIte, e0]
             · simp +decide only [↓G.o, reduceIte, e2]
             · simp +decide only [↓G.o, reduceIte, e3]
             · rw [ja3, if_pos rfl, l5]; rfl
             · rw [ja3, if_neg (Nat.ne_of_lt lq)]; exact l5'
     · rw [if_neg h6] at hR
       subst hR
       simp +decide only [zf102.o, ↓GW.o, reduceIte, show (q.k.kind == 6) = false by simpa using h6, e2, e3, l2, l3, ja3, Option.map_some]
       rw [show ((0 : Nat) == 0) = true from rfl, cTp]
       have fu := fr2.up H.next ⟨[.string rf.word, .int .i64 (rf.at_ : Int), .slice a rf.index.length rf.index.length], true, 1, none⟩
       obtain ⟨ff, gg⟩ := fu.frz
       have lr' := lr.up n2 ⟨[.string rf.word, .int .i64 (rf.at_ : Int), .slice a rf.index.length rf.index.length], true, 1, none⟩
       exact ⟨_, gg, hk _ _ ff.out ((x2.mono (Nat.le_refl 1)).hle ff.hle) g1 o1 ⟨a, _, _, rfl, lr'.frz fu (jm1 _ _)⟩⟩
   all_goals simp +decide only [↓G.o, reduceIte]
end
def rf0 : Rf := ⟨.empty, 0, []⟩
def it0 (kind : Int) (pos : Nat) : It := ⟨kind, pos, rf0, rf0, rf0, rf0, [], [], 0, 0, .empty, [], []⟩
def orI (x y : Int) : Int := IntKind.i64.wrap ((BitVec.ofInt 64 x ||| BitVec.ofInt 64 y).toNat : Int)
def fnK : Nat → FuncId
 | 0 => 41
 | 1 => 104
 | 2 => 105
 | 3 => 107
 | 4 => 128
 | 5 => 127
 | _ => 22
inductive Fd where | n | f | t | o
def Fd.no : Fd → Nat | .n => 2 | .f => 3 | .t => 4 | .o => 5
def Fd.set (it : It) (f : Rf) : Fd → It | .n => { it with name := f } | .f => { it with from_ := f } | .t => { it with to_ := f } | .o => { it with over_ := f }
inductive Sp where
 | must (k : Int) | take (sw : Bool) (k : Int) | see (sw : Bool) (k : Int) | num (w : Int) | flag (w f : Int) | ends | ref (x : Fd) | e | kids (kd : Nat) | how (v : Int) | orf (v : Int) | text | nxt
 | word (x : Fd) | e1 | eB | same (kd : Nat) (l : Bool) | setf (v : Int) | args | pars
structure Pz where
 s : List UInt8
 ex : Nat → PS → Ou Nat
 m : Nat
 ru : Nat → PS → Ou Nat
def blockL (F : PS → Ou Nat) : Nat → List Nat → PS → Ou (List Nat)
 | 0, _, _ => .er .bad
 | n + 1, l, p => if p.k.kind = 5 then .ok l p else (F p).bind fun v p => blockL F n (l ++ [v]) p
def blockP (s : List UInt8) (F : PS → Ou Nat) (n : Nat) (p : PS) : Ou (List Nat) := (openP s 4 p).bind fun _ p => (blockL F n [] p).bind fun l p => (shutP s 5 p).bind fun _ p => .ok l p
def exE (z : Pz) (p : PS) (it : It) : Ou It := (z.ex 0 p).bind fun v p => .ok { it with e := it.e ++ [v] } p
def refZ (z : Pz) (p : PS) : Ou Rf := refP z.s z.ex z.m p
def argL (z : Pz) : Nat → PS → It → Ou It
 | 0, _, _ => .er .bad
 | n + 1, p, it => if p.k.kind = 9 ∧ it.e = [] then .ok it p else (exE z p it).bind fun it p => (takeP z.s 11 p).bind fun t p => if t = true then argL z n p it else .ok it p
def parL (z : Pz) : Nat → PS → It → Ou It
 | 0, _, _ => .er .bad
 | n + 1, p, it => if p.k.kind = 9 ∧ it.params = [] then .ok it p else (wordP z.s p).bind fun f p => (takeP z.s 11 p).bind fun t p => if t = true then parL z n p { it with params := it.params ++ [f] } else .ok { it with params := it.params ++ [f] } p
def Sp.run (z : Pz) (p : PS) (it : It) : Sp → Ou (Bool × It)
 | .must k => (mustP z.s k p).bind fun _ p => .ok (true, it) p
 | .take _ k => (takeP z.s k p).bind fun t p => .ok (t, it) p
 | .see _ k => .ok (p.k.kind == k, it) p
 | .num w => (mustP z.s w p).bind fun _ p => (exE z p it).bind fun it p => .ok (true, it) p
 | .flag w f => (takeP z.s w p).bind fun t p => .ok (t, cond t { it with flags := orI it.flags f } it) p
 | .ends => (refZ z p).bind fun f p => (mustP z.s 60 p).bind fun _ p => (refZ z p).bind fun g p => (mustP z.s 61 p).bind fun _ p => (refZ z p).bind fun h p => .ok (true, { it with name := f, from_ := g, to_ := h }) p
 | .ref x => (refZ z p).bind fun f p => .ok (true, x.set it f) p
 | .e => (exE z p it).bind fun it p => .ok (true, it) p
 | .kids kd => (blockP z.s (z.ru kd) z.m p).bind fun l p => .ok (true, { it with kids := l }) p
 | .how v => .ok (true, { it with how := v }) p
 | .orf v => .ok (true, { it with flags := orI it.flags v }) p
 | .text => .ok (true, { it with text := p.k.w }) p
 | .nxt => .ok (true, it) (nextP z.s p)
 | .word x => (wordP z.s p).bind fun f p => .ok (true, x.set it f) p
 | .e1 => (z.ex 0 p).bind fun v p => .ok (true, { it with e := [v] }) p
 | .eB => (exE z p it).bind fun it p => .ok (true, it) p
 | .same kd l => (blockP z.s (z.ru kd) z.m p).bind fun b p => .ok (true, cond l { it with els := b } { it with kids := b }) p
 | .setf v => .ok (true, { it with flags := v }) p
 | .args => (openP z.s 8 p).bind fun _ p => (argL z z.m p it).bind fun it p => (shutP z.s 9 p).bind fun _ p => .ok (true, it) p
 | .pars => (openP z.s 8 p).bind fun _ p => (parL z z.m p it).bind fun it p => (shutP z.s 9 p).bind fun _ p => .ok (true, it) p
inductive Rc where
 | sp (r : Nat) (s : Sp) | br (r : Nat) (s : Sp) (x y : Rc) | sq (x y : Rc) | blk (i : Nat) (x : Rc) | skip | ret
def Rc.run (z : Pz) : Rc → PS → It → Ou (Bool × It)
 | .sp _ s, p, it => (s.run z p it).bind fun v p => .ok (false, v.2) p
 | .br _ s x y, p, it => (s.run z p it).bind fun v p => cond v.1 (x.run z p v.2) (y.run z p v.2)
 | .sq x y, p, it => (x.run z p it).bind fun v p => cond v.1 (.ok v p) (y.run z p v.2)
 | .blk _ x, p, it => x.run z p it
 | .skip, p, it => .ok (false, it) p
 | .ret, p, it => .ok (true, it) p
def Rc.len : Rc → Nat
 | .sp _ _ => 1
 | .br _ _ x y => x.len + y.len + 1
 | .sq x y => x.len + y.len
 | .blk _ x => x.len
 | _ => 0
/-! Their code. -/
def ed (d c : List Nat) (m : Nat) : Array Edge := ((d.map fun i => (⟨i, .data⟩ : Edge)) ++ ((c.map fun i => (⟨i, .chain⟩ : Edge)) ++ (List.range m).map fun i => (⟨i, .phase⟩ : Edge))).toArray
def oR (p : String) (n : Nat) : Oper := ⟨some n, .move (.tmp 0), 60, p, #[], none⟩
def oX (xi : Nat) (p : String) (n : Nat) : Oper := ⟨some n, .move (.tmp xi), 97, p, #[], none⟩
def kI (k : Int) : Operand := .const (.int .i64 k)
def oC (p : String) (n : Nat) (f : FuncId) (l : Array Operand) (ts : Array TypeId) (t : TypeId) (a : Array Edge) : Oper := ⟨some n, .call { callee := .value (.func f), args := l, argTypes := ts }, t, p, a, none⟩
def oS (p : String) (n i x : Nat) (fd : Nat) (t : TypeId) (v : Operand) (m : Nat) (d c : List Nat) : List Oper := [⟨some n, .nilCheck (.tmp i), 0, p, ed [0] [] m, none⟩, ⟨some (n + 1), .fieldAddr 40 (.tmp n) fd, 0, p, ed [x] [] m, none⟩, ⟨none, .store t (.tmp (n + 1)) v, 0, p, ed ((x + 1) :: d) c m, none⟩]
def oB (xi : Nat) (p : String) (n : Nat) (fd : Nat) (t : TypeId) (v : Operand) (m : Nat) (d c : List Nat) : List Oper := [⟨some n, .fieldAddr 40 (.tmp xi) fd, 0, p, ed [] [] m, none⟩, ⟨none, .store t (.tmp n) v, 0, p, ed (m :: d) c m, none⟩]
def Sp.ops (xi : Nat) (p : String) (n : Nat) : Sp → List Oper
 | .must k => [oR p (n + 3), oC p (n + 4) 19 #[.tmp (n + 3), kI k] #[60, 3] 0 (ed [0] [] 0)]
 | .take sw k => [oR p (n + 3), oC p (n + 4) 36 #[.tmp (n + 3), kI k] #[60, 3] 4 (ed [0] [] 0)] ++ cond sw [⟨some (n + 2), .assign (.tmp (n + 4)), 4, p, ed [1] [1] 0, none⟩] []
 | .see sw k => [oR p (n + 3), oC p (n + 4) 38 #[.tmp (n + 3), kI k] #[60, 3] 4 (ed [0] [] 0)] ++ cond sw [⟨some (n + 2), .assign (.tmp (n + 4)), 4, p, ed [1] [1] 0, none⟩] []
 | .num w => [oR p (n + 3), oX xi p (n + 4), oC p (n + 5) 101 #[.tmp (n + 3), .tmp (n + 4), kI w] #[60, 97, 3] 0 (ed [0, 1] [] 0)]
 | .flag w f => [oR p (n + 3), oX xi p (n + 4), oC p (n + 5) 103 #[.tmp (n + 3), .tmp (n + 4), kI w, kI f] #[60, 97, 3, 3] 4 (ed [0, 1] [] 0)]
 | .ends => [oR p (n + 3), oX xi p (n + 4), oC p (n + 5) 106 #[.tmp (n + 3), .tmp (n + 4)] #[60, 97] 0 (ed [0, 1] [] 0)]
 | .ref x => [oX xi p (n + 3), oR p (n + 4), oC p (n + 5) 102 #[.tmp (n + 4)] #[60] 24 (ed [1] [] 0)] ++ oS p (n + 6) (n + 3) 3 x.no 24 (.tmp (n + 5)) 3 [2] [2]
 | .e => [oX xi p (n + 3), oX xi p (n + 4), ⟨some (n + 5), .nilCheck (.tmp (n + 4)), 0, p, ed [1] [] 0, none⟩, ⟨some (n + 6), .fieldAddr 40 (.tmp (n + 5)) 7, 0, p, ed [2] [] 0, none⟩, ⟨some (n + 7), .load 22 (.tmp (n + 6)), 22, p, ed [3] [] 0, none⟩, oR p (n + 8), oC p (n + 9) 73 #[.tmp (n + 8), kI 0] #[60, 3] 3 (ed [5] [] 0),
   ⟨some (n + 10), .buildSlice 22 1 #[(0, .tmp (n + 9))], 22, p, ed [6] [] 0, none⟩, ⟨some (n + 11), .call { callee := .builtin .append, args := #[.tmp (n + 7), .tmp (n + 10)], argTypes := #[22, 22] }, 22, p, ed [4, 7] [6] 0, none⟩] ++ oS p (n + 12) (n + 3) 9 7 22 (.tmp (n + 11)) 9 [8] [8]
 | .kids kd => [oX xi p (n + 3), oR p (n + 4), oR p (n + 5), ⟨some (n + 6), .makeFunc (.func (fnK kd)) #[.tmp (n + 5)] #[], 66, p, ed [2] [] 0, none⟩, oC p (n + 7) 21 #[.tmp (n + 4), .tmp (n + 6)] #[60, 82] 22 (ed [1, 3] [] 0)] ++ oS p (n + 8) (n + 3) 5 11 22 (.tmp (n + 7)) 5 [4] [4]
 | .how v => oX xi p (n + 3) :: oS p (n + 4) (n + 3) 1 9 3 (kI v) 1 [] []
 | .orf v => [oX xi p (n + 3), ⟨some (n + 4), .nilCheck (.tmp (n + 3)), 0, p, ed [0] [] 0, none⟩, ⟨some (n + 5), .fieldAddr 40 (.tmp (n + 4)) 8, 0, p, ed [1] [] 0, none⟩, ⟨some (n + 6), .load 3 (.tmp (n + 5)), 3, p, ed [2] [] 0, none⟩, ⟨some (n + 7), .binOp .or 3 (.tmp (n + 6)) (kI v) 3, 3, p, ed [3] [] 0, none⟩] ++ oS p (n + 8) (n + 3) 5 8 3 (.tmp (n + 7)) 5 [4] []
 | .text => [oX xi p (n + 3), oR p (n + 4), ⟨some (n + 5), .nilCheck (.tmp (n + 4)), 0, p, ed [1] [] 0, none⟩, ⟨some (n + 6), .fieldAddr 62 (.tmp (n + 5)) 3, 0, p, ed [2] [] 0, none⟩, ⟨some (n + 7), .fieldAddr 49 (.tmp (n + 6)) 2, 0, p, ed [3] [] 0, none⟩, ⟨some (n + 8), .load 9 (.tmp (n + 7)), 9, p, ed [4] [] 0, none⟩] ++ oS p (n + 9) (n + 3) 6 10 9 (.tmp (n + 8)) 6 [5] []
 | .nxt => [oR p (n + 3), oC p (n + 4) 18 #[.tmp (n + 3)] #[60] 0 (ed [0] [] 0)]
 | .word x => [oR p (n + 3), oC p (n + 4) 20 #[.tmp (n + 3)] #[60] 24 (ed [0] [] 0)] ++ oB xi p (n + 5) x.no 24 (.tmp (n + 4)) 2 [1] [1]
 | .e1 => [oR p (n + 3), oC p (n + 4) 73 #[.tmp (n + 3), kI 0] #[60, 3] 3 (ed [0] [] 0), ⟨some (n + 5), .buildSlice 22 1 #[(0, .tmp (n + 4))], 22, p, ed [1] [] 0, none⟩] ++ oB xi p (n + 6) 7 22 (.tmp (n + 5)) 3 [2] [1]
 | .eB => [⟨some (n + 3), .fieldAddr 40 (.tmp xi) 7, 0, p, #[], none⟩, ⟨some (n + 4), .load 22 (.tmp (n + 3)), 22, p, ed [0] [] 0, none⟩, oR p (n + 5), oC p (n + 6) 73 #[.tmp (n + 5), kI 0] #[60, 3] 3 (ed [2] [] 0),
   ⟨some (n + 7), .buildSlice 22 1 #[(0, .tmp (n + 6))], 22, p, ed [3] [] 0, none⟩, ⟨some (n + 8), .call { callee := .builtin .append, args := #[.tmp (n + 4), .tmp (n + 7)], argTypes := #[22, 22] }, 22, p, ed [1, 4] [3] 0, none⟩] ++ oB xi p (n + 9) 7 22 (.tmp (n + 8)) 6 [5] [5]
 | .same _ l => [oR p (n + 3), ⟨some (n + 4), .move (.tmp 1), 82, p, #[], none⟩, oC p (n + 5) 21 #[.tmp (n + 3), .tmp (n + 4)] #[60, 82] 22 (ed [0, 1] [] 0)] ++ oB xi p (n + 6) (cond l 12 11) 22 (.tmp (n + 5)) 3 [2] [2]
 | .setf v => [⟨some (n + 3), .fieldAddr 40 (.tmp xi) 8, 0, p, #[], none⟩, ⟨none, .store 3 (.tmp (n + 3)) (kI v), 0, p, ed [0] [] 0, none⟩]
 | .args => []
 | .pars => []
def Sp.draw : Sp → Bool | .e => true | .eB => true | _ => false
def Sp.prs : Sp → List (Nat × Nat) | .e => [(4, 6), (4, 7)] | .eB => [(1, 3), (1, 4)] | _ => []
def Sp.res (n : Nat) : Sp → Option Nat | .take sw _ => some (cond sw (n + 2) (n + 4)) | .see sw _ => some (cond sw (n + 2) (n + 4)) | .flag _ _ => some (n + 5) | _ => none
def Sp.one : Sp → Bool | .args => false | .pars => false | _ => true
def po (f : Func) (r : Nat) : String := (((rgn f r)[0]?).map (·.pos)).getD ""
def tb (f : Func) (r : Nat) : Nat := (((rgn f r)[0]?).bind (·.dst)).getD 0 - 3
def rg (f : Func) (xi r : Nat) (s : Sp) : Code := .region r (s.ops xi (po f r) (tb f r)).toArray s.draw
def Rc.code (f : Func) (xi : Nat) : Rc → Code
 | .sp r s => rg f xi r s
 | .br r s x y => .seq (rg f xi r s) (.cond (.tmp ((s.res (tb f r)).getD 0)) (x.code f xi) (y.code f xi))
 | .sq x y => .seq (x.code f xi) (y.code f xi)
 | .blk i x => .block i (x.code f xi)
 | .skip => .skip
 | .ret => .ret
def Sp.okr (f : Func) (m : Nat) (pr : Nat → List (Nat × Nat)) (r : Nat) (s : Sp) : Bool := s.one && (Nat.blt m (tb f r + 2) && (!s.draw || decide (pr r = s.prs)))
def Rc.ok (f : Func) (m : Nat) (pr : Nat → List (Nat × Nat)) : Rc → Bool
 | .sp r s => s.okr f m pr r
 | .br r s x y => s.okr f m pr r && ((s.res 0).isSome && (x.ok f m pr && y.ok f m pr))
 | .sq x y => x.ok f m pr && y.ok f m pr
 | .blk _ x => x.ok f m pr
 | _ => true
def AnS {α : Type} (z : Cx) (T : Tc) (H : Heap) (p : PS) (o W : Nat) (rel : Heap → α → Value → Prop) (k : KV) (kp : KP) : Ou α → Prop
 | .ok v q => ∀ H' u, Fle H H' → Rd z T H' q W → Go p q → p.at_ < q.at_ → q.opened = o → rel H' v u → k u H'
 | .er e => ∀ i H', Fle H H' → kp [haltE i e.code] H'
def RuOk (z : Cx) (T : Tc) (g : FuncId) (F : PS → Ou Nat) (M : Nat) : Prop := ∀ {H : Heap} {p : PS} {w : Nat} {k : KV} {kp : KP}, Rd z T H p w → w < 2 ^ 16 → Lv p → z.s.length < p.at_ + M → AnS z T H p p.opened (2 ^ 14) vN k kp (F p) → callW PP g #[pt z.b] H k kp
def vL : Heap → List Nat → Value → Prop := fun H l u => ∃ a n m, u = .slice a n m ∧ Vd H (rowD l) (.slice a n m)
section
variable {z : Cx} {T : Tc} {H : Heap} {p : PS} {w : Nat} {k : KV} {kp : KP}
theorem ju2 {g : FuncId} {F : PS → Ou Nat} {M : Nat} (RU : RuOk z T g F M) (x : Rd z T H p w) (hw : w < 2 ^ 20) {m : Nat} (hn : z.s.length < p.at_ + M) (hm : z.s.length < p.at_ + m) (hk : An z T H p p.opened 0 vL k kp (blockP z.s F m p)) :
   callW PP 21 #[pt z.b, .func (.func g) #[pt z.b] #[]] H k kp := by
 have sh := x.base.short
 refine ja4 (H0 := H.plus []) (.refl _) (run 2 rfl Tryz.func21 (pr := noPr) (by decide +kernel) (by kernel_rfl) ?_)
 simp +decide only [zf21.o, ↓GW.o, reduceIte]
 have f0 := Fr.start x.fresh
 refine f0.in (jy2 x (by omega) 4 ?_)
 unfold blockP at hk
 have sz := x.sz
 have tk := x.tok
 cases hop : openP z.s 4 p with
 | er e =>
   rw [hop] at hk
   intro i H1 f1
   simp +decide only [↓GW.o]
   exact ⟨_, .refl _, hk i _ f1⟩
 | ok u q =>
   rw [hop, Ou.bind_ok] at hk
   rintro H1 _ f1 x1 g1 o1 rfl
   obtain ⟨lt, lv⟩ := j4j sz tk (by decide) hop
   simp +decide only [zf21.o, ↓GW.o, reduceIte]
   generalize hR : blockL F m [] q = R at hk
   refine ja6 (I := fun m E ds G => ds = [] ∧ E 0 = pt z.b ∧ E 1 = .func (.func g) #[pt z.b] #[] ∧ ∃ (l : List Nat) (q : PS) (Hb : Heap) (L : List (Nat × Blk)) (v : Value) (w' : Nat), E 5 = v ∧ G = Hb.plus L ∧ Fr H Hb L ∧ Rd z T Hb q w' ∧ w' ≤ 2 ^ 14 ∧ Lv q ∧ Go p q ∧ q.opened = p.opened + 1 ∧ z.s.length < q.at_ + m ∧ LRow L 1 v l.length (natsV l) ∧ l.length ≤ q.at_ ∧ blockL F m l q = R) (i := m) ?_
     ⟨rfl, ?_, ?_, [], q, H1, [], .slice none 0 0, 0, ?_, rfl, f0.call f1, x1, by omega, lv, g1, o1, by have := g1.le; omega, .inl ⟨rfl, rfl, rfl⟩, Nat.zero_le _, hR⟩
   · clear f1 x1 g1 o1 hR lt lv hop
     rintro L' m E _ _ ⟨rfl, e0, e1, l, q, Hb, L, v, w', e5, rfl, fr, x1, hw', lv, g1, o1, hm, lr, hl, hR⟩ hL
     have hq1 := x1.sz.2.2.2.1
     have hq2 := x1.sz.2.2.2.2
     obtain ⟨m, rfl⟩ : ∃ m', m = m' + 1 := ⟨m - 1, by omega⟩
     obtain ⟨sv, a, rfl⟩ := lr.sc
     simp +decide only [zf21.o, ↓GW.o, reduceIte, e0]
     refine fr.in (jg9 x1 (by omega) 5 fun H2 f2 x2 => ?_)
     have fr2 := fr.call f2
     unfold blockL at hR
     by_cases h5 : q.k.kind = 5
     · rw [if_pos h5] at hR
       rw [← hR, Ou.bind_ok] at hk
       simp +decide only [zf21.o, ↓GW.o, reduceIte, show (q.k.kind == 5) = true by simpa using h5, e0]
       refine fr2.in (jy3 x2 (by omega) (by omega) 5 ?_)
       cases hsh : shutP z.s 5 q with
       | er e =>
         rw [hsh] at hk
         intro i H3 f3
         simp +decide only [↓GW.o]
         exact ⟨_, .refl _, hk i _ (fr2.call f3).out⟩
       | ok u q3 =>
         rw [hsh, Ou.bind_ok] at hk
         rintro H3 _ f3 x3 g3 o3 rfl
         simp +decide only [zf21.o, ↓GW.o, reduceIte, e5]
         have fr3 := fr2.call f3
         obtain ⟨ff, gg⟩ := fr3.frz
         exact ⟨_, gg, hk _ _ ff.out (x3.hle ff.hle) (g1.trans g3) (by omega) ⟨a, _, _, rfl, lr.frz fr3 (jm1 _ _)⟩⟩
     · rw [if_neg h5] at hR
       simp +decide only [zf21.o, ↓GW.o, reduceIte, show (q.k.kind == 5) = false by simpa using h5, Bool.not_false, e1, e5]
       refine fr2.in (RU x2 (by omega) lv (by have := g1.le; omega) ?_)
       cases hF : F q with
       | er e =>
         rw [hF] at hR
         rw [← hR] at hk
         intro i H3 f3
         simp +decide only [↓GW.o]
         exact ⟨_, .refl _, hk i _ (fr2.call f3).out⟩
       | ok v3 q3 =>
         rw [hF, Ou.bind_ok] at hR
         rintro H3 _ f3 x3 g3 lt3 o3 rfl
         have fr3 := fr2.call f3
         obtain ⟨v', L5, e6, fr5, lr5, b5, k5⟩ := j0l fr3 lr (by omega) v3
         simp +decide only [↓GW.o, reduceIte, e6]
         refine hL m _ _ _ (Nat.lt_succ_self m) ⟨rfl, ?_, ?_, l ++ [v3], q3, _, L5, v', _, ?_, rfl, fr5, x3.to (by omega), Nat.le_refl _, g3.lv lv, g1.trans g3, o3.trans o1, by omega, lr5, by simp; omega, hR⟩
         all_goals simp +decide only [↓G.o, reduceIte, e0, e1]
   all_goals simp +decide only [↓G.o, reduceIte]
end
abbrev itB (x : It) (nv fv tv ov pv ev kv lv : Value) : Blk := ⟨[.int .i64 x.kind, .int .i64 (x.pos : Int), .string x.name.word, .int .i64 (x.name.at_ : Int), nv, .string x.from_.word, .int .i64 (x.from_.at_ : Int), fv, .string x.to_.word, .int .i64 (x.to_.at_ : Int), tv, .string x.over_.word, .int .i64 (x.over_.at_ : Int), ov, pv, ev, .int .i64 x.flags, .int .i64 x.how, .string x.text, kv, lv], true, 1, none⟩
theorem Vd.sc {H : Heap} {es : Nat} {l : List DV} {v : Value} (h : Vd H (.r es l) v) : sc v = true := by cases h <;> rfl
structure LI (H : Heap) (L : List (Nat × Blk)) (q : Nat) (x : It) (nv fv tv ov ev kv lv : Value) : Prop where
 blk : L.lookup q = some (itB x nv fv tv ov (.slice none 0 0) ev kv lv)
 par : x.params = []
 n : Vd H (rowD x.name.index) nv
 f : Vd H (rowD x.from_.index) fv
 t : Vd H (rowD x.to_.index) tv
 o : Vd H (rowD x.over_.index) ov
 k : Vd H (rowD x.kids) kv
 l : Vd H (rowD x.els) lv
 e : LRow L 1 ev x.e.length (natsV x.e)
 ne : blkOf ev ≠ some q
theorem LI.mono {H H' : Heap} {L : List (Nat × Blk)} {q : Nat} {x : It} {nv fv tv ov ev kv lv : Value} (h : LI H L q x nv fv tv ov ev kv lv) (g : Fle H H') : LI H' L q x nv fv tv ov ev kv lv :=
 ⟨h.blk, h.par, h.n.mono g.keep, h.f.mono g.keep, h.t.mono g.keep, h.o.mono g.keep, h.k.mono g.keep, h.l.mono g.keep, h.e, h.ne⟩
theorem LI.put {H : Heap} {L : List (Nat × Blk)} {q : Nat} {x x' : It} {nv fv tv ov ev kv lv nv' fv' tv' ov' kv' lv' : Value} {y : Blk} (h : LI H L q x nv fv tv ov ev kv lv) (hy : y = itB x' nv' fv' tv' ov' (.slice none 0 0) ev kv' lv') (hp : x'.params = x.params) (he : x'.e = x.e)
   (n : Vd H (rowD x'.name.index) nv') (f : Vd H (rowD x'.from_.index) fv') (t : Vd H (rowD x'.to_.index) tv') (o : Vd H (rowD x'.over_.index) ov') (k : Vd H (rowD x'.kids) kv') (l : Vd H (rowD x'.els) lv') : LI H (upL q y L) q x' nv' fv' tv' ov' ev kv' lv' :=
 ⟨by rw [ja3, if_pos rfl, h.blk, hy]; rfl, hp.trans h.par, n, f, t, o, k, l, by rw [he]; exact h.e.up h.ne _, h.ne⟩
structure St (z : Cx) (T : Tc) (H0 H : Heap) (L : List (Nat × Blk)) (p : PS) (w q : Nat) (x : It) : Prop where
 fr : Fr H0 H L
 rd : Rd z T H p w
 lv : Lv p
 li : ∃ nv fv tv ov ev kv lv, LI H L q x nv fv tv ov ev kv lv
section
variable {z : Cx} {T : Tc} {H0 H H' : Heap} {L : List (Nat × Blk)} {p p' : PS} {w w' q : Nat} {x : It}
theorem St.call (s : St z T H0 H L p w q x) (f : Fle H H') (r : Rd z T H' p' w') (g : Go p p') : St z T H0 H' L p' w' q x := ⟨s.fr.call f, r, g.lv s.lv, let ⟨a, b, c, d, e, k, l, h⟩ := s.li; ⟨a, b, c, d, e, k, l, h.mono f⟩⟩
theorem St.mono (s : St z T H0 H L p w q x) {v : Nat} (h : w ≤ v) : St z T H0 H L p v q x := ⟨s.fr, s.rd.mono h, s.lv, s.li⟩
end
def AnI (z : Cx) (T : Tc) (H0 : Heap) (q : Nat) (p : PS) (W : Nat) (k : KV) (kp : KP) : Ou It → Prop
 | .ok x' p' => ∀ H' L', St z T H0 H' L' p' W q x' → Go p p' → p'.opened = p.opened → k (.tuple #[]) (H'.plus L')
 | .er e => ∀ i H', Fle H0 H' → kp [haltE i e.code] H'
theorem tyI : foff PP 40 0 = some 0 ∧ foff PP 40 1 = some 1 ∧ foff PP 40 2 = some 2 ∧ foff PP 40 3 = some 5 ∧ foff PP 40 4 = some 8 ∧ foff PP 40 5 = some 11 ∧ foff PP 40 6 = some 14 ∧ foff PP 40 7 = some 15 ∧ foff PP 40 8 = some 16 ∧ foff PP 40 9 = some 17 ∧ foff PP 40 10 = some 18 ∧ foff PP 40 11 = some 19 ∧ foff PP 40 12 = some 20 := by decide +kernel
def GI := Pf.mk (And.intro GW.o tyI)
structure Cz (z : Cx) (T : Tc) (y : Pz) (n M : Nat) : Prop where
 s : y.s = z.s
 ex : y.ex = exprP z.s n
 n : z.s.length < n
 m : z.s.length < y.m
 ru : ∀ kd, RuOk z T (fnK kd) (y.ru kd) M
section
variable {z : Cx} {T : Tc} {y : Pz} {n M : Nat} {H0 H : Heap} {L : List (Nat × Blk)} {p : PS} {w q : Nat} {x : It} {k : KV} {kp : KP}
theorem St.push (s : St z T H0 H L p w q x) (hl : x.e.length ≤ 2 ^ 21) (v : Nat) : ∃ nv fv tv ov ev kv lv a ev' L', LI H L q x nv fv tv ov ev kv lv ∧ ev = .slice a x.e.length x.e.length ∧ sc ev' = true ∧
   appendA PP #[22, 22] ev (.slice (some ⟨H.next, 0, none⟩) 1 1) ((H.to (H.next + 1)).plus ((H.next, ⟨[.int .i64 (v : Int)], true, 1, none⟩) :: L)) = some (ev', (H.to (H.next + 1 + 1)).plus L') ∧
   L'.lookup q = some (itB x nv fv tv ov (.slice none 0 0) ev kv lv) ∧ St z T H0 (H.to (H.next + 1 + 1)) (upL q (itB { x with e := x.e ++ [v] } nv fv tv ov (.slice none 0 0) ev' kv lv) L') p w q { x with e := x.e ++ [v] } := by
 obtain ⟨nv, fv, tv, ov, ev, kv, lv, li⟩ := s.li
 obtain ⟨se, a, rfl⟩ := li.e.sc
 obtain ⟨ev', L', e1, f1, r1, b1, k1⟩ := j0l s.fr li.e hl v
 have lt := (s.fr.keys _ _ li.blk).2.1
 have lq := (k1 q li.ne lt).trans li.blk
 have nq : blkOf ev' ≠ some q := by rw [b1]; intro e; injection e with e; omega
 have fl : Fle H (H.to (H.next + 1 + 1)) := .to s.fr.fresh (by omega)
 have li' := li.mono fl
 exact ⟨nv, fv, tv, ov, _, kv, lv, a, ev', L', li, rfl, r1.sc.1, e1, lq, f1.up _ _, s.rd.to (by omega), s.lv, nv, fv, tv, ov, ev', kv, lv, by rw [ja3, if_pos rfl, lq]; rfl, li.par, li'.n, li'.f, li'.t, li'.o, li'.k, li'.l, r1.up nq _, nq⟩
theorem j61 (C : Cz z T y n M) (s : St z T H0 H L p w q x) (hw : w < 2 ^ 20) (hl : x.e.length ≤ 2 ^ 20) {wd : Int} (hk : AnI z T H0 q p 128 k kp ((mustP z.s wd p).bind fun _ p => exE y p x)) :
   callW PP 101 #[pt z.b, pt q, .int .i64 wd] (H.plus L) k kp := by
 refine run 3 rfl Tryz.func101 (pr := fun i => if i = 1 then [(4, 6), (4, 7)] else []) (by decide +kernel) (by kernel_rfl) ?_
 simp +decide only [zf101.o, ↓GI.o, reduceIte]
 refine s.fr.in (jo1 s.rd (by omega) wd ?_)
 cases hm : mustP z.s wd p with
 | er e =>
   rw [hm] at hk
   intro i H1 f1
   simp +decide only [↓GI.o]
   exact hk i _ (s.fr.call f1).out
 | ok u p1 =>
   rw [hm, Ou.bind_ok] at hk
   rintro H1 _ f1 x1 g1 o1 rfl
   have s1 := s.call f1 x1 g1
   obtain ⟨nv, fv, tv, ov, ev, kv, lv, li⟩ := s1.li
   simp +decide only [zf101.o, ↓GI.o, reduceIte, li.blk]
   refine s1.fr.in (exprN n (ab := 0) x1 (by omega) s1.lv (by have := C.n; omega) (by omega) ?_)
   unfold exE at hk
   rw [C.ex] at hk
   cases hx : exprP z.s n 0 p1 with
   | er e =>
     rw [hx] at hk
     intro i H2 f2
     simp +decide only [↓GI.o]
     exact ⟨by decide +kernel, hk i _ (s1.fr.call f2).out⟩
   | ok v p2 =>
     rw [hx, Ou.bind_ok] at hk
     rintro H2 _ f2 x2 g2 o2 rfl
     have s2 := s1.call f2 x2 g2
     obtain ⟨nv', fv', tv', ov', ev', kv', lv', a, e2, L2, li', rfl, se, ea, lq, s3⟩ := s2.push (by omega) v
     have := li'.blk
     rw [li.blk] at this
     cases this
     have lt := (s2.fr.keys _ _ li.blk).2.1
     simp +decide only [zf101.o, ↓GI.o, reduceIte, ea, lq, se, jc7 lt, li.blk]
     exact hk _ _ s3 (g1.trans g2) (o2.trans o1)
end
theorem yj4 (x y : Operand) (n m : Int) : binA PP .or 3 x y (.int .i64 n) (.int .i64 m) = some (.int .i64 (orI n m)) := by kernel_rfl
section
variable {z : Cx} {T : Tc} {y : Pz} {n M : Nat} {H0 H : Heap} {L : List (Nat × Blk)} {p : PS} {w q : Nat} {x : It} {k : KV} {kp : KP}
theorem yj5 (s : St z T H0 H L p w q x) (hw : w < 2 ^ 20) {wd f : Int} (hk : ∀ t x' p', (takeP z.s wd p).bind (fun t p => .ok (t, cond t { x with flags := orI x.flags f } x) p) = .ok (t, x') p' → ∀ H' L', St z T H0 H' L' p' (w + 1) q x' → Go p p' → p'.opened = p.opened → k (.bool t) (H'.plus L')) :
   callW PP 103 #[pt z.b, pt q, .int .i64 wd, .int .i64 f] (H.plus L) k kp := by
 refine run 4 rfl Tryz.func103 (pr := noPr) (by decide +kernel) (by kernel_rfl) ?_
 simp +decide only [fx Tryz.f103.eq_1, ↓GI.o, reduceIte]
 refine s.fr.in (j8l s.rd (by omega) wd ?_)
 unfold takeP at hk ⊢
 by_cases h : p.k.kind = wd
 · rw [if_pos h] at hk ⊢
   rintro H1 _ f1 x1 g1 o1 rfl
   have s1 := s.call f1 x1 g1
   obtain ⟨nv, fv, tv, ov, ev, kv, lv, li⟩ := s1.li
   simp +decide only [fx Tryz.f103.eq_1, ↓GI.o, reduceIte, li.blk, yj4]
   exact hk _ _ _ rfl _ _ ⟨s1.fr.up _ _, s1.rd, s1.lv, nv, fv, tv, ov, ev, kv, lv, li.put rfl rfl rfl li.n li.f li.t li.o li.k li.l⟩ g1 o1
 · rw [if_neg h] at hk ⊢
   rintro H1 _ f1 x1 g1 o1 rfl
   simp +decide only [↓GI.o, reduceIte]
   exact hk _ _ _ rfl _ _ (s.call f1 x1 g1) g1 o1
theorem jo3 (C : Cz z T y n M) (s : St z T H0 H L p w q x) (hw : w < 2 ^ 20) (he : ∀ e, refZ y p = .er e → ∀ i H', Fle H H' → kp [haltE i e.code] (H'.plus L)) (hk : ∀ f p', refZ y p = .ok f p' → ∀ H' a l m, St z T H0 H' L p' 1 q x → Vd H' (rowD f.index) (.slice a l m) → Go p p' → p'.opened = p.opened → k (.agg #[.string f.word, .int .i64 (f.at_ : Int), .slice a l m]) (H'.plus L)) :
   callW PP 102 #[pt z.b] (H.plus L) k kp := by
 refine s.fr.in (ys2 (n := n) (m := y.m) (exprN n) s.rd hw s.lv (by have := C.n; omega) (by have := C.m; omega) ?_)
 unfold refZ at he hk
 rw [C.s, C.ex] at he hk
 cases h : refP z.s (exprP z.s n) y.m p with
 | er e => exact fun i H' f => he e h i H' f
 | ok v p1 =>
   rintro H' _ f1 x1 g1 o1 ⟨a, l, m, rfl, hv⟩
   exact hk v p1 h H' a l m (s.call f1 x1 g1) hv g1 o1
theorem yj6 (C : Cz z T y n M) (s : St z T H0 H L p w q x) (hw : w < 2 ^ 20) (hk : AnI z T H0 q p 1 k kp ((refZ y p).bind fun f p => (mustP z.s 60 p).bind fun _ p => (refZ y p).bind fun g p => (mustP z.s 61 p).bind fun _ p => (refZ y p).bind fun h p => .ok { x with name := f, from_ := g, to_ := h } p)) :
   callW PP 106 #[pt z.b, pt q] (H.plus L) k kp := by
 refine run 2 rfl Tryz.func106 (pr := noPr) (by decide +kernel) (by kernel_rfl) ?_
 simp +decide only [zf106.o, ↓GI.o, reduceIte]
 refine jo3 C s hw (fun e h i H1 f1 => ?_) fun f1 p1 h H1 a1 l1 m1 s1 v1 g1 o1 => ?_
 · rw [h] at hk
   simp +decide only [↓GI.o]
   exact hk i _ (s.fr.call f1).out
 rw [h, Ou.bind_ok] at hk
 clear h
 obtain ⟨nv, fv, tv, ov, ev, kv, lv, li⟩ := s1.li
 simp +decide only [zf106.o, ↓GI.o, reduceIte, li.blk]
 have s2 : St z T H0 H1 (upL q (itB { x with name := f1 } (.slice a1 l1 m1) fv tv ov (.slice none 0 0) ev kv lv) L) p1 1 q { x with name := f1 } := ⟨s1.fr.up _ _, s1.rd, s1.lv, _, fv, tv, ov, ev, kv, lv, li.put rfl rfl rfl v1 li.f li.t li.o li.k li.l⟩
 clear li s1
 refine s2.fr.in (jo1 s2.rd (by omega) 60 ?_)
 cases hm : mustP z.s 60 p1 with
 | er e =>
   rw [hm] at hk
   intro i H2 f2
   simp +decide only [↓GI.o]
   exact hk i _ (s2.fr.call f2).out
 | ok u p2 =>
   rw [hm, Ou.bind_ok] at hk
   rintro H2 _ f2 x2 g2 o2 rfl
   simp +decide only [zf106.o, ↓GI.o, reduceIte]
   have s3 := s2.call f2 x2 g2
   clear s2 hm
   refine jo3 C s3 (by omega) (fun e h i H1 f1 => ?_) fun f3 p3 h H3 a3 l3 m3 s3 v3 g3 o3 => ?_
   · rw [h] at hk
     simp +decide only [↓GI.o]
     exact hk i _ (s3.fr.call f1).out
   rw [h, Ou.bind_ok] at hk
   clear h
   obtain ⟨nv', fv', tv', ov', ev', kv', lv', li⟩ := s3.li
   simp +decide only [zf106.o, ↓GI.o, reduceIte, li.blk]
   have s4 : St z T H0 H3 _ p3 1 q { x with name := f1, from_ := f3 } := ⟨s3.fr.up q (itB { x with name := f1, from_ := f3 } nv' (.slice a3 l3 m3) tv' ov' (.slice none 0 0) ev' kv' lv'), s3.rd, s3.lv, _, _, tv', ov', ev', kv', lv', li.put rfl rfl rfl li.n v3 li.t li.o li.k li.l⟩
   clear li s3
   refine s4.fr.in (jo1 s4.rd (by omega) 61 ?_)
   cases hm : mustP z.s 61 p3 with
   | er e =>
     rw [hm] at hk
     intro i H2 f2
     simp +decide only [↓GI.o]
     exact hk i _ (s4.fr.call f2).out
   | ok u p4 =>
     rw [hm, Ou.bind_ok] at hk
     rintro H4 _ f4 x4 g4 o4 rfl
     simp +decide only [zf106.o, ↓GI.o, reduceIte]
     have s5 := s4.call f4 x4 g4
     clear s4 hm
     refine jo3 C s5 (by omega) (fun e h i H1 f1 => ?_) fun f5 p5 h H5 a5 l5 m5 s5 v5 g5 o5 => ?_
     · rw [h] at hk
       simp +decide only [↓GI.o]
       exact hk i _ (s5.fr.call f1).out
     rw [h, Ou.bind_ok] at hk
     obtain ⟨nv6, fv6, tv6, ov6, ev6, kv6, lv6, li⟩ := s5.li
     simp +decide only [zf106.o, ↓GI.o, reduceIte, li.blk]
     exact hk _ _ ⟨s5.fr.up _ _, s5.rd, s5.lv, _, fv6, _, ov6, ev6, kv6, lv6, li.put rfl rfl rfl li.n li.f v5 li.o li.k li.l⟩ (g1.trans (g2.trans (g3.trans (g4.trans g5)))) (by omega)
end
theorem yn0 (n k : Nat) : (0 = n + (k + 1)) = False := by simp
theorem yn1 (n k : Nat) : (1 = n + (k + 2)) = False := by simp; omega
theorem yn2 (n k : Nat) : (n = n + (k + 1)) = False := by simp
theorem yn3 (n k : Nat) : (n + (k + 1) = n) = False := by simp
theorem yx {xi n : Nat} (h : xi < n + 2) (k : Nat) : (xi = n + (k + 2)) = False := by simp; omega
noncomputable def fk (A : Array Oper) : Func := { Tryz.f19 with body := some (.region 0 A false) }
section
variable {pr : Nat → List (Nat × Nat)} {E : Env} {ds : List Deferred} {H : Heap} {K : KO}
theorem je0 (r : Nat) (A : Array Oper) : execW PP pr (.region r A false) none E ds H K = opsU PP (fk A) 0 A.toList E ds H (normK K) (panU PP (fk A) 0 false K) := by rw [execW]; rfl
theorem yj7 (r : Nat) (A : Array Oper) {y : Nat × Nat} {l : List (Nat × Nat)} (h : pr r = y :: l) : execW PP pr (.region r A true) none E ds H K = trU PP (fk A) 0 A.toList E ds H [] (chkU PP (fk A) 0 (y :: l) K) (panU PP (fk A) 0 true K) := by rw [execW, h]; rfl
end
theorem ys3 (A : Array Oper) : rgX (fk A) 0 = A.toList ∧ (rgn (fk A) 0).toList = A.toList := ⟨rfl, rfl⟩
theorem yj8 (f : Nat × Operand → Nat × Value) (x : Nat × Operand) : (#[x] : Array (Nat × Operand)).map f = #[f x] := by simp
structure Fa (b q xi ki : Nat) (V K : Value) (E : Env) : Prop where
 e0 : E 0 = pt b
 e1 : E 1 = V
 ex : E xi = pt q
 ek : E ki = K
theorem Fa.u {b q xi ki : Nat} {V K : Value} {E : Env} (e : Fa b q xi ki V K E) {n k : Nat} (hn : xi < n + 2 ∧ ki < n + 2) {v : Value} : Fa b q xi ki V K (upd E (some (n + (k + 2))) v) := ⟨by rw [ji1, if_neg (by omega)]; exact e.e0, by rw [ji1, if_neg (by omega)]; exact e.e1, by rw [ji1, if_neg (by omega)]; exact e.ex, by rw [ji1, if_neg (by omega)]; exact e.ek⟩
def Sp.req (b : Nat) (V : Value) : Sp → Prop | .same kd _ => V = .func (.func (fnK kd)) #[pt b] #[] | _ => True
def GS := Pf.mk (And.intro GI.o (And.intro @yn0 (And.intro @yn1 (And.intro @yn2 (And.intro @yn3 (And.intro @yj8 @ys3))))))
theorem jc6 {α β γ : Type} (x : Ou α) (f : α → PS → Ou β) (g : β → PS → Ou γ) : (x.bind f).bind g = x.bind fun v p => (f v p).bind g := by cases x <;> rfl
section
variable {z : Cx} {T : Tc} {y : Pz} {nn M : Nat} {H0 H : Heap} {L : List (Nat × Blk)} {p : PS} {w q n r xi ki : Nat} {x : It} {ps : String} {A : Array Oper} {V W : Value} {pr : Nat → List (Nat × Nat)} {E : Env} {K : KO}
def SpK (z : Cx) (T : Tc) (H0 : Heap) (q xi ki : Nat) (V W : Value) (p : PS) (w : Nat) (d : Option Nat) (K : KO) : Ou (Bool × It) → Prop
 | .ok v p' => ∀ E' H' L', Fa z.b q xi ki V W E' → (∀ j, d = some j → E' j = .bool v.1) → St z T H0 H' L' p' (w + 128) q v.2 → Go p p' → p'.opened = p.opened → K .norm E' [] (H'.plus L')
 | .er e => ∀ i E' H', Fle H0 H' → K (.pan [haltE i e.code]) E' [] H'
theorem yj9 (C : Cz z T y nn M) (s : St z T H0 H L p w q x) (hw : w < 2 ^ 15) (hl : x.e.length ≤ 2 ^ 20) (hM : z.s.length < p.at_ + M) (e : Fa z.b q xi ki V W E) (hn : xi < n + 2 ∧ ki < n + 2) :
   ∀ t : Sp, t.one = true → A.toList = t.ops xi ps n → (t.draw = true → pr r = t.prs) → t.req z.b V → SpK z T H0 q xi ki V W p w (t.res n) K (t.run y p x) → execW PP pr (.region r A t.draw) none E [] (H.plus L) K
 | .must k, _, hA, _, _, hk => by
   simp only [Sp.ops, oR, oC, kI] at hA
   simp only [Sp.run] at hk
   simp only [Sp.draw]
   rw [je0]
   simp +decide only [hA, ↓GS.o, reduceIte, e.e0]
   refine s.fr.in (jo1 s.rd (by omega) k ?_)
   rw [C.s] at hk
   cases h : mustP z.s k p with
   | er er =>
     rw [h] at hk
     intro i H1 f1
     simp +decide only [↓GS.o]
     exact hk i _ _ (s.fr.call f1).out
   | ok u p1 =>
     rw [h] at hk
     rintro H1 _ f1 x1 g1 o1 rfl
     simp +decide only [↓GS.o]
     exact hk _ _ _ ((e.u hn).u hn) (fun j hj => by cases hj) ((s.call f1 x1 g1).mono (by omega)) g1 o1
 | .take sw k, _, hA, hp, hV, hk => by
   simp only [Sp.ops, oR, oC, kI, List.cons_append, List.nil_append] at hA
   simp only [Sp.run] at hk
   simp only [Sp.draw]
   rw [C.s] at hk
   cases sw
   all_goals
     simp only [cond_true, cond_false] at hA
     rw [je0]
     simp +decide only [hA, ↓GS.o, reduceIte, e.e0]
     refine s.fr.in (j8l s.rd (by omega) k ?_)
     cases h : takeP z.s k p with
     | er er => exact absurd h (by unfold takeP; split <;> simp)
     | ok u p1 =>
       rw [h] at hk
       rintro H1 _ f1 x1 g1 o1 rfl
       simp +decide only [↓GS.o, reduceIte, Nat.reduceEqDiff]
       refine hk _ _ _ ?_ (fun j hj => ?_) ((s.call f1 x1 g1).mono (by omega)) g1 o1
       · first | exact ((e.u hn).u hn).u hn | exact (e.u hn).u hn
       · simp only [Sp.res, cond_true, cond_false, Option.some.injEq] at hj; subst hj; simp +decide only [↓GS.o, reduceIte, Nat.reduceEqDiff]
 | .see sw k, _, hA, hp, hV, hk => by
   simp only [Sp.ops, oR, oC, kI, List.cons_append, List.nil_append] at hA
   simp only [Sp.run] at hk
   simp only [Sp.draw]
   cases sw
   all_goals
     simp only [cond_true, cond_false] at hA
     rw [je0]
     simp +decide only [hA, ↓GS.o, reduceIte, e.e0]
     refine s.fr.in (jg9 s.rd (by omega) k fun H1 f1 x1 => ?_)
     simp +decide only [↓GS.o, reduceIte, Nat.reduceEqDiff]
     refine hk _ _ _ ?_ (fun j hj => ?_) ((s.call f1 x1 (.refl p)).mono (by omega)) (.refl p) rfl
     · first | exact ((e.u hn).u hn).u hn | exact (e.u hn).u hn
     · simp only [Sp.res, cond_true, cond_false, Option.some.injEq] at hj; subst hj; simp +decide only [↓GS.o, reduceIte, Nat.reduceEqDiff]
 | .num wd, _, hA, hp, hV, hk => by
   simp only [Sp.ops, oR, oX, oC, kI] at hA
   simp only [Sp.run] at hk
   simp only [Sp.draw]
   rw [je0]
   simp +decide only [hA, ↓GS.o, reduceIte, Nat.reduceEqDiff, e.e0, e.ex, yx hn.1]
   rw [C.s] at hk
   refine j61 C s (by omega) hl ?_
   cases h : (mustP z.s wd p).bind fun _ p => exE y p x with
   | er er =>
     have : (mustP z.s wd p).bind (fun _ p => (exE y p x).bind fun it p => (.ok (true, it) p : Ou (Bool × It))) = .er er := by
       rw [← jc6, h]; rfl
     rw [this] at hk
     intro i H1 f1
     simp +decide only [↓GS.o]
     exact hk i _ _ f1
   | ok v p1 =>
     have : (mustP z.s wd p).bind (fun _ p => (exE y p x).bind fun it p => (.ok (true, it) p : Ou (Bool × It))) = .ok (true, v) p1 := by
       rw [← jc6, h]; rfl
     rw [this] at hk
     intro H1 L1 s1 g1 o1
     simp +decide only [↓GS.o]
     exact hk _ _ _ (((e.u hn).u hn).u hn) (fun j hj => by cases hj) (s1.mono (by omega)) g1 o1
 | .flag wd f, _, hA, hp, hV, hk => by
   simp only [Sp.ops, oR, oX, oC, kI] at hA
   simp only [Sp.run] at hk
   simp only [Sp.draw]
   rw [je0]
   simp +decide only [hA, ↓GS.o, reduceIte, Nat.reduceEqDiff, e.e0, e.ex, yx hn.1]
   rw [C.s] at hk
   refine yj5 s (by omega) fun t x' p' h H1 L1 s1 g1 o1 => ?_
   rw [h] at hk
   simp +decide only [↓GS.o]
   refine hk _ _ _ (((e.u hn).u hn).u hn) (fun j hj => ?_) (s1.mono (by omega)) g1 o1
   simp only [Sp.res, Option.some.injEq] at hj; subst hj; simp +decide only [↓GS.o, reduceIte, Nat.reduceEqDiff]
 | .ends, _, hA, hp, hV, hk => by
   simp only [Sp.ops, oR, oX, oC] at hA
   simp only [Sp.run] at hk
   simp only [Sp.draw]
   rw [je0]
   simp +decide only [hA, ↓GS.o, reduceIte, Nat.reduceEqDiff, e.e0, e.ex, yx hn.1]
   rw [C.s] at hk
   refine yj6 C s (by omega) ?_
   have hk' : SpK z T H0 q xi ki V W p w (Sp.res n .ends) K (((refZ y p).bind fun f p => (mustP z.s 60 p).bind fun _ p => (refZ y p).bind fun g p => (mustP z.s 61 p).bind fun _ p => (refZ y p).bind fun h p => .ok { x with name := f, from_ := g, to_ := h } p).bind fun it p => .ok (true, it) p) := by
     simpa only [jc6, Ou.bind_ok] using hk
   clear hk
   cases h : (refZ y p).bind fun f p => (mustP z.s 60 p).bind fun _ p => (refZ y p).bind fun g p => (mustP z.s 61 p).bind fun _ p => (refZ y p).bind fun h p => .ok { x with name := f, from_ := g, to_ := h } p with
   | er er =>
     rw [h] at hk'
     intro i H1 f1
     simp +decide only [↓GS.o]
     exact hk' i _ _ f1
   | ok v p1 =>
     rw [h] at hk'
     intro H1 L1 s1 g1 o1
     simp +decide only [↓GS.o]
     exact hk' _ _ _ (((e.u hn).u hn).u hn) (fun j hj => by cases hj) (s1.mono (by omega)) g1 o1
 | .ref fd, _, hA, hp, hV, hk => by
   simp only [Sp.run] at hk
   simp only [Sp.draw]
   cases fd
   · simp only [Sp.ops, oR, oX, oC, oS, Fd.no, List.cons_append, List.nil_append] at hA
     rw [je0]
     simp +decide only [hA, ↓GS.o, reduceIte, Nat.reduceEqDiff, e.e0, e.ex]
     refine jo3 C s (by omega) (fun er h i H1 f1 => ?_) fun f1 p1 h H1 a1 l1 m1 s1 v1 g1 o1 => ?_
     · rw [h] at hk
       simp +decide only [↓GS.o]
       exact hk i _ _ (s.fr.call f1).out
     rw [h] at hk
     obtain ⟨nv, fv, tv, ov, ev, kv, lv, li⟩ := s1.li
     simp +decide only [↓GS.o, reduceIte, Nat.reduceEqDiff, li.blk]
     exact hk _ _ _ (((((e.u hn).u hn).u hn).u hn).u hn) (fun j hj => by cases hj) ⟨s1.fr.up _ _, s1.rd.mono (by omega), s1.lv, _, fv, tv, ov, ev, kv, lv, li.put rfl rfl rfl v1 li.f li.t li.o li.k li.l⟩ g1 o1
   · simp only [Sp.ops, oR, oX, oC, oS, Fd.no, List.cons_append, List.nil_append] at hA
     rw [je0]
     simp +decide only [hA, ↓GS.o, reduceIte, Nat.reduceEqDiff, e.e0, e.ex]
     refine jo3 C s (by omega) (fun er h i H1 f1 => ?_) fun f1 p1 h H1 a1 l1 m1 s1 v1 g1 o1 => ?_
     · rw [h] at hk
       simp +decide only [↓GS.o]
       exact hk i _ _ (s.fr.call f1).out
     rw [h] at hk
     obtain ⟨nv, fv, tv, ov, ev, kv, lv, li⟩ := s1.li
     simp +decide only [↓GS.o, reduceIte, Nat.reduceEqDiff, li.blk]
     exact hk _ _ _ (((((e.u hn).u hn).u hn).u hn).u hn) (fun j hj => by cases hj) ⟨s1.fr.up _ _, s1.rd.mono (by omega), s1.lv, nv, _, tv, ov, ev, kv, lv, li.put rfl rfl rfl li.n v1 li.t li.o li.k li.l⟩ g1 o1
   · simp only [Sp.ops, oR, oX, oC, oS, Fd.no, List.cons_append, List.nil_append] at hA
     rw [je0]
     simp +decide only [hA, ↓GS.o, reduceIte, Nat.reduceEqDiff, e.e0, e.ex]
     refine jo3 C s (by omega) (fun er h i H1 f1 => ?_) fun f1 p1 h H1 a1 l1 m1 s1 v1 g1 o1 => ?_
     · rw [h] at hk
       simp +decide only [↓GS.o]
       exact hk i _ _ (s.fr.call f1).out
     rw [h] at hk
     obtain ⟨nv, fv, tv, ov, ev, kv, lv, li⟩ := s1.li
     simp +decide only [↓GS.o, reduceIte, Nat.reduceEqDiff, li.blk]
     exact hk _ _ _ (((((e.u hn).u hn).u hn).u hn).u hn) (fun j hj => by cases hj) ⟨s1.fr.up _ _, s1.rd.mono (by omega), s1.lv, nv, fv, _, ov, ev, kv, lv, li.put rfl rfl rfl li.n li.f v1 li.o li.k li.l⟩ g1 o1
   · simp only [Sp.ops, oR, oX, oC, oS, Fd.no, List.cons_append, List.nil_append] at hA
     rw [je0]
     simp +decide only [hA, ↓GS.o, reduceIte, Nat.reduceEqDiff, e.e0, e.ex]
     refine jo3 C s (by omega) (fun er h i H1 f1 => ?_) fun f1 p1 h H1 a1 l1 m1 s1 v1 g1 o1 => ?_
     · rw [h] at hk
       simp +decide only [↓GS.o]
       exact hk i _ _ (s.fr.call f1).out
     rw [h] at hk
     obtain ⟨nv, fv, tv, ov, ev, kv, lv, li⟩ := s1.li
     simp +decide only [↓GS.o, reduceIte, Nat.reduceEqDiff, li.blk]
     exact hk _ _ _ (((((e.u hn).u hn).u hn).u hn).u hn) (fun j hj => by cases hj) ⟨s1.fr.up _ _, s1.rd.mono (by omega), s1.lv, nv, fv, tv, _, ev, kv, lv, li.put rfl rfl rfl li.n li.f li.t v1 li.k li.l⟩ g1 o1
 | .e, _, hA, hp, hV, hk => by
   simp only [Sp.ops, oR, oX, oC, kI, oS, List.cons_append, List.nil_append, Nat.add_assoc, Nat.reduceAdd] at hA
   simp only [Sp.run] at hk
   simp only [Sp.draw]
   unfold exE at hk
   rw [C.ex] at hk
   rw [yj7 _ _ (show pr r = (4, 6) :: [(4, 7)] from hp rfl)]
   obtain ⟨nv, fv, tv, ov, ev, kv, lv, li⟩ := s.li
   have pa : panAll PP A.toList = true := by rw [hA]; kernel_rfl
   simp +decide only [hA, ↓GS.o, reduceIte, Nat.reduceEqDiff, e.e0, e.ex, yx hn.1, li.blk]
   refine s.fr.in (exprN nn (ab := 0) s.rd (by omega) s.lv (by have := C.n; omega) (by omega) ?_)
   cases h : exprP z.s nn 0 p with
   | er er =>
     rw [h] at hk
     intro i H1 f1
     simp +decide only [↓GS.o]
     exact ⟨pa, hk i _ _ (s.fr.call f1).out⟩
   | ok v p1 =>
     rw [h] at hk
     rintro H1 _ f1 x1 g1 o1 rfl
     have s1 := s.call f1 x1 g1
     obtain ⟨nv', fv', tv', ov', ev', kv', lv', a, e2, L2, li', rfl, se, ea, lq, s3⟩ := s1.push (by omega) v
     have := li'.blk
     rw [li.blk] at this
     cases this
     have lt := (s1.fr.keys _ _ li.blk).2.1
     simp +decide only [hA, ↓GS.o, reduceIte, Nat.reduceEqDiff, ea, lq, se, jc7 lt, li.blk]
     exact hk _ _ _ ((((((((((((e.u hn).u hn).u hn).u hn).u hn).u hn).u hn).u hn).u hn).u hn).u hn)) (fun j hj => by cases hj) (s3.mono (by omega)) g1 o1
 | .kids kd, _, hA, hp, hV, hk => by
   simp only [Sp.ops, oR, oX, oC, oS, List.cons_append, List.nil_append, Nat.add_assoc, Nat.reduceAdd] at hA
   simp only [Sp.run] at hk
   simp only [Sp.draw]
   rw [je0]
   simp +decide only [hA, ↓GS.o, reduceIte, Nat.reduceEqDiff, e.e0, e.ex]
   refine s.fr.in (ju2 (m := y.m) (C.ru kd) s.rd (by omega) hM (by have := C.m; omega) ?_)
   rw [C.s] at hk
   cases h : blockP z.s (y.ru kd) y.m p with
   | er er =>
     rw [h] at hk
     intro i H1 f1
     simp +decide only [↓GS.o]
     exact hk i _ _ (s.fr.call f1).out
   | ok v p1 =>
     rw [h] at hk
     rintro H1 _ f1 x1 g1 o1 ⟨a1, l1, m1, rfl, v1⟩
     have s1 := s.call f1 x1 g1
     obtain ⟨nv, fv, tv, ov, ev, kv, lv, li⟩ := s1.li
     simp +decide only [↓GS.o, reduceIte, Nat.reduceEqDiff, li.blk]
     exact hk _ _ _ (((((((e.u hn).u hn).u hn).u hn).u hn).u hn).u hn) (fun j hj => by cases hj) ⟨s1.fr.up _ _, s1.rd.mono (by omega), s1.lv, nv, fv, tv, ov, ev, _, lv, li.put rfl rfl rfl li.n li.f li.t li.o v1 li.l⟩ g1 o1
 | .how v, _, hA, hp, hV, hk => by
   simp only [Sp.ops, oX, kI, oS, Nat.add_assoc, Nat.reduceAdd] at hA
   simp only [Sp.run] at hk
   simp only [Sp.draw]
   rw [je0]
   obtain ⟨nv, fv, tv, ov, ev, kv, lv, li⟩ := s.li
   simp +decide only [hA, ↓GS.o, reduceIte, Nat.reduceEqDiff, e.ex, li.blk]
   exact hk _ _ _ ((((e.u hn).u hn).u hn)) (fun j hj => by cases hj) ⟨s.fr.up _ _, s.rd.mono (by omega), s.lv, nv, fv, tv, ov, ev, kv, lv, li.put rfl rfl rfl li.n li.f li.t li.o li.k li.l⟩ (.refl p) rfl
 | .orf v, _, hA, hp, hV, hk => by
   simp only [Sp.ops, oX, kI, oS, List.cons_append, List.nil_append, Nat.add_assoc, Nat.reduceAdd] at hA
   simp only [Sp.run] at hk
   simp only [Sp.draw]
   rw [je0]
   obtain ⟨nv, fv, tv, ov, ev, kv, lv, li⟩ := s.li
   simp +decide only [hA, ↓GS.o, reduceIte, Nat.reduceEqDiff, e.ex, li.blk, yj4]
   exact hk _ _ _ ((((((((e.u hn).u hn).u hn).u hn).u hn).u hn).u hn)) (fun j hj => by cases hj) ⟨s.fr.up _ _, s.rd.mono (by omega), s.lv, nv, fv, tv, ov, ev, kv, lv, li.put rfl rfl rfl li.n li.f li.t li.o li.k li.l⟩ (.refl p) rfl
 | .text, _, hA, hp, hV, hk => by
   simp only [Sp.ops, oR, oX, oS, List.cons_append, List.nil_append, Nat.add_assoc, Nat.reduceAdd] at hA
   simp only [Sp.run] at hk
   simp only [Sp.draw]
   rw [je0]
   obtain ⟨nv, fv, tv, ov, ev, kv, lv, li⟩ := s.li
   obtain ⟨f, t, bad, wv, nm, nu, iv, nv0, hb, _⟩ := s.rd.ex
   have lb : L.lookup z.b = none := by
     cases h : L.lookup z.b with
     | none => rfl
     | some b => have := (s.fr.keys _ _ h).2.2; rw [hb] at this; cases this
   simp +decide only [hA, ↓GS.o, reduceIte, Nat.reduceEqDiff, e.e0, e.ex, li.blk, hb, lb]
   exact hk _ _ _ (((((((((e.u hn).u hn).u hn).u hn).u hn).u hn).u hn).u hn)) (fun j hj => by cases hj) ⟨s.fr.up _ _, s.rd.mono (by omega), s.lv, nv, fv, tv, ov, ev, kv, lv, li.put rfl rfl rfl li.n li.f li.t li.o li.k li.l⟩ (.refl p) rfl
 | .nxt, _, hA, hp, hV, hk => by
   simp only [Sp.ops, oR, oC] at hA
   simp only [Sp.run] at hk
   simp only [Sp.draw]
   rw [je0]
   simp +decide only [hA, ↓GS.o, reduceIte, e.e0]
   refine s.fr.in (jn9 s.rd fun H1 f1 x1 => ?_)
   simp +decide only [↓GS.o]
   have g := jd3 s.rd.sz
   rw [C.s] at hk
   exact hk _ _ _ ((e.u hn).u hn) (fun j hj => by cases hj) ((s.call f1 x1 g.1).mono (by omega)) g.1 g.2.2.1
 | .word fd, _, hA, hp, hV, hk => by
   simp only [Sp.run] at hk
   simp only [Sp.draw]
   rw [C.s] at hk
   have z1 : ∀ H, Vd H (rowD []) (.slice none 0 0) := fun H => .z 1
   cases h : wordP z.s p with
   | er er =>
     rw [h] at hk
     cases fd
     all_goals
       simp only [Sp.ops, oR, oC, oB, Fd.no, List.cons_append, List.nil_append] at hA
       rw [je0]
       simp +decide only [hA, ↓GS.o, reduceIte, e.e0]
       refine s.fr.in (je7 s.rd (by omega) ?_)
       rw [h]
       intro i H1 f1
       simp +decide only [↓GS.o]
       exact hk i _ _ (s.fr.call f1).out
   | ok f1 p1 =>
     rw [h] at hk
     have hix : f1.index = [] := by
       unfold wordP at h
       split at h <;> cases h; rfl
     cases fd
     · simp only [Sp.ops, oR, oC, oB, Fd.no, List.cons_append, List.nil_append] at hA
       rw [je0]
       simp +decide only [hA, ↓GS.o, reduceIte, e.e0]
       refine s.fr.in (je7 s.rd (by omega) ?_)
       rw [h]
       rintro H1 _ f2 x1 g1 o1 rfl
       have s1 := s.call f2 x1 g1
       obtain ⟨nv, fv, tv, ov, ev, kv, lv, li⟩ := s1.li
       simp +decide only [↓GS.o, reduceIte, Nat.reduceEqDiff, e.ex, yx hn.1, li.blk]
       exact hk _ _ _ (((e.u hn).u hn).u hn) (fun j hj => by cases hj) ⟨s1.fr.up _ _, s1.rd.mono (by omega), s1.lv, _, fv, tv, ov, ev, kv, lv, li.put rfl rfl rfl (by show Vd _ (rowD f1.index) _; rw [hix]; exact z1 _) li.f li.t li.o li.k li.l⟩ g1 o1
     · simp only [Sp.ops, oR, oC, oB, Fd.no, List.cons_append, List.nil_append] at hA
       rw [je0]
       simp +decide only [hA, ↓GS.o, reduceIte, e.e0]
       refine s.fr.in (je7 s.rd (by omega) ?_)
       rw [h]
       rintro H1 _ f2 x1 g1 o1 rfl
       have s1 := s.call f2 x1 g1
       obtain ⟨nv, fv, tv, ov, ev, kv, lv, li⟩ := s1.li
       simp +decide only [↓GS.o, reduceIte, Nat.reduceEqDiff, e.ex, yx hn.1, li.blk]
       exact hk _ _ _ (((e.u hn).u hn).u hn) (fun j hj => by cases hj) ⟨s1.fr.up _ _, s1.rd.mono (by omega), s1.lv, nv, _, tv, ov, ev, kv, lv, li.put rfl rfl rfl li.n (by show Vd _ (rowD f1.index) _; rw [hix]; exact z1 _) li.t li.o li.k li.l⟩ g1 o1
     · simp only [Sp.ops, oR, oC, oB, Fd.no, List.cons_append, List.nil_append] at hA
       rw [je0]
       simp +decide only [hA, ↓GS.o, reduceIte, e.e0]
       refine s.fr.in (je7 s.rd (by omega) ?_)
       rw [h]
       rintro H1 _ f2 x1 g1 o1 rfl
       have s1 := s.call f2 x1 g1
       obtain ⟨nv, fv, tv, ov, ev, kv, lv, li⟩ := s1.li
       simp +decide only [↓GS.o, reduceIte, Nat.reduceEqDiff, e.ex, yx hn.1, li.blk]
       exact hk _ _ _ (((e.u hn).u hn).u hn) (fun j hj => by cases hj) ⟨s1.fr.up _ _, s1.rd.mono (by omega), s1.lv, nv, fv, _, ov, ev, kv, lv, li.put rfl rfl rfl li.n li.f (by show Vd _ (rowD f1.index) _; rw [hix]; exact z1 _) li.o li.k li.l⟩ g1 o1
     · simp only [Sp.ops, oR, oC, oB, Fd.no, List.cons_append, List.nil_append] at hA
       rw [je0]
       simp +decide only [hA, ↓GS.o, reduceIte, e.e0]
       refine s.fr.in (je7 s.rd (by omega) ?_)
       rw [h]
       rintro H1 _ f2 x1 g1 o1 rfl
       have s1 := s.call f2 x1 g1
       obtain ⟨nv, fv, tv, ov, ev, kv, lv, li⟩ := s1.li
       simp +decide only [↓GS.o, reduceIte, Nat.reduceEqDiff, e.ex, yx hn.1, li.blk]
       exact hk _ _ _ (((e.u hn).u hn).u hn) (fun j hj => by cases hj) ⟨s1.fr.up _ _, s1.rd.mono (by omega), s1.lv, nv, fv, tv, _, ev, kv, lv, li.put rfl rfl rfl li.n li.f li.t (by show Vd _ (rowD f1.index) _; rw [hix]; exact z1 _) li.k li.l⟩ g1 o1
 | .e1, _, hA, hp, hV, hk => by
   simp only [Sp.ops, oR, oC, kI, oB, List.cons_append, List.nil_append] at hA
   simp only [Sp.run] at hk
   simp only [Sp.draw]
   rw [C.ex] at hk
   rw [je0]
   simp +decide only [hA, ↓GS.o, reduceIte, e.e0]
   refine s.fr.in (exprN nn (ab := 0) s.rd (by omega) s.lv (by have := C.n; omega) (by omega) ?_)
   cases h : exprP z.s nn 0 p with
   | er er =>
     rw [h] at hk
     intro i H1 f1
     simp +decide only [↓GS.o]
     exact hk i _ _ (s.fr.call f1).out
   | ok v p1 =>
     rw [h] at hk
     rintro H1 _ f1 x1 g1 o1 rfl
     have s1 := s.call f1 x1 g1
     obtain ⟨nv, fv, tv, ov, ev, kv, lv, li⟩ := s1.li
     have lt := (s1.fr.keys _ _ li.blk).2.1
     have fl : Fle H1 (H1.to (H1.next + 1)) := .to s1.fr.fresh (by omega)
     have li1 := li.mono fl
     simp +decide only [↓GS.o, reduceIte, Nat.reduceEqDiff, e.ex, yx hn.1, jc7 lt, li.blk, j4i (Nat.ne_of_gt lt)]
     refine hk _ _ _ ((((e.u hn).u hn).u hn).u hn) (fun j hj => by cases hj) ⟨(s1.fr.up q _).new _, (s1.rd.to (show H1.next ≤ H1.next + 1 by omega)).mono (by omega), s1.lv, nv, fv, tv, ov, _, kv, lv, ?_, li.par, li1.n, li1.f, li1.t, li1.o, li1.k, li1.l, .inr ⟨H1.next, rfl, ja5 _ _ _, rfl, by simp [natsV]⟩, by simp [blkOf]; omega⟩ g1 o1
     rw [jc7 lt, ja3, if_pos rfl, li.blk]; rfl
 | .eB, _, hA, hp, hV, hk => by
   simp only [Sp.ops, oR, oC, kI, oB, List.cons_append, List.nil_append] at hA
   simp only [Sp.run] at hk
   simp only [Sp.draw]
   unfold exE at hk
   rw [C.ex] at hk
   rw [yj7 _ _ (show pr r = (1, 3) :: [(1, 4)] from hp rfl)]
   obtain ⟨nv, fv, tv, ov, ev, kv, lv, li⟩ := s.li
   have pa : panAll PP A.toList = true := by rw [hA]; kernel_rfl
   simp +decide only [hA, ↓GS.o, reduceIte, Nat.reduceEqDiff, e.e0, e.ex, li.blk]
   refine s.fr.in (exprN nn (ab := 0) s.rd (by omega) s.lv (by have := C.n; omega) (by omega) ?_)
   cases h : exprP z.s nn 0 p with
   | er er =>
     rw [h] at hk
     intro i H1 f1
     simp +decide only [↓GS.o]
     exact ⟨pa, hk i _ _ (s.fr.call f1).out⟩
   | ok v p1 =>
     rw [h] at hk
     rintro H1 _ f1 x1 g1 o1 rfl
     have s1 := s.call f1 x1 g1
     obtain ⟨nv', fv', tv', ov', ev', kv', lv', a, e2, L2, li', rfl, se, ea, lq, s3⟩ := s1.push (by omega) v
     have := li'.blk
     rw [li.blk] at this
     cases this
     have lt := (s1.fr.keys _ _ li.blk).2.1
     simp +decide only [hA, ↓GS.o, reduceIte, Nat.reduceEqDiff, e.ex, yx hn.1, ea, lq, se, jc7 lt, li.blk]
     exact hk _ _ _ ((((((((e.u hn).u hn).u hn).u hn).u hn).u hn).u hn)) (fun j hj => by cases hj) (s3.mono (by omega)) g1 o1
 | .same kd l, _, hA, hp, hV, hk => by
   have hV : V = _ := hV
   subst hV
   simp only [Sp.run] at hk
   simp only [Sp.draw]
   rw [C.s] at hk
   cases l
   all_goals
     simp only [Sp.ops, oR, oC, oB, cond_true, cond_false, List.cons_append, List.nil_append] at hA
     rw [je0]
     simp +decide only [hA, ↓GS.o, reduceIte, Nat.reduceEqDiff, e.e0, e.e1]
     refine s.fr.in (ju2 (m := y.m) (C.ru kd) s.rd (by omega) hM (by have := C.m; omega) ?_)
     cases h : blockP z.s (y.ru kd) y.m p with
     | er er =>
       rw [h] at hk
       intro i H1 f1
       simp +decide only [↓GS.o]
       exact hk i _ _ (s.fr.call f1).out
     | ok v p1 =>
       rw [h] at hk
       rintro H1 _ f1 x1 g1 o1 ⟨a1, l1, m1, rfl, v1⟩
       have s1 := s.call f1 x1 g1
       obtain ⟨nv, fv, tv, ov, ev, kv, lv, li⟩ := s1.li
       simp +decide only [↓GS.o, reduceIte, Nat.reduceEqDiff, e.ex, yx hn.1, li.blk]
       first
         | exact hk _ _ _ ((((e.u hn).u hn).u hn).u hn) (fun j hj => by cases hj) ⟨s1.fr.up _ _, s1.rd.mono (by omega), s1.lv, nv, fv, tv, ov, ev, _, lv, li.put rfl rfl rfl li.n li.f li.t li.o v1 li.l⟩ g1 o1
         | exact hk _ _ _ ((((e.u hn).u hn).u hn).u hn) (fun j hj => by cases hj) ⟨s1.fr.up _ _, s1.rd.mono (by omega), s1.lv, nv, fv, tv, ov, ev, kv, _, li.put rfl rfl rfl li.n li.f li.t li.o li.k v1⟩ g1 o1
 | .setf v, _, hA, hp, hV, hk => by
   simp only [Sp.ops, kI] at hA
   simp only [Sp.run] at hk
   simp only [Sp.draw]
   rw [je0]
   obtain ⟨nv, fv, tv, ov, ev, kv, lv, li⟩ := s.li
   simp +decide only [hA, ↓GS.o, reduceIte, e.ex, li.blk]
   exact hk _ _ _ ((e.u hn)) (fun j hj => by cases hj) ⟨s.fr.up _ _, s.rd.mono (by omega), s.lv, nv, fv, tv, ov, ev, kv, lv, li.put rfl rfl rfl li.n li.f li.t li.o li.k li.l⟩ (.refl p) rfl
 | .args, h, _, _, _, _ => by cases h
 | .pars, h, _, _, _, _ => by cases h
end
end Go.Am
