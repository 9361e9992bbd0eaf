/- The plain laws: an integer is told by its run, a sign by its byte and the next. -/
import Derived.Test.YtohmeeglehopiaaGreatDoorM12
import Derived.Laws.StructEq
open Go.Proofs
namespace Go.Am
theorem j4w (s : List UInt8) : ∀ n i j, i ≤ j → j < runTo s n i → isW s j = true
 | 0, i, j, h1, h2 => by simp [runTo] at h2; omega
 | n + 1, i, j, h1, h2 => by
   unfold runTo at h2
   split at h2
   · rename_i hw
     by_cases e : j = i
     · rw [e]; exact hw
     · exact j4w s n (i + 1) j (by omega) h2
   · omega
theorem yy1 {s : List UInt8} {i : Nat} (hi : ¬ i < s.length) : isW s i = false := by rw [isW, jp1 hi, jp1 hi]; rfl
theorem j16 (s : List UInt8) : ∀ n i, s.length ≤ i + n → isW s (runTo s n i) = false
 | 0, i, h => by
   rw [runTo]; exact yy1 (by omega)
 | n + 1, i, h => by
   unfold runTo
   split
   · exact j16 s n (i + 1) (by omega)
   · rename_i hw; simpa using hw
structure Run (s r : List UInt8) (i : Nat) : Prop where
 le : i + r.length ≤ s.length
 at_ : ∀ j, j < r.length → r.getD j 0 = s.getD (i + j) 0
 word : ∀ j, j < r.length → isW s (i + j) = true
 stop : isW s (i + r.length) = false
theorem yr4 (s : List UInt8) {i : Nat} (hi : i ≤ s.length) : Run s ((s.take (runTo s (s.length - i) i)).drop i) i ∧ ((s.take (runTo s (s.length - i) i)).drop i).length = runTo s (s.length - i) i - i := by
 have g := jk7 s (s.length - i) i
 have hl : ((s.take (runTo s (s.length - i) i)).drop i).length = runTo s (s.length - i) i - i := by simp; omega
 refine ⟨⟨by rw [hl]; omega, fun j hj => ?_, fun j hj => ?_, ?_⟩, hl⟩
 · rw [hl] at hj
   simp only [List.getD, List.getElem?_drop, List.getElem?_take]
   rw [if_pos (by omega)]
 · rw [hl] at hj
   exact j4w s (s.length - i) i (i + j) (by omega) (by omega)
 · rw [hl, show i + (runTo s (s.length - i) i - i) = runTo s (s.length - i) i by omega]
   exact j16 s _ i (by omega)
section
variable {s r : List UInt8} {i : Nat} (h : Run s r i)
include h
theorem Run.isI {j : Nat} (hj : j ≤ r.length) (q : Int) (hq : q = 3 ∨ q = 4) : Am.isI r j q = Am.isI s (i + j) q := by
 have hle := h.le
 by_cases c : j < r.length
 · unfold Am.isI
   rw [h.at_ j c, decide_eq_true c, decide_eq_true (by omega : i + j < s.length)]
 · have e : j = r.length := by omega
   have hs := h.stop
   rw [← e] at hs
   rw [jp1 c]
   simp only [isW, Bool.or_eq_false_iff] at hs
   rcases hq with rfl | rfl
   · exact hs.2.symm
   · exact hs.1.symm
theorem Run.isW {j : Nat} (hj : j ≤ r.length) : Am.isW r j = Am.isW s (i + j) := by
 unfold Am.isW
 rw [h.isI hj 4 (.inr rfl), h.isI hj 3 (.inl rfl)]
theorem Run.words : ∀ j, j < r.length → Am.isW r j = true := fun j hj => by rw [h.isW (by omega)]; exact h.word j hj
theorem Run.ends {m n x : Nat} (hi : Am.isW r x = false) (hx : x ≤ r.length) : x = r.length := by
 by_cases c : x < r.length
 · rw [h.words x c] at hi; cases hi
 · omega
end
def shI (i : Nat) : IR → IR
 | .bad e => .bad (i + e)
 | .good n e => .good n (i + e)
theorem yn6 (u : UInt8) : (!decide (hexT u.toNat < 16) || wbN u.toNat) = true := jg8 (p := fun u => (!decide (hexT u.toNat < 16) || wbN u.toNat)) (by decide +kernel) u
section
variable {s r : List UInt8} {i : Nat}
theorem yr5 (h : Run s r i) {j n : Nat} (hj : j ≤ r.length) : endI s (i + j) n = shI i (endI r j n) := by
 unfold endI
 rw [← h.isW hj]
 split <;> rfl
theorem yr6 (h : Run s r i) {j n f : Nat} (hj : j < r.length) : mulI s (i + j) n f = shI i (mulI r j n f) := by
 unfold mulI
 split
 · exact yr5 h (j := j + 1) (by omega)
 · rfl
theorem j4x (h : Run s r i) {j n : Nat} (hj : j ≤ r.length) : sufI s (i + j) n = shI i (sufI r j n) := by
 unfold sufI
 rw [← h.isI hj 4 (.inr rfl)]
 split
 · rename_i h4
   have hl : j < r.length := jr2 h4
   rw [← h.at_ j hl]
   split
   · exact yr6 h hl
   · split
     · exact yr6 h hl
     · rfl
 · exact yr5 h hj
theorem yr7 (h : Run s r i) : ∀ (f' f j n : Nat), j ≤ r.length → r.length ≤ j + f' → s.length ≤ i + j + f → decI s f (i + j) n = shI i (decI r f' j n)
 | 0, f, j, n, hj, h1, h2 => by
   have e : Am.isI s (i + j) 3 = false := by rw [← h.isI hj 3 (.inl rfl)]; exact jp1 (by omega)
   have e3 : ∀ f, decI s (f + 1) (i + j) n = sufI s (i + j) n := fun f => by rw [decI, e]; rfl
   cases f with
   | zero => exact j4x h hj
   | succ f => rw [e3]; exact j4x h hj
 | f' + 1, f, j, n, hj, h1, h2 => by
   have hle := h.le
   cases h3 : Am.isI r j 3 with
   | true =>
     have hl : j < r.length := jr2 h3
     obtain ⟨g, rfl⟩ : ∃ g, f = g + 1 := ⟨f - 1, by omega⟩
     have e : Am.isI s (i + j) 3 = true := by rw [← h.isI hj 3 (.inl rfl)]; exact h3
     rw [decI, decI, e, h3, if_pos rfl, if_pos rfl, ← h.at_ j hl]
     split
     · exact yr7 h f' g (j + 1) _ (by omega) (by omega) (by omega)
     · rfl
   | false =>
     have e : Am.isI s (i + j) 3 = false := by rw [← h.isI hj 3 (.inl rfl)]; exact h3
     have e2 : decI r (f' + 1) j n = sufI r j n := by rw [decI, h3]; rfl
     rw [e2]
     cases f with
     | zero => exact j4x h hj
     | succ f => rw [decI, e]; exact j4x h hj
theorem j3g (h : Run s r i) {j n : Nat} (hj : j ≤ r.length) : endH s (i + 2) (i + j) n = shI i (endH r 2 j n) := by
 unfold endH
 by_cases c : j = 2
 · rw [if_pos c, if_pos (by omega)]; rfl
 · rw [if_neg c, if_neg (by omega)]; exact j4x h hj
theorem j7k (h : Run s r i) : ¬ hexT (s.getD (i + r.length) 0).toNat < 16 := by
 intro q
 have hs := h.stop
 by_cases c : i + r.length < s.length
 · rw [j00 c] at hs
   have := yn6 s[i + r.length]
   rw [je7 s c] at q
   rw [decide_eq_true q, hs] at this
   cases this
 · rw [show s.getD (i + r.length) 0 = 0 by simp [List.getD, List.getElem?_eq_none (by omega : s.length ≤ i + r.length)]] at q
   exact absurd q (by decide)
theorem yr8 (h : Run s r i) : ∀ (f' f j n : Nat), j ≤ r.length → r.length ≤ j + f' → s.length ≤ i + j + f → hexI s (i + 2) f (i + j) n = shI i (hexI r 2 f' j n)
 | 0, f, j, n, hj, h1, h2 => by
   have ej : j = r.length := by omega
   have e : ¬ hexT (s.getD (i + j) 0).toNat < 16 := by rw [ej]; exact j7k h
   have e3 : ∀ f, hexI s (i + 2) (f + 1) (i + j) n = endH s (i + 2) (i + j) n := fun f => by rw [hexI, if_neg e]
   cases f with
   | zero => exact j3g h hj
   | succ f => rw [e3]; exact j3g h hj
 | f' + 1, f, j, n, hj, h1, h2 => by
   have hle := h.le
   by_cases h16 : hexT (s.getD (i + j) 0).toNat < 16
   · have hl : j < r.length := by
       by_cases c : j < r.length
       · exact c
       · have ej : j = r.length := by omega
         rw [ej] at h16
         exact absurd h16 (j7k h)
     obtain ⟨g, rfl⟩ : ∃ g, f = g + 1 := ⟨f - 1, by omega⟩
     have e := h.at_ j hl
     rw [hexI, hexI, e, if_pos h16, if_pos h16]
     split
     · exact yr8 h f' g (j + 1) _ (by omega) (by omega) (by omega)
     · rfl
   · have e2 : hexI r 2 (f' + 1) j n = endH r 2 j n := by
       rw [hexI, if_neg]
       by_cases c : j < r.length
       · rw [h.at_ j c]; exact h16
       · rw [show r.getD j 0 = 0 by simp [List.getD, List.getElem?_eq_none (by omega : r.length ≤ j)]]; decide
     rw [e2]
     cases f with
     | zero => exact j3g h hj
     | succ f => rw [hexI, if_neg h16]; exact j3g h hj
theorem yf5 (h : Run s r i) (h3 : Am.isI s i 3 = true) : intI s i = shI i (intI r 0) := by
 have hle := h.le
 have hr : 0 < r.length := by
   by_cases c : 0 < r.length
   · exact c
   · have hs := h.stop
     rw [show i + r.length = i by omega] at hs
     rw [isW, h3] at hs
     simp at hs
 have a0 := h.at_ 0 hr
 rw [Nat.add_zero] at a0
 have hc : (s.getD i 0 = 48 ∧ i + 1 < s.length ∧ s.getD (i + 1) 0 = 120) ↔ (r.getD 0 0 = 48 ∧ 0 + 1 < r.length ∧ r.getD (0 + 1) 0 = 120) := by
   rw [a0]
   constructor
   · rintro ⟨p, q, t⟩
     have hl : 1 < r.length := by
       by_cases c : 1 < r.length
       · exact c
       · have hs := h.stop
         rw [show i + r.length = i + 1 by omega, j00 q] at hs
         rw [je7 s q] at t
         rw [t] at hs
         exact absurd hs (by decide)
     have a1 := h.at_ 1 hl
     exact ⟨p, hl, by rw [Nat.zero_add, a1]; exact t⟩
   · rintro ⟨p, q, t⟩
     rw [Nat.zero_add] at q t
     have a1 := h.at_ 1 q
     exact ⟨p, by omega, by rw [← a1]; exact t⟩
 unfold intI
 by_cases c : s.getD i 0 = 48 ∧ i + 1 < s.length ∧ s.getD (i + 1) 0 = 120
 · rw [if_pos c, if_pos (hc.mp c)]
   have l2 := (hc.mp c).2.1
   exact yr8 h (r.length - 2) (s.length - (i + 2)) 2 0 (by omega) (by omega) (by omega)
 · rw [if_neg c, if_neg (fun q => c (hc.mpr q))]
   exact yr7 h r.length (s.length - i) 0 0 (by omega) (by omega) (by omega)
end
theorem yr9 {s : List UInt8} {i n m e : Nat} (h : endI s i n = .good m e) : isW s e = false := by
 unfold endI at h
 split at h
 · cases h
 · rename_i hw; injection h with h1 h2; rw [← h2]; simpa using hw
theorem ys0 {s : List UInt8} {i n f m e : Nat} (h : mulI s i n f = .good m e) : isW s e = false := by
 unfold mulI at h
 split at h
 · exact yr9 h
 · cases h
theorem j7l {s : List UInt8} {i n m e : Nat} (h : sufI s i n = .good m e) : isW s e = false := by
 unfold sufI at h
 split at h
 · split at h
   · exact ys0 h
   · split at h
     · exact ys0 h
     · cases h
 · exact yr9 h
theorem ys1 {s : List UInt8} : ∀ (f i n m e : Nat), decI s f i n = .good m e → isW s e = false
 | 0, i, n, m, e, h => j7l h
 | f + 1, i, n, m, e, h => by
   unfold decI at h
   split at h
   · split at h
     · exact ys1 f _ _ m e h
     · cases h
   · exact j7l h
theorem ys2 {s : List UInt8} {fr : Nat} : ∀ (f i n m e : Nat), hexI s fr f i n = .good m e → isW s e = false
 | 0, i, n, m, e, h => by
   unfold hexI endH at h
   split at h
   · cases h
   · exact j7l h
 | f + 1, i, n, m, e, h => by
   unfold hexI at h
   split at h
   · split at h
     · exact ys2 f _ _ m e h
     · cases h
   · unfold endH at h
     split at h
     · cases h
     · exact j7l h
theorem ys3 {s : List UInt8} {i m e : Nat} (h : intI s i = .good m e) : isW s e = false := by
 unfold intI at h
 split at h
 · exact ys2 _ _ _ m e h
 · exact ys1 _ _ _ m e h
theorem j7m {s : List UInt8} {i n e : Nat} (h : endI s i n = .bad e) : e = i := by
 unfold endI at h
 split at h
 · injection h with h; exact h.symm
 · cases h
theorem j7n {s : List UInt8} {i n f e : Nat} (hi : i < s.length) (h : mulI s i n f = .bad e) : e ≤ s.length := by
 unfold mulI at h
 split at h
 · have := j7m h; omega
 · injection h with h; omega
theorem jz6 {s : List UInt8} {i n e : Nat} (hi : i ≤ s.length) (h : sufI s i n = .bad e) : e ≤ s.length := by
 unfold sufI at h
 split at h
 · rename_i h4
   have := jr2 h4
   split at h
   · exact j7n this h
   · split at h
     · exact j7n this h
     · injection h with h; omega
 · have := j7m h; omega
theorem j7o {s : List UInt8} : ∀ (f i n e : Nat), i ≤ s.length → decI s f i n = .bad e → e ≤ s.length
 | 0, i, n, e, hi, h => jz6 hi h
 | f + 1, i, n, e, hi, h => by
   unfold decI at h
   split at h
   · rename_i h3
     have := jr2 h3
     split at h
     · exact j7o f (i + 1) _ e (by omega) h
     · injection h with h; omega
   · exact jz6 hi h
theorem j7p {s : List UInt8} {fr : Nat} : ∀ (f i n e : Nat), i + f ≤ s.length → hexI s fr f i n = .bad e → e ≤ s.length
 | 0, i, n, e, hi, h => by
   unfold hexI endH at h
   split at h
   · injection h with h; omega
   · exact jz6 (by omega) h
 | f + 1, i, n, e, hi, h => by
   unfold hexI at h
   split at h
   · split at h
     · exact j7p f (i + 1) _ e (by omega) h
     · injection h with h; omega
   · unfold endH at h
     split at h
     · injection h with h; omega
     · exact jz6 (by omega) h
theorem j6i {s : List UInt8} {i e : Nat} (hi : i < s.length) (h : intI s i = .bad e) : e ≤ s.length := by
 unfold intI at h
 split at h
 · rename_i c
   exact j7p _ _ _ e (by omega) h
 · exact j7o _ _ _ e (by omega) h
theorem yy2 {s : List UInt8} {i m e : Nat} (hi : i < s.length) (h3 : isI s i 3 = true) (h : intI s i = .good m e) : e = runTo s (s.length - i) i := by
 obtain ⟨hr, hl⟩ := yr4 s (i := i) (by omega)
 have g := jk7 s (s.length - i) i
 have hw := ys3 h
 obtain ⟨g1, g2⟩ := j0z hi h3 h
 have hs := yf5 hr h3
 rw [h] at hs
 cases hq : intI ((s.take (runTo s (s.length - i) i)).drop i) 0 with
 | bad x => rw [hq] at hs; cases hs
 | good n x =>
   rw [hq] at hs
   injection hs with _ he
   have r3 : isI ((s.take (runTo s (s.length - i) i)).drop i) 0 3 = true := by rw [hr.isI (Nat.zero_le _) 3 (.inl rfl)]; exact h3
   obtain ⟨g3, g4⟩ := j0z (jr2 r3) r3 hq
   have := hr.ends (m := 0) (n := 0) (ys3 hq) g4
   omega
def mt2 (u : UInt8) (v : Int) (z : List UInt8) : Bool :=
 match z with
 | [x] => decide (u = x)
 | [x, y] => decide (u = x) && decide (v = (y.toNat : Int))
 | _ => false
def okZ (z : List UInt8) : Bool := match z with | [_] => true | [_, y] => y == 46 || y == 61 || y == 60 || y == 62 | _ => false
theorem yn7 : signsL.all okZ = true := by decide +kernel
theorem y0y {s : List UInt8} {p : Nat} (hp : p < s.length) {z : List UInt8} (hz : okZ z = true) : mtS s p z = mt2 s[p] (nextB s p) z := by
 have hd : s.drop p = s[p] :: s.drop (p + 1) := List.drop_eq_getElem_cons hp
 unfold mtS mt2
 match z, hz with
 | [x], _ =>
   have e : (s.take (p + 1)).drop p = [s[p]] := by
     rw [List.drop_take, show p + 1 - p = 1 by omega, hd]; rfl
   simp only [List.length_cons, List.length_nil, Nat.zero_add]
   rw [decide_eq_true (show p + 1 ≤ s.length by omega), e, Bool.true_and]
   rw [Bool.eq_iff_iff]; simp
 | [x, y], hz =>
   simp only [List.length_cons, List.length_nil, Nat.zero_add]
   unfold nextB
   by_cases c : p + 1 < s.length
   · have hd2 : s.drop (p + 1) = s[p + 1] :: s.drop (p + 1 + 1) := List.drop_eq_getElem_cons c
     have e : (s.take (p + (1 + 1))).drop p = [s[p], s[p + 1]] := by
       rw [List.drop_take, show p + (1 + 1) - p = 2 by omega, hd, hd2]; rfl
     rw [decide_eq_true (show p + (1 + 1) ≤ s.length by omega), e, Bool.true_and, if_pos c, je7 s c]
     rw [Bool.eq_iff_iff]
     simp only [decide_eq_true_eq, Bool.and_eq_true, List.cons.injEq, and_true]
     constructor
     · rintro ⟨a, b⟩; exact ⟨a, by rw [b]⟩
     · rintro ⟨a, b⟩; exact ⟨a, UInt8.toNat_inj.mp (by omega)⟩
   · rw [decide_eq_false (show ¬ p + (1 + 1) ≤ s.length by omega), if_neg c]
     simp only [okZ, Bool.or_eq_true, beq_iff_eq] at hz
     have : ¬ (0 : Int) = (y.toNat : Int) := by rcases hz with ((rfl | rfl) | rfl) | rfl <;> decide
     rw [decide_eq_false this, Bool.and_false]; rfl
theorem j7q {f g : List UInt8 → Bool} : ∀ (l : List (List UInt8)) (i : Nat) (b : Int), (∀ z ∈ l, f z = g z) → bestS f l i b = bestS g l i b
 | [], _, _, _ => rfl
 | z :: l, i, b, h => by
   unfold bestS
   rw [h z (List.mem_cons_self ..)]
   exact j7q l _ _ fun y hy => h y (List.mem_cons_of_mem _ hy)
theorem yn8 {f g : List UInt8 → Bool} {u : UInt8} (h : ∀ z ∈ signsL, f z = g z) : signF f u = signF g u := by
 unfold signF
 rw [j7q signsL 0 (-1) h]
def vr (v : Int) : Int := if v = 46 ∨ v = 61 ∨ v = 60 ∨ v = 62 then v else 0
theorem y0z {u : UInt8} {v : Int} {z : List UInt8} (hz : okZ z = true) : mt2 u v z = mt2 u (vr v) z := by
 unfold mt2
 match z, hz with
 | [x], _ => rfl
 | [x, y], hz =>
   simp only [okZ, Bool.or_eq_true, beq_iff_eq] at hz
   simp only
   congr 1
   have : (v = (y.toNat : Int)) ↔ (vr v = (y.toNat : Int)) := by
     have e46 : ((46 : UInt8).toNat : Int) = 46 := rfl
     have e61 : ((61 : UInt8).toNat : Int) = 61 := rfl
     have e60 : ((60 : UInt8).toNat : Int) = 60 := rfl
     have e62 : ((62 : UInt8).toNat : Int) = 62 := rfl
     unfold vr
     split
     · rfl
     · rcases hz with ((rfl | rfl) | rfl) | rfl <;> omega
   rw [Bool.eq_iff_iff]; simpa using this
theorem yn9 (u v : Int) : signR u v = signR u (vr v) := by
 unfold vr
 split
 · rfl
 · rename_i h
   unfold signR
   have n46 : ¬ v = 46 := fun e => h (.inl e)
   have n61 : ¬ v = 61 := fun e => h (.inr (.inl e))
   have n60 : ¬ v = 60 := fun e => h (.inr (.inr (.inl e)))
   have n62 : ¬ v = 62 := fun e => h (.inr (.inr (.inr e)))
   simp [n46, n61, n60, n62]
def sgOk (u : UInt8) (v : Int) : Bool :=
 decide (clsI u = 3) || decide (clsI u = 4) || decide (clsI u = 5) ||
   (if clsI u = 6 then (if (signR (u.toNat : Int) v).1 = 0 then decide (signF (mt2 u v) u = (0, (signR (u.toNat : Int) v).2, false)) else decide (signF (mt2 u v) u = ((signR (u.toNat : Int) v).1, (signR (u.toNat : Int) v).2, true)))
    else decide (signF (mt2 u v) u = (0, 0, false)))
theorem y00 (u : UInt8) : sgOk u 0 = true := jg8 (p := fun u => sgOk u 0) (by decide +kernel) u
theorem yy3 (u : UInt8) : sgOk u 46 = true := jg8 (p := fun u => sgOk u 46) (by decide +kernel) u
theorem yy4 (u : UInt8) : sgOk u 61 = true := jg8 (p := fun u => sgOk u 61) (by decide +kernel) u
theorem yy5 (u : UInt8) : sgOk u 60 = true := jg8 (p := fun u => sgOk u 60) (by decide +kernel) u
theorem yy6 (u : UInt8) : sgOk u 62 = true := jg8 (p := fun u => sgOk u 62) (by decide +kernel) u
theorem yy7 (u : UInt8) (v : Int) : sgOk u (vr v) = true := by
 unfold vr
 split
 · rename_i h
   rcases h with rfl | rfl | rfl | rfl
   · exact yy3 u
   · exact yy4 u
   · exact yy5 u
   · exact yy6 u
 · exact y00 u
theorem yo0 {s : List UInt8} {p : Nat} (hp : p < s.length) (h3 : ¬ clsI s[p] = 3) (h4 : ¬ clsI s[p] = 4) (h5 : ¬ clsI s[p] = 5) :
   (∃ k l, lexI s p = .good ⟨k, 0, .empty, p, p + l⟩ ∧ signF (mtS s p) s[p] = (k, l, true)) ∨ (∃ l, lexI s p = .bad (p + l) ∧ signF (mtS s p) s[p] = (0, l, false)) := by
 have hall := fun z hz => List.all_eq_true.mp yn7 z hz
 have e1 : signF (mtS s p) s[p] = signF (mt2 s[p] (vr (nextB s p))) s[p] := yn8 fun z hz => by rw [y0y hp (hall z hz), y0z (hall z hz)]
 have e2 := yn9 (s[p].toNat : Int) (nextB s p)
 have hk := yy7 s[p] (nextB s p)
 rw [e1]
 generalize vr (nextB s p) = v at *
 unfold sgOk at hk
 rw [decide_eq_false h3, decide_eq_false h4, decide_eq_false h5] at hk
 simp only [Bool.false_or] at hk
 unfold lexI
 rw [je7 s hp, if_neg h3, if_neg h4, if_neg h5]
 by_cases c6 : clsI s[p] = 6
 · rw [if_pos c6] at hk ⊢
   unfold signI
   rw [je7 s hp, e2]
   by_cases c : (signR (s[p].toNat : Int) v).1 = 0
   · rw [if_pos c] at hk ⊢
     exact .inr ⟨_, rfl, of_decide_eq_true hk⟩
   · rw [if_neg c] at hk ⊢
     exact .inl ⟨_, _, rfl, of_decide_eq_true hk⟩
 · rw [if_neg c6] at hk ⊢
   exact .inr ⟨0, by rw [Nat.add_zero], of_decide_eq_true hk⟩
set_option maxRecDepth 100000
def OutT (r : TR) (E' : Env) : Prop := match r with
 | .bad e => E' 4 = .string ⟨#[]⟩ ∧ E' 5 = .int .i64 (e : Int) ∧ E' 6 = .int .i64 (e : Int)
 | .good w e => E' 4 = .string ⟨⟨w⟩⟩ ∧ E' 5 = .int .i64 (e : Int) ∧ E' 6 = .int .i64 (-1)
theorem yf6 {N : Nat} {H0 : Heap} {s : List UInt8} {Q : R → Prop} {k : KOE} {hk : Hook} {d : Nat} (K : HkR hk) (hG : Ext GE H0) (hsm : s.length ≤ 1048576) (hN : 4 < N) :
   ∀ (f i : Nat) (o : List UInt8) (m : Nat) (_ : i < s.length) (_ : s.length ≤ i + f) (_ : o.length ≤ i) (_ : f < m) {H : Heap} {E : Env} {v : Value} (_ : RS H0 H v o) (_ : E 0 = .string ⟨⟨s⟩⟩) (_ : E 7 = v) (_ : E 8 = .int .i64 ((i + 1 : Nat) : Int))
     (_ : ∀ E' H', OutT (textI s f i o) E' → Ext H0 H' → Q (k .ret E' [] H')), Q (loopE (execG PP XX (CG N hk (d + 1)) N noPr (.block 1 (.seq cRD7 (.seq (rF Tryz.f53 5) (.seq cRD8 (.seq cRD9 (.seq (rF Tryz.f53 10) (.seq cRD4 (.seq cRD5 (.seq (.seq (rF Tryz.f53 15) (.block 2 (.seq (rF Tryz.f53 17) (.cond (.tmp 56) (rF Tryz.f53 18) (.seq (rF Tryz.f53 19) (.cond (.tmp 61) (rF Tryz.f53 20) (.seq cRD10 (.cond (.tmp 66) (rF Tryz.f53 23) (.seq (rF Tryz.f53 24) (.cond (.tmp 75) (.seq (rF Tryz.f53 25) (.seq (.seq (rF Tryz.f53 26) (.block 3 (.loop (.seq (.seq (rF Tryz.f53 27) (.cond (.tmp 78) .skip (.exit 3))) cRD1)))) (.seq (rF Tryz.f53 32) (rF Tryz.f53 33)))) (.seq (rF Tryz.f53 16) .ret))))))))))) (rF Tryz.f53 34)))))))))) none) m E [] H k)
 | 0, i, o, m, hi, hf, ho, hm, H, E, v, h, e0, e7, e8, hx => by omega
 | f + 1, i, o, m + 1, hi, hf, ho, hm, H, E, v, h, e0, e7, e8, hx => by
   have hol : o.length ≤ 1048576 := by omega
   have next : ∀ (j : Nat) (u : UInt8), i < j → j < s.length → (∀ E' H', OutT (textI s f j (o ++ [u])) E' → Ext H0 H' → Q (k .ret E' [] H')) → ∀ E' H' v', E' 0 = .string ⟨⟨s⟩⟩ → E' 7 = v' → E' 8 = .int .i64 ((j + 1 : Nat) : Int) → RS H0 H' v' (o ++ [u]) →
       Q (thenE (fun E ds H k => loopE (execG PP XX (CG N hk (d + 1)) N noPr (.block 1 (.seq cRD7 (.seq (rF Tryz.f53 5) (.seq cRD8 (.seq cRD9 (.seq (rF Tryz.f53 10) (.seq cRD4 (.seq cRD5 (.seq (.seq (rF Tryz.f53 15) (.block 2 (.seq (rF Tryz.f53 17) (.cond (.tmp 56) (rF Tryz.f53 18) (.seq (rF Tryz.f53 19) (.cond (.tmp 61) (rF Tryz.f53 20) (.seq cRD10 (.cond (.tmp 66) (rF Tryz.f53 23) (.seq (rF Tryz.f53 24) (.cond (.tmp 75) (.seq (rF Tryz.f53 25) (.seq (.seq (rF Tryz.f53 26) (.block 3 (.loop (.seq (.seq (rF Tryz.f53 27) (.cond (.tmp 78) .skip (.exit 3))) cRD1)))) (.seq (rF Tryz.f53 32) (rF Tryz.f53 33)))) (.seq (rF Tryz.f53 16) .ret))))))))))) (rF Tryz.f53 34)))))))))) none) m E ds H k) k .norm E' [] H') := fun j u h1 h2 hx' E' H' v' z0 z7 z8 h' => by
     rw [jc9]
     exact yf6 K hG hsm hN f j (o ++ [u]) m h2 (by omega) (by simp; omega) (by omega) h' z0 z7 z8 hx'
   rw [ja5]
   unfold textI at hx
   by_cases hj : i + 1 = s.length
   · rw [if_pos hj] at hx
     exact y0w h e0 e7 e8 hi hsm (by omega) fun E' q4 q5 q6 => hx E' H ⟨q4, q5, q6⟩ h.ext
   rw [if_neg hj] at hx
   have hj1 : i + 1 < s.length := by omega
   by_cases c34 : s.getD (i + 1) 0 = 34
   · rw [if_pos c34] at hx
     exact yn3 h e0 e7 e8 hi hsm hj1 c34 fun E' q4 q5 q6 => hx E' H ⟨q4, q5, q6⟩ h.ext
   rw [if_neg c34] at hx
   by_cases c92 : s.getD (i + 1) 0 = 92
   · rw [if_pos c92] at hx
     by_cases hj2 : i + 2 = s.length
     · rw [if_pos hj2] at hx
       exact yx4 h e0 e7 e8 hi hsm hj1 (by omega) c92 fun E' q4 q5 q6 => hx E' H ⟨q4, q5, q6⟩ h.ext
     rw [if_neg hj2] at hx
     have hj3 : i + 2 < s.length := by omega
     by_cases c110 : s.getD (i + 2) 0 = 110
     · rw [if_pos c110] at hx
       exact rt_n h e0 e7 e8 hi hsm hj1 hj3 c92 c110 hol (next (i + 2) 10 (by omega) hj3 hx)
     rw [if_neg c110] at hx
     by_cases c116 : s.getD (i + 2) 0 = 116
     · rw [if_pos c116] at hx
       exact rt_t h e0 e7 e8 hi hsm hj1 hj3 c92 c116 hol (next (i + 2) 9 (by omega) hj3 hx)
     rw [if_neg c116] at hx
     by_cases d34 : s.getD (i + 2) 0 = 34
     · rw [if_pos d34] at hx
       exact rt_q h e0 e7 e8 hi hsm hj1 hj3 c92 d34 hol (next (i + 2) 34 (by omega) hj3 hx)
     rw [if_neg d34] at hx
     by_cases d92 : s.getD (i + 2) 0 = 92
     · rw [if_pos d92] at hx
       exact rt_b h e0 e7 e8 hi hsm hj1 hj3 c92 d92 hol (next (i + 2) 92 (by omega) hj3 hx)
     rw [if_neg d92] at hx
     by_cases d120 : s.getD (i + 2) 0 = 120
     · rw [if_pos d120] at hx
       refine rt_x h e0 e7 e8 hi hsm K (hG.trans h.ext) hN hj1 hj3 c92 d120 hol (fun e E' he q4 q5 q6 => ?_) (fun n1 n2 => ?_)
       · by_cases n1 : i + 3 = s.length ∨ hexT (s.getD (i + 3) 0).toNat = 16
         · rw [if_pos n1] at hx he
           subst he
           exact hx E' H ⟨q4, q5, q6⟩ h.ext
         · rw [if_neg n1] at hx he
           rw [if_pos he.1] at hx
           obtain ⟨_, rfl⟩ := he
           exact hx E' H ⟨q4, q5, q6⟩ h.ext
       · rw [if_neg n1, if_neg n2] at hx
         have g0 : ∀ j, s.length ≤ j → s.getD j 0 = 0 := fun j hj => by simp [List.getD, List.getElem?_eq_none hj]
         have hz : hexT (0 : UInt8).toNat = 16 := by decide
         have q3 : i + 3 < s.length := by
           by_cases q : i + 3 < s.length
           · exact q
           · exact absurd (.inr (by rw [g0 _ (by omega)]; exact hz)) n1
         have m2 : ¬ i + 4 = s.length := fun q => n2 (.inl q)
         exact next (i + 4) _ (by omega) (by omega) hx
     rw [if_neg d120] at hx
     exact yx5 h e0 e7 e8 hi hsm hj1 hj3 c92 c110 c116 d34 d92 d120 fun E' q4 q5 q6 => hx E' H ⟨q4, q5, q6⟩ h.ext
   rw [if_neg c92] at hx
   by_cases hr : (s.getD (i + 1) 0).toNat < 32 ∨ 126 < (s.getD (i + 1) 0).toNat
   · rw [if_pos hr] at hx
     exact y0x h e0 e7 e8 hi hsm hj1 c34 hr fun E' q4 q5 q6 => hx E' H ⟨q4, q5, q6⟩ h.ext
   · rw [if_neg hr] at hx
     exact yx3 h e0 e7 e8 hi hsm hj1 c34 c92 hr hol (next (i + 1) _ (by omega) hj1 hx)
def textV : TR → Value
 | .bad e => .tuple #[.string ⟨#[]⟩, .int .i64 (e : Int), .int .i64 (e : Int)]
 | .good w e => .tuple #[.string ⟨⟨w⟩⟩, .int .i64 (e : Int), .int .i64 (-1)]
theorem j9j {N : Nat} {hk : Hook} {d : Nat} {H : Heap} {s : List UInt8} {i : Nat} (K : HkR hk) (hG : Ext GE H) (hi : i < s.length) (hsm : s.length ≤ 1048576) (hN : s.length + 4 < N) :
   ∃ H', Ext H H' ∧ CG N hk (d + 2) 53 #[.string ⟨⟨s⟩⟩, .int .i64 (i : Int)] H = some (.ret (textV (textI s (s.length - i) i [])), H') := by
 have main : ∃ R0 : R, CG N hk (d + 2) 53 #[.string ⟨⟨s⟩⟩, .int .i64 (i : Int)] H = R0 ∧ ∃ H', Ext H H' ∧ R0 = some (.ret (textV (textI s (s.length - i) i [])), H') := by
   refine ⟨_, jb6 (K.nil _ _ _ rfl) Tryz.func53 (c := codeOf Tryz.f53) rfl rfl rfl (pr := noPr) rfl, ?_⟩
   rw [code53]
   generalize hF : finE PP Tryz.f53 = F
   have w1 : IntKind.i64.wrap ((i : Int) + 1) = ((i + 1 : Nat) : Int) := by rw [ja4 (by omega) (by omega)]; omega
   have lL := lX3 Tryz.f53 0 1 2
   conv at lL in (occs := *) (rq _ _) => all_goals simp only [rX, oA, Tryz.f53, dL.o, reduceIte, Nat.reduceEqDiff]
   obtain ⟨l0, l1, l2⟩ := lL
   simp +decide only [↓uR.o, dG.o, ja1, reduceIte, ↓ja0 l0, ↓ja0 l1, ↓ja0 l2, ↓jb4, w1]
   refine yf6 (H0 := H) (s := s) (v := .slice none 0 0) (Q := fun r => ∃ H', Ext H H' ∧ r = some (.ret (textV (textI s (s.length - i) i [])), H')) K hG hsm (by omega) (s.length - i) i [] N hi (by omega) (Nat.zero_le _) (by omega) ⟨⟨Nat.le_refl _, fun _ _ h => h, hG.fresh⟩, hG.fresh, .inl ⟨rfl, rfl⟩⟩ ?_ ?_ ?_ fun E' H' h x => ?_
   · simp +decide only [ja1, reduceIte, jc7]
   · simp +decide only [ja1, reduceIte]
   · simp +decide only [ja1, reduceIte]
   · simp +decide only [j1w]
     refine ⟨H', x, ?_⟩
     cases hq : textI s (s.length - i) i [] with
     | bad e =>
       rw [hq] at h
       obtain ⟨a, b, c⟩ := h
       rw [← hF, jb0 (l := [.string ⟨#[]⟩, .int .i64 (e : Int), .int .i64 (e : Int)]) (by simp +decide [Tryz.f53, resE, a, b, c])]; rfl
     | good w e =>
       rw [hq] at h
       obtain ⟨a, b, c⟩ := h
       rw [← hF, jb0 (l := [.string ⟨⟨w⟩⟩, .int .i64 (e : Int), .int .i64 (-1)]) (by simp +decide [Tryz.f53, resE, a, b, c])]; rfl
 obtain ⟨R0, m1, H', m2, m3⟩ := main
 exact ⟨H', m2, m1.trans m3⟩
structure LS (H G : Heap) (a t : Nat) (k n : Int) (w : ByteArray) (f e : Int) : Prop where
 ext : Ext H G
 cell : G.get a = some (tok 0 0 .empty 0 0)
 here : G.get t = some (tok k n w f e)
 ne : a ≠ t
 la : H.next ≤ a
 lt : H.next ≤ t
 ba : a < G.next
 bt : t < G.next
theorem LS.set {H G : Heap} {a t : Nat} {k n f e : Int} {w : ByteArray} (h : LS H G a t k n w f e) (hf : Fresh H) (k' n' : Int) (w' : ByteArray) (f' e' : Int) : LS H (G.set t (tok k' n' w' f' e')) a t k' n' w' f' e' :=
 ⟨h.ext.set h.lt hf h.bt _, by rw [Heap.get_set, if_neg h.ne]; exact h.cell, jc6 _ _ _, h.ne, h.la, h.lt, h.ba, h.bt⟩
theorem LS.up {H G G' : Heap} {a t : Nat} {k n f e : Int} {w : ByteArray} (h : LS H G a t k n w f e) (x : Ext G G') : LS H G' a t k n w f e :=
 ⟨h.ext.trans x, x.keep _ _ h.cell, x.keep _ _ h.here, h.ne, h.la, h.lt, Nat.lt_of_lt_of_le h.ba x.next, Nat.lt_of_lt_of_le h.bt x.next⟩
def OutL (H : Heap) (r : LR) (E' : Env) (G' : Heap) : Prop := Ext H G' ∧ match r with
 | .bad e => loadA PP 42 (E' 4) G' = some (.agg #[.int .i64 0, .int .u64 0, .string .empty, .int .i64 0, .int .i64 0], G') ∧ E' 5 = .int .i64 (e : Int)
 | .good k => loadA PP 42 (E' 4) G' = some (.agg k.cells.toArray, G') ∧ E' 5 = .int .i64 (-1)
theorem jn4 {H : Heap} {b : Nat} {k n f e : Int} {w : ByteArray} (h : H.get b = some (tok k n w f e)) : loadA PP 3 (.pointer (some ⟨b, 4, none⟩)) H = some (.int .i64 e, H) := by
 simp only [loadA, agg3]
 simp [ld1, look, h, tok]
theorem j9k : buildA PP 42 #[] = some (.agg #[.int .i64 0, .int .u64 0, .string .empty, .int .i64 0, .int .i64 0]) := by kernel_rfl
theorem code30 : codeOf Tryz.f30 = .seq (rF Tryz.f30 0) (.seq (rF Tryz.f30 1) (.seq (rF Tryz.f30 2) (.seq (rF Tryz.f30 3) (.seq (.block 0 (.seq (rF Tryz.f30 5) (.cond (.tmp 24) (.seq (rF Tryz.f30 6) (.seq (rF Tryz.f30 7) (.seq (rF Tryz.f30 8) (.seq (rF Tryz.f30 9) (.cond (.tmp 43) (rF Tryz.f30 10) .skip))))) (.seq (rF Tryz.f30 11) (.cond (.tmp 47) (.seq (rF Tryz.f30 12) (.seq (rF Tryz.f30 13) (.seq (rF Tryz.f30 14) (.seq (.seq (rF Tryz.f30 15) (.cond (.tmp 64) (.seq (rF Tryz.f30 16) (rF Tryz.f30 17)) .skip)) (.seq (rF Tryz.f30 18) (.cond (.tmp 70) (rF Tryz.f30 19) .skip)))))) (.seq (rF Tryz.f30 20) (.cond (.tmp 73) (.seq (rF Tryz.f30 21) (rF Tryz.f30 22)) (rF Tryz.f30 4)))))))) (.seq (.seq (rF Tryz.f30 23) (.cond (.tmp 87) (.seq (rF Tryz.f30 24) .ret) .skip)) (.seq (rF Tryz.f30 25) .ret)))))) := by kernel_rfl
section
theorem j4y {K : Kf} {N : Nat} {H G : Heap} {a t : Nat} {E : Env} {Q : R → Prop} {k : KOE} {kd n f e : Int} {w : ByteArray} (h : LS H G a t kd n w f e) (hf : Fresh H) {x : Nat} (e4 : E 4 = .pointer (some ⟨a, 0, none⟩)) (e6 : E 6 = .pointer (some ⟨t, 0, none⟩)) (e8 : E 8 = .int .i64 (x : Int))
   (hx : ∀ E' G', OutL H (.bad x) E' G' → Q (k .ret E' [] G')) : Q (execG PP XX K N noPr (.seq (.seq (rF Tryz.f30 23) (.cond (.tmp 87) (.seq (rF Tryz.f30 24) .ret) .skip)) (.seq (rF Tryz.f30 25) .ret)) none E [] G k) := by
 have hge : decide ((x : Int) ≥ 0) = true := decide_eq_true (by omega)
 have lL := lX2 Tryz.f30 23 24
 conv at lL in (occs := *) (rq _ _) => all_goals simp only [rX, oA, Tryz.f30, dL.o, reduceIte, Nat.reduceEqDiff]
 obtain ⟨l23, l24⟩ := lL
 simp +decide only [↓uR.o, dG.o, ja1, jb1, reduceIte, ↓ja0 l23, ↓ja0 l24, e4, e8, hge, j9k, jj9 h.cell]
 refine hx _ _ ⟨h.ext.set h.la hf h.ba _, ?_, by simp +decide only [ja1, reduceIte]⟩
 have e4' : ∀ v w, upd (upd (upd (upd (upd E (some 86) (.int .i64 (x : Int))) (some 87) (.bool true)) (some 88) v) (some 89) (.int .i64 (x : Int))) w undef 4 = .pointer (some ⟨a, 0, none⟩) ∨ True := fun _ _ => .inr trivial
 simp +decide only [ja1, reduceIte, e4]
 exact ju0 (jc6 _ _ _)
theorem j08 {K : Kf} {N : Nat} {H G : Heap} {a t : Nat} {E : Env} {Q : R → Prop} {k : KOE} {kd n f e : Int} {w : ByteArray} (h : LS H G a t kd n w f e) (hf : Fresh H) {tk : Tk} (ht : tok kd n w f e = tok tk.kind tk.n tk.w (tk.from_ : Int) (tk.to_ : Int)) (e4 : E 4 = .pointer (some ⟨a, 0, none⟩)) (e6 : E 6 = .pointer (some ⟨t, 0, none⟩)) (e8 : E 8 = .int .i64 (-1))
   (hx : ∀ E' G', OutL H (.good tk) E' G' → Q (k .ret E' [] G')) : Q (execG PP XX K N noPr (.seq (.seq (rF Tryz.f30 23) (.cond (.tmp 87) (.seq (rF Tryz.f30 24) .ret) .skip)) (.seq (rF Tryz.f30 25) .ret)) none E [] G k) := by
 have hge : decide ((-1 : Int) ≥ 0) = false := rfl
 have hh := h.here
 rw [ht] at hh
 have lL := lX2 Tryz.f30 23 25
 conv at lL in (occs := *) (rq _ _) => all_goals simp only [rX, oA, Tryz.f30, dL.o, reduceIte, Nat.reduceEqDiff]
 obtain ⟨l23, l25⟩ := lL
 simp +decide only [↓uR.o, dG.o, ja1, jb1, reduceIte, ↓ja0 l23, ↓ja0 l25, e4, e6, e8, dF, ju0 hh, jj9 h.cell]
 refine hx _ _ ⟨h.ext.set h.la hf h.ba _, ?_, by simp +decide only [ja1, reduceIte]⟩
 simp +decide only [ja1, reduceIte, e4]
 exact ju0 (jc6 _ _ _)
theorem y01 {N : Nat} {hk : Hook} {d : Nat} {H G : Heap} {a t : Nat} {s : List UInt8} {i : Nat} {E : Env} {Q : R → Prop} {k : KOE} (K : HkR hk) (hG : Ext GE H) (h : LS H G a t 0 0 .empty (i : Int) 0) (hf : Fresh H) (hi : i < s.length) (hsm : s.length ≤ 1048576) (hN : s.length + 100 < N) (e0 : E 0 = .string ⟨⟨s⟩⟩) (e1 : E 1 = .int .i64 (i : Int)) (e4 : E 4 = .pointer (some ⟨a, 0, none⟩)) (e6 : E 6 = .pointer (some ⟨t, 0, none⟩)) (e7 : E 7 = .int .u8 (s[i].toNat : Int)) (e8 : E 8 = .int .i64 (-1)) (h3 : clsI s[i] = 3) (hx : ∀ E' G', OutL H (lexI s i) E' G' → Q (k .ret E' [] G')) :
   Q (execG PP XX (CG N hk (d + 2)) N noPr (.seq (.block 0 (.seq (rF Tryz.f30 5) (.cond (.tmp 24) (.seq (rF Tryz.f30 6) (.seq (rF Tryz.f30 7) (.seq (rF Tryz.f30 8) (.seq (rF Tryz.f30 9) (.cond (.tmp 43) (rF Tryz.f30 10) .skip))))) (.seq (rF Tryz.f30 11) (.cond (.tmp 47) (.seq (rF Tryz.f30 12) (.seq (rF Tryz.f30 13) (.seq (rF Tryz.f30 14) (.seq (.seq (rF Tryz.f30 15) (.cond (.tmp 64) (.seq (rF Tryz.f30 16) (rF Tryz.f30 17)) .skip)) (.seq (rF Tryz.f30 18) (.cond (.tmp 70) (rF Tryz.f30 19) .skip)))))) (.seq (rF Tryz.f30 20) (.cond (.tmp 73) (.seq (rF Tryz.f30 21) (rF Tryz.f30 22)) (rF Tryz.f30 4)))))))) (.seq (.seq (rF Tryz.f30 23) (.cond (.tmp 87) (.seq (rF Tryz.f30 24) .ret) .skip)) (.seq (rF Tryz.f30 25) .ret))) none E [] G k) := by
 have i3 : isI s i 3 = true := by rw [isI, je7 s hi, h3, decide_eq_true hi]; rfl
 have iw : isW s i = true := by rw [isW, i3, Bool.or_true]
 have hd : CG N hk (d + 2) 48 #[.int .u8 (s[i].toNat : Int)] G = some (.ret (.bool (digN s[i].toNat)), G) := jc1 (K.dig s[i] G (hG.trans h.ext))
 have hw : CG N hk (d + 2) 51 #[.int .u8 (s[i].toNat : Int)] G = some (.ret (.bool (wbN s[i].toNat)), G) := jc1 (K.wb s[i] G (hG.trans h.ext))
 rw [← jw8 hi, i3] at hd
 rw [← j00 hi, iw] at hw
 obtain ⟨hr, hrl⟩ := yr4 s (i := i) (by omega)
 have g := jk7 s (s.length - i) i
 have h1 := h.set hf 2 0 .empty (i : Int) 0
 have he1 := j4q (N := N) (hk := hk) (d := d) K (hG.trans h1.ext) (by omega : i ≤ s.length) (by omega) (by omega)
 have r3 : isI ((s.take (runTo s (s.length - i) i)).drop i) 0 3 = true := by rw [hr.isI (Nat.zero_le _) 3 (.inl rfl)]; exact i3
 have hle : lexI s i = match shI i (intI ((s.take (runTo s (s.length - i) i)).drop i) 0) with | .bad e => .bad e | .good n e => .good ⟨2, (n : Int), .empty, i, e⟩ := by
   rw [lexI, je7 s hi, if_pos h3, yf5 hr i3]; rfl
 have hend : ∀ n x, intI s i = .good n x → x = runTo s (s.length - i) i := fun n x q => yy2 hi i3 q
 rw [yf5 hr i3] at hend
 rw [hle] at hx
 have hint := yf4 (N := N) (hk := hk) (d := d) K (hG.trans (h1.set hf 2 0 .empty (i : Int) (runTo s (s.length - i) i : Int)).ext) (r := (s.take (runTo s (s.length - i) i)).drop i) (by omega) (by omega) hr.words r3
 generalize runTo s (s.length - i) i = e at *
 have h2 := h1.set hf 2 0 .empty (i : Int) (e : Int)
 have hsl := jr3 (s := s) (i := i) (j := e) (by omega) (by omega) ((G.set t (tok 2 0 .empty (i : Int) 0)).set t (tok 2 0 .empty (i : Int) (e : Int)))
 have q0 : ∀ (u v : Value), extractA (.tuple #[u, v]) 0 = some u := fun _ _ => rfl
 have q1 : ∀ (u v : Value), extractA (.tuple #[u, v]) 1 = some v := fun _ _ => rfl
 have lL := lX6 Tryz.f30 5 6 7 8 9 10
 conv at lL in (occs := *) (rq _ _) => all_goals simp only [rX, oA, Tryz.f30, dL.o, reduceIte, Nat.reduceEqDiff]
 obtain ⟨l5, l6, l7, l8, l9, l10⟩ := lL
 generalize hp : (.seq (.seq (rF Tryz.f30 23) (.cond (.tmp 87) (.seq (rF Tryz.f30 24) .ret) .skip)) (.seq (rF Tryz.f30 25) .ret) : Code) = p0
 cases hq : intI ((s.take e).drop i) 0 with
 | bad x =>
   rw [hq] at hint hx
   have hge : decide ((x : Int) ≥ 0) = true := decide_eq_true (by omega)
   have hxb : x ≤ 2000000 := by
     by_cases c : x ≤ 2000000
     · exact c
     · exfalso
       have := j6i (jr2 r3) hq
       omega
   have w3 : IntKind.i64.wrap ((i : Int) + (x : Int)) = ((i + x : Nat) : Int) := by rw [ja4 (by omega) (by omega)]; omega
   have h3' := h2.set hf 2 0 .empty (i : Int) (e : Int)
   simp +decide only [↓uR.o, dG.o, ja1, jb1, reduceIte, ↓ja0 l5, ↓ja0 l6, ↓ja0 l7, ↓ja0 l8, ↓ja0 l9, ↓ja0 l10, e0, e1, e6, e7, e8, ja3 Tryz.func48 rfl rfl hd, tf0, jd0 h.here, ja3 Tryz.func49 rfl rfl he1, tf4, jf8 h1.here, jn4 h2.here, ↓Option.map_some, ↓Option.map_none, hsl, ja3 Tryz.func50 rfl rfl hint, intV, q0, q1, tf1, j0v h2.here, hge, w3]
   subst hp
   exact j4y h3' hf (x := i + x) (by simp +decide only [ja1, reduceIte, e4]) (by simp +decide only [ja1, reduceIte, e6]) (by simp +decide only [ja1, reduceIte, e8]) hx
 | good n x =>
   rw [hq] at hint hx hend
   have hxe := hend n (i + x) rfl
   have hge : decide ((-1 : Int) ≥ 0) = false := rfl
   have h3' := h2.set hf 2 (n : Int) .empty (i : Int) (e : Int)
   simp +decide only [↓uR.o, dG.o, ja1, jb1, reduceIte, ↓ja0 l5, ↓ja0 l6, ↓ja0 l7, ↓ja0 l8, ↓ja0 l9, e0, e1, e6, e7, e8, ja3 Tryz.func48 rfl rfl hd, tf0, jd0 h.here, ja3 Tryz.func49 rfl rfl he1, tf4, jf8 h1.here, jn4 h2.here, ↓Option.map_some, ↓Option.map_none, hsl, ja3 Tryz.func50 rfl rfl hint, intV, q0, q1, tf1, j0v h2.here, dF]
   subst hp
   exact j08 h3' hf (tk := ⟨2, (n : Int), .empty, i, i + x⟩) (by rw [hxe]) (by simp +decide only [ja1, reduceIte, e4]) (by simp +decide only [ja1, reduceIte, e6]) (by simp +decide only [ja1, reduceIte, e8]) hx
theorem yy8 {N : Nat} {hk : Hook} {d : Nat} {H G : Heap} {a t : Nat} {s : List UInt8} {i : Nat} {E : Env} {Q : R → Prop} {k : KOE} (K : HkR hk) (hG : Ext GE H) (h : LS H G a t 0 0 .empty (i : Int) 0) (hf : Fresh H) (hi : i < s.length) (hsm : s.length ≤ 1048576) (hN : s.length + 100 < N) (e0 : E 0 = .string ⟨⟨s⟩⟩) (e1 : E 1 = .int .i64 (i : Int)) (e4 : E 4 = .pointer (some ⟨a, 0, none⟩)) (e6 : E 6 = .pointer (some ⟨t, 0, none⟩)) (e7 : E 7 = .int .u8 (s[i].toNat : Int)) (e8 : E 8 = .int .i64 (-1)) (h4' : clsI s[i] = 4) (hx : ∀ E' G', OutL H (lexI s i) E' G' → Q (k .ret E' [] G')) :
   Q (execG PP XX (CG N hk (d + 2)) N noPr (.seq (.block 0 (.seq (rF Tryz.f30 5) (.cond (.tmp 24) (.seq (rF Tryz.f30 6) (.seq (rF Tryz.f30 7) (.seq (rF Tryz.f30 8) (.seq (rF Tryz.f30 9) (.cond (.tmp 43) (rF Tryz.f30 10) .skip))))) (.seq (rF Tryz.f30 11) (.cond (.tmp 47) (.seq (rF Tryz.f30 12) (.seq (rF Tryz.f30 13) (.seq (rF Tryz.f30 14) (.seq (.seq (rF Tryz.f30 15) (.cond (.tmp 64) (.seq (rF Tryz.f30 16) (rF Tryz.f30 17)) .skip)) (.seq (rF Tryz.f30 18) (.cond (.tmp 70) (rF Tryz.f30 19) .skip)))))) (.seq (rF Tryz.f30 20) (.cond (.tmp 73) (.seq (rF Tryz.f30 21) (rF Tryz.f30 22)) (rF Tryz.f30 4)))))))) (.seq (.seq (rF Tryz.f30 23) (.cond (.tmp 87) (.seq (rF Tryz.f30 24) .ret) .skip)) (.seq (rF Tryz.f30 25) .ret))) none E [] G k) := by
 have i3 : isI s i 3 = false := by rw [isI, je7 s hi, h4', decide_eq_true hi]; rfl
 have iw : isW s i = true := by rw [isW, isI, je7 s hi, h4', decide_eq_true hi]; rfl
 have hd : CG N hk (d + 2) 48 #[.int .u8 (s[i].toNat : Int)] G = some (.ret (.bool (digN s[i].toNat)), G) := jc1 (K.dig s[i] G (hG.trans h.ext))
 have hw : CG N hk (d + 2) 51 #[.int .u8 (s[i].toNat : Int)] G = some (.ret (.bool (wbN s[i].toNat)), G) := jc1 (K.wb s[i] G (hG.trans h.ext))
 rw [← jw8 hi, i3] at hd
 rw [← j00 hi, iw] at hw
 have g := jk7 s (s.length - i) i
 have he1 := j4q (N := N) (hk := hk) (d := d) (H := G) K (hG.trans h.ext) (by omega : i ≤ s.length) (by omega) (by omega)
 have hgood : runTo s (s.length - i) i ≤ i + 32 → lexI s i = .good (if resI ((s.take (runTo s (s.length - i) i)).drop i) = 0 then ⟨1, 0, ⟨⟨(s.take (runTo s (s.length - i) i)).drop i⟩⟩, i, runTo s (s.length - i) i⟩ else ⟨resI ((s.take (runTo s (s.length - i) i)).drop i), 0, .empty, i, runTo s (s.length - i) i⟩) := fun q => by
   rw [lexI, je7 s hi, if_neg (by rw [h4']; decide), if_pos h4', wordI, if_pos q, ← List.drop_take, wordKT]
   split <;> rfl
 have hbad : ¬ runTo s (s.length - i) i ≤ i + 32 → lexI s i = .bad (i + 32) := fun q => by
   rw [lexI, je7 s hi, if_neg (by rw [h4']; decide), if_pos h4', wordI, if_neg q]
 generalize runTo s (s.length - i) i = e at *
 have hlen : ((s.take e).drop i).length = e - i := by simp; omega
 have h1 := h.set hf 0 0 .empty (i : Int) (e : Int)
 have hsl := jr3 (s := s) (i := i) (j := e) (by omega) (by omega) (G.set t (tok 0 0 .empty (i : Int) (e : Int)))
 have hre : CG N hk (d + 2) 52 #[.string ⟨⟨(s.take e).drop i⟩⟩] (G.set t (tok 0 0 .empty (i : Int) (e : Int))) = some (.ret (.int .i64 (resI ((s.take e).drop i))), (G.set t (tok 0 0 .empty (i : Int) (e : Int)))) := ye4 (d := d + 1) (hG.trans h1.ext) _ (by omega) K.nil
 have h2 := h1.set hf (resI ((s.take e).drop i)) 0 .empty (i : Int) (e : Int)
 have h3 := h2.set hf 1 0 .empty (i : Int) (e : Int)
 have h4 := h3.set hf 1 0 ⟨⟨(s.take e).drop i⟩⟩ (i : Int) (e : Int)
 have w32 : IntKind.i64.wrap ((i : Int) + 32) = ((i + 32 : Nat) : Int) := by rw [ja4 (by omega) (by omega)]; omega
 have lL : _ ∧ _ := ⟨lX8 Tryz.f30 5 11 12 13 14 15 16 17, lX2 Tryz.f30 18 19⟩
 conv at lL in (occs := *) (rq _ _) => all_goals simp only [rX, oA, Tryz.f30, dL.o, reduceIte, Nat.reduceEqDiff]
 obtain ⟨⟨l5, l11, l12, l13, l14, l15, l16, l17⟩, ⟨l18, l19⟩⟩ := lL
 generalize hp : (.seq (.seq (rF Tryz.f30 23) (.cond (.tmp 87) (.seq (rF Tryz.f30 24) .ret) .skip)) (.seq (rF Tryz.f30 25) .ret) : Code) = p0
 by_cases hr : resI ((s.take e).drop i) = 0
 · by_cases hl : e ≤ i + 32
   · have hk0 : (resI ((s.take e).drop i) == 0) = true := by rw [hr]; rfl
     have hgt : decide (((e - i : Nat) : Int) > 32) = false := decide_eq_false (by omega)
     simp +decide only [↓uR.o, dG.o, ja1, jb1, reduceIte, ↓ja0 l5, ↓ja0 l11, ↓ja0 l12, ↓ja0 l13, ↓ja0 l14, ↓ja0 l15, ↓ja0 l16, ↓ja0 l17, ↓ja0 l18, e0, e1, e6, e7, ja3 Tryz.func48 rfl rfl hd, ja3 Tryz.func51 rfl rfl hw, ja3 Tryz.func49 rfl rfl he1, tf4, jf8 h.here, jn4 h1.here, ↓Option.map_some, ↓Option.map_none, hsl, ja3 Tryz.func52 rfl rfl hre, tf0, jd0 h1.here, ji5 h2.here, hk0, jb5, hlen, hgt, jd0 h2.here, tf2, jj2 h3.here]
     subst hp
     refine j08 h4 hf (tk := ⟨1, 0, ⟨⟨(s.take e).drop i⟩⟩, i, e⟩) rfl (by simp +decide only [ja1, reduceIte, e4]) (by simp +decide only [ja1, reduceIte, e6]) (by simp +decide only [ja1, reduceIte, e8]) fun E' G' o => hx E' G' ?_
     rw [hgood (by omega), if_pos hr]; exact o
   · have hk0 : (resI ((s.take e).drop i) == 0) = true := by rw [hr]; rfl
     have hgt : decide (((e - i : Nat) : Int) > 32) = true := decide_eq_true (by omega)
     simp +decide only [↓uR.o, dG.o, ja1, jb1, reduceIte, ↓ja0 l5, ↓ja0 l11, ↓ja0 l12, ↓ja0 l13, ↓ja0 l14, ↓ja0 l15, ↓ja0 l16, ↓ja0 l17, ↓ja0 l18, ↓ja0 l19, e0, e1, e6, e7, ja3 Tryz.func48 rfl rfl hd, ja3 Tryz.func51 rfl rfl hw, ja3 Tryz.func49 rfl rfl he1, tf4, jf8 h.here, jn4 h1.here, ↓Option.map_some, ↓Option.map_none, hsl, ja3 Tryz.func52 rfl rfl hre, tf0, jd0 h1.here, ji5 h2.here, hk0, jb5, hlen, hgt, jd0 h2.here, tf2, jj2 h3.here, w32]
     subst hp
     refine j4y h4 hf (x := i + 32) (by simp +decide only [ja1, reduceIte, e4]) (by simp +decide only [ja1, reduceIte, e6]) (by simp +decide only [ja1, reduceIte, e8]) fun E' G' o => hx E' G' ?_
     rw [hbad (by omega)]; exact o
 · by_cases hl : e ≤ i + 32
   · have hk0 : (resI ((s.take e).drop i) == 0) = false := by simp [hr]
     have hgt : decide (((e - i : Nat) : Int) > 32) = false := decide_eq_false (by omega)
     simp +decide only [↓uR.o, dG.o, ja1, jb1, reduceIte, ↓ja0 l5, ↓ja0 l11, ↓ja0 l12, ↓ja0 l13, ↓ja0 l14, ↓ja0 l15, ↓ja0 l18, e0, e1, e6, e7, ja3 Tryz.func48 rfl rfl hd, ja3 Tryz.func51 rfl rfl hw, ja3 Tryz.func49 rfl rfl he1, tf4, jf8 h.here, jn4 h1.here, ↓Option.map_some, ↓Option.map_none, hsl, ja3 Tryz.func52 rfl rfl hre, tf0, jd0 h1.here, ji5 h2.here, hk0, jb5, hlen, hgt]
     subst hp
     refine j08 h2 hf (tk := ⟨resI ((s.take e).drop i), 0, .empty, i, e⟩) rfl (by simp +decide only [ja1, reduceIte, e4]) (by simp +decide only [ja1, reduceIte, e6]) (by simp +decide only [ja1, reduceIte, e8]) fun E' G' o => hx E' G' ?_
     rw [hgood (by omega), if_neg hr]; exact o
   · have hk0 : (resI ((s.take e).drop i) == 0) = false := by simp [hr]
     have hgt : decide (((e - i : Nat) : Int) > 32) = true := decide_eq_true (by omega)
     simp +decide only [↓uR.o, dG.o, ja1, jb1, reduceIte, ↓ja0 l5, ↓ja0 l11, ↓ja0 l12, ↓ja0 l13, ↓ja0 l14, ↓ja0 l15, ↓ja0 l18, ↓ja0 l19, e0, e1, e6, e7, ja3 Tryz.func48 rfl rfl hd, ja3 Tryz.func51 rfl rfl hw, ja3 Tryz.func49 rfl rfl he1, tf4, jf8 h.here, jn4 h1.here, ↓Option.map_some, ↓Option.map_none, hsl, ja3 Tryz.func52 rfl rfl hre, tf0, jd0 h1.here, ji5 h2.here, hk0, jb5, hlen, hgt, w32]
     subst hp
     refine j4y h2 hf (x := i + 32) (by simp +decide only [ja1, reduceIte, e4]) (by simp +decide only [ja1, reduceIte, e6]) (by simp +decide only [ja1, reduceIte, e8]) fun E' G' o => hx E' G' ?_
     rw [hbad (by omega)]; exact o
theorem yy9 {N : Nat} {hk : Hook} {d : Nat} {H G : Heap} {a t : Nat} {s : List UInt8} {i : Nat} {E : Env} {Q : R → Prop} {k : KOE} (K : HkR hk) (hG : Ext GE H) (h : LS H G a t 0 0 .empty (i : Int) 0) (hf : Fresh H) (hi : i < s.length) (hsm : s.length ≤ 1048576) (hN : s.length + 100 < N) (e0 : E 0 = .string ⟨⟨s⟩⟩) (e1 : E 1 = .int .i64 (i : Int)) (e4 : E 4 = .pointer (some ⟨a, 0, none⟩)) (e6 : E 6 = .pointer (some ⟨t, 0, none⟩)) (e7 : E 7 = .int .u8 (s[i].toNat : Int)) (e8 : E 8 = .int .i64 (-1)) (h5 : clsI s[i] = 5) (hx : ∀ E' G', OutL H (lexI s i) E' G' → Q (k .ret E' [] G')) :
   Q (execG PP XX (CG N hk (d + 2)) N noPr (.seq (.block 0 (.seq (rF Tryz.f30 5) (.cond (.tmp 24) (.seq (rF Tryz.f30 6) (.seq (rF Tryz.f30 7) (.seq (rF Tryz.f30 8) (.seq (rF Tryz.f30 9) (.cond (.tmp 43) (rF Tryz.f30 10) .skip))))) (.seq (rF Tryz.f30 11) (.cond (.tmp 47) (.seq (rF Tryz.f30 12) (.seq (rF Tryz.f30 13) (.seq (rF Tryz.f30 14) (.seq (.seq (rF Tryz.f30 15) (.cond (.tmp 64) (.seq (rF Tryz.f30 16) (rF Tryz.f30 17)) .skip)) (.seq (rF Tryz.f30 18) (.cond (.tmp 70) (rF Tryz.f30 19) .skip)))))) (.seq (rF Tryz.f30 20) (.cond (.tmp 73) (.seq (rF Tryz.f30 21) (rF Tryz.f30 22)) (rF Tryz.f30 4)))))))) (.seq (.seq (rF Tryz.f30 23) (.cond (.tmp 87) (.seq (rF Tryz.f30 24) .ret) .skip)) (.seq (rF Tryz.f30 25) .ret))) none E [] G k) := by
 have i3 : isI s i 3 = false := by rw [isI, je7 s hi, h5, decide_eq_true hi]; rfl
 have iw : isW s i = false := by rw [isW, isI, isI, je7 s hi, h5, decide_eq_true hi]; rfl
 have hd : CG N hk (d + 2) 48 #[.int .u8 (s[i].toNat : Int)] G = some (.ret (.bool (digN s[i].toNat)), G) := jc1 (K.dig s[i] G (hG.trans h.ext))
 have hw : CG N hk (d + 2) 51 #[.int .u8 (s[i].toNat : Int)] G = some (.ret (.bool (wbN s[i].toNat)), G) := jc1 (K.wb s[i] G (hG.trans h.ext))
 rw [← jw8 hi, i3] at hd
 rw [← j00 hi, iw] at hw
 have c34 : s[i] = 34 := by
   have := j7b s[i]
   rw [decide_eq_true h5] at this
   simpa using this
 have z34 : ((s[i].toNat : Int) == 34) = true := (ja7 s[i] 34).trans (decide_eq_true c34)
 have h1 := h.set hf 3 0 .empty (i : Int) 0
 obtain ⟨G2, x2, ht⟩ := j9j (N := N) (hk := hk) (d := d) K (hG.trans h1.ext) hi hsm (by omega)
 have h2 := h1.up x2
 have hle : lexI s i = match textI s (s.length - i) i [] with | .bad e => .bad e | .good w e => .good ⟨3, 0, ⟨⟨w⟩⟩, i, e⟩ := by
   rw [lexI, je7 s hi, if_neg (by rw [h5]; decide), if_neg (by rw [h5]; decide), if_pos h5]; rfl
 rw [hle] at hx
 have q0 : ∀ (u v w : Value), extractA (.tuple #[u, v, w]) 0 = some u := fun _ _ _ => rfl
 have q1 : ∀ (u v w : Value), extractA (.tuple #[u, v, w]) 1 = some v := fun _ _ _ => rfl
 have q2 : ∀ (u v w : Value), extractA (.tuple #[u, v, w]) 2 = some w := fun _ _ _ => rfl
 have lL := lX5 Tryz.f30 5 11 20 21 22
 conv at lL in (occs := *) (rq _ _) => all_goals simp only [rX, oA, Tryz.f30, dL.o, reduceIte, Nat.reduceEqDiff]
 obtain ⟨l5, l11, l20, l21, l22⟩ := lL
 generalize hp : (.seq (.seq (rF Tryz.f30 23) (.cond (.tmp 87) (.seq (rF Tryz.f30 24) .ret) .skip)) (.seq (rF Tryz.f30 25) .ret) : Code) = p0
 cases hq : textI s (s.length - i) i [] with
 | bad x =>
   rw [hq] at ht hx
   have h3 := h2.set hf 3 0 ⟨#[]⟩ (i : Int) 0
   have h4 := h3.set hf 3 0 ⟨#[]⟩ (i : Int) (x : Int)
   simp +decide only [↓uR.o, dG.o, ja1, jb1, reduceIte, ↓ja0 l5, ↓ja0 l11, ↓ja0 l20, ↓ja0 l21, ↓ja0 l22, e0, e1, e6, e7, ja3 Tryz.func48 rfl rfl hd, ja3 Tryz.func51 rfl rfl hw, z34, tf0, jd0 h.here, ja3 Tryz.func53 rfl rfl ht, textV, q0, q1, q2, tf2, jj2 h2.here, tf4, jf8 h3.here]
   subst hp
   exact j4y h4 hf (x := x) (by simp +decide only [ja1, reduceIte, e4]) (by simp +decide only [ja1, reduceIte, e6]) (by simp +decide only [ja1, reduceIte, e8]) hx
 | good w x =>
   rw [hq] at ht hx
   have h3 := h2.set hf 3 0 ⟨⟨w⟩⟩ (i : Int) 0
   have h4 := h3.set hf 3 0 ⟨⟨w⟩⟩ (i : Int) (x : Int)
   simp +decide only [↓uR.o, dG.o, ja1, jb1, reduceIte, ↓ja0 l5, ↓ja0 l11, ↓ja0 l20, ↓ja0 l21, ↓ja0 l22, e0, e1, e6, e7, ja3 Tryz.func48 rfl rfl hd, ja3 Tryz.func51 rfl rfl hw, z34, tf0, jd0 h.here, ja3 Tryz.func53 rfl rfl ht, textV, q0, q1, q2, tf2, jj2 h2.here, tf4, jf8 h3.here]
   subst hp
   exact j08 h4 hf (tk := ⟨3, 0, ⟨⟨w⟩⟩, i, x⟩) rfl (by simp +decide only [ja1, reduceIte, e4]) (by simp +decide only [ja1, reduceIte, e6]) (by simp +decide only [ja1, reduceIte, e8]) hx
theorem yz0 {N : Nat} {hk : Hook} {d : Nat} {H G : Heap} {a t : Nat} {s : List UInt8} {i : Nat} {E : Env} {Q : R → Prop} {k : KOE} (K : HkR hk) (hG : Ext GE H) (h : LS H G a t 0 0 .empty (i : Int) 0) (hf : Fresh H) (hi : i < s.length) (hsm : s.length ≤ 1048576) (hN : s.length + 100 < N) (e0 : E 0 = .string ⟨⟨s⟩⟩) (e1 : E 1 = .int .i64 (i : Int)) (e4 : E 4 = .pointer (some ⟨a, 0, none⟩)) (e6 : E 6 = .pointer (some ⟨t, 0, none⟩)) (e7 : E 7 = .int .u8 (s[i].toNat : Int)) (e8 : E 8 = .int .i64 (-1)) (h3 : ¬ clsI s[i] = 3) (h4 : ¬ clsI s[i] = 4) (h5 : ¬ clsI s[i] = 5) (hx : ∀ E' G', OutL H (lexI s i) E' G' → Q (k .ret E' [] G')) :
   Q (execG PP XX (CG N hk (d + 2)) N noPr (.seq (.block 0 (.seq (rF Tryz.f30 5) (.cond (.tmp 24) (.seq (rF Tryz.f30 6) (.seq (rF Tryz.f30 7) (.seq (rF Tryz.f30 8) (.seq (rF Tryz.f30 9) (.cond (.tmp 43) (rF Tryz.f30 10) .skip))))) (.seq (rF Tryz.f30 11) (.cond (.tmp 47) (.seq (rF Tryz.f30 12) (.seq (rF Tryz.f30 13) (.seq (rF Tryz.f30 14) (.seq (.seq (rF Tryz.f30 15) (.cond (.tmp 64) (.seq (rF Tryz.f30 16) (rF Tryz.f30 17)) .skip)) (.seq (rF Tryz.f30 18) (.cond (.tmp 70) (rF Tryz.f30 19) .skip)))))) (.seq (rF Tryz.f30 20) (.cond (.tmp 73) (.seq (rF Tryz.f30 21) (rF Tryz.f30 22)) (rF Tryz.f30 4)))))))) (.seq (.seq (rF Tryz.f30 23) (.cond (.tmp 87) (.seq (rF Tryz.f30 24) .ret) .skip)) (.seq (rF Tryz.f30 25) .ret))) none E [] G k) := by
 have i3 : isI s i 3 = false := by rw [isI, je7 s hi, decide_eq_true hi]; simp [h3]
 have iw : isW s i = false := by rw [isW, isI, isI, je7 s hi, decide_eq_true hi]; simp [h3, h4]
 have hd : CG N hk (d + 2) 48 #[.int .u8 (s[i].toNat : Int)] G = some (.ret (.bool (digN s[i].toNat)), G) := jc1 (K.dig s[i] G (hG.trans h.ext))
 have hw : CG N hk (d + 2) 51 #[.int .u8 (s[i].toNat : Int)] G = some (.ret (.bool (wbN s[i].toNat)), G) := jc1 (K.wb s[i] G (hG.trans h.ext))
 rw [← jw8 hi, i3] at hd
 rw [← j00 hi, iw] at hw
 have c34 : ¬ s[i] = 34 := fun q => by
   have := j7b s[i]
   rw [decide_eq_false h5, q] at this
   cases this
 have z34 : ((s[i].toNat : Int) == 34) = false := (ja7 s[i] 34).trans (decide_eq_false c34)
 have hs : CG N hk (d + 2) 54 #[.string ⟨⟨s⟩⟩, .int .i64 (i : Int)] G = some (.ret (sgV i (signF (mtS s i) s[i])), G) := j9i (d := d + 1) (hG.trans h.ext) hi (by omega) (by omega) K.nil
 have q0 : ∀ (u v w : Value), extractA (.tuple #[u, v, w]) 0 = some u := fun _ _ _ => rfl
 have q1 : ∀ (u v w : Value), extractA (.tuple #[u, v, w]) 1 = some v := fun _ _ _ => rfl
 have q2 : ∀ (u v w : Value), extractA (.tuple #[u, v, w]) 2 = some w := fun _ _ _ => rfl
 have lL := lX4 Tryz.f30 4 5 11 20
 conv at lL in (occs := *) (rq _ _) => all_goals simp only [rX, oA, Tryz.f30, dL.o, reduceIte, Nat.reduceEqDiff]
 obtain ⟨l4, l5, l11, l20⟩ := lL
 generalize hp : (.seq (.seq (rF Tryz.f30 23) (.cond (.tmp 87) (.seq (rF Tryz.f30 24) .ret) .skip)) (.seq (rF Tryz.f30 25) .ret) : Code) = p0
 rcases yo0 hi h3 h4 h5 with ⟨kd, l, e1', e2⟩ | ⟨l, e1', e2⟩
 · rw [e2] at hs
   rw [e1'] at hx
   have hv : sgV i (kd, l, true) = .tuple #[.int .i64 kd, .int .i64 ((i + l : Nat) : Int), .int .i64 (-1)] := rfl
   rw [hv] at hs
   have h1 := h.set hf kd 0 .empty (i : Int) 0
   have h2 := h1.set hf kd 0 .empty (i : Int) ((i + l : Nat) : Int)
   simp +decide only [↓uR.o, dG.o, ja1, jb1, reduceIte, ↓ja0 l4, ↓ja0 l5, ↓ja0 l11, ↓ja0 l20, e0, e1, e6, e7, ja3 Tryz.func48 rfl rfl hd, ja3 Tryz.func51 rfl rfl hw, z34, ja3 Tryz.func54 rfl rfl hs, q0, q1, q2, tf0, jd0 h.here, tf4, jf8 h1.here]
   subst hp
   exact j08 h2 hf (tk := ⟨kd, 0, .empty, i, i + l⟩) rfl (by simp +decide only [ja1, reduceIte, e4]) (by simp +decide only [ja1, reduceIte, e6]) (by simp +decide only [ja1, reduceIte, e8]) hx
 · rw [e2] at hs
   rw [e1'] at hx
   have hv : sgV i (0, l, false) = .tuple #[.int .i64 0, .int .i64 0, .int .i64 ((i + l : Nat) : Int)] := rfl
   rw [hv] at hs
   have h1 := h.set hf 0 0 .empty (i : Int) 0
   have h2 := h1.set hf 0 0 .empty (i : Int) 0
   simp +decide only [↓uR.o, dG.o, ja1, jb1, reduceIte, ↓ja0 l4, ↓ja0 l5, ↓ja0 l11, ↓ja0 l20, e0, e1, e6, e7, ja3 Tryz.func48 rfl rfl hd, ja3 Tryz.func51 rfl rfl hw, z34, ja3 Tryz.func54 rfl rfl hs, q0, q1, q2, tf0, jd0 h.here, tf4, jf8 h1.here]
   subst hp
   exact j4y h2 hf (x := i + l) (by simp +decide only [ja1, reduceIte, e4]) (by simp +decide only [ja1, reduceIte, e6]) (by simp +decide only [ja1, reduceIte, e8]) hx
end
def lexV : LR → Value
 | .bad e => .tuple #[.agg #[.int .i64 0, .int .u64 0, .string .empty, .int .i64 0, .int .i64 0], .int .i64 (e : Int)]
 | .good k => .tuple #[.agg k.cells.toArray, .int .i64 (-1)]
theorem yf7 {N : Nat} {hk : Hook} {d : Nat} {H : Heap} {s : List UInt8} {i : Nat} (K : HkR hk) (hG : Ext GE H) (hi : i < s.length) (hsm : s.length ≤ 1048576) (hN : s.length + 100 < N) :
   ∃ H', Ext H H' ∧ CG N hk (d + 3) 30 #[.string ⟨⟨s⟩⟩, .int .i64 (i : Int)] H = some (.ret (lexV (lexI s i)), H') := by
 have main : ∃ R0 : R, CG N hk (d + 3) 30 #[.string ⟨⟨s⟩⟩, .int .i64 (i : Int)] H = R0 ∧ ∃ H', Ext H H' ∧ R0 = some (.ret (lexV (lexI s i)), H') := by
   refine ⟨_, jb6 (K.nil _ _ _ rfl) Tryz.func30 (c := codeOf Tryz.f30) rfl rfl rfl (pr := noPr) rfl, ?_⟩
   rw [code30]
   generalize hF : finE PP Tryz.f30 = F
   have hf := hG.fresh
   have hix := jc5 (s := s) hi
   generalize hH1 : H.alloc 1 [.int .i64 0, .int .u64 0, .string .empty, .int .i64 0, .int .i64 0] = H1
   have x1 : Ext H H1 := hH1 ▸ Ext.alloc hf 1 _
   have n1 : H1.next = H.next + 1 := by rw [← hH1]; rfl
   have g1 : H1.get H.next = some (tok 0 0 .empty 0 0) := by rw [← hH1, Heap.get_alloc]; exact if_pos rfl
   have x2 : Ext H1 (H1.alloc 1 [.int .i64 0, .int .u64 0, .string .empty, .int .i64 0, .int .i64 0]) := Ext.alloc x1.fresh 1 _
   have g2 : (H1.alloc 1 [.int .i64 0, .int .u64 0, .string .empty, .int .i64 0, .int .i64 0]).get H1.next = some (tok 0 0 .empty 0 0) := by rw [Heap.get_alloc]; exact if_pos rfl
   have h0 : LS H (H1.alloc 1 [.int .i64 0, .int .u64 0, .string .empty, .int .i64 0, .int .i64 0]) H.next H1.next 0 0 .empty 0 0 :=
     ⟨x1.trans x2, x2.keep _ _ g1, g2, by omega, Nat.le_refl _, by omega, by show H.next < H1.next + 1; omega, by show H1.next < H1.next + 1; omega⟩
   have h1 := h0.set hf 0 0 .empty (i : Int) 0
   have lL := lX4 Tryz.f30 0 1 2 3
   conv at lL in (occs := *) (rq _ _) => all_goals simp only [rX, oA, Tryz.f30, dL.o, reduceIte, Nat.reduceEqDiff]
   obtain ⟨l0, l1, l2, l3⟩ := lL
   generalize hp : (.seq (.block 0 (.seq (rF Tryz.f30 5) (.cond (.tmp 24) (.seq (rF Tryz.f30 6) (.seq (rF Tryz.f30 7) (.seq (rF Tryz.f30 8) (.seq (rF Tryz.f30 9) (.cond (.tmp 43) (rF Tryz.f30 10) .skip))))) (.seq (rF Tryz.f30 11) (.cond (.tmp 47) (.seq (rF Tryz.f30 12) (.seq (rF Tryz.f30 13) (.seq (rF Tryz.f30 14) (.seq (.seq (rF Tryz.f30 15) (.cond (.tmp 64) (.seq (rF Tryz.f30 16) (rF Tryz.f30 17)) .skip)) (.seq (rF Tryz.f30 18) (.cond (.tmp 70) (rF Tryz.f30 19) .skip)))))) (.seq (rF Tryz.f30 20) (.cond (.tmp 73) (.seq (rF Tryz.f30 21) (rF Tryz.f30 22)) (rF Tryz.f30 4)))))))) (.seq (.seq (rF Tryz.f30 23) (.cond (.tmp 87) (.seq (rF Tryz.f30 24) .ret) .skip)) (.seq (rF Tryz.f30 25) .ret)) : Code) = p0
   simp +decide only [↓uR.o, dG.o, ja1, jb1, reduceIte, ↓ja0 l0, ↓ja0 l1, ↓ja0 l2, ↓ja0 l3, jm1, hH1, j0s, jj9 g2, hix]
   subst hp
   have fin : ∀ E' G', OutL H (lexI s i) E' G' → ∃ H', Ext H H' ∧ F .ret E' [] G' = some (.ret (lexV (lexI s i)), H') := fun E' G' h => by
     refine ⟨G', h.1, ?_⟩
     obtain ⟨_, h⟩ := h
     cases hq : lexI s i with
     | bad e =>
       rw [hq] at h
       rw [← hF, jb0 (l := [.agg #[.int .i64 0, .int .u64 0, .string .empty, .int .i64 0, .int .i64 0], .int .i64 (e : Int)]) (by simp +decide [Tryz.f30, resE, h.1, h.2])]; rfl
     | good k =>
       rw [hq] at h
       rw [← hF, jb0 (l := [.agg k.cells.toArray, .int .i64 (-1)]) (by simp +decide [Tryz.f30, resE, h.1, h.2])]; rfl
   have S0 := jc7
   by_cases c3 : clsI s[i] = 3
   · exact y01 (d := d) (Q := fun r => ∃ H', Ext H H' ∧ r = some (.ret (lexV (lexI s i)), H')) K hG h1 hf hi hsm hN (by simp +decide only [ja1, reduceIte, jc7]) (by simp +decide only [ja1, reduceIte, je4]) (by simp +decide only [ja1, reduceIte]) (by simp +decide only [ja1, reduceIte]) (by simp +decide only [ja1, reduceIte]) (by simp +decide only [ja1, reduceIte]) c3 fin
   by_cases c4 : clsI s[i] = 4
   · exact yy8 (d := d) (Q := fun r => ∃ H', Ext H H' ∧ r = some (.ret (lexV (lexI s i)), H')) K hG h1 hf hi hsm hN (by simp +decide only [ja1, reduceIte, jc7]) (by simp +decide only [ja1, reduceIte, je4]) (by simp +decide only [ja1, reduceIte]) (by simp +decide only [ja1, reduceIte]) (by simp +decide only [ja1, reduceIte]) (by simp +decide only [ja1, reduceIte]) c4 fin
   by_cases c5 : clsI s[i] = 5
   · exact yy9 (d := d) (Q := fun r => ∃ H', Ext H H' ∧ r = some (.ret (lexV (lexI s i)), H')) K hG h1 hf hi hsm hN (by simp +decide only [ja1, reduceIte, jc7]) (by simp +decide only [ja1, reduceIte, je4]) (by simp +decide only [ja1, reduceIte]) (by simp +decide only [ja1, reduceIte]) (by simp +decide only [ja1, reduceIte]) (by simp +decide only [ja1, reduceIte]) c5 fin
   exact yz0 (d := d) (Q := fun r => ∃ H', Ext H H' ∧ r = some (.ret (lexV (lexI s i)), H')) K hG h1 hf hi hsm hN (by simp +decide only [ja1, reduceIte, jc7]) (by simp +decide only [ja1, reduceIte, je4]) (by simp +decide only [ja1, reduceIte]) (by simp +decide only [ja1, reduceIte]) (by simp +decide only [ja1, reduceIte]) (by simp +decide only [ja1, reduceIte]) c3 c4 c5 fin
 obtain ⟨R0, m1, H', m2, m3⟩ := main
 exact ⟨H', m2, m1.trans m3⟩
noncomputable abbrev cRG1 : Code := .seq (.seq (rF Tryz.f9 6) (.cond (.tmp 20) .skip (.exit 0))) (.block 1 (.seq (rF Tryz.f9 7) (.seq (.seq (rF Tryz.f9 8) (.cond (.tmp 28) (.seq (rF Tryz.f9 9) .ret) .skip)) (.seq (rF Tryz.f9 10) (rF Tryz.f9 11)))))
theorem TkRow.ext {H H' : Heap} {v : Value} {ts : List Tk} {lo : Nat} (h : TkRow H v ts lo) (x : Ext H H') : TkRow H' v ts lo := by
 rcases h with o | ⟨o1, q, o2, o3, o4⟩
 · exact .inl o
 · exact .inr ⟨o1, q, o2, x.keep _ _ o3, o4⟩
theorem j4z {H : Heap} {a : Option Addr} {s : List UInt8} {c : Nat} (h : Brow H a s) : convertA PP 22 9 (.slice a s.length c) H = some (.string ⟨⟨s⟩⟩, H) := by
 simp only [convertA, und34, undStr, undU8, h.bts.str]
theorem j9l {H : Heap} {v : Value} {ts : List Tk} {lo q1 : Nat} (ho : TkRow H v ts lo) (hf : Fresh H) (hlo : lo ≤ H.next) (tk : Tk) (hq : H.get q1 = some ⟨tk.cells, true, 5, none, false⟩) (hn : ts.length ≤ 1048576) :
   ∃ v' H', appendA PP #[33, 33] v (.slice (some ⟨q1, 0, none⟩) 1 1) H = some (v', H') ∧ TkRow H' v' (ts ++ [tk]) lo ∧ (∀ z w, H.get z = some w → (v = .slice (some ⟨z, 0, none⟩) ts.length ts.length → False) → H'.get z = some w) ∧ H.next ≤ H'.next ∧ Fresh H' := by
 obtain ⟨i, h1, h2, h3⟩ := infoT
 have src : srcCells H 5 (.slice (some ⟨q1, 0, none⟩) 1 1) = some (1, tk.cells) := by simp [srcCells, look, hq, Tk.cells]
 have hA : appendA PP #[33, 33] v (.slice (some ⟨q1, 0, none⟩) 1 1) H = app H 5 48 v 1 tk.cells := by
   simp only [appendA]
   simp [h1, h2, h3, zeroT29, src]
 rw [hA]
 have al : ∀ (G : Heap) (cells : List Value), Fresh G → Fresh (G.alloc 5 cells) := fun G cells hG z hz => by
   have hz' : G.next + 1 ≤ z := hz
   rw [Heap.get_alloc, if_neg (by omega)]; exact hG z (by omega)
 have lt : ∀ z w, H.get z = some w → z < H.next := fun z w hz => by
   by_cases c : H.next ≤ z
   · rw [hf z c] at hz; cases hz
   · omega
 rcases ho with ⟨rfl, rfl⟩ | ⟨hne, q, rfl, hg, hlq⟩
 · refine ⟨_, _, by simp only [app]; rw [if_neg (by decide), if_pos (by decide)]; rfl, .inr ⟨by simp, H.next, rfl, ?_, hlo⟩, fun z w hg _ => ?_, Nat.le_succ _, al _ _ hf⟩
   · rw [Heap.get_alloc, if_pos rfl]; simp
   · have := lt z w hg
     rw [Heap.get_alloc, if_neg (by omega)]; exact hg
 · have hlen : ts.length ≠ 0 := by simpa using hne
   have hl5 := jo5 ts
   have hlk : look H ⟨q, 0, none⟩ = some ⟨ts.flatMap Tk.cells, true, 5, none, false⟩ := by simp [look, hg]
   have hp : tk.cells.all Value.oneCell' = true := rfl
   have fd : Fresh (H.drop q) := fun z hz => by
     have hz' : H.next ≤ z := hz
     rw [Heap.get_drop]; split
     · rfl
     · exact hf z hz'
   refine ⟨_, (H.drop q).alloc 5 ((ts ++ [tk]).flatMap Tk.cells), ?_, .inr ⟨by simp, H.next, rfl, ?_, hlo⟩, fun z w hg no => ?_, Nat.le_succ _, al (H.drop q) _ fd⟩
   · simp only [app, hlk]
     rw [if_pos ⟨trivial, trivial, by simp only [Nat.zero_add]; rw [hl5]; exact Nat.le_refl _, hp, by unfold most; omega, by unfold most; omega⟩, if_neg (by omega), if_pos (by first | omega | (simp; omega))]
     have e1 : (List.drop 0 (ts.flatMap Tk.cells)).take (ts.length * 5) = ts.flatMap Tk.cells := by rw [List.drop_zero, ← hl5, List.take_length]
     simp only [e1, mkRow, List.flatMap_append, List.length_append, List.length_cons, List.length_nil]
     have e2 : List.flatMap Tk.cells [tk] = tk.cells := by simp
     rw [e2]; rfl
   · rw [Heap.get_alloc]; exact if_pos rfl
   · have := lt z w hg
     have hzq : ¬ z = q := fun e => no (by rw [e])
     rw [Heap.get_alloc, if_neg (by show ¬ z = H.next; omega), Heap.get_drop, if_neg hzq]; exact hg
theorem code9 : codeOf Tryz.f9 = .seq (rF Tryz.f9 0) (.seq (.seq (rF Tryz.f9 1) (.cond (.tmp 12) (.seq (rF Tryz.f9 2) .ret) .skip)) (.seq (rF Tryz.f9 3) (.seq (rF Tryz.f9 4) (.seq (rF Tryz.f9 5) (.seq (.block 0 (.loop cRG1)) (.seq (rF Tryz.f9 12) .ret)))))) := by kernel_rfl
section
variable {N : Nat} {hk : Hook} {d : Nat} {H0 : Heap} {s : List UInt8} {Q : R → Prop} {k : KOE}
theorem yz1 (K : HkR hk) (hG : Ext GE H0) (hsm : s.length ≤ 1048576) (hN : s.length + 100 < N) :
   ∀ (f i m : Nat) (_ : i ≤ s.length) (_ : s.length ≤ i + f) (_ : f < m) {H : Heap} {E : Env} {v : Value} {ts : List Tk} (_ : Ext H0 H) (_ : TkRow H v ts H0.next) (_ : ts.length ≤ i) (_ : E 5 = .string ⟨⟨s⟩⟩) (_ : E 6 = v) (_ : E 7 = .int .i64 (skipTo s (s.length - i) i : Int))
     (_ : (toksI s (f + 1) i).2 = none → ∀ E' H' v', E' 6 = v' → Ext H0 H' → TkRow H' v' (ts ++ (toksI s (f + 1) i).1) H0.next → Q (k (.exit 0) E' [] H'))
     (_ : ∀ e : Nat, (toksI s (f + 1) i).2 = some e → ∀ E' H', E' 2 = .slice none 0 0 → E' 3 = .int .i64 (e : Int) → E' 4 = .int .i64 60 → Ext H0 H' → Q (k .ret E' [] H')),
     Q (loopE (execG PP XX (CG N hk (d + 3)) N noPr cRG1 none) m E [] H k) := by
 intro f
 induction f with
 | zero =>
   intro i m hi hf hm H E v ts x hr hts e5 e6 e7 hx hy
   obtain ⟨m, rfl⟩ : ∃ q, m = q + 1 := ⟨m - 1, by omega⟩
   have g := jo7 s (s.length - i) i hi
   have hlt : decide ((skipTo s (s.length - i) i : Int) < (s.length : Int)) = false := decide_eq_false (by omega)
   have ht : toksI s (0 + 1) i = ([], none) := by rw [toksI, if_neg (by omega)]
   rw [ht] at hx
   rw [ja5]
   have l6 := tl (rgn Tryz.f9 6)
   conv at l6 => rhs; simp only [rgn, oA, codeOf, Tryz.f9, gS, gN, reduceIte, Nat.reduceEqDiff, tA]
   simp +decide only [↓uR.o, dG.o, ja1, reduceIte, ↓ja0 l6, e5, e7, jb5, hlt]
   exact hx rfl _ H v (by simp +decide only [ja1, reduceIte, e6]) x (by rw [List.append_nil]; exact hr)
 | succ f ih =>
   intro i m hi hf hm H E v ts x hr hts e5 e6 e7 hx hy
   obtain ⟨m, rfl⟩ : ∃ q, m = q + 1 := ⟨m - 1, by omega⟩
   have g := jo7 s (s.length - i) i hi
   rw [ja5]
   have q0 : ∀ (u v : Value), extractA (.tuple #[u, v]) 0 = some u := fun _ _ => rfl
   have q1 : ∀ (u v : Value), extractA (.tuple #[u, v]) 1 = some v := fun _ _ => rfl
   by_cases hp : skipTo s (s.length - i) i < s.length
   · have hlt : decide ((skipTo s (s.length - i) i : Int) < (s.length : Int)) = true := decide_eq_true (by omega)
     obtain ⟨H1, x1, hlex⟩ := yf7 (N := N) (hk := hk) (d := d) K (hG.trans x) hp hsm (by omega)
     have xa : Ext H1 (H1.alloc 1 [.int .i64 0, .int .u64 0, .string .empty, .int .i64 0, .int .i64 0]) := Ext.alloc x1.fresh 1 _
     have ga : (H1.alloc 1 [.int .i64 0, .int .u64 0, .string .empty, .int .i64 0, .int .i64 0]).get H1.next = some (tok 0 0 .empty 0 0) := by rw [Heap.get_alloc]; exact if_pos rfl
     have lL := lX6 Tryz.f9 6 7 8 9 10 11
     conv at lL in (occs := *) (rq _ _) => all_goals simp only [rX, oA, Tryz.f9, dL.o, reduceIte, Nat.reduceEqDiff]
     obtain ⟨l6, l7, l8, l9, l10, l11⟩ := lL
     cases hq : lexI s (skipTo s (s.length - i) i) with
     | bad e =>
       have ht : toksI s (f + 1 + 1) i = ([], some e) := by rw [toksI, if_pos hp, hq]
       rw [ht] at hy
       have hv : lexV (.bad e) = .tuple #[.agg #[.int .i64 0, .int .u64 0, .string .empty, .int .i64 0, .int .i64 0], .int .i64 (e : Int)] := rfl
       rw [hq, hv] at hlex
       have hge : decide ((e : Int) ≥ 0) = true := decide_eq_true (by omega)
       simp +decide only [↓uR.o, dG.o, ja1, jb1, reduceIte, ↓ja0 l6, ↓ja0 l7, ↓ja0 l8, ↓ja0 l9, e5, e7, jb5, hlt, ja3 Tryz.func30 rfl rfl hlex, q0, q1, jm1, jj9 ga, hge]
       exact hy e rfl _ _ (by simp +decide only [ja1, reduceIte]) (by simp +decide only [ja1, reduceIte]) (by simp +decide only [ja1, reduceIte]) ((x.trans x1).trans (xa.set (Nat.le_refl _) x1.fresh (by show H1.next < H1.next + 1; omega) _))
     | good tk =>
       obtain ⟨f1, f2, f3⟩ := j4p hp hq
       have ht : toksI s (f + 1 + 1) i = (tk :: (toksI s (f + 1) tk.to_).1, (toksI s (f + 1) tk.to_).2) := by rw [toksI, if_pos hp, hq]
       rw [ht] at hx hy
       have hv : lexV (.good tk) = .tuple #[.agg #[.int .i64 tk.kind, .int .u64 tk.n, .string tk.w, .int .i64 (tk.from_ : Int), .int .i64 (tk.to_ : Int)], .int .i64 (-1)] := rfl
       rw [hq, hv] at hlex
       have hge : decide ((-1 : Int) ≥ 0) = false := rfl
       have x2 : Ext H1 ((H1.alloc 1 [.int .i64 0, .int .u64 0, .string .empty, .int .i64 0, .int .i64 0]).set H1.next (tok tk.kind tk.n tk.w (tk.from_ : Int) (tk.to_ : Int))) := xa.set (Nat.le_refl _) x1.fresh (by show H1.next < H1.next + 1; omega) _
       have g2 : ((H1.alloc 1 [.int .i64 0, .int .u64 0, .string .empty, .int .i64 0, .int .i64 0]).set H1.next (tok tk.kind tk.n tk.w (tk.from_ : Int) (tk.to_ : Int))).get H1.next = some (tok tk.kind tk.n tk.w (tk.from_ : Int) (tk.to_ : Int)) := jc6 _ _ _
       have m2 : H1.next < ((H1.alloc 1 [.int .i64 0, .int .u64 0, .string .empty, .int .i64 0, .int .i64 0]).set H1.next (tok tk.kind tk.n tk.w (tk.from_ : Int) (tk.to_ : Int))).next := by show H1.next < H1.next + 1; omega
       generalize hH2 : (H1.alloc 1 [.int .i64 0, .int .u64 0, .string .empty, .int .i64 0, .int .i64 0]).set H1.next (tok tk.kind tk.n tk.w (tk.from_ : Int) (tk.to_ : Int)) = H2 at *
       have x3 : Ext H2 (H2.alloc 5 [.int .i64 tk.kind, .int .u64 tk.n, .string tk.w, .int .i64 (tk.from_ : Int), .int .i64 (tk.to_ : Int)]) := Ext.alloc x2.fresh 5 _
       have g3 : (H2.alloc 5 [.int .i64 tk.kind, .int .u64 tk.n, .string tk.w, .int .i64 (tk.from_ : Int), .int .i64 (tk.to_ : Int)]).get H2.next = some ⟨tk.cells, true, 5, none, false⟩ := by rw [Heap.get_alloc, if_pos rfl]; rfl
       have xx := ((x.trans x1).trans x2).trans x3
       -- the row, and the cell of the lexeme, lie apart
       have hr3 : TkRow (H2.alloc 5 [.int .i64 tk.kind, .int .u64 tk.n, .string tk.w, .int .i64 (tk.from_ : Int), .int .i64 (tk.to_ : Int)]) v ts H0.next := hr.ext ((x1.trans x2).trans x3)
       obtain ⟨v', H7, a1, a2, a3, a4, a5⟩ := j9l hr3 x3.fresh xx.next tk g3 (by omega)
       have xh : Ext H0 H7 := ⟨Nat.le_trans xx.next a4, fun z w hz => by
         have hz0 : z < H0.next := by
           by_cases cz : H0.next ≤ z
           · rw [hG.fresh z cz] at hz; cases hz
           · omega
         exact a3 z w (xx.keep z w hz) (fun q => by
           rcases hr with o | ⟨o1, q', o2, o3, o4⟩
           · rw [o.2] at q; cases q
           · rw [o2] at q
             simp only [Value.slice.injEq, Option.some.injEq, Addr.mk.injEq] at q
             omega), a5⟩
       have g7 : H7.get H1.next = some (tok tk.kind tk.n tk.w (tk.from_ : Int) (tk.to_ : Int)) := a3 _ _ (x3.keep _ _ g2) (fun q => by
           rcases hr with o | ⟨o1, q', o2, o3, o4⟩
           · rw [o.2] at q; cases q
           · rw [o2] at q
             simp only [Value.slice.injEq, Option.some.injEq, Addr.mk.injEq] at q
             have hq' : q' = H1.next := q.1.1
             rw [hq'] at o3
             have := x1.next
             rw [x.fresh H1.next this] at o3
             cases o3)
       have hbl := j01 (N := N) (hk := hk) (d := d + 2) (H := H7) (s := s) K.nil f3 (by omega) (by omega)
       simp +decide only [↓uR.o, dG.o, ja1, jb1, reduceIte, ↓ja0 l6, ↓ja0 l7, ↓ja0 l8, ↓ja0 l10, ↓ja0 l11, e5, e6, e7, jb5, hlt, ja3 Tryz.func30 rfl rfl hlex, q0, q1, jm1, jj9 ga, hH2, dF, ju0 g2, j10, j0t, a1, tf4, jn4 g7, ja3 Tryz.func29 rfl rfl hbl]
       refine ih tk.to_ m f3 (by omega) (by omega) xh a2 (by simp only [List.length_append, List.length_cons, List.length_nil]; omega) (by simp +decide only [ja1, reduceIte, e5]) (by simp +decide only [ja1, reduceIte, e6]) (by simp +decide only [ja1, reduceIte, e7]) (fun hn E2 H3 v2 z1 z2 z3 => hx hn E2 H3 v2 z1 z2 ?_) hy
       rw [List.append_assoc] at z3
       exact z3
   · have hlt : decide ((skipTo s (s.length - i) i : Int) < (s.length : Int)) = false := decide_eq_false (by omega)
     have ht : toksI s (f + 1 + 1) i = ([], none) := by rw [toksI, if_neg hp]
     rw [ht] at hx
     have l6 := tl (rgn Tryz.f9 6)
     conv at l6 => rhs; simp only [rgn, oA, codeOf, Tryz.f9, gS, gN, reduceIte, Nat.reduceEqDiff, tA]
     simp +decide only [↓uR.o, dG.o, ja1, reduceIte, ↓ja0 l6, e5, e7, jb5, hlt]
     exact hx rfl _ H v (by simp +decide only [ja1, reduceIte, e6]) x (by rw [List.append_nil]; exact hr)
end
theorem j40 {N : Nat} {hk : Hook} {d : Nat} {H0 : Heap} {a : Option Addr} {c : Nat} {s : List UInt8} (K : HkR hk) (hG : Ext GE H0) (hr : Brow H0 a s) (hN : s.length + 100 < N) (hs : s.length ≤ 1048576) :
   ∃ H', Ext H0 H' ∧ ∃ v e q, CG N hk (d + 4) 9 #[.slice a s.length c] H0 = some (.ret (.tuple #[v, .int .i64 e, .int .i64 q]), H') ∧
     (((toksI s (s.length + 1) 0).2 = none ∧ TkRow H' v (toksI s (s.length + 1) 0).1 H0.next ∧ e = 0 ∧ q = 0) ∨ (∃ w : Nat, (toksI s (s.length + 1) 0).2 = some w ∧ v = .slice none 0 0 ∧ e = (w : Int) ∧ q = 60)) := by
 have main : ∃ R0 : R, CG N hk (d + 4) 9 #[.slice a s.length c] H0 = R0 ∧ ∃ H', Ext H0 H' ∧ ∃ v e q, R0 = some (.ret (.tuple #[v, .int .i64 e, .int .i64 q]), H') ∧
     (((toksI s (s.length + 1) 0).2 = none ∧ TkRow H' v (toksI s (s.length + 1) 0).1 H0.next ∧ e = 0 ∧ q = 0) ∨ (∃ w : Nat, (toksI s (s.length + 1) 0).2 = some w ∧ v = .slice none 0 0 ∧ e = (w : Int) ∧ q = 60)) := by
   refine ⟨_, jb6 (K.nil _ _ _ rfl) Tryz.func9 (c := codeOf Tryz.f9) rfl rfl rfl (pr := noPr) rfl, ?_⟩
   rw [code9]
   generalize hF : finE PP Tryz.f9 = F
   have hgt : decide ((s.length : Int) > 1048576) = false := decide_eq_false (by omega)
   have hcv := j4z (c := c) hr
   have hbl : CG N hk (d + 3) 29 #[.string ⟨⟨s⟩⟩, .int .i64 0] H0 = some (.ret (.int .i64 (skipTo s (s.length - 0) 0 : Int)), H0) := j01 (d := d + 2) (i := 0) K.nil (Nat.zero_le _) (by omega) (by omega)
   have lL := lX7 Tryz.f9 0 1 2 3 4 5 12
   conv at lL in (occs := *) (rq _ _) => all_goals simp only [rX, oA, Tryz.f9, dL.o, reduceIte, Nat.reduceEqDiff]
   obtain ⟨l0, l1, l2, l3, l4, l5, l12⟩ := lL
   simp +decide only [↓uR.o, dG.o, ja1, reduceIte, ↓ja0 l0, ↓ja0 l1, ↓ja0 l3, ↓ja0 l4, ↓ja0 l5, ↓jb4, ja6 (ts := #[22]) rfl und34, hgt, hcv, ja3 Tryz.func29 rfl rfl hbl]
   refine yz1 (d := d) (s := s) (H0 := H0) (v := .slice none 0 0) (ts := []) (Q := fun x => ∃ H', Ext H0 H' ∧ ∃ v e q, x = some (.ret (.tuple #[v, .int .i64 e, .int .i64 q]), H') ∧ (((toksI s (s.length + 1) 0).2 = none ∧ TkRow H' v (toksI s (s.length + 1) 0).1 H0.next ∧ e = 0 ∧ q = 0) ∨ (∃ w : Nat, (toksI s (s.length + 1) 0).2 = some w ∧ v = .slice none 0 0 ∧ e = (w : Int) ∧ q = 60)))
     K hG hs hN s.length 0 N (Nat.zero_le _) (by omega) (by omega) ⟨Nat.le_refl _, fun _ _ h => h, hG.fresh⟩ (.inl ⟨rfl, rfl⟩) (Nat.le_refl _) ?_ ?_ ?_ (fun hn E' H' v' e6 x h => ?_) (fun e he E' H' e2 e3 e4 x => ?_)
   · simp +decide only [ja1, reduceIte]
   · simp +decide only [ja1, reduceIte]
   · simp +decide only [ja1, reduceIte]
   · simp +decide only [↓uR.o, dG.o, ja1, reduceIte, ↓ja0 l12, e6]
     refine ⟨H', x, v', 0, 0, ?_, .inl ⟨hn, h, rfl, rfl⟩⟩
     rw [← hF, jb0 (l := [v', .int .i64 0, .int .i64 0]) (by simp +decide [Tryz.f9, resE, ja1])]
     rfl
   · simp +decide only [dG.o]
     refine ⟨H', x, .slice none 0 0, (e : Int), 60, ?_, .inr ⟨e, he, rfl, rfl, rfl⟩⟩
     rw [← hF, jb0 (l := [.slice none 0 0, .int .i64 (e : Int), .int .i64 60]) (by simp +decide [Tryz.f9, resE, e2, e3, e4])]
     rfl
 obtain ⟨R0, m1, H', m2, v, e, q, m3, m4⟩ := main
 exact ⟨H', m2, v, e, q, m1.trans m3, m4⟩
end Go.Am
namespace Go.Am
variable {P : Program} {t : TypeId}
theorem j7r {u : TypeDesc} (h : P.underlying t = some u) : pureRun P (Go.underlying t) = some u := by
 simp [Go.underlying, jd3, jo6, jd7, h]
theorem ys4 (d : Nat) {k k' : IntKind} (a b : Int) (h : P.underlying t = some (.int k')) : pureRun P (Op.equalIn (d + 1) t (.int k a) (.int k b)) = some (a == b) := by
 simp [Op.equalIn, jd3, j7r h, jd7]
theorem y02 (d : Nat) (a b : ByteArray) (h : P.underlying t = some .string) : pureRun P (Op.equalIn (d + 1) t (.string a) (.string b)) = some (a == b) := by
 simp [Op.equalIn, jd3, j7r h, jd7]
theorem yf8 (d : Nat) (t : TypeId) (xs ys : Array Value) (ht : P.underlying t = some (.struct (P.fieldsOf t))) (hp : P.stoodInHeld t = false) :
   pureRun P (Op.equalIn (d + 1) t (.agg xs) (.agg ys)) = pureRun P (Op.eqFields d xs ys (P.fieldsOf t).toList) := by
 simp only [Op.equalIn, jd3, j7r ht, Option.bind_some, jo6, hp, Bool.false_eq_true, if_false]
 rw [← Array.forIn_toList]
 generalize (P.fieldsOf t).toList = fs
 clear ht
 induction fs with
 | nil => simp [Op.eqFields, jd7]
 | cons f fs ih =>
   simp only [List.forIn_cons, Op.eqFields, jd3]
   split
   · simp only [jd3]
     generalize pureRun P (part f.type xs f.offset) = r1
     cases r1 with
     | none => rfl
     | some a =>
       simp only [Option.bind_some]
       generalize pureRun P (part f.type ys f.offset) = r2
       cases r2 with
       | none => rfl
       | some b =>
         simp only [Option.bind_some]
         generalize pureRun P (Op.equalIn d f.type a b) = r3
         cases r3 with
         | none => rfl
         | some r =>
           cases r
           · simp [jd7]
           · simp [jd7]
             simpa [jd3] using ih
   · simp only [jd7, Option.bind_some]
     simpa [jd3] using ih
theorem y03 {b : Bool} (ha : aggT P t = some b) : pureRun P (isAgg t) = some b := by
 unfold aggT at ha
 split at ha
 all_goals first
   | (rename_i h; simp [isAgg, jd3, j7r h, jd7]; injection ha with ha; exact ha.symm)
   | cases ha
theorem j09 {cs : Array Value} {off : Nat} {v : Value} (ha : aggT P t = some false) (hv : cs[off]? = some v) : pureRun P (part t cs off) = some v := by
 simp [part, jd3, y03 ha, hv, jd7]
theorem fieldsTok : PP.fieldsOf 42 = #[{ name := "Kind", type := 3, offset := 0, embedded := false, tag := "", pkgPath := "", byteOffset := 0 }, { name := "N", type := 40, offset := 1, embedded := false, tag := "", pkgPath := "", byteOffset := 8 }, { name := "S", type := 9, offset := 2, embedded := false, tag := "", pkgPath := "", byteOffset := 16 }, { name := "At", type := 3, offset := 3, embedded := false, tag := "", pkgPath := "", byteOffset := 32 }, { name := "End", type := 3, offset := 4, embedded := false, tag := "", pkgPath := "", byteOffset := 40 }] := by kernel_rfl
theorem undTok : PP.underlying 42 = some (.struct (PP.fieldsOf 42)) := by kernel_rfl
theorem stoodTok : PP.stoodInHeld 42 = false := by kernel_rfl
theorem undI : PP.underlying 3 = some (.int .i64) := Tryz.underlying3
theorem undU : PP.underlying 40 = some (.int .u64) := Tryz.underlying40
theorem aggI : aggT PP 3 = some false := by decide +kernel
theorem aggU : aggT PP 40 = some false := by decide +kernel
theorem j41 (o1 o2 : Operand) (k n f e : Int) (w : ByteArray) : binA PP .neq 42 o1 o2 (.agg #[.int .i64 k, .int .u64 n, .string w, .int .i64 f, .int .i64 e]) (.agg #[.int .i64 k, .int .u64 n, .string w, .int .i64 f, .int .i64 e]) = some (.bool false) := by
 unfold binA
 rw [if_pos (by simp [ground, atomic])]
 have heq : pureRun PP (Op.equalIn 10000 42 (.agg #[.int .i64 k, .int .u64 n, .string w, .int .i64 f, .int .i64 e]) (.agg #[.int .i64 k, .int .u64 n, .string w, .int .i64 f, .int .i64 e])) = some true := by
   have p0 : ∀ c : Value, pureRun PP (part 3 #[.int .i64 k, .int .u64 n, .string w, .int .i64 f, .int .i64 e] 0) = some (.int .i64 k) := fun _ => j09 aggI rfl
   have p1 : pureRun PP (part 40 #[.int .i64 k, .int .u64 n, .string w, .int .i64 f, .int .i64 e] 1) = some (.int .u64 n) := j09 aggU rfl
   have p2 : pureRun PP (part 9 #[.int .i64 k, .int .u64 n, .string w, .int .i64 f, .int .i64 e] 2) = some (.string w) := j09 aggS rfl
   have p3 : pureRun PP (part 3 #[.int .i64 k, .int .u64 n, .string w, .int .i64 f, .int .i64 e] 3) = some (.int .i64 f) := j09 aggI rfl
   have p4 : pureRun PP (part 3 #[.int .i64 k, .int .u64 n, .string w, .int .i64 f, .int .i64 e] 4) = some (.int .i64 e) := j09 aggI rfl
   have p0 := p0 undef
   have hw : (w == w) = true := by
     obtain ⟨⟨x⟩⟩ := w
     show ((⟨x⟩ : Array UInt8) == ⟨x⟩) = true
     simp
   rw [yf8 9999 42 _ _ undTok stoodTok, fieldsTok]
   simp only [Op.eqFields]
   simp [jd3, p0, p1, p2, p3, p4, ys4 9998 _ _ undI, ys4 9998 _ _ undU, y02 9998 _ _ undStr, jd7, hw]
 simp only [eqGuard, jd3, binOp, Op.equal, Op.maxDepth]
 simp [jd3, jo6, jd7, heq]
end Go.Am
