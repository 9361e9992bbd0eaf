/- The reference: an integer. -/
import Derived.Test.YtohmeeglehopiaaGreatDoorM11
open Go.Proofs
namespace Go.Am
set_option maxRecDepth 100000
theorem jk8 {P : Program} {t : TypeId} {x y : Operand} {i : IntKind} {a b : Int} : binA P .mul t x y (.int i a) (.int i b) = some (.int i (i.wrap (a * b))) := by simp [binA, ground, atomic, eqGuard, binOp, Op.intArith]; rfl
theorem jk9 {P : Program} {t : TypeId} {x y : Operand} {i : IntKind} {a b : Int} (h : b ≠ 0) : binA P .quo t x y (.int i a) (.int i b) = some (.int i (i.wrap (a.tdiv b))) := by simp [binA, ground, atomic, eqGuard, binOp, Op.intDiv, h]; rfl
theorem quo1024 : IntKind.u64.wrap (Int.tdiv 18446744073709551615 1024) = 18014398509481983 := by decide
theorem quo1048576 : IntKind.u64.wrap (Int.tdiv 18446744073709551615 1048576) = 17592186044415 := by decide
theorem yw9 (x : Int) (H : Heap) : convertA PP 3 40 (.int .i64 x) H = some (.int .u64 (IntKind.u64.wrap x), H) := by kernel_rfl
theorem yx0 {s : List UInt8} (h : 1 < s.length) : indexA PP 9 (.string ⟨⟨s⟩⟩) (.int .i64 1) = some (.int .u8 ((s.getD 1 0).toNat : Int)) := by
 have := jc5 (s := s) (i := 1) h
 rw [show s.getD 1 0 = s[1] by simp [List.getD, h]]
 exact this
def OutI (r : IR) (E' : Env) : Prop := match r with
 | .bad e => E' 2 = .int .u64 0 ∧ E' 3 = .int .i64 (e : Int)
 | .good n _ => E' 2 = .int .u64 (n : Int) ∧ E' 3 = .int .i64 (-1)
theorem j6h {r : List UInt8} {i n : Nat} (hw : ∀ j, j < r.length → isW r j = true) (hi : i < r.length) : endI r i n = .bad i := by rw [endI, hw i hi]; rfl
theorem jp1 {r : List UInt8} {i : Nat} {q : Int} (hi : ¬ i < r.length) : isI r i q = false := by simp [isI]; omega
theorem yx1 {r : List UInt8} {i n : Nat} (hi : ¬ i < r.length) : endI r i n = .good n i := by rw [endI, isW, jp1 hi, jp1 hi]; rfl
theorem code50 : codeOf Tryz.f50 = .seq (rF Tryz.f50 0) (.seq (rF Tryz.f50 1) (.seq (rF Tryz.f50 2) (.seq (.seq (rF Tryz.f50 3) (.cond (.tmp 20) (.seq (rF Tryz.f50 4) (.seq (.block 0 (.loop (.seq (.seq (rF Tryz.f50 5) (.cond (.tmp 31) .skip (.exit 0))) (.block 1 (.seq (.seq (rF Tryz.f50 6) (.cond (.tmp 33) (.seq (rF Tryz.f50 7) .ret) .skip)) (.seq (rF Tryz.f50 8) (rF Tryz.f50 9))))))) (.seq (rF Tryz.f50 10) (.cond (.tmp 46) (.seq (rF Tryz.f50 11) .ret) .skip)))) (.seq (.block 2 (.loop (.seq (.seq (rF Tryz.f50 12) (.cond (.tmp 56) .skip (.exit 2))) (.block 3 (.seq (rF Tryz.f50 13) (.seq (.seq (rF Tryz.f50 14) (.cond (.tmp 66) (.seq (rF Tryz.f50 15) .ret) .skip)) (.seq (rF Tryz.f50 16) (rF Tryz.f50 17)))))))) (.seq (rF Tryz.f50 18) (.cond (.tmp 75) (.seq (rF Tryz.f50 19) .ret) .skip))))) (.seq (.seq (rF Tryz.f50 20) (.cond (.tmp 91) (.seq (rF Tryz.f50 21) (.seq (.seq (rF Tryz.f50 22) (.cond (.tmp 95) (rF Tryz.f50 23) .skip)) (.seq (.seq (rF Tryz.f50 24) (.cond (.tmp 99) (.seq (rF Tryz.f50 25) .ret) .skip)) (.seq (rF Tryz.f50 26) (rF Tryz.f50 27))))) .skip)) (.seq (.seq (rF Tryz.f50 28) (.cond (.tmp 109) (.seq (rF Tryz.f50 29) .ret) .skip)) (.seq (rF Tryz.f50 30) .ret)))))) := by kernel_rfl
theorem jz3 : ((rgn Tryz.f50 3)[3]?).bind (·.dst) = some 11 := by kernel_rfl
theorem jz4 : ((rgn Tryz.f50 3)[8]?).bind (·.dst) = some 16 := by kernel_rfl
theorem jz5 : ((rgn Tryz.f50 5)[4]?).bind (·.dst) = some 25 := by kernel_rfl
theorem ju8 : ((rgn Tryz.f50 12)[4]?).bind (·.dst) = some 51 := by kernel_rfl
theorem jm3 : ((rgn Tryz.f50 20)[4]?).bind (·.dst) = some 80 := by kernel_rfl
theorem jm4 : ((rgn Tryz.f50 20)[9]?).bind (·.dst) = some 85 := by kernel_rfl
section
theorem j7i {K : Kf} {N : Nat} {H : Heap} {r : List UInt8} {i n : Nat} {E : Env} {Q : R → Prop} {k : KOE} (e0 : E 0 = .string ⟨⟨r⟩⟩) (e4 : E 4 = .int .u64 (n : Int)) (e5 : E 5 = .int .i64 (i : Int)) (hsm : r.length < 9223372036854775000) (hi : i ≤ r.length) (hn : n < m64) (hw : ∀ j, j < r.length → isW r j = true) (hx : ∀ E', OutI (endI r i n) E' → Q (k .ret E' [] H)) : Q (execG PP XX K N noPr (.seq (.seq (rF Tryz.f50 28) (.cond (.tmp 109) (.seq (rF Tryz.f50 29) .ret) .skip)) (.seq (rF Tryz.f50 30) .ret)) none E [] H k) := by
 have lL := lX3 Tryz.f50 28 29 30
 conv at lL in (occs := *) (rq _ _) => all_goals simp only [rX, oA, Tryz.f50, dL.o, reduceIte, Nat.reduceEqDiff]
 obtain ⟨l28, l29, l30⟩ := lL
 by_cases h : i < r.length
 · have hlt : decide ((i : Int) < (r.length : Int)) = true := decide_eq_true (by omega)
   rw [j6h hw h] at hx
   simp +decide only [↓uR.o, dG.o, ja1, reduceIte, ↓ja0 l28, ↓ja0 l29, e0, e5, jb5, hlt]
   exact hx _ ⟨by simp +decide only [ja1, reduceIte], by simp +decide only [ja1, reduceIte]⟩
 · have hlt : decide ((i : Int) < (r.length : Int)) = false := decide_eq_false (by omega)
   rw [yx1 h] at hx
   simp +decide only [↓uR.o, dG.o, ja1, reduceIte, ↓ja0 l28, ↓ja0 l30, e0, e4, e5, jb5, hlt]
   exact hx _ ⟨by simp +decide only [ja1, reduceIte], by simp +decide only [ja1, reduceIte]⟩
theorem yr1 {K : Kf} {N : Nat} {H : Heap} {r : List UInt8} {i n : Nat} {E : Env} {Q : R → Prop} {k : KOE} (e0 : E 0 = .string ⟨⟨r⟩⟩) (e4 : E 4 = .int .u64 (n : Int)) (e5 : E 5 = .int .i64 (i : Int)) (hsm : r.length < 9223372036854775000) (hi : i ≤ r.length) (hn : n < m64) (hw : ∀ j, j < r.length → isW r j = true) (hx : ∀ E', OutI (sufI r i n) E' → Q (k .ret E' [] H)) : Q (execG PP XX K N noPr (.seq (.seq (rF Tryz.f50 20) (.cond (.tmp 91) (.seq (rF Tryz.f50 21) (.seq (.seq (rF Tryz.f50 22) (.cond (.tmp 95) (rF Tryz.f50 23) .skip)) (.seq (.seq (rF Tryz.f50 24) (.cond (.tmp 99) (.seq (rF Tryz.f50 25) .ret) .skip)) (.seq (rF Tryz.f50 26) (rF Tryz.f50 27))))) .skip)) (.seq (.seq (rF Tryz.f50 28) (.cond (.tmp 109) (.seq (rF Tryz.f50 29) .ret) .skip)) (.seq (rF Tryz.f50 30) .ret))) none E [] H k) := by
 have hm : m64 = 18446744073709551616 := by decide
 have w : IntKind.i64.wrap ((i : Int) + 1) = ((i + 1 : Nat) : Int) := by rw [ja4 (by omega) (by omega)]; omega
 have lL := lX8 Tryz.f50 20 21 22 23 24 25 26 27
 conv at lL in (occs := *) (rq _ _) => all_goals simp only [rX, oA, Tryz.f50, dL.o, reduceIte, Nat.reduceEqDiff]
 obtain ⟨l20, l21, l22, l23, l24, l25, l26, l27⟩ := lL
 by_cases h : i < r.length
 · have hlt : decide ((i : Int) < (r.length : Int)) = true := decide_eq_true (by omega)
   have hix := jc5 (s := r) h
   have hgd := je7 r h
   by_cases c75 : r[i] = 75
   · have h4 : isI r i 4 = true := by rw [isI, hgd, c75, decide_eq_true h]; decide +kernel
     rw [sufI, h4, if_pos rfl, hgd, if_neg (by rw [c75]; decide), if_pos c75] at hx
     have z75 : ((r[i].toNat : Int) == 75) = true := (ja7 r[i] 75).trans (by rw [c75]; rfl)
     have z77 : ((r[i].toNat : Int) == 77) = false := (ja7 r[i] 77).trans (by rw [c75]; rfl)
     rw [mulI] at hx
     by_cases ov : n * 1024 < m64
     · have hgt : decide ((n : Int) > 18014398509481983) = false := decide_eq_false (by omega)
       have wm : IntKind.u64.wrap ((n : Int) * 1024) = ((n * 1024 : Nat) : Int) := by rw [jd9 (by omega) (by omega)]; omega
       rw [if_pos ov] at hx
       simp +decide only [↓uR.o, dG.o, ja1, reduceIte, Bool.not_false, ↓ja0 l20, ↓ja0 l21, ↓ja0 l22, ↓ja0 l24, ↓ja0 l26, ↓ja0 l27, ↓jb8 _ 4 true 80 _ jm3, ↓r_no _ 9 false 85 _ jm4, e0, e4, e5, jb5, hlt, hix, z75, z77, jk9, quo1024, hgt, jk8, wm, w]
       refine j7i (n := n * 1024) (i := i + 1) (by simp +decide only [ja1, reduceIte, e0]) (by simp +decide only [ja1, reduceIte, e4]) (by simp +decide only [ja1, reduceIte, e5]) hsm (by omega) ov hw hx
     · have hgt : decide ((n : Int) > 18014398509481983) = true := decide_eq_true (by omega)
       rw [if_neg ov] at hx
       simp +decide only [↓uR.o, dG.o, ja1, reduceIte, Bool.not_false, ↓ja0 l20, ↓ja0 l21, ↓ja0 l22, ↓ja0 l24, ↓ja0 l25, ↓jb8 _ 4 true 80 _ jm3, ↓r_no _ 9 false 85 _ jm4, e0, e4, e5, jb5, hlt, hix, z75, z77, jk9, quo1024, hgt]
       exact hx _ ⟨by simp +decide only [ja1, reduceIte], by simp +decide only [ja1, reduceIte]⟩
   by_cases c77 : r[i] = 77
   · have h4 : isI r i 4 = true := by rw [isI, hgd, c77, decide_eq_true h]; decide +kernel
     rw [sufI, h4, if_pos rfl, hgd, if_pos c77] at hx
     have z75 : ((r[i].toNat : Int) == 75) = false := (ja7 r[i] 75).trans (by rw [c77]; rfl)
     have z77 : ((r[i].toNat : Int) == 77) = true := (ja7 r[i] 77).trans (by rw [c77]; rfl)
     rw [mulI] at hx
     by_cases ov : n * 1048576 < m64
     · have hgt : decide ((n : Int) > 17592186044415) = false := decide_eq_false (by omega)
       have wm : IntKind.u64.wrap ((n : Int) * 1048576) = ((n * 1048576 : Nat) : Int) := by rw [jd9 (by omega) (by omega)]; omega
       rw [if_pos ov] at hx
       simp +decide only [↓uR.o, dG.o, ja1, reduceIte, ↓ja0 l20, ↓ja0 l21, ↓ja0 l22, ↓ja0 l23, ↓ja0 l24, ↓ja0 l26, ↓ja0 l27, ↓jb8 _ 4 true 80 _ jm3, ↓jb8 _ 9 false 85 _ jm4, e0, e4, e5, jb5, hlt, hix, z75, z77, jk9, quo1048576, hgt, jk8, wm, w]
       refine j7i (n := n * 1048576) (i := i + 1) (by simp +decide only [ja1, reduceIte, e0]) (by simp +decide only [ja1, reduceIte, e4]) (by simp +decide only [ja1, reduceIte, e5]) hsm (by omega) ov hw hx
     · have hgt : decide ((n : Int) > 17592186044415) = true := decide_eq_true (by omega)
       rw [if_neg ov] at hx
       simp +decide only [↓uR.o, dG.o, ja1, reduceIte, ↓ja0 l20, ↓ja0 l21, ↓ja0 l22, ↓ja0 l23, ↓ja0 l24, ↓ja0 l25, ↓jb8 _ 4 true 80 _ jm3, ↓jb8 _ 9 false 85 _ jm4, e0, e4, e5, jb5, hlt, hix, z75, z77, jk9, quo1048576, hgt]
       exact hx _ ⟨by simp +decide only [ja1, reduceIte], by simp +decide only [ja1, reduceIte]⟩
   have hs : sufI r i n = .bad i := by
     rw [sufI, hgd, if_neg c77, if_neg c75, j6h hw h]; split <;> rfl
   have he : endI r i n = .bad i := j6h hw h
   rw [hs, ← he] at hx
   have z75 : ((r[i].toNat : Int) == 75) = false := (ja7 r[i] 75).trans (decide_eq_false c75)
   have z77 : ((r[i].toNat : Int) == 77) = false := (ja7 r[i] 77).trans (decide_eq_false c77)
   simp +decide only [↓uR.o, dG.o, ja1, reduceIte, ↓ja0 l20, ↓jb8 _ 4 true 80 _ jm3, ↓jb8 _ 9 false 85 _ jm4, e0, e5, jb5, hlt, hix, z75, z77]
   refine j7i (n := n) (i := i) (by simp +decide only [ja1, reduceIte, e0]) (by simp +decide only [ja1, reduceIte, e4]) (by simp +decide only [ja1, reduceIte, e5]) hsm (by omega) hn hw hx
 · have hlt : decide ((i : Int) < (r.length : Int)) = false := decide_eq_false (by omega)
   have hs : sufI r i n = endI r i n := by rw [sufI, jp1 h]; rfl
   rw [hs] at hx
   simp +decide only [↓uR.o, dG.o, ja1, reduceIte, Bool.not_true, ↓ja0 l20, ↓r_no _ 4 true 80 _ jm3, ↓r_un _ 9 false 85 _ jm4, e0, e5, jb5, hlt]
   refine j7i (n := n) (i := i) (by simp +decide only [ja1, reduceIte, e0]) (by simp +decide only [ja1, reduceIte, e4]) (by simp +decide only [ja1, reduceIte, e5]) hsm (by omega) hn hw hx
end
section
variable {N : Nat} {hk : Hook} {d : Nat} {H : Heap} {r : List UInt8} {Q : R → Prop} {k : KOE}
theorem yr2 (K : HkR hk) (hG : Ext GE H) (hsm : r.length < 9223372036854775000) :
   ∀ (f i n m : Nat) (_ : i + f = r.length) (_ : f < m) (_ : n < m64) {E : Env} (_ : E 0 = .string ⟨⟨r⟩⟩) (_ : E 4 = .int .u64 (n : Int)) (_ : E 5 = .int .i64 (i : Int))
     (_ : ∀ e E', decI r f i n = .bad e → E' 2 = .int .u64 0 → E' 3 = .int .i64 (e : Int) → Q (k .ret E' [] H))
     (_ : ∀ i' n' E', decI r f i n = sufI r i' n' → i ≤ i' → i' ≤ r.length → n' < m64 → (isI r i 3 = true → i < i') → E' 0 = .string ⟨⟨r⟩⟩ → E' 4 = .int .u64 (n' : Int) → E' 5 = .int .i64 (i' : Int) → Q (k (.exit 2) E' [] H)),
     Q (loopE (execG PP XX (CG N hk (d + 1)) N noPr (.seq (.seq (rF Tryz.f50 12) (.cond (.tmp 56) .skip (.exit 2))) (.block 3 (.seq (rF Tryz.f50 13) (.seq (.seq (rF Tryz.f50 14) (.cond (.tmp 66) (.seq (rF Tryz.f50 15) .ret) .skip)) (.seq (rF Tryz.f50 16) (rF Tryz.f50 17)))))) none) m E [] H k)
 | 0, i, n, m + 1, hf, hm, hn, E, e0, e4, e5, hx, hy => by
   rw [ja5]
   have hi : ¬ i < r.length := by omega
   have hlt : decide ((i : Int) < (r.length : Int)) = false := decide_eq_false (by omega)
   have l12 := tl (rgn Tryz.f50 12)
   conv at l12 => rhs; simp only [rgn, oA, codeOf, Tryz.f50, gS, gN, reduceIte, Nat.reduceEqDiff, tA]
   simp +decide only [↓uR.o, dG.o, ja1, reduceIte, Bool.not_true, ↓ja0 l12, ↓r_no _ 4 true 51 _ ju8, e0, e5, jb5, hlt]
   exact hy i n _ rfl (Nat.le_refl _) (by omega) hn (fun h => by rw [jp1 hi] at h; cases h) (by simp +decide only [ja1, reduceIte, e0]) (by simp +decide only [ja1, reduceIte, e4]) (by simp +decide only [ja1, reduceIte, e5])
 | f + 1, i, n, m + 1, hf, hm, hn, E, e0, e4, e5, hx, hy => by
   rw [ja5]
   have hi : i < r.length := by omega
   have hlt : decide ((i : Int) < (r.length : Int)) = true := decide_eq_true (by omega)
   have hix := jc5 (s := r) hi
   have hgd := je7 r hi
   have w : IntKind.i64.wrap ((i : Int) + 1) = ((i + 1 : Nat) : Int) := by rw [ja4 (by omega) (by omega)]; omega
   have hd : CG N hk (d + 1) 48 #[.int .u8 (r[i].toNat : Int)] H = some (.ret (.bool (digN r[i].toNat)), H) := jc1 (K.dig r[i] H hG)
   rw [← jw8 hi] at hd
   have h64 : m64 = 18446744073709551616 := by decide
   have lL := lX6 Tryz.f50 12 13 14 15 16 17
   conv at lL in (occs := *) (rq _ _) => all_goals simp only [rX, oA, Tryz.f50, dL.o, reduceIte, Nat.reduceEqDiff]
   obtain ⟨l12, l13, l14, l15, l16, l17⟩ := lL
   cases h3 : isI r i 3 with
   | true =>
     rw [h3] at hd
     have hc : 48 ≤ r[i].toNat ∧ r[i].toNat ≤ 57 := by
       have := jw8 hi
       rw [h3] at this
       simpa [digN] using this.symm
     have hdg : dg r[i] = r[i].toNat - 48 := rfl
     have wd : IntKind.u8.wrap ((r[i].toNat : Int) - 48) = ((dg r[i] : Nat) : Int) := by rw [ju3 (by omega) (by omega)]; omega
     have wu : IntKind.u64.wrap ((dg r[i] : Nat) : Int) = ((dg r[i] : Nat) : Int) := jd9 (by omega) (by omega)
     have ws : IntKind.u64.wrap (18446744073709551615 - ((dg r[i] : Nat) : Int)) = 18446744073709551615 - ((dg r[i] : Nat) : Int) := jd9 (by omega) (by omega)
     have wq : IntKind.u64.wrap (Int.tdiv (18446744073709551615 - ((dg r[i] : Nat) : Int)) 10) = (18446744073709551615 - ((dg r[i] : Nat) : Int)) / 10 := by
       rw [Int.tdiv_eq_ediv_of_nonneg (by omega)]; exact jd9 (by omega) (by omega)
     by_cases ov : n * 10 + dg r[i] < m64
     · have hgt : decide ((n : Int) > (18446744073709551615 - ((dg r[i] : Nat) : Int)) / 10) = false := decide_eq_false (by omega)
       have w1 : IntKind.u64.wrap (10 * (n : Int)) = ((n * 10 : Nat) : Int) := by rw [jd9 (by omega) (by omega)]; omega
       have w2 : IntKind.u64.wrap (((n * 10 : Nat) : Int) + ((dg r[i] : Nat) : Int)) = ((n * 10 + dg r[i] : Nat) : Int) := by rw [jd9 (by omega) (by omega)]; omega
       have e : decI r (f + 1) i n = decI r f (i + 1) (n * 10 + dg r[i]) := yq3 h3 hgd ov
       rw [e] at hx hy
       simp +decide only [↓uR.o, dG.o, ja1, reduceIte, ↓ja0 l12, ↓ja0 l13, ↓ja0 l14, ↓ja0 l16, ↓ja0 l17, ↓jb8 _ 4 true 51 _ ju8, e0, e4, e5, jb5, hlt, hix, ja3 Tryz.func48 rfl rfl hd, wd, jn2, wu, ws, jk9, wq, hgt, jk8, w1, w2, w]
       refine yr2 K hG hsm f (i + 1) (n * 10 + dg r[i]) m (by omega) (by omega) ov (by simp +decide only [ja1, reduceIte, e0]) (by simp +decide only [ja1, reduceIte, e4]) (by simp +decide only [ja1, reduceIte, e5]) hx fun i' n' E' q1 q2 q3 q4 _ => hy i' n' E' q1 (by omega) q3 q4 (fun _ => by omega)
     · have hgt : decide ((n : Int) > (18446744073709551615 - ((dg r[i] : Nat) : Int)) / 10) = true := decide_eq_true (by omega)
       have e : decI r (f + 1) i n = .bad i := yq4 h3 hgd ov
       simp +decide only [↓uR.o, dG.o, ja1, reduceIte, ↓ja0 l12, ↓ja0 l13, ↓ja0 l14, ↓ja0 l15, ↓jb8 _ 4 true 51 _ ju8, e0, e4, e5, jb5, hlt, hix, ja3 Tryz.func48 rfl rfl hd, wd, jn2, wu, ws, jk9, wq, hgt]
       exact hx i _ e (by simp +decide only [ja1, reduceIte]) (by simp +decide only [ja1, reduceIte])
   | false =>
     rw [h3] at hd
     have e : decI r (f + 1) i n = sufI r i n := by rw [decI, h3]; rfl
     simp +decide only [↓uR.o, dG.o, ja1, reduceIte, ↓ja0 l12, ↓jb8 _ 4 true 51 _ ju8, e0, e5, jb5, hlt, hix, ja3 Tryz.func48 rfl rfl hd]
     exact hy i n _ e (Nat.le_refl _) (by omega) hn (fun h => by rw [h3] at h; cases h) (by simp +decide only [ja1, reduceIte, e0]) (by simp +decide only [ja1, reduceIte, e4]) (by simp +decide only [ja1, reduceIte, e5])
theorem j7j (u : UInt8) : (decide (hexT u.toNat < 16) == decide (rhN u.toNat ≥ 0) && (decide (rhN u.toNat < 0) || decide (hexT u.toNat = rhN u.toNat))) = true := jg8 (p := fun u => (decide (hexT u.toNat < 16) == decide (rhN u.toNat ≥ 0) && (decide (rhN u.toNat < 0) || decide (hexT u.toNat = rhN u.toNat)))) (by decide +kernel) u
theorem yf2 {u : UInt8} (h : hexT u.toNat < 16) : rhN u.toNat = hexT u.toNat := by
 have := j7j u
 simp only [Bool.and_eq_true, beq_iff_eq, Bool.or_eq_true, decide_eq_true_eq] at this
 have h1 : rhN u.toNat ≥ 0 := by have := this.1; rw [decide_eq_true h] at this; exact of_decide_eq_true this.symm
 rcases this.2 with q | q
 · omega
 · exact q.symm
theorem yf3 {u : UInt8} (h : ¬ hexT u.toNat < 16) : rhN u.toNat < 0 := by
 have := j7j u
 simp only [Bool.and_eq_true, beq_iff_eq] at this
 have h1 := this.1
 rw [decide_eq_false h] at h1
 have := of_decide_eq_false h1.symm
 omega
theorem yr3 (K : HkR hk) (hG : Ext GE H) (hsm : r.length < 9223372036854775000) :
   ∀ (f i n m : Nat) (_ : i + f = r.length) (_ : f < m) (_ : n < m64) {E : Env} (_ : E 0 = .string ⟨⟨r⟩⟩) (_ : E 4 = .int .u64 (n : Int)) (_ : E 5 = .int .i64 (i : Int))
     (_ : ∀ e E', hexI r 2 f i n = .bad e → E' 2 = .int .u64 0 → E' 3 = .int .i64 (e : Int) → Q (k .ret E' [] H))
     (_ : ∀ i' n' E', hexI r 2 f i n = endH r 2 i' n' → i ≤ i' → i' ≤ r.length → n' < m64 → E' 0 = .string ⟨⟨r⟩⟩ → E' 4 = .int .u64 (n' : Int) → E' 5 = .int .i64 (i' : Int) → Q (k (.exit 0) E' [] H)),
     Q (loopE (execG PP XX (CG N hk (d + 1)) N noPr (.seq (.seq (rF Tryz.f50 5) (.cond (.tmp 31) .skip (.exit 0))) (.block 1 (.seq (.seq (rF Tryz.f50 6) (.cond (.tmp 33) (.seq (rF Tryz.f50 7) .ret) .skip)) (.seq (rF Tryz.f50 8) (rF Tryz.f50 9))))) none) m E [] H k)
 | 0, i, n, m + 1, hf, hm, hn, E, e0, e4, e5, hx, hy => by
   rw [ja5]
   have hlt : decide ((i : Int) < (r.length : Int)) = false := decide_eq_false (by omega)
   have l5 := tl (rgn Tryz.f50 5)
   conv at l5 => rhs; simp only [rgn, oA, codeOf, Tryz.f50, gS, gN, reduceIte, Nat.reduceEqDiff, tA]
   simp +decide only [↓uR.o, dG.o, ja1, reduceIte, Bool.not_true, ↓ja0 l5, ↓r_no _ 4 true 25 _ jz5, e0, e5, jb5, hlt]
   exact hy i n _ rfl (Nat.le_refl _) (by omega) hn (by simp +decide only [ja1, reduceIte, e0]) (by simp +decide only [ja1, reduceIte, e4]) (by simp +decide only [ja1, reduceIte, e5])
 | f + 1, i, n, m + 1, hf, hm, hn, E, e0, e4, e5, hx, hy => by
   rw [ja5]
   have hi : i < r.length := by omega
   have hlt : decide ((i : Int) < (r.length : Int)) = true := decide_eq_true (by omega)
   have hix := jc5 (s := r) hi
   have hgd := je7 r hi
   have w : IntKind.i64.wrap ((i : Int) + 1) = ((i + 1 : Nat) : Int) := by rw [ja4 (by omega) (by omega)]; omega
   have hd : CG N hk (d + 1) 67 #[.int .u8 (r[i].toNat : Int)] H = some (.ret (.int .i64 (rhN r[i].toNat)), H) := jc1 (K.hex r[i] H hG)
   have h64 : m64 = 18446744073709551616 := by decide
   have lL := lX5 Tryz.f50 5 6 7 8 9
   conv at lL in (occs := *) (rq _ _) => all_goals simp only [rX, oA, Tryz.f50, dL.o, reduceIte, Nat.reduceEqDiff]
   obtain ⟨l5, l6, l7, l8, l9⟩ := lL
   by_cases h16 : hexT r[i].toNat < 16
   · have hnn := jn1 r[i].toNat
     rw [yf2 h16] at hd
     have hge : decide (hexT r[i].toNat ≥ 0) = true := decide_eq_true hnn
     have e : hexI r 2 (f + 1) i n = if n * 16 + (hexT r[i].toNat).toNat < m64 then hexI r 2 f (i + 1) (n * 16 + (hexT r[i].toNat).toNat) else .bad i := by rw [hexI, hgd, if_pos h16]
     rw [e] at hx hy
     generalize hexT r[i].toNat = g at *
     obtain ⟨g, rfl⟩ : ∃ q : Nat, g = (q : Int) := ⟨g.toNat, by omega⟩
     rw [Int.toNat_natCast] at hx hy
     by_cases ov : n * 16 + g < m64
     · have hgt : decide ((n : Int) > 1152921504606846975) = false := decide_eq_false (by omega)
       have w1 : IntKind.u64.wrap (16 * (n : Int)) = ((n * 16 : Nat) : Int) := by rw [jd9 (by omega) (by omega)]; omega
       have wu : IntKind.u64.wrap ((g : Nat) : Int) = ((g : Nat) : Int) := jd9 (by omega) (by omega)
       have w2 : IntKind.u64.wrap (((n * 16 : Nat) : Int) + ((g : Nat) : Int)) = ((n * 16 + g : Nat) : Int) := by rw [jd9 (by omega) (by omega)]; omega
       rw [if_pos ov] at hx hy
       simp +decide only [↓uR.o, dG.o, ja1, reduceIte, ↓ja0 l5, ↓ja0 l6, ↓ja0 l8, ↓ja0 l9, ↓jb8 _ 4 true 25 _ jz5, e0, e4, e5, jb5, hlt, hix, ja3 Tryz.func67 rfl rfl hd, hge, hgt, yw9, wu, jk8, w1, w2, w]
       refine yr3 K hG hsm f (i + 1) (n * 16 + g) m (by omega) (by omega) ov (by simp +decide only [ja1, reduceIte, e0]) (by simp +decide only [ja1, reduceIte, e4]) (by simp +decide only [ja1, reduceIte, e5]) hx fun i' n' E' q1 q2 q3 q4 => hy i' n' E' q1 (by omega) q3 q4
     · have hgt : decide ((n : Int) > 1152921504606846975) = true := decide_eq_true (by omega)
       rw [if_neg ov] at hx
       simp +decide only [↓uR.o, dG.o, ja1, reduceIte, ↓ja0 l5, ↓ja0 l6, ↓ja0 l7, ↓jb8 _ 4 true 25 _ jz5, e0, e4, e5, jb5, hlt, hix, ja3 Tryz.func67 rfl rfl hd, hge, hgt]
       exact hx i _ rfl (by simp +decide only [ja1, reduceIte]) (by simp +decide only [ja1, reduceIte])
   · have e : hexI r 2 (f + 1) i n = endH r 2 i n := by rw [hexI, hgd, if_neg h16]
     have hge : decide (rhN r[i].toNat ≥ 0) = false := decide_eq_false (by have := yf3 h16; omega)
     simp +decide only [↓uR.o, dG.o, ja1, reduceIte, ↓ja0 l5, ↓jb8 _ 4 true 25 _ jz5, e0, e5, jb5, hlt, hix, ja3 Tryz.func67 rfl rfl hd, hge]
     exact hy i n _ e (Nat.le_refl _) (by omega) hn (by simp +decide only [ja1, reduceIte, e0]) (by simp +decide only [ja1, reduceIte, e4]) (by simp +decide only [ja1, reduceIte, e5])
end
def intV : IR → Value
 | .bad e => .tuple #[.int .u64 0, .int .i64 (e : Int)]
 | .good n _ => .tuple #[.int .u64 (n : Int), .int .i64 (-1)]
theorem yf4 {N : Nat} {hk : Hook} {d : Nat} {H : Heap} {r : List UInt8} (K : HkR hk) (hG : Ext GE H) (hsm : r.length < 9223372036854775000) (hN : r.length < N) (hw : ∀ j, j < r.length → isW r j = true) (h3 : isI r 0 3 = true) :
   CG N hk (d + 2) 50 #[.string ⟨⟨r⟩⟩] H = some (.ret (intV (intI r 0)), H) := by
 have h0 : 0 < r.length := jr2 h3
 have fin : ∀ (R : IR) (E' : Env), OutI R E' → finE PP Tryz.f50 .ret E' [] H = some (.ret (intV R), H) := fun R E' h => by
   cases R with
   | bad e =>
     obtain ⟨a, b⟩ := h
     rw [jb0 (l := [.int .u64 0, .int .i64 (e : Int)]) (by simp +decide [Tryz.f50, resE, a, b])]; rfl
   | good n e =>
     obtain ⟨a, b⟩ := h
     rw [jb0 (l := [.int .u64 (n : Int), .int .i64 (-1)]) (by simp +decide [Tryz.f50, resE, a, b])]; rfl
 have main : ∃ R0 : R, CG N hk (d + 2) 50 #[.string ⟨⟨r⟩⟩] H = R0 ∧ R0 = some (.ret (intV (intI r 0)), H) := by
   refine ⟨_, jb6 (K.nil _ _ _ rfl) Tryz.func50 (c := codeOf Tryz.f50) rfl rfl rfl (pr := noPr) rfl, ?_⟩
   rw [code50]
   generalize hF : finE PP Tryz.f50 = F
   rw [hF] at fin
   have hix0 := jh4 h0
   have z48 : (((r.getD 0 0).toNat : Int) == 48) = decide (r.getD 0 0 = 48) := ja7 _ 48
   have z120 : (((r.getD 1 0).toNat : Int) == 120) = decide (r.getD 1 0 = 120) := ja7 _ 120
   have ndec : ¬ (r.getD 0 0 = 48 ∧ 1 < r.length ∧ r.getD 1 0 = 120) → intI r 0 = decI r r.length 0 0 := fun h => by
     rw [intI]; exact if_neg h
   generalize hsf : (.seq (.seq (rF Tryz.f50 20) (.cond (.tmp 91) (.seq (rF Tryz.f50 21) (.seq (.seq (rF Tryz.f50 22) (.cond (.tmp 95) (rF Tryz.f50 23) .skip)) (.seq (.seq (rF Tryz.f50 24) (.cond (.tmp 99) (.seq (rF Tryz.f50 25) .ret) .skip)) (.seq (rF Tryz.f50 26) (rF Tryz.f50 27))))) .skip)) (.seq (.seq (rF Tryz.f50 28) (.cond (.tmp 109) (.seq (rF Tryz.f50 29) .ret) .skip)) (.seq (rF Tryz.f50 30) .ret)) : Code) = sf
   have hdec : ∀ (E : Env), ¬ (r.getD 0 0 = 48 ∧ 1 < r.length ∧ r.getD 1 0 = 120) → E 0 = .string ⟨⟨r⟩⟩ → E 4 = .int .u64 ((0 : Nat) : Int) → E 5 = .int .i64 ((0 : Nat) : Int) →
       execG PP XX (CG N hk (d + 1)) N noPr (.seq (.block 2 (.loop (.seq (.seq (rF Tryz.f50 12) (.cond (.tmp 56) .skip (.exit 2))) (.block 3 (.seq (rF Tryz.f50 13) (.seq (.seq (rF Tryz.f50 14) (.cond (.tmp 66) (.seq (rF Tryz.f50 15) .ret) .skip)) (.seq (rF Tryz.f50 16) (rF Tryz.f50 17)))))))) (.seq (rF Tryz.f50 18) (.cond (.tmp 75) (.seq (rF Tryz.f50 19) .ret) .skip))) none E [] H (thenE (execG PP XX (CG N hk (d + 1)) N noPr sf none) F) = some (.ret (intV (intI r 0)), H) := fun E hno q0 q4 q5 => by
     have l18 := tl (rgn Tryz.f50 18)
     conv at l18 => rhs; simp only [rgn, oA, codeOf, Tryz.f50, gS, gN, reduceIte, Nat.reduceEqDiff, tA]
     simp +decide only [↓uG.o, ↓jb4]
     rw [ndec hno]
     refine yr2 (d := d) (Q := fun x => x = some (.ret (intV (decI r r.length 0 0)), H)) K hG hsm r.length 0 0 N (by omega) hN (by decide) q0 q4 q5 (fun e E' he a b => ?_) fun i' n' E' he l1 l2 l3 l4 e0 e4 e5 => ?_
     · simp +decide only [dG.o]
       rw [he]
       exact fin (.bad e) E' ⟨a, b⟩
     · have hne : ((i' : Int) == 0) = false := by have := l4 h3; simp; omega
       simp +decide only [↓uR.o, dG.o, ja1, reduceIte, ↓ja0 l18, e5, hne]
       subst hsf
       rw [he]
       exact yr1 (Q := fun x => x = some (.ret (intV (sufI r i' n')), H)) (by simp +decide only [ja1, reduceIte, e0]) (by simp +decide only [ja1, reduceIte, e4]) (by simp +decide only [ja1, reduceIte, e5]) hsm l2 l3 hw fun E2 h => fin _ E2 h
   have lL := lX7 Tryz.f50 0 1 2 3 4 10 11
   conv at lL in (occs := *) (rq _ _) => all_goals simp only [rX, oA, Tryz.f50, dL.o, reduceIte, Nat.reduceEqDiff]
   obtain ⟨l0, l1, l2, l3, l4, l10, l11⟩ := lL
   generalize hdc : (.seq (.block 2 (.loop (.seq (.seq (rF Tryz.f50 12) (.cond (.tmp 56) .skip (.exit 2))) (.block 3 (.seq (rF Tryz.f50 13) (.seq (.seq (rF Tryz.f50 14) (.cond (.tmp 66) (.seq (rF Tryz.f50 15) .ret) .skip)) (.seq (rF Tryz.f50 16) (rF Tryz.f50 17)))))))) (.seq (rF Tryz.f50 18) (.cond (.tmp 75) (.seq (rF Tryz.f50 19) .ret) .skip)) : Code) = dc at *
   by_cases hl : 1 < r.length
   · have hgt : decide ((r.length : Int) > 1) = true := decide_eq_true (by omega)
     have hix1 := yx0 hl
     by_cases c48 : r.getD 0 0 = 48
     · rw [decide_eq_true c48] at z48
       by_cases c120 : r.getD 1 0 = 120
       · rw [decide_eq_true c120] at z120
         simp +decide only [↓uR.o, dG.o, ja1, reduceIte, ↓ja0 l0, ↓ja0 l1, ↓ja0 l2, ↓ja0 l3, ↓ja0 l4, ↓jb8 _ 3 true 11 _ jz3, ↓jb8 _ 8 true 16 _ jz4, jb5, hgt, hix0, hix1, z48, z120, ↓jb4]
         have hhex : intI r 0 = hexI r 2 (r.length - 2) 2 0 := by rw [intI]; exact if_pos ⟨c48, hl, c120⟩
         rw [hhex]
         refine yr3 (d := d) (Q := fun x => x = some (.ret (intV (hexI r 2 (r.length - 2) 2 0)), H)) K hG hsm (r.length - 2) 2 0 N (by omega) (by omega) (by decide) ?_ ?_ ?_ (fun e E' he a b => ?_) fun i' n' E' he l1 l2 l3 e0 e4 e5 => ?_
         · simp +decide only [ja1, reduceIte, jc7]
         · simp +decide only [ja1, reduceIte]; rfl
         · simp +decide only [ja1, reduceIte]; rfl
         · simp +decide only [dG.o]
           rw [he]
           exact fin (.bad e) E' ⟨a, b⟩
         · by_cases h2 : i' = 2
           · have hq : ((i' : Int) == 2) = true := by simp; omega
             simp +decide only [↓uR.o, dG.o, ja1, reduceIte, ↓ja0 l10, ↓ja0 l11, e5, hq]
             rw [he, endH, if_pos h2, h2]
             refine fin (.bad 2) _ ⟨?_, ?_⟩
             · simp +decide only [ja1, reduceIte]
             · simp +decide only [ja1, reduceIte]; rfl
           · have hq : ((i' : Int) == 2) = false := by simp; omega
             simp +decide only [↓uR.o, dG.o, ja1, reduceIte, ↓ja0 l10, e5, hq]
             subst hsf
             rw [he, endH, if_neg h2]
             exact yr1 (Q := fun x => x = some (.ret (intV (sufI r i' n')), H)) (by simp +decide only [ja1, reduceIte, e0]) (by simp +decide only [ja1, reduceIte, e4]) (by simp +decide only [ja1, reduceIte, e5]) hsm l2 l3 hw fun E2 h => fin _ E2 h
       · rw [decide_eq_false c120] at z120
         simp +decide only [↓uR.o, dG.o, ja1, reduceIte, ↓ja0 l0, ↓ja0 l1, ↓ja0 l2, ↓ja0 l3, ↓jb8 _ 3 true 11 _ jz3, ↓jb8 _ 8 true 16 _ jz4, jb5, hgt, hix0, hix1, z48, z120]
         refine hdec _ (fun h => c120 h.2.2) ?_ ?_ ?_
         · simp +decide only [ja1, reduceIte, jc7]
         · simp +decide only [ja1, reduceIte]; rfl
         · simp +decide only [ja1, reduceIte]; rfl
     · rw [decide_eq_false c48] at z48
       simp +decide only [↓uR.o, dG.o, ja1, reduceIte, Bool.not_true, ↓ja0 l0, ↓ja0 l1, ↓ja0 l2, ↓ja0 l3, ↓jb8 _ 3 true 11 _ jz3, ↓r_no _ 8 true 16 _ jz4, jb5, hgt, hix0, z48]
       refine hdec _ (fun h => c48 h.1) ?_ ?_ ?_
       · simp +decide only [ja1, reduceIte, jc7]
       · simp +decide only [ja1, reduceIte]; rfl
       · simp +decide only [ja1, reduceIte]; rfl
   · have hgt : decide ((r.length : Int) > 1) = false := decide_eq_false (by omega)
     simp +decide only [↓uR.o, dG.o, ja1, reduceIte, Bool.not_true, ↓ja0 l0, ↓ja0 l1, ↓ja0 l2, ↓ja0 l3, ↓r_no _ 3 true 11 _ jz3, ↓r_no _ 8 true 16 _ jz4, jb5, hgt]
     refine hdec _ (fun h => hl h.2.1) ?_ ?_ ?_
     · simp +decide only [ja1, reduceIte, jc7]
     · simp +decide only [ja1, reduceIte]; rfl
     · simp +decide only [ja1, reduceIte]; rfl
 obtain ⟨R0, m1, m2⟩ := main
 exact m1.trans m2
noncomputable abbrev cRD10 : Code := .seq (rF Tryz.f53 21) (.cond (.tmp 66) .skip (rF Tryz.f53 22))
noncomputable abbrev cRD9 : Code := .seq (rF Tryz.f53 8) (.cond (.tmp 34) (.seq (rF Tryz.f53 9) .ret) .skip)
noncomputable abbrev cRD8 : Code := .seq (rF Tryz.f53 6) (.cond (.tmp 24) (.seq (rF Tryz.f53 7) .ret) .skip)
noncomputable abbrev cRD7 : Code := .seq (rF Tryz.f53 3) (.cond (.tmp 17) (.seq (rF Tryz.f53 4) .ret) .skip)
noncomputable abbrev cRD6 : Code := .seq (rF Tryz.f53 29) (.cond (.tmp 95) (.seq (rF Tryz.f53 30) .ret) .skip)
noncomputable abbrev cRD5 : Code := .seq (rF Tryz.f53 13) (.cond (.tmp 48) (.seq (rF Tryz.f53 14) .ret) .skip)
noncomputable abbrev cRD4 : Code := .seq (rF Tryz.f53 11) (.cond (.tmp 40) (.seq (rF Tryz.f53 12) (.exit 1)) .skip)
noncomputable abbrev cRD3 : Code := .seq cRD6 (rF Tryz.f53 31)
noncomputable abbrev cRD2 : Code := .block 4 cRD3
noncomputable abbrev cRD1 : Code := .seq cRD2 (rF Tryz.f53 28)
structure RS (H0 H : Heap) (v : Value) (o : List UInt8) : Prop where
 ext : Ext H0 H
 fr : Fresh H0
 out : BRow H v o H0.next
theorem RS.add {H0 H : Heap} {v : Value} {o : List UInt8} (h : RS H0 H v o) (u : UInt8) (hn : o.length ≤ 1048576) :
   ∃ v' H', appendA PP #[22, 22] v (.slice (some ⟨H.next, 0, none⟩) 1 1) (H.alloc 1 [.int .u8 (u.toNat : Int)]) = some (v', H') ∧ RS H0 H' v' (o ++ [u]) := by
 have hn0 := h.ext.next
 have q1 : (H.alloc 1 [.int .u8 (u.toNat : Int)]).get H.next = some ⟨[f8 u], true, 1, none, false⟩ := by rw [Heap.get_alloc, if_pos rfl]; rfl
 have f1 : Fresh (H.alloc 1 [.int .u8 (u.toNat : Int)]) := (Ext.alloc h.ext.fresh 1 _).fresh
 have b1 : BRow (H.alloc 1 [.int .u8 (u.toNat : Int)]) v o H0.next := by
   rcases h.out with o1 | ⟨o1, q, o2, o3, o4⟩
   · exact .inl o1
   · exact .inr ⟨o1, q, o2, (Ext.alloc h.ext.fresh 1 _).keep _ _ o3, o4⟩
 obtain ⟨v', H', a1, a2, a3, a4, a5⟩ := j0x (lo := H0.next) b1 f1 (by show H0.next ≤ H.next + 1; omega) u q1 hn
 refine ⟨v', H', a1, ⟨⟨?_, fun z w h2 => ?_, a5⟩, h.fr, a2⟩⟩
 · have n6 : H.next + 1 ≤ H'.next := a4
   omega
 · have hz : z < H0.next := by
     by_cases cz : H0.next ≤ z
     · rw [h.fr z cz] at h2; cases h2
     · omega
   exact a3 z w hz ((Ext.alloc h.ext.fresh 1 _).keep _ _ (h.ext.keep z w h2))
theorem jx8 {x y : Int} {b : Bool} (h : (x == y) = b) : (x != y) = !b := by rw [bne, h]
theorem dT {h : Decidable True} : @decide True h = true := decide_eq_true trivial
theorem dF {h : Decidable False} : @decide False h = false := decide_eq_false id
theorem yx2 (x : Int) (H : Heap) : convertA PP 3 5 (.int .i64 x) H = some (.int .u8 (IntKind.u8.wrap x), H) := by kernel_rfl
theorem code53 : codeOf Tryz.f53 = .seq (rF Tryz.f53 0) (.seq (rF Tryz.f53 1) (.seq (rF Tryz.f53 2) (.block 0 (.loop (.block 1 (.seq cRD7 (.seq (rF Tryz.f53 5) (.seq cRD8 (.seq cRD9 (.seq (rF Tryz.f53 10) (.seq cRD4 (.seq cRD5 (.seq (.seq (rF Tryz.f53 15) (.block 2 (.seq (rF Tryz.f53 17) (.cond (.tmp 56) (rF Tryz.f53 18) (.seq (rF Tryz.f53 19) (.cond (.tmp 61) (rF Tryz.f53 20) (.seq cRD10 (.cond (.tmp 66) (rF Tryz.f53 23) (.seq (rF Tryz.f53 24) (.cond (.tmp 75) (.seq (rF Tryz.f53 25) (.seq (.seq (rF Tryz.f53 26) (.block 3 (.loop (.seq (.seq (rF Tryz.f53 27) (.cond (.tmp 78) .skip (.exit 3))) cRD1)))) (.seq (rF Tryz.f53 32) (rF Tryz.f53 33)))) (.seq (rF Tryz.f53 16) .ret))))))))))) (rF Tryz.f53 34)))))))))))))) := by kernel_rfl
theorem ji3 : ((rgn Tryz.f53 8)[2]?).bind (·.dst) = some 31 := by kernel_rfl
theorem jm5 : ((rgn Tryz.f53 29)[6]?).bind (·.dst) = some 87 := by kernel_rfl
section
theorem y0w {N : Nat} {H0 H : Heap} {s : List UInt8} {i : Nat} {E : Env} {Q : R → Prop} {k : KOE} {hk : Hook} {d : Nat} {v : Value} {o : List UInt8} (h : RS H0 H v o) (e0 : E 0 = .string ⟨⟨s⟩⟩) (e7 : E 7 = v) (e8 : E 8 = .int .i64 ((i + 1 : Nat) : Int)) (hi : i < s.length) (hsm : s.length ≤ 1048576) (hj : ¬ i + 1 < s.length) (hx : ∀ E', E' 4 = .string ⟨#[]⟩ → E' 5 = .int .i64 ((i + 1 : Nat) : Int) → E' 6 = .int .i64 ((i + 1 : Nat) : Int) → Q (k .ret E' [] H)) :
   Q (execG PP XX (CG N hk (d + 1)) N noPr (.block 1 (.seq cRD7 (.seq (rF Tryz.f53 5) (.seq cRD8 (.seq cRD9 (.seq (rF Tryz.f53 10) (.seq cRD4 (.seq cRD5 (.seq (.seq (rF Tryz.f53 15) (.block 2 (.seq (rF Tryz.f53 17) (.cond (.tmp 56) (rF Tryz.f53 18) (.seq (rF Tryz.f53 19) (.cond (.tmp 61) (rF Tryz.f53 20) (.seq cRD10 (.cond (.tmp 66) (rF Tryz.f53 23) (.seq (rF Tryz.f53 24) (.cond (.tmp 75) (.seq (rF Tryz.f53 25) (.seq (.seq (rF Tryz.f53 26) (.block 3 (.loop (.seq (.seq (rF Tryz.f53 27) (.cond (.tmp 78) .skip (.exit 3))) cRD1)))) (.seq (rF Tryz.f53 32) (rF Tryz.f53 33)))) (.seq (rF Tryz.f53 16) .ret))))))))))) (rF Tryz.f53 34)))))))))) none E [] H k) := by
 have hlt : decide (((i + 1 : Nat) : Int) ≥ (s.length : Int)) = true := decide_eq_true (by omega)
 have lL := lX2 Tryz.f53 3 4
 conv at lL in (occs := *) (rq _ _) => all_goals simp only [rX, oA, Tryz.f53, dL.o, reduceIte, Nat.reduceEqDiff]
 obtain ⟨l3, l4⟩ := lL
 simp +decide only [↓uR.o, dG.o, ja1, reduceIte, ↓ja0 l3, ↓ja0 l4, e0, e8, jb5, hlt]
 exact hx _ (by simp +decide only [ja1, reduceIte]) (by simp +decide only [ja1, reduceIte]) (by simp +decide only [ja1, reduceIte])
theorem yn3 {N : Nat} {H0 H : Heap} {s : List UInt8} {i : Nat} {E : Env} {Q : R → Prop} {k : KOE} {hk : Hook} {d : Nat} {v : Value} {o : List UInt8} (h : RS H0 H v o) (e0 : E 0 = .string ⟨⟨s⟩⟩) (e7 : E 7 = v) (e8 : E 8 = .int .i64 ((i + 1 : Nat) : Int)) (hi : i < s.length) (hsm : s.length ≤ 1048576) (hj : i + 1 < s.length) (hc : s.getD (i + 1) 0 = 34) (hx : ∀ E', E' 4 = .string ⟨⟨o⟩⟩ → E' 5 = .int .i64 ((i + 2 : Nat) : Int) → E' 6 = .int .i64 (-1) → Q (k .ret E' [] H)) :
   Q (execG PP XX (CG N hk (d + 1)) N noPr (.block 1 (.seq cRD7 (.seq (rF Tryz.f53 5) (.seq cRD8 (.seq cRD9 (.seq (rF Tryz.f53 10) (.seq cRD4 (.seq cRD5 (.seq (.seq (rF Tryz.f53 15) (.block 2 (.seq (rF Tryz.f53 17) (.cond (.tmp 56) (rF Tryz.f53 18) (.seq (rF Tryz.f53 19) (.cond (.tmp 61) (rF Tryz.f53 20) (.seq cRD10 (.cond (.tmp 66) (rF Tryz.f53 23) (.seq (rF Tryz.f53 24) (.cond (.tmp 75) (.seq (rF Tryz.f53 25) (.seq (.seq (rF Tryz.f53 26) (.block 3 (.loop (.seq (.seq (rF Tryz.f53 27) (.cond (.tmp 78) .skip (.exit 3))) cRD1)))) (.seq (rF Tryz.f53 32) (rF Tryz.f53 33)))) (.seq (rF Tryz.f53 16) .ret))))))))))) (rF Tryz.f53 34)))))))))) none E [] H k) := by
 have hlt : decide (((i + 1 : Nat) : Int) ≥ (s.length : Int)) = false := decide_eq_false (by omega)
 have hix := jc5 (s := s) hj
 have hgd : s.getD (i + 1) 0 = s[i + 1] := by simp [List.getD, hj]
 have w1 : IntKind.i64.wrap (((i + 1 : Nat) : Int) + 1) = ((i + 2 : Nat) : Int) := by rw [ja4 (by omega) (by omega)]; omega
 rw [hgd] at hc
 have z34 : ((s[i + 1].toNat : Int) == 34) = true := (ja7 s[i + 1] 34).trans (decide_eq_true hc)
 have hcv := j7a h.out
 have lL := lX4 Tryz.f53 3 5 6 7
 conv at lL in (occs := *) (rq _ _) => all_goals simp only [rX, oA, Tryz.f53, dL.o, reduceIte, Nat.reduceEqDiff]
 obtain ⟨l3, l5, l6, l7⟩ := lL
 simp +decide only [↓uR.o, dG.o, ja1, reduceIte, ↓ja0 l3, ↓ja0 l5, ↓ja0 l6, ↓ja0 l7, e0, e7, e8, jb5, hlt, hix, w1, z34, hcv]
 exact hx _ (by simp +decide only [ja1, reduceIte]) (by simp +decide only [ja1, reduceIte]) (by simp +decide only [ja1, reduceIte])
theorem y0x {N : Nat} {H0 H : Heap} {s : List UInt8} {i : Nat} {E : Env} {Q : R → Prop} {k : KOE} {hk : Hook} {d : Nat} {v : Value} {o : List UInt8} (h : RS H0 H v o) (e0 : E 0 = .string ⟨⟨s⟩⟩) (e7 : E 7 = v) (e8 : E 8 = .int .i64 ((i + 1 : Nat) : Int)) (hi : i < s.length) (hsm : s.length ≤ 1048576) (hj : i + 1 < s.length) (hc : ¬ s.getD (i + 1) 0 = 34) (hr : (s.getD (i + 1) 0).toNat < 32 ∨ 126 < (s.getD (i + 1) 0).toNat) (hx : ∀ E', E' 4 = .string ⟨#[]⟩ → E' 5 = .int .i64 ((i + 1 : Nat) : Int) → E' 6 = .int .i64 ((i + 1 : Nat) : Int) → Q (k .ret E' [] H)) :
   Q (execG PP XX (CG N hk (d + 1)) N noPr (.block 1 (.seq cRD7 (.seq (rF Tryz.f53 5) (.seq cRD8 (.seq cRD9 (.seq (rF Tryz.f53 10) (.seq cRD4 (.seq cRD5 (.seq (.seq (rF Tryz.f53 15) (.block 2 (.seq (rF Tryz.f53 17) (.cond (.tmp 56) (rF Tryz.f53 18) (.seq (rF Tryz.f53 19) (.cond (.tmp 61) (rF Tryz.f53 20) (.seq cRD10 (.cond (.tmp 66) (rF Tryz.f53 23) (.seq (rF Tryz.f53 24) (.cond (.tmp 75) (.seq (rF Tryz.f53 25) (.seq (.seq (rF Tryz.f53 26) (.block 3 (.loop (.seq (.seq (rF Tryz.f53 27) (.cond (.tmp 78) .skip (.exit 3))) cRD1)))) (.seq (rF Tryz.f53 32) (rF Tryz.f53 33)))) (.seq (rF Tryz.f53 16) .ret))))))))))) (rF Tryz.f53 34)))))))))) none E [] H k) := by
 have hlt : decide (((i + 1 : Nat) : Int) ≥ (s.length : Int)) = false := decide_eq_false (by omega)
 have hix := jc5 (s := s) hj
 have hgd : s.getD (i + 1) 0 = s[i + 1] := by simp [List.getD, hj]
 have w1 : IntKind.i64.wrap (((i + 1 : Nat) : Int) + 1) = ((i + 2 : Nat) : Int) := by rw [ja4 (by omega) (by omega)]; omega
 rw [hgd] at hc hr
 have z34 : ((s[i + 1].toNat : Int) == 34) = false := (ja7 s[i + 1] 34).trans (decide_eq_false hc)
 have lL := lX5 Tryz.f53 3 5 6 8 9
 conv at lL in (occs := *) (rq _ _) => all_goals simp only [rX, oA, Tryz.f53, dL.o, reduceIte, Nat.reduceEqDiff]
 obtain ⟨l3, l5, l6, l8, l9⟩ := lL
 by_cases lo : s[i + 1].toNat < 32
 · have q32 : decide ((s[i + 1].toNat : Int) < 32) = true := decide_eq_true (by omega)
   simp +decide only [↓uR.o, dG.o, ja1, reduceIte, Bool.not_false, ↓ja0 l3, ↓ja0 l5, ↓ja0 l6, ↓ja0 l8, ↓ja0 l9, ↓r_no _ 2 false 31 _ ji3, e0, e8, jb5, hlt, hix, z34, q32]
   exact hx _ (by simp +decide only [ja1, reduceIte]) (by simp +decide only [ja1, reduceIte]) (by simp +decide only [ja1, reduceIte])
 · have q32 : decide ((s[i + 1].toNat : Int) < 32) = false := decide_eq_false (by omega)
   have q126 : decide ((s[i + 1].toNat : Int) > 126) = true := decide_eq_true (by omega)
   simp +decide only [↓uR.o, dG.o, ja1, reduceIte, ↓ja0 l3, ↓ja0 l5, ↓ja0 l6, ↓ja0 l8, ↓ja0 l9, ↓jb8 _ 2 false 31 _ ji3, e0, e8, jb5, hlt, hix, z34, q32, q126]
   exact hx _ (by simp +decide only [ja1, reduceIte]) (by simp +decide only [ja1, reduceIte]) (by simp +decide only [ja1, reduceIte])
theorem yx3 {N : Nat} {H0 H : Heap} {s : List UInt8} {i : Nat} {E : Env} {Q : R → Prop} {k : KOE} {hk : Hook} {d : Nat} {v : Value} {o : List UInt8} (h : RS H0 H v o) (e0 : E 0 = .string ⟨⟨s⟩⟩) (e7 : E 7 = v) (e8 : E 8 = .int .i64 ((i + 1 : Nat) : Int)) (hi : i < s.length) (hsm : s.length ≤ 1048576) (hj : i + 1 < s.length) (hc : ¬ s.getD (i + 1) 0 = 34) (hc2 : ¬ s.getD (i + 1) 0 = 92) (hr : ¬ ((s.getD (i + 1) 0).toNat < 32 ∨ 126 < (s.getD (i + 1) 0).toNat)) (hn : o.length ≤ 1048576) (hx : ∀ E' H' v', E' 0 = .string ⟨⟨s⟩⟩ → E' 7 = v' → E' 8 = .int .i64 ((i + 2 : Nat) : Int) → RS H0 H' v' (o ++ [s.getD (i + 1) 0]) → Q (k .norm E' [] H')) :
   Q (execG PP XX (CG N hk (d + 1)) N noPr (.block 1 (.seq cRD7 (.seq (rF Tryz.f53 5) (.seq cRD8 (.seq cRD9 (.seq (rF Tryz.f53 10) (.seq cRD4 (.seq cRD5 (.seq (.seq (rF Tryz.f53 15) (.block 2 (.seq (rF Tryz.f53 17) (.cond (.tmp 56) (rF Tryz.f53 18) (.seq (rF Tryz.f53 19) (.cond (.tmp 61) (rF Tryz.f53 20) (.seq cRD10 (.cond (.tmp 66) (rF Tryz.f53 23) (.seq (rF Tryz.f53 24) (.cond (.tmp 75) (.seq (rF Tryz.f53 25) (.seq (.seq (rF Tryz.f53 26) (.block 3 (.loop (.seq (.seq (rF Tryz.f53 27) (.cond (.tmp 78) .skip (.exit 3))) cRD1)))) (.seq (rF Tryz.f53 32) (rF Tryz.f53 33)))) (.seq (rF Tryz.f53 16) .ret))))))))))) (rF Tryz.f53 34)))))))))) none E [] H k) := by
 have hlt : decide (((i + 1 : Nat) : Int) ≥ (s.length : Int)) = false := decide_eq_false (by omega)
 have hix := jc5 (s := s) hj
 have hgd : s.getD (i + 1) 0 = s[i + 1] := by simp [List.getD, hj]
 have w1 : IntKind.i64.wrap (((i + 1 : Nat) : Int) + 1) = ((i + 2 : Nat) : Int) := by rw [ja4 (by omega) (by omega)]; omega
 rw [hgd] at hc hc2 hr hx
 have z34 : ((s[i + 1].toNat : Int) == 34) = false := (ja7 s[i + 1] 34).trans (decide_eq_false hc)
 have z92 : ((s[i + 1].toNat : Int) != 92) = true := jx8 ((ja7 s[i + 1] 92).trans (decide_eq_false hc2))
 have q32 : decide ((s[i + 1].toNat : Int) < 32) = false := decide_eq_false (by omega)
 have q126 : decide ((s[i + 1].toNat : Int) > 126) = false := decide_eq_false (by omega)
 obtain ⟨v', H', a1, a2⟩ := h.add s[i + 1] hn
 have lL := lX7 Tryz.f53 3 5 6 8 10 11 12
 conv at lL in (occs := *) (rq _ _) => all_goals simp only [rX, oA, Tryz.f53, dL.o, reduceIte, Nat.reduceEqDiff]
 obtain ⟨l3, l5, l6, l8, l10, l11, l12⟩ := lL
 simp +decide only [↓uR.o, dG.o, ja1, reduceIte, ↓ja0 l3, ↓ja0 l5, ↓ja0 l6, ↓ja0 l8, ↓ja0 l10, ↓ja0 l11, ↓ja0 l12, ↓jb8 _ 2 false 31 _ ji3, e0, e7, e8, jb5, hlt, hix, w1, z34, z92, q32, q126, bslice1, jf5, a1]
 exact hx _ H' v' (by simp +decide only [ja1, reduceIte, e0]) (by simp +decide only [ja1, reduceIte, e7]) (by simp +decide only [ja1, reduceIte, e8]) a2
theorem yx4 {N : Nat} {H0 H : Heap} {s : List UInt8} {i : Nat} {E : Env} {Q : R → Prop} {k : KOE} {hk : Hook} {d : Nat} {v : Value} {o : List UInt8} (h : RS H0 H v o) (e0 : E 0 = .string ⟨⟨s⟩⟩) (e7 : E 7 = v) (e8 : E 8 = .int .i64 ((i + 1 : Nat) : Int)) (hi : i < s.length) (hsm : s.length ≤ 1048576) (hj : i + 1 < s.length) (hj2 : ¬ i + 2 < s.length) (hc : s.getD (i + 1) 0 = 92) (hx : ∀ E', E' 4 = .string ⟨#[]⟩ → E' 5 = .int .i64 ((i + 2 : Nat) : Int) → E' 6 = .int .i64 ((i + 2 : Nat) : Int) → Q (k .ret E' [] H)) :
   Q (execG PP XX (CG N hk (d + 1)) N noPr (.block 1 (.seq cRD7 (.seq (rF Tryz.f53 5) (.seq cRD8 (.seq cRD9 (.seq (rF Tryz.f53 10) (.seq cRD4 (.seq cRD5 (.seq (.seq (rF Tryz.f53 15) (.block 2 (.seq (rF Tryz.f53 17) (.cond (.tmp 56) (rF Tryz.f53 18) (.seq (rF Tryz.f53 19) (.cond (.tmp 61) (rF Tryz.f53 20) (.seq cRD10 (.cond (.tmp 66) (rF Tryz.f53 23) (.seq (rF Tryz.f53 24) (.cond (.tmp 75) (.seq (rF Tryz.f53 25) (.seq (.seq (rF Tryz.f53 26) (.block 3 (.loop (.seq (.seq (rF Tryz.f53 27) (.cond (.tmp 78) .skip (.exit 3))) cRD1)))) (.seq (rF Tryz.f53 32) (rF Tryz.f53 33)))) (.seq (rF Tryz.f53 16) .ret))))))))))) (rF Tryz.f53 34)))))))))) none E [] H k) := by
 have hlt : decide (((i + 1 : Nat) : Int) ≥ (s.length : Int)) = false := decide_eq_false (by omega)
 have hix := jc5 (s := s) hj
 have hgd : s.getD (i + 1) 0 = s[i + 1] := by simp [List.getD, hj]
 have w1 : IntKind.i64.wrap (((i + 1 : Nat) : Int) + 1) = ((i + 2 : Nat) : Int) := by rw [ja4 (by omega) (by omega)]; omega
 rw [hgd] at hc
 have z34 : ((s[i + 1].toNat : Int) == 34) = false := (ja7 s[i + 1] 34).trans (by rw [hc]; rfl)
 have z92 : ((s[i + 1].toNat : Int) != 92) = false := jx8 ((ja7 s[i + 1] 92).trans (decide_eq_true hc))
 have q32 : decide ((s[i + 1].toNat : Int) < 32) = false := by rw [hc]; rfl
 have q126 : decide ((s[i + 1].toNat : Int) > 126) = false := by rw [hc]; rfl
 have hlt2 : decide (((i + 2 : Nat) : Int) ≥ (s.length : Int)) = true := decide_eq_true (by omega)
 have lL := lX8 Tryz.f53 3 5 6 8 10 11 13 14
 conv at lL in (occs := *) (rq _ _) => all_goals simp only [rX, oA, Tryz.f53, dL.o, reduceIte, Nat.reduceEqDiff]
 obtain ⟨l3, l5, l6, l8, l10, l11, l13, l14⟩ := lL
 simp +decide only [↓uR.o, dG.o, ja1, reduceIte, ↓ja0 l3, ↓ja0 l5, ↓ja0 l6, ↓ja0 l8, ↓ja0 l10, ↓ja0 l11, ↓ja0 l13, ↓ja0 l14, ↓jb8 _ 2 false 31 _ ji3, e0, e8, jb5, hlt, hix, w1, z34, z92, q32, q126, hlt2]
 exact hx _ (by simp +decide only [ja1, reduceIte]) (by simp +decide only [ja1, reduceIte]) (by simp +decide only [ja1, reduceIte])
theorem rt_n {N : Nat} {H0 H : Heap} {s : List UInt8} {i : Nat} {E : Env} {Q : R → Prop} {k : KOE} {hk : Hook} {d : Nat} {v : Value} {o : List UInt8} (h : RS H0 H v o) (e0 : E 0 = .string ⟨⟨s⟩⟩) (e7 : E 7 = v) (e8 : E 8 = .int .i64 ((i + 1 : Nat) : Int)) (hi : i < s.length) (hsm : s.length ≤ 1048576) (hj : i + 1 < s.length) (hj2 : i + 2 < s.length) (hc : s.getD (i + 1) 0 = 92) (hc2 : s.getD (i + 2) 0 = 110) (hn : o.length ≤ 1048576) (hx : ∀ E' H' v', E' 0 = .string ⟨⟨s⟩⟩ → E' 7 = v' → E' 8 = .int .i64 ((i + 3 : Nat) : Int) → RS H0 H' v' (o ++ [10]) → Q (k .norm E' [] H')) :
   Q (execG PP XX (CG N hk (d + 1)) N noPr (.block 1 (.seq cRD7 (.seq (rF Tryz.f53 5) (.seq cRD8 (.seq cRD9 (.seq (rF Tryz.f53 10) (.seq cRD4 (.seq cRD5 (.seq (.seq (rF Tryz.f53 15) (.block 2 (.seq (rF Tryz.f53 17) (.cond (.tmp 56) (rF Tryz.f53 18) (.seq (rF Tryz.f53 19) (.cond (.tmp 61) (rF Tryz.f53 20) (.seq cRD10 (.cond (.tmp 66) (rF Tryz.f53 23) (.seq (rF Tryz.f53 24) (.cond (.tmp 75) (.seq (rF Tryz.f53 25) (.seq (.seq (rF Tryz.f53 26) (.block 3 (.loop (.seq (.seq (rF Tryz.f53 27) (.cond (.tmp 78) .skip (.exit 3))) cRD1)))) (.seq (rF Tryz.f53 32) (rF Tryz.f53 33)))) (.seq (rF Tryz.f53 16) .ret))))))))))) (rF Tryz.f53 34)))))))))) none E [] H k) := by
 have hlt : decide (((i + 1 : Nat) : Int) ≥ (s.length : Int)) = false := decide_eq_false (by omega)
 have hix := jc5 (s := s) hj
 have hgd : s.getD (i + 1) 0 = s[i + 1] := by simp [List.getD, hj]
 have w1 : IntKind.i64.wrap (((i + 1 : Nat) : Int) + 1) = ((i + 2 : Nat) : Int) := by rw [ja4 (by omega) (by omega)]; omega
 rw [hgd] at hc
 have z34 : ((s[i + 1].toNat : Int) == 34) = false := (ja7 s[i + 1] 34).trans (by rw [hc]; rfl)
 have z92 : ((s[i + 1].toNat : Int) != 92) = false := jx8 ((ja7 s[i + 1] 92).trans (decide_eq_true hc))
 have q32 : decide ((s[i + 1].toNat : Int) < 32) = false := by rw [hc]; rfl
 have q126 : decide ((s[i + 1].toNat : Int) > 126) = false := by rw [hc]; rfl
 have hlt2 : decide (((i + 2 : Nat) : Int) ≥ (s.length : Int)) = false := decide_eq_false (by omega)
 have hix2 := jc5 (s := s) hj2
 have hgd2 : s.getD (i + 2) 0 = s[i + 2] := by simp [List.getD, hj2]
 have w3 : IntKind.i64.wrap (((i + 2 : Nat) : Int) + 1) = ((i + 3 : Nat) : Int) := by rw [ja4 (by omega) (by omega)]; omega
 rw [hgd2] at hc2
 have y110 : ((s[i + 2].toNat : Int) == 110) = true := (ja7 s[i + 2] 110).trans (by rw [hc2]; rfl)
 obtain ⟨v', H', a1, a2⟩ := h.add 10 hn
 have a1 : appendA PP #[22, 22] v (.slice (some ⟨H.next, 0, none⟩) 1 1) (H.alloc 1 [.int .u8 10]) = some (v', H') := a1
 have lL : _ ∧ _ := ⟨lX8 Tryz.f53 3 5 6 8 10 11 13 15, lX3 Tryz.f53 17 18 34⟩
 conv at lL in (occs := *) (rq _ _) => all_goals simp only [rX, oA, Tryz.f53, dL.o, reduceIte, Nat.reduceEqDiff]
 obtain ⟨⟨l3, l5, l6, l8, l10, l11, l13, l15⟩, ⟨l17, l18, l34⟩⟩ := lL
 simp +decide only [↓uR.o, dG.o, ja1, reduceIte, ↓ja0 l3, ↓ja0 l5, ↓ja0 l6, ↓ja0 l8, ↓ja0 l10, ↓ja0 l11, ↓ja0 l13, ↓ja0 l15, ↓ja0 l17, ↓ja0 l18, ↓ja0 l34, ↓jb8 _ 2 false 31 _ ji3, e0, e7, e8, jb5, hlt, hix, w1, z34, z92, q32, q126, hlt2, hix2, y110, bslice1, jf5, a1, w3]
 exact hx _ H' v' (by simp +decide only [ja1, reduceIte, e0]) (by simp +decide only [ja1, reduceIte, e7]) (by simp +decide only [ja1, reduceIte, e8]) a2
theorem rt_t {N : Nat} {H0 H : Heap} {s : List UInt8} {i : Nat} {E : Env} {Q : R → Prop} {k : KOE} {hk : Hook} {d : Nat} {v : Value} {o : List UInt8} (h : RS H0 H v o) (e0 : E 0 = .string ⟨⟨s⟩⟩) (e7 : E 7 = v) (e8 : E 8 = .int .i64 ((i + 1 : Nat) : Int)) (hi : i < s.length) (hsm : s.length ≤ 1048576) (hj : i + 1 < s.length) (hj2 : i + 2 < s.length) (hc : s.getD (i + 1) 0 = 92) (hc2 : s.getD (i + 2) 0 = 116) (hn : o.length ≤ 1048576) (hx : ∀ E' H' v', E' 0 = .string ⟨⟨s⟩⟩ → E' 7 = v' → E' 8 = .int .i64 ((i + 3 : Nat) : Int) → RS H0 H' v' (o ++ [9]) → Q (k .norm E' [] H')) :
   Q (execG PP XX (CG N hk (d + 1)) N noPr (.block 1 (.seq cRD7 (.seq (rF Tryz.f53 5) (.seq cRD8 (.seq cRD9 (.seq (rF Tryz.f53 10) (.seq cRD4 (.seq cRD5 (.seq (.seq (rF Tryz.f53 15) (.block 2 (.seq (rF Tryz.f53 17) (.cond (.tmp 56) (rF Tryz.f53 18) (.seq (rF Tryz.f53 19) (.cond (.tmp 61) (rF Tryz.f53 20) (.seq cRD10 (.cond (.tmp 66) (rF Tryz.f53 23) (.seq (rF Tryz.f53 24) (.cond (.tmp 75) (.seq (rF Tryz.f53 25) (.seq (.seq (rF Tryz.f53 26) (.block 3 (.loop (.seq (.seq (rF Tryz.f53 27) (.cond (.tmp 78) .skip (.exit 3))) cRD1)))) (.seq (rF Tryz.f53 32) (rF Tryz.f53 33)))) (.seq (rF Tryz.f53 16) .ret))))))))))) (rF Tryz.f53 34)))))))))) none E [] H k) := by
 have hlt : decide (((i + 1 : Nat) : Int) ≥ (s.length : Int)) = false := decide_eq_false (by omega)
 have hix := jc5 (s := s) hj
 have hgd : s.getD (i + 1) 0 = s[i + 1] := by simp [List.getD, hj]
 have w1 : IntKind.i64.wrap (((i + 1 : Nat) : Int) + 1) = ((i + 2 : Nat) : Int) := by rw [ja4 (by omega) (by omega)]; omega
 rw [hgd] at hc
 have z34 : ((s[i + 1].toNat : Int) == 34) = false := (ja7 s[i + 1] 34).trans (by rw [hc]; rfl)
 have z92 : ((s[i + 1].toNat : Int) != 92) = false := jx8 ((ja7 s[i + 1] 92).trans (decide_eq_true hc))
 have q32 : decide ((s[i + 1].toNat : Int) < 32) = false := by rw [hc]; rfl
 have q126 : decide ((s[i + 1].toNat : Int) > 126) = false := by rw [hc]; rfl
 have hlt2 : decide (((i + 2 : Nat) : Int) ≥ (s.length : Int)) = false := decide_eq_false (by omega)
 have hix2 := jc5 (s := s) hj2
 have hgd2 : s.getD (i + 2) 0 = s[i + 2] := by simp [List.getD, hj2]
 have w3 : IntKind.i64.wrap (((i + 2 : Nat) : Int) + 1) = ((i + 3 : Nat) : Int) := by rw [ja4 (by omega) (by omega)]; omega
 rw [hgd2] at hc2
 have y110 : ((s[i + 2].toNat : Int) == 110) = false := (ja7 s[i + 2] 110).trans (by rw [hc2]; rfl)
 have y116 : ((s[i + 2].toNat : Int) == 116) = true := (ja7 s[i + 2] 116).trans (by rw [hc2]; rfl)
 obtain ⟨v', H', a1, a2⟩ := h.add 9 hn
 have a1 : appendA PP #[22, 22] v (.slice (some ⟨H.next, 0, none⟩) 1 1) (H.alloc 1 [.int .u8 9]) = some (v', H') := a1
 have lL : _ ∧ _ := ⟨lX8 Tryz.f53 3 5 6 8 10 11 13 15, lX4 Tryz.f53 17 19 20 34⟩
 conv at lL in (occs := *) (rq _ _) => all_goals simp only [rX, oA, Tryz.f53, dL.o, reduceIte, Nat.reduceEqDiff]
 obtain ⟨⟨l3, l5, l6, l8, l10, l11, l13, l15⟩, ⟨l17, l19, l20, l34⟩⟩ := lL
 simp +decide only [↓uR.o, dG.o, ja1, reduceIte, ↓ja0 l3, ↓ja0 l5, ↓ja0 l6, ↓ja0 l8, ↓ja0 l10, ↓ja0 l11, ↓ja0 l13, ↓ja0 l15, ↓ja0 l17, ↓ja0 l19, ↓ja0 l20, ↓ja0 l34, ↓jb8 _ 2 false 31 _ ji3, e0, e7, e8, jb5, hlt, hix, w1, z34, z92, q32, q126, hlt2, hix2, y110, y116, bslice1, jf5, a1, w3]
 exact hx _ H' v' (by simp +decide only [ja1, reduceIte, e0]) (by simp +decide only [ja1, reduceIte, e7]) (by simp +decide only [ja1, reduceIte, e8]) a2
theorem rt_q {N : Nat} {H0 H : Heap} {s : List UInt8} {i : Nat} {E : Env} {Q : R → Prop} {k : KOE} {hk : Hook} {d : Nat} {v : Value} {o : List UInt8} (h : RS H0 H v o) (e0 : E 0 = .string ⟨⟨s⟩⟩) (e7 : E 7 = v) (e8 : E 8 = .int .i64 ((i + 1 : Nat) : Int)) (hi : i < s.length) (hsm : s.length ≤ 1048576) (hj : i + 1 < s.length) (hj2 : i + 2 < s.length) (hc : s.getD (i + 1) 0 = 92) (hc2 : s.getD (i + 2) 0 = 34) (hn : o.length ≤ 1048576) (hx : ∀ E' H' v', E' 0 = .string ⟨⟨s⟩⟩ → E' 7 = v' → E' 8 = .int .i64 ((i + 3 : Nat) : Int) → RS H0 H' v' (o ++ [34]) → Q (k .norm E' [] H')) :
   Q (execG PP XX (CG N hk (d + 1)) N noPr (.block 1 (.seq cRD7 (.seq (rF Tryz.f53 5) (.seq cRD8 (.seq cRD9 (.seq (rF Tryz.f53 10) (.seq cRD4 (.seq cRD5 (.seq (.seq (rF Tryz.f53 15) (.block 2 (.seq (rF Tryz.f53 17) (.cond (.tmp 56) (rF Tryz.f53 18) (.seq (rF Tryz.f53 19) (.cond (.tmp 61) (rF Tryz.f53 20) (.seq cRD10 (.cond (.tmp 66) (rF Tryz.f53 23) (.seq (rF Tryz.f53 24) (.cond (.tmp 75) (.seq (rF Tryz.f53 25) (.seq (.seq (rF Tryz.f53 26) (.block 3 (.loop (.seq (.seq (rF Tryz.f53 27) (.cond (.tmp 78) .skip (.exit 3))) cRD1)))) (.seq (rF Tryz.f53 32) (rF Tryz.f53 33)))) (.seq (rF Tryz.f53 16) .ret))))))))))) (rF Tryz.f53 34)))))))))) none E [] H k) := by
 have hlt : decide (((i + 1 : Nat) : Int) ≥ (s.length : Int)) = false := decide_eq_false (by omega)
 have hix := jc5 (s := s) hj
 have hgd : s.getD (i + 1) 0 = s[i + 1] := by simp [List.getD, hj]
 have w1 : IntKind.i64.wrap (((i + 1 : Nat) : Int) + 1) = ((i + 2 : Nat) : Int) := by rw [ja4 (by omega) (by omega)]; omega
 rw [hgd] at hc
 have z34 : ((s[i + 1].toNat : Int) == 34) = false := (ja7 s[i + 1] 34).trans (by rw [hc]; rfl)
 have z92 : ((s[i + 1].toNat : Int) != 92) = false := jx8 ((ja7 s[i + 1] 92).trans (decide_eq_true hc))
 have q32 : decide ((s[i + 1].toNat : Int) < 32) = false := by rw [hc]; rfl
 have q126 : decide ((s[i + 1].toNat : Int) > 126) = false := by rw [hc]; rfl
 have hlt2 : decide (((i + 2 : Nat) : Int) ≥ (s.length : Int)) = false := decide_eq_false (by omega)
 have hix2 := jc5 (s := s) hj2
 have hgd2 : s.getD (i + 2) 0 = s[i + 2] := by simp [List.getD, hj2]
 have w3 : IntKind.i64.wrap (((i + 2 : Nat) : Int) + 1) = ((i + 3 : Nat) : Int) := by rw [ja4 (by omega) (by omega)]; omega
 rw [hgd2] at hc2
 have y110 : ((s[i + 2].toNat : Int) == 110) = false := (ja7 s[i + 2] 110).trans (by rw [hc2]; rfl)
 have y116 : ((s[i + 2].toNat : Int) == 116) = false := (ja7 s[i + 2] 116).trans (by rw [hc2]; rfl)
 have y34 : ((s[i + 2].toNat : Int) == 34) = true := (ja7 s[i + 2] 34).trans (by rw [hc2]; rfl)
 obtain ⟨v', H', a1, a2⟩ := h.add s[i + 2] hn
 rw [hc2] at a2
 have lL : _ ∧ _ := ⟨lX8 Tryz.f53 3 5 6 8 10 11 13 15, lX5 Tryz.f53 17 19 21 23 34⟩
 conv at lL in (occs := *) (rq _ _) => all_goals simp only [rX, oA, Tryz.f53, dL.o, reduceIte, Nat.reduceEqDiff]
 obtain ⟨⟨l3, l5, l6, l8, l10, l11, l13, l15⟩, ⟨l17, l19, l21, l23, l34⟩⟩ := lL
 simp +decide only [↓uR.o, dG.o, ja1, reduceIte, ↓ja0 l3, ↓ja0 l5, ↓ja0 l6, ↓ja0 l8, ↓ja0 l10, ↓ja0 l11, ↓ja0 l13, ↓ja0 l15, ↓ja0 l17, ↓ja0 l19, ↓ja0 l21, ↓ja0 l23, ↓ja0 l34, ↓jb8 _ 2 false 31 _ ji3, e0, e7, e8, jb5, hlt, hix, w1, z34, z92, q32, q126, hlt2, hix2, y110, y116, y34, bslice1, jf5, a1, w3]
 exact hx _ H' v' (by simp +decide only [ja1, reduceIte, e0]) (by simp +decide only [ja1, reduceIte, e7]) (by simp +decide only [ja1, reduceIte, e8]) a2
theorem rt_b {N : Nat} {H0 H : Heap} {s : List UInt8} {i : Nat} {E : Env} {Q : R → Prop} {k : KOE} {hk : Hook} {d : Nat} {v : Value} {o : List UInt8} (h : RS H0 H v o) (e0 : E 0 = .string ⟨⟨s⟩⟩) (e7 : E 7 = v) (e8 : E 8 = .int .i64 ((i + 1 : Nat) : Int)) (hi : i < s.length) (hsm : s.length ≤ 1048576) (hj : i + 1 < s.length) (hj2 : i + 2 < s.length) (hc : s.getD (i + 1) 0 = 92) (hc2 : s.getD (i + 2) 0 = 92) (hn : o.length ≤ 1048576) (hx : ∀ E' H' v', E' 0 = .string ⟨⟨s⟩⟩ → E' 7 = v' → E' 8 = .int .i64 ((i + 3 : Nat) : Int) → RS H0 H' v' (o ++ [92]) → Q (k .norm E' [] H')) :
   Q (execG PP XX (CG N hk (d + 1)) N noPr (.block 1 (.seq cRD7 (.seq (rF Tryz.f53 5) (.seq cRD8 (.seq cRD9 (.seq (rF Tryz.f53 10) (.seq cRD4 (.seq cRD5 (.seq (.seq (rF Tryz.f53 15) (.block 2 (.seq (rF Tryz.f53 17) (.cond (.tmp 56) (rF Tryz.f53 18) (.seq (rF Tryz.f53 19) (.cond (.tmp 61) (rF Tryz.f53 20) (.seq cRD10 (.cond (.tmp 66) (rF Tryz.f53 23) (.seq (rF Tryz.f53 24) (.cond (.tmp 75) (.seq (rF Tryz.f53 25) (.seq (.seq (rF Tryz.f53 26) (.block 3 (.loop (.seq (.seq (rF Tryz.f53 27) (.cond (.tmp 78) .skip (.exit 3))) cRD1)))) (.seq (rF Tryz.f53 32) (rF Tryz.f53 33)))) (.seq (rF Tryz.f53 16) .ret))))))))))) (rF Tryz.f53 34)))))))))) none E [] H k) := by
 have hlt : decide (((i + 1 : Nat) : Int) ≥ (s.length : Int)) = false := decide_eq_false (by omega)
 have hix := jc5 (s := s) hj
 have hgd : s.getD (i + 1) 0 = s[i + 1] := by simp [List.getD, hj]
 have w1 : IntKind.i64.wrap (((i + 1 : Nat) : Int) + 1) = ((i + 2 : Nat) : Int) := by rw [ja4 (by omega) (by omega)]; omega
 rw [hgd] at hc
 have z34 : ((s[i + 1].toNat : Int) == 34) = false := (ja7 s[i + 1] 34).trans (by rw [hc]; rfl)
 have z92 : ((s[i + 1].toNat : Int) != 92) = false := jx8 ((ja7 s[i + 1] 92).trans (decide_eq_true hc))
 have q32 : decide ((s[i + 1].toNat : Int) < 32) = false := by rw [hc]; rfl
 have q126 : decide ((s[i + 1].toNat : Int) > 126) = false := by rw [hc]; rfl
 have hlt2 : decide (((i + 2 : Nat) : Int) ≥ (s.length : Int)) = false := decide_eq_false (by omega)
 have hix2 := jc5 (s := s) hj2
 have hgd2 : s.getD (i + 2) 0 = s[i + 2] := by simp [List.getD, hj2]
 have w3 : IntKind.i64.wrap (((i + 2 : Nat) : Int) + 1) = ((i + 3 : Nat) : Int) := by rw [ja4 (by omega) (by omega)]; omega
 rw [hgd2] at hc2
 have y110 : ((s[i + 2].toNat : Int) == 110) = false := (ja7 s[i + 2] 110).trans (by rw [hc2]; rfl)
 have y116 : ((s[i + 2].toNat : Int) == 116) = false := (ja7 s[i + 2] 116).trans (by rw [hc2]; rfl)
 have y34 : ((s[i + 2].toNat : Int) == 34) = false := (ja7 s[i + 2] 34).trans (by rw [hc2]; rfl)
 have y92 : ((s[i + 2].toNat : Int) == 92) = true := (ja7 s[i + 2] 92).trans (by rw [hc2]; rfl)
 obtain ⟨v', H', a1, a2⟩ := h.add s[i + 2] hn
 rw [hc2] at a2
 have lL : _ ∧ _ := ⟨lX8 Tryz.f53 3 5 6 8 10 11 13 15, lX6 Tryz.f53 17 19 21 22 23 34⟩
 conv at lL in (occs := *) (rq _ _) => all_goals simp only [rX, oA, Tryz.f53, dL.o, reduceIte, Nat.reduceEqDiff]
 obtain ⟨⟨l3, l5, l6, l8, l10, l11, l13, l15⟩, ⟨l17, l19, l21, l22, l23, l34⟩⟩ := lL
 simp +decide only [↓uR.o, dG.o, ja1, reduceIte, ↓ja0 l3, ↓ja0 l5, ↓ja0 l6, ↓ja0 l8, ↓ja0 l10, ↓ja0 l11, ↓ja0 l13, ↓ja0 l15, ↓ja0 l17, ↓ja0 l19, ↓ja0 l21, ↓ja0 l22, ↓ja0 l23, ↓ja0 l34, ↓jb8 _ 2 false 31 _ ji3, e0, e7, e8, jb5, hlt, hix, w1, z34, z92, q32, q126, hlt2, hix2, y110, y116, y34, y92, bslice1, jf5, a1, w3]
 exact hx _ H' v' (by simp +decide only [ja1, reduceIte, e0]) (by simp +decide only [ja1, reduceIte, e7]) (by simp +decide only [ja1, reduceIte, e8]) a2
theorem yx5 {N : Nat} {H0 H : Heap} {s : List UInt8} {i : Nat} {E : Env} {Q : R → Prop} {k : KOE} {hk : Hook} {d : Nat} {v : Value} {o : List UInt8} (h : RS H0 H v o) (e0 : E 0 = .string ⟨⟨s⟩⟩) (e7 : E 7 = v) (e8 : E 8 = .int .i64 ((i + 1 : Nat) : Int)) (hi : i < s.length) (hsm : s.length ≤ 1048576) (hj : i + 1 < s.length) (hj2 : i + 2 < s.length) (hc : s.getD (i + 1) 0 = 92) (h1 : ¬ s.getD (i + 2) 0 = 110) (h2 : ¬ s.getD (i + 2) 0 = 116) (h3 : ¬ s.getD (i + 2) 0 = 34) (h4 : ¬ s.getD (i + 2) 0 = 92) (h5 : ¬ s.getD (i + 2) 0 = 120) (hx : ∀ E', E' 4 = .string ⟨#[]⟩ → E' 5 = .int .i64 ((i + 2 : Nat) : Int) → E' 6 = .int .i64 ((i + 2 : Nat) : Int) → Q (k .ret E' [] H)) :
   Q (execG PP XX (CG N hk (d + 1)) N noPr (.block 1 (.seq cRD7 (.seq (rF Tryz.f53 5) (.seq cRD8 (.seq cRD9 (.seq (rF Tryz.f53 10) (.seq cRD4 (.seq cRD5 (.seq (.seq (rF Tryz.f53 15) (.block 2 (.seq (rF Tryz.f53 17) (.cond (.tmp 56) (rF Tryz.f53 18) (.seq (rF Tryz.f53 19) (.cond (.tmp 61) (rF Tryz.f53 20) (.seq cRD10 (.cond (.tmp 66) (rF Tryz.f53 23) (.seq (rF Tryz.f53 24) (.cond (.tmp 75) (.seq (rF Tryz.f53 25) (.seq (.seq (rF Tryz.f53 26) (.block 3 (.loop (.seq (.seq (rF Tryz.f53 27) (.cond (.tmp 78) .skip (.exit 3))) cRD1)))) (.seq (rF Tryz.f53 32) (rF Tryz.f53 33)))) (.seq (rF Tryz.f53 16) .ret))))))))))) (rF Tryz.f53 34)))))))))) none E [] H k) := by
 have hlt : decide (((i + 1 : Nat) : Int) ≥ (s.length : Int)) = false := decide_eq_false (by omega)
 have hix := jc5 (s := s) hj
 have hgd : s.getD (i + 1) 0 = s[i + 1] := by simp [List.getD, hj]
 have w1 : IntKind.i64.wrap (((i + 1 : Nat) : Int) + 1) = ((i + 2 : Nat) : Int) := by rw [ja4 (by omega) (by omega)]; omega
 rw [hgd] at hc
 have z34 : ((s[i + 1].toNat : Int) == 34) = false := (ja7 s[i + 1] 34).trans (by rw [hc]; rfl)
 have z92 : ((s[i + 1].toNat : Int) != 92) = false := jx8 ((ja7 s[i + 1] 92).trans (decide_eq_true hc))
 have q32 : decide ((s[i + 1].toNat : Int) < 32) = false := by rw [hc]; rfl
 have q126 : decide ((s[i + 1].toNat : Int) > 126) = false := by rw [hc]; rfl
 have hlt2 : decide (((i + 2 : Nat) : Int) ≥ (s.length : Int)) = false := decide_eq_false (by omega)
 have hix2 := jc5 (s := s) hj2
 have hgd2 : s.getD (i + 2) 0 = s[i + 2] := by simp [List.getD, hj2]
 rw [hgd2] at h1 h2 h3 h4 h5
 have y110 : ((s[i + 2].toNat : Int) == 110) = false := (ja7 s[i + 2] 110).trans (decide_eq_false h1)
 have y116 : ((s[i + 2].toNat : Int) == 116) = false := (ja7 s[i + 2] 116).trans (decide_eq_false h2)
 have y34 : ((s[i + 2].toNat : Int) == 34) = false := (ja7 s[i + 2] 34).trans (decide_eq_false h3)
 have y92 : ((s[i + 2].toNat : Int) == 92) = false := (ja7 s[i + 2] 92).trans (decide_eq_false h4)
 have y120 : ((s[i + 2].toNat : Int) == 120) = false := (ja7 s[i + 2] 120).trans (decide_eq_false h5)
 have lL : _ ∧ _ := ⟨lX8 Tryz.f53 3 5 6 8 10 11 13 15, lX6 Tryz.f53 17 19 21 22 24 16⟩
 conv at lL in (occs := *) (rq _ _) => all_goals simp only [rX, oA, Tryz.f53, dL.o, reduceIte, Nat.reduceEqDiff]
 obtain ⟨⟨l3, l5, l6, l8, l10, l11, l13, l15⟩, ⟨l17, l19, l21, l22, l24, l16⟩⟩ := lL
 simp +decide only [↓uR.o, dG.o, ja1, reduceIte, ↓ja0 l3, ↓ja0 l5, ↓ja0 l6, ↓ja0 l8, ↓ja0 l10, ↓ja0 l11, ↓ja0 l13, ↓ja0 l15, ↓ja0 l17, ↓ja0 l19, ↓ja0 l21, ↓ja0 l22, ↓ja0 l24, ↓ja0 l16, ↓jb8 _ 2 false 31 _ ji3, e0, e8, jb5, hlt, hix, w1, z34, z92, q32, q126, hlt2, hix2, y110, y116, y34, y92, y120]
 exact hx _ (by simp +decide only [ja1, reduceIte]) (by simp +decide only [ja1, reduceIte]) (by simp +decide only [ja1, reduceIte])
theorem yx6 {N : Nat} {H : Heap} {s : List UInt8} {i : Nat} {E : Env} {Q : R → Prop} {k : KOE} {hk : Hook} {d : Nat} {v : Value} {g : Nat} (e0 : E 0 = .string ⟨⟨s⟩⟩) (e7 : E 7 = v) (e8 : E 8 = .int .i64 ((i + 2 : Nat) : Int)) (e10 : E 10 = .int .i64 (g : Int)) (e11 : E 11 = .int .i64 1) (hsm : s.length ≤ 1048576) (hi : i + 2 < s.length) (hj : ¬ i + 3 < s.length) (hx : ∀ E', E' 4 = .string ⟨#[]⟩ → E' 5 = .int .i64 ((i + 3 : Nat) : Int) → E' 6 = .int .i64 ((i + 3 : Nat) : Int) → Q (k .ret E' [] H)) :
   Q (execG PP XX (CG N hk (d + 1)) N noPr (.seq (.seq (rF Tryz.f53 27) (.cond (.tmp 78) .skip (.exit 3))) cRD1) none E [] H k) := by
 have hle : decide ((1 : Int) ≤ 2) = true := rfl
 have wq : IntKind.i64.wrap (((i + 2 : Nat) : Int) + 1) = ((i + 3 : Nat) : Int) := by rw [ja4 (by omega) (by omega)]; omega
 have hlt : decide (((i + 3 : Nat) : Int) ≥ (s.length : Int)) = true := decide_eq_true (by omega)
 have lL := lX3 Tryz.f53 27 29 30
 conv at lL in (occs := *) (rq _ _) => all_goals simp only [rX, oA, Tryz.f53, dL.o, reduceIte, Nat.reduceEqDiff]
 obtain ⟨l27, l29, l30⟩ := lL
 simp +decide only [↓uR.o, dG.o, ja1, reduceIte, Bool.not_false, ↓ja0 l27, ↓ja0 l29, ↓ja0 l30, ↓r_no _ 6 false 87 _ jm5, e0, e8, e11, jb5, dT, wq, hlt]
 exact hx _ (by simp +decide only [ja1, reduceIte]) (by simp +decide only [ja1, reduceIte]) (by simp +decide only [ja1, reduceIte])
theorem yx7 {N : Nat} {H : Heap} {s : List UInt8} {i : Nat} {E : Env} {Q : R → Prop} {k : KOE} {hk : Hook} {d : Nat} {v : Value} {g : Nat} (e0 : E 0 = .string ⟨⟨s⟩⟩) (e7 : E 7 = v) (e8 : E 8 = .int .i64 ((i + 2 : Nat) : Int)) (e10 : E 10 = .int .i64 (g : Int)) (e11 : E 11 = .int .i64 1) (hsm : s.length ≤ 1048576) (hi : i + 2 < s.length) (K : HkR hk) (hG : Ext GE H) (hj : i + 3 < s.length) (h16 : hexT (s.getD (i + 3) 0).toNat = 16) (hx : ∀ E', E' 4 = .string ⟨#[]⟩ → E' 5 = .int .i64 ((i + 3 : Nat) : Int) → E' 6 = .int .i64 ((i + 3 : Nat) : Int) → Q (k .ret E' [] H)) :
   Q (execG PP XX (CG N hk (d + 1)) N noPr (.seq (.seq (rF Tryz.f53 27) (.cond (.tmp 78) .skip (.exit 3))) cRD1) none E [] H k) := by
 have hle : decide ((1 : Int) ≤ 2) = true := rfl
 have wq : IntKind.i64.wrap (((i + 2 : Nat) : Int) + 1) = ((i + 3 : Nat) : Int) := by rw [ja4 (by omega) (by omega)]; omega
 have hlt : decide (((i + 3 : Nat) : Int) ≥ (s.length : Int)) = false := decide_eq_false (by omega)
 have hix := jc5 (s := s) hj
 have hgd : s.getD (i + 3) 0 = s[i + 3] := by simp [List.getD, hj]
 rw [hgd] at h16
 have hd : CG N hk (d + 1) 67 #[.int .u8 (s[i + 3].toNat : Int)] H = some (.ret (.int .i64 (rhN s[i + 3].toNat)), H) := jc1 (K.hex s[i + 3] H hG)
 have hneg : decide (rhN s[i + 3].toNat < 0) = true := decide_eq_true (yf3 (by omega))
 have lL := lX3 Tryz.f53 27 29 30
 conv at lL in (occs := *) (rq _ _) => all_goals simp only [rX, oA, Tryz.f53, dL.o, reduceIte, Nat.reduceEqDiff]
 obtain ⟨l27, l29, l30⟩ := lL
 simp +decide only [↓uR.o, dG.o, ja1, reduceIte, ↓ja0 l27, ↓ja0 l29, ↓ja0 l30, ↓jb8 _ 6 false 87 _ jm5, e0, e8, e11, jb5, dT, wq, hlt, hix, ja3 Tryz.func67 rfl rfl hd, hneg]
 exact hx _ (by simp +decide only [ja1, reduceIte]) (by simp +decide only [ja1, reduceIte]) (by simp +decide only [ja1, reduceIte])
theorem yn4 {N : Nat} {H : Heap} {s : List UInt8} {i : Nat} {E : Env} {Q : R → Prop} {k : KOE} {hk : Hook} {d : Nat} {v : Value} {g : Nat} (e0 : E 0 = .string ⟨⟨s⟩⟩) (e7 : E 7 = v) (e8 : E 8 = .int .i64 ((i + 2 : Nat) : Int)) (e10 : E 10 = .int .i64 (g : Int)) (e11 : E 11 = .int .i64 1) (hsm : s.length ≤ 1048576) (hi : i + 2 < s.length) (K : HkR hk) (hG : Ext GE H) (hj : i + 3 < s.length) (h16 : hexT (s.getD (i + 3) 0).toNat < 16) (hg : g < 16) (hx : ∀ E', E' 0 = .string ⟨⟨s⟩⟩ → E' 7 = v → E' 8 = .int .i64 ((i + 2 : Nat) : Int) → E' 10 = .int .i64 ((g * 16 + hexN (s.getD (i + 3) 0) : Nat) : Int) → E' 11 = .int .i64 2 → Q (k .norm E' [] H)) :
   Q (execG PP XX (CG N hk (d + 1)) N noPr (.seq (.seq (rF Tryz.f53 27) (.cond (.tmp 78) .skip (.exit 3))) cRD1) none E [] H k) := by
 have hle : decide ((1 : Int) ≤ 2) = true := rfl
 have wq : IntKind.i64.wrap (((i + 2 : Nat) : Int) + 1) = ((i + 3 : Nat) : Int) := by rw [ja4 (by omega) (by omega)]; omega
 have hlt : decide (((i + 3 : Nat) : Int) ≥ (s.length : Int)) = false := decide_eq_false (by omega)
 have hix := jc5 (s := s) hj
 have hgd : s.getD (i + 3) 0 = s[i + 3] := by simp [List.getD, hj]
 rw [hgd] at h16
 have hd : CG N hk (d + 1) 67 #[.int .u8 (s[i + 3].toNat : Int)] H = some (.ret (.int .i64 (rhN s[i + 3].toNat)), H) := jc1 (K.hex s[i + 3] H hG)
 have hnn := jn1 s[i + 3].toNat
 rw [yf2 h16] at hd
 have hN : (hexN s[i + 3] : Int) = hexT s[i + 3].toNat := by unfold hexN; omega
 rw [← hN] at hd h16 hnn
 rw [hgd] at hx
 have hneg : decide (((hexN s[i + 3] : Nat) : Int) < 0) = false := decide_eq_false (by omega)
 have wm : IntKind.i64.wrap (16 * (g : Int)) = ((g * 16 : Nat) : Int) := by rw [ja4 (by omega) (by omega)]; omega
 have wa : IntKind.i64.wrap (((g * 16 : Nat) : Int) + ((hexN s[i + 3] : Nat) : Int)) = ((g * 16 + hexN s[i + 3] : Nat) : Int) := by rw [ja4 (by omega) (by omega)]; omega
 have w1k : IntKind.i64.wrap (1 + 1) = 2 := by decide
 have lL := lX4 Tryz.f53 27 28 29 31
 conv at lL in (occs := *) (rq _ _) => all_goals simp only [rX, oA, Tryz.f53, dL.o, reduceIte, Nat.reduceEqDiff]
 obtain ⟨l27, l28, l29, l31⟩ := lL
 simp +decide only [↓uR.o, dG.o, ja1, reduceIte, ↓ja0 l27, ↓ja0 l28, ↓ja0 l29, ↓ja0 l31, ↓jb8 _ 6 false 87 _ jm5, e0, e8, e10, e11, jb5, dT, wq, hlt, hix, ja3 Tryz.func67 rfl rfl hd, hneg, jk8, wm, wa, w1k]
 exact hx _ (by simp +decide only [ja1, reduceIte, e0]) (by simp +decide only [ja1, reduceIte, e7]) (by simp +decide only [ja1, reduceIte, e8]) (by simp +decide only [ja1, reduceIte, e10]) (by simp +decide only [ja1, reduceIte, e11])
theorem yx8 {N : Nat} {H : Heap} {s : List UInt8} {i : Nat} {E : Env} {Q : R → Prop} {k : KOE} {hk : Hook} {d : Nat} {v : Value} {g : Nat} (e0 : E 0 = .string ⟨⟨s⟩⟩) (e7 : E 7 = v) (e8 : E 8 = .int .i64 ((i + 2 : Nat) : Int)) (e10 : E 10 = .int .i64 (g : Int)) (e11 : E 11 = .int .i64 2) (hsm : s.length ≤ 1048576) (hi : i + 2 < s.length) (hj : ¬ i + 4 < s.length) (hx : ∀ E', E' 4 = .string ⟨#[]⟩ → E' 5 = .int .i64 ((i + 4 : Nat) : Int) → E' 6 = .int .i64 ((i + 4 : Nat) : Int) → Q (k .ret E' [] H)) :
   Q (execG PP XX (CG N hk (d + 1)) N noPr (.seq (.seq (rF Tryz.f53 27) (.cond (.tmp 78) .skip (.exit 3))) cRD1) none E [] H k) := by
 have hle : decide ((2 : Int) ≤ 2) = true := rfl
 have wq : IntKind.i64.wrap (((i + 2 : Nat) : Int) + 2) = ((i + 4 : Nat) : Int) := by rw [ja4 (by omega) (by omega)]; omega
 have hlt : decide (((i + 4 : Nat) : Int) ≥ (s.length : Int)) = true := decide_eq_true (by omega)
 have lL := lX3 Tryz.f53 27 29 30
 conv at lL in (occs := *) (rq _ _) => all_goals simp only [rX, oA, Tryz.f53, dL.o, reduceIte, Nat.reduceEqDiff]
 obtain ⟨l27, l29, l30⟩ := lL
 simp +decide only [↓uR.o, dG.o, ja1, reduceIte, Bool.not_false, ↓ja0 l27, ↓ja0 l29, ↓ja0 l30, ↓r_no _ 6 false 87 _ jm5, e0, e8, e11, jb5, dT, wq, hlt]
 exact hx _ (by simp +decide only [ja1, reduceIte]) (by simp +decide only [ja1, reduceIte]) (by simp +decide only [ja1, reduceIte])
theorem yx9 {N : Nat} {H : Heap} {s : List UInt8} {i : Nat} {E : Env} {Q : R → Prop} {k : KOE} {hk : Hook} {d : Nat} {v : Value} {g : Nat} (e0 : E 0 = .string ⟨⟨s⟩⟩) (e7 : E 7 = v) (e8 : E 8 = .int .i64 ((i + 2 : Nat) : Int)) (e10 : E 10 = .int .i64 (g : Int)) (e11 : E 11 = .int .i64 2) (hsm : s.length ≤ 1048576) (hi : i + 2 < s.length) (K : HkR hk) (hG : Ext GE H) (hj : i + 4 < s.length) (h16 : hexT (s.getD (i + 4) 0).toNat = 16) (hx : ∀ E', E' 4 = .string ⟨#[]⟩ → E' 5 = .int .i64 ((i + 4 : Nat) : Int) → E' 6 = .int .i64 ((i + 4 : Nat) : Int) → Q (k .ret E' [] H)) :
   Q (execG PP XX (CG N hk (d + 1)) N noPr (.seq (.seq (rF Tryz.f53 27) (.cond (.tmp 78) .skip (.exit 3))) cRD1) none E [] H k) := by
 have hle : decide ((2 : Int) ≤ 2) = true := rfl
 have wq : IntKind.i64.wrap (((i + 2 : Nat) : Int) + 2) = ((i + 4 : Nat) : Int) := by rw [ja4 (by omega) (by omega)]; omega
 have hlt : decide (((i + 4 : Nat) : Int) ≥ (s.length : Int)) = false := decide_eq_false (by omega)
 have hix := jc5 (s := s) hj
 have hgd : s.getD (i + 4) 0 = s[i + 4] := by simp [List.getD, hj]
 rw [hgd] at h16
 have hd : CG N hk (d + 1) 67 #[.int .u8 (s[i + 4].toNat : Int)] H = some (.ret (.int .i64 (rhN s[i + 4].toNat)), H) := jc1 (K.hex s[i + 4] H hG)
 have hneg : decide (rhN s[i + 4].toNat < 0) = true := decide_eq_true (yf3 (by omega))
 have lL := lX3 Tryz.f53 27 29 30
 conv at lL in (occs := *) (rq _ _) => all_goals simp only [rX, oA, Tryz.f53, dL.o, reduceIte, Nat.reduceEqDiff]
 obtain ⟨l27, l29, l30⟩ := lL
 simp +decide only [↓uR.o, dG.o, ja1, reduceIte, ↓ja0 l27, ↓ja0 l29, ↓ja0 l30, ↓jb8 _ 6 false 87 _ jm5, e0, e8, e11, jb5, dT, wq, hlt, hix, ja3 Tryz.func67 rfl rfl hd, hneg]
 exact hx _ (by simp +decide only [ja1, reduceIte]) (by simp +decide only [ja1, reduceIte]) (by simp +decide only [ja1, reduceIte])
theorem yn5 {N : Nat} {H : Heap} {s : List UInt8} {i : Nat} {E : Env} {Q : R → Prop} {k : KOE} {hk : Hook} {d : Nat} {v : Value} {g : Nat} (e0 : E 0 = .string ⟨⟨s⟩⟩) (e7 : E 7 = v) (e8 : E 8 = .int .i64 ((i + 2 : Nat) : Int)) (e10 : E 10 = .int .i64 (g : Int)) (e11 : E 11 = .int .i64 2) (hsm : s.length ≤ 1048576) (hi : i + 2 < s.length) (K : HkR hk) (hG : Ext GE H) (hj : i + 4 < s.length) (h16 : hexT (s.getD (i + 4) 0).toNat < 16) (hg : g < 16) (hx : ∀ E', E' 0 = .string ⟨⟨s⟩⟩ → E' 7 = v → E' 8 = .int .i64 ((i + 2 : Nat) : Int) → E' 10 = .int .i64 ((g * 16 + hexN (s.getD (i + 4) 0) : Nat) : Int) → E' 11 = .int .i64 3 → Q (k .norm E' [] H)) :
   Q (execG PP XX (CG N hk (d + 1)) N noPr (.seq (.seq (rF Tryz.f53 27) (.cond (.tmp 78) .skip (.exit 3))) cRD1) none E [] H k) := by
 have hle : decide ((2 : Int) ≤ 2) = true := rfl
 have wq : IntKind.i64.wrap (((i + 2 : Nat) : Int) + 2) = ((i + 4 : Nat) : Int) := by rw [ja4 (by omega) (by omega)]; omega
 have hlt : decide (((i + 4 : Nat) : Int) ≥ (s.length : Int)) = false := decide_eq_false (by omega)
 have hix := jc5 (s := s) hj
 have hgd : s.getD (i + 4) 0 = s[i + 4] := by simp [List.getD, hj]
 rw [hgd] at h16
 have hd : CG N hk (d + 1) 67 #[.int .u8 (s[i + 4].toNat : Int)] H = some (.ret (.int .i64 (rhN s[i + 4].toNat)), H) := jc1 (K.hex s[i + 4] H hG)
 have hnn := jn1 s[i + 4].toNat
 rw [yf2 h16] at hd
 have hN : (hexN s[i + 4] : Int) = hexT s[i + 4].toNat := by unfold hexN; omega
 rw [← hN] at hd h16 hnn
 rw [hgd] at hx
 have hneg : decide (((hexN s[i + 4] : Nat) : Int) < 0) = false := decide_eq_false (by omega)
 have wm : IntKind.i64.wrap (16 * (g : Int)) = ((g * 16 : Nat) : Int) := by rw [ja4 (by omega) (by omega)]; omega
 have wa : IntKind.i64.wrap (((g * 16 : Nat) : Int) + ((hexN s[i + 4] : Nat) : Int)) = ((g * 16 + hexN s[i + 4] : Nat) : Int) := by rw [ja4 (by omega) (by omega)]; omega
 have w2k : IntKind.i64.wrap (2 + 1) = 3 := by decide
 have lL := lX4 Tryz.f53 27 28 29 31
 conv at lL in (occs := *) (rq _ _) => all_goals simp only [rX, oA, Tryz.f53, dL.o, reduceIte, Nat.reduceEqDiff]
 obtain ⟨l27, l28, l29, l31⟩ := lL
 simp +decide only [↓uR.o, dG.o, ja1, reduceIte, ↓ja0 l27, ↓ja0 l28, ↓ja0 l29, ↓ja0 l31, ↓jb8 _ 6 false 87 _ jm5, e0, e8, e10, e11, jb5, dT, wq, hlt, hix, ja3 Tryz.func67 rfl rfl hd, hneg, jk8, wm, wa, w2k]
 exact hx _ (by simp +decide only [ja1, reduceIte, e0]) (by simp +decide only [ja1, reduceIte, e7]) (by simp +decide only [ja1, reduceIte, e8]) (by simp +decide only [ja1, reduceIte, e10]) (by simp +decide only [ja1, reduceIte, e11])
theorem yy0 {N : Nat} {H : Heap} {s : List UInt8} {i : Nat} {E : Env} {Q : R → Prop} {k : KOE} {hk : Hook} {d : Nat} {v : Value} {g : Nat} (e0 : E 0 = .string ⟨⟨s⟩⟩) (e7 : E 7 = v) (e8 : E 8 = .int .i64 ((i + 2 : Nat) : Int)) (e10 : E 10 = .int .i64 (g : Int)) (e11 : E 11 = .int .i64 3) (hx : ∀ E', E' 0 = .string ⟨⟨s⟩⟩ → E' 7 = v → E' 8 = .int .i64 ((i + 2 : Nat) : Int) → E' 10 = .int .i64 (g : Int) → Q (k (.exit 3) E' [] H)) :
   Q (execG PP XX (CG N hk (d + 1)) N noPr (.seq (.seq (rF Tryz.f53 27) (.cond (.tmp 78) .skip (.exit 3))) cRD1) none E [] H k) := by
 have hle : decide ((3 : Int) ≤ 2) = false := rfl
 have l27 := tl (rgn Tryz.f53 27)
 conv at l27 => rhs; simp only [rgn, oA, codeOf, Tryz.f53, gS, gN, reduceIte, Nat.reduceEqDiff, tA]
 simp +decide only [↓uR.o, dG.o, ja1, reduceIte, ↓ja0 l27, e11, dF]
 exact hx _ (by simp +decide only [ja1, reduceIte, e0]) (by simp +decide only [ja1, reduceIte, e7]) (by simp +decide only [ja1, reduceIte, e8]) (by simp +decide only [ja1, reduceIte, e10])
theorem rt_x {N : Nat} {H0 H : Heap} {s : List UInt8} {i : Nat} {E : Env} {Q : R → Prop} {k : KOE} {hk : Hook} {d : Nat} {v : Value} {o : List UInt8} (h : RS H0 H v o) (e0 : E 0 = .string ⟨⟨s⟩⟩) (e7 : E 7 = v) (e8 : E 8 = .int .i64 ((i + 1 : Nat) : Int)) (hi : i < s.length) (hsm : s.length ≤ 1048576) (K : HkR hk) (hG : Ext GE H) (hN : 4 < N) (hj : i + 1 < s.length) (hj2 : i + 2 < s.length) (hc : s.getD (i + 1) 0 = 92) (hc2 : s.getD (i + 2) 0 = 120) (hn : o.length ≤ 1048576)
   (hb : ∀ e E', (if i + 3 = s.length ∨ hexT (s.getD (i + 3) 0).toNat = 16 then e = i + 3 else (i + 4 = s.length ∨ hexT (s.getD (i + 4) 0).toNat = 16) ∧ e = i + 4) → E' 4 = .string ⟨#[]⟩ → E' 5 = .int .i64 ((e : Nat) : Int) → E' 6 = .int .i64 ((e : Nat) : Int) → Q (k .ret E' [] H))
   (hx : ¬ (i + 3 = s.length ∨ hexT (s.getD (i + 3) 0).toNat = 16) → ¬ (i + 4 = s.length ∨ hexT (s.getD (i + 4) 0).toNat = 16) → ∀ E' H' v', E' 0 = .string ⟨⟨s⟩⟩ → E' 7 = v' → E' 8 = .int .i64 ((i + 5 : Nat) : Int) → RS H0 H' v' (o ++ [UInt8.ofNat (hexN (s.getD (i + 3) 0) * 16 + hexN (s.getD (i + 4) 0))]) → Q (k .norm E' [] H')) :
   Q (execG PP XX (CG N hk (d + 1)) N noPr (.block 1 (.seq cRD7 (.seq (rF Tryz.f53 5) (.seq cRD8 (.seq cRD9 (.seq (rF Tryz.f53 10) (.seq cRD4 (.seq cRD5 (.seq (.seq (rF Tryz.f53 15) (.block 2 (.seq (rF Tryz.f53 17) (.cond (.tmp 56) (rF Tryz.f53 18) (.seq (rF Tryz.f53 19) (.cond (.tmp 61) (rF Tryz.f53 20) (.seq cRD10 (.cond (.tmp 66) (rF Tryz.f53 23) (.seq (rF Tryz.f53 24) (.cond (.tmp 75) (.seq (rF Tryz.f53 25) (.seq (.seq (rF Tryz.f53 26) (.block 3 (.loop (.seq (.seq (rF Tryz.f53 27) (.cond (.tmp 78) .skip (.exit 3))) cRD1)))) (.seq (rF Tryz.f53 32) (rF Tryz.f53 33)))) (.seq (rF Tryz.f53 16) .ret))))))))))) (rF Tryz.f53 34)))))))))) none E [] H k) := by
 have hlt : decide (((i + 1 : Nat) : Int) ≥ (s.length : Int)) = false := decide_eq_false (by omega)
 have hix := jc5 (s := s) hj
 have hgd : s.getD (i + 1) 0 = s[i + 1] := by simp [List.getD, hj]
 have w1 : IntKind.i64.wrap (((i + 1 : Nat) : Int) + 1) = ((i + 2 : Nat) : Int) := by rw [ja4 (by omega) (by omega)]; omega
 rw [hgd] at hc
 have z34 : ((s[i + 1].toNat : Int) == 34) = false := (ja7 s[i + 1] 34).trans (by rw [hc]; rfl)
 have z92 : ((s[i + 1].toNat : Int) != 92) = false := jx8 ((ja7 s[i + 1] 92).trans (decide_eq_true hc))
 have q32 : decide ((s[i + 1].toNat : Int) < 32) = false := by rw [hc]; rfl
 have q126 : decide ((s[i + 1].toNat : Int) > 126) = false := by rw [hc]; rfl
 have hlt2 : decide (((i + 2 : Nat) : Int) ≥ (s.length : Int)) = false := decide_eq_false (by omega)
 have hix2 := jc5 (s := s) hj2
 have hgd2 : s.getD (i + 2) 0 = s[i + 2] := by simp [List.getD, hj2]
 rw [hgd2] at hc2
 have y110 : ((s[i + 2].toNat : Int) == 110) = false := (ja7 s[i + 2] 110).trans (by rw [hc2]; rfl)
 have y116 : ((s[i + 2].toNat : Int) == 116) = false := (ja7 s[i + 2] 116).trans (by rw [hc2]; rfl)
 have y34 : ((s[i + 2].toNat : Int) == 34) = false := (ja7 s[i + 2] 34).trans (by rw [hc2]; rfl)
 have y92 : ((s[i + 2].toNat : Int) == 92) = false := (ja7 s[i + 2] 92).trans (by rw [hc2]; rfl)
 have y120 : ((s[i + 2].toNat : Int) == 120) = true := (ja7 s[i + 2] 120).trans (by rw [hc2]; rfl)
 obtain ⟨M, rfl⟩ : ∃ q, N = q + 1 + 1 + 1 := ⟨N - 3, by omega⟩
 have g0 : ∀ j, s.length ≤ j → s.getD j 0 = 0 := fun j hj => by simp [List.getD, List.getElem?_eq_none hj]
 have hz : hexT (0 : UInt8).toNat = 16 := by decide
 have m3 := j6b (s.getD (i + 3) 0).toNat
 have m4 := j6b (s.getD (i + 4) 0).toNat
 have e10 : ((0 : Nat) : Int) = 0 := rfl
 have lL : _ ∧ _ ∧ _ := ⟨lX8 Tryz.f53 3 5 6 8 10 11 13 15, lX8 Tryz.f53 17 19 21 22 24 25 26 32, lX2 Tryz.f53 33 34⟩
 conv at lL in (occs := *) (rq _ _) => all_goals simp only [rX, oA, Tryz.f53, dL.o, reduceIte, Nat.reduceEqDiff]
 obtain ⟨⟨l3, l5, l6, l8, l10, l11, l13, l15⟩, ⟨l17, l19, l21, l22, l24, l25, l26, l32⟩, ⟨l33, l34⟩⟩ := lL
 generalize hin : (.seq (.seq (rF Tryz.f53 27) (.cond (.tmp 78) .skip (.exit 3))) cRD1 : Code) = inn at *
 simp +decide only [↓uR.o, dG.o, ja1, reduceIte, ↓ja0 l3, ↓ja0 l5, ↓ja0 l6, ↓ja0 l8, ↓ja0 l10, ↓ja0 l11, ↓ja0 l13, ↓ja0 l15, ↓ja0 l17, ↓ja0 l19, ↓ja0 l21, ↓ja0 l22, ↓ja0 l24, ↓ja0 l25, ↓ja0 l26, ↓jb8 _ 2 false 31 _ ji3, e0, e8, jb5, hlt, hix, w1, z34, z92, q32, q126, hlt2, hix2, y110, y116, y34, y92, y120, ↓jb4, ↓ja5]
 subst hin
 by_cases n1 : i + 3 < s.length
 · by_cases x1 : hexT (s.getD (i + 3) 0).toNat = 16
   · refine yx7 (i := i) (v := v) (g := 0) (by simp +decide only [ja1, reduceIte, e0]) (by simp +decide only [ja1, reduceIte, e7]) (by simp +decide only [ja1, reduceIte, e8]) (by simp +decide only [ja1, reduceIte]; rfl) (by simp +decide only [ja1, reduceIte]) hsm hj2 K hG n1 x1 fun E' q4 q5 q6 => ?_
     simp +decide only [↓jo3, ↓jt7, dG.o]
     exact hb (i + 3) E' (by rw [if_pos (.inr x1)]) q4 q5 q6
   refine yn4 (i := i) (v := v) (g := 0) (by simp +decide only [ja1, reduceIte, e0]) (by simp +decide only [ja1, reduceIte, e7]) (by simp +decide only [ja1, reduceIte, e8]) (by simp +decide only [ja1, reduceIte]; rfl) (by simp +decide only [ja1, reduceIte]) hsm hj2 K hG n1 (by omega) (by decide) fun E2 q0 q7 q8 q10 q11 => ?_
   have no1 : ¬ (i + 3 = s.length ∨ hexT (s.getD (i + 3) 0).toNat = 16) := fun h => h.elim (fun h => by omega) x1
   have g1 : hexN (s.getD (i + 3) 0) < 16 := by have := jn1 (s.getD (i + 3) 0).toNat; unfold hexN; omega
   rw [jc9]
   by_cases n2 : i + 4 < s.length
   · by_cases x2 : hexT (s.getD (i + 4) 0).toNat = 16
     · refine yx9 (i := i) (v := v) (g := 0 * 16 + hexN (s.getD (i + 3) 0)) q0 q7 q8 q10 q11 hsm hj2 K hG n2 x2 fun E' q4 q5 q6 => ?_
       simp +decide only [↓jo3, ↓jt7, dG.o]
       exact hb (i + 4) E' (by rw [if_neg no1]; exact ⟨.inr x2, rfl⟩) q4 q5 q6
     refine yn5 (i := i) (v := v) (g := 0 * 16 + hexN (s.getD (i + 3) 0)) q0 q7 q8 q10 q11 hsm hj2 K hG n2 (by omega) (by omega) fun E3 p0 p7 p8 p10 p11 => ?_
     have no2 : ¬ (i + 4 = s.length ∨ hexT (s.getD (i + 4) 0).toNat = 16) := fun h => h.elim (fun h => by omega) x2
     have g2 : hexN (s.getD (i + 4) 0) < 16 := by have := jn1 (s.getD (i + 4) 0).toNat; unfold hexN; omega
     rw [jc9]
     refine yy0 (i := i) (v := v) p0 p7 p8 p10 p11 fun E4 r0 r7 r8 r10 => ?_
     have hu : (UInt8.ofNat (hexN (s.getD (i + 3) 0) * 16 + hexN (s.getD (i + 4) 0))).toNat = hexN (s.getD (i + 3) 0) * 16 + hexN (s.getD (i + 4) 0) := by
       rw [UInt8.toNat_ofNat']; omega
     have wb : IntKind.u8.wrap (((0 * 16 + hexN (s.getD (i + 3) 0)) * 16 + hexN (s.getD (i + 4) 0) : Nat) : Int) = ((UInt8.ofNat (hexN (s.getD (i + 3) 0) * 16 + hexN (s.getD (i + 4) 0))).toNat : Int) := by
       rw [ju3 (by omega) (by omega), hu]; omega
     have hx := hx no1 no2
     generalize UInt8.ofNat (hexN (s.getD (i + 3) 0) * 16 + hexN (s.getD (i + 4) 0)) = ub at *
     obtain ⟨v', H', a1, a2⟩ := h.add ub hn
     have w4 : IntKind.i64.wrap (((i + 2 : Nat) : Int) + 2) = ((i + 4 : Nat) : Int) := by rw [ja4 (by omega) (by omega)]; omega
     have w5 : IntKind.i64.wrap (((i + 4 : Nat) : Int) + 1) = ((i + 5 : Nat) : Int) := by rw [ja4 (by omega) (by omega)]; omega
     simp +decide only [↓uR.o, dG.o, ja1, reduceIte, ↓ja0 l32, ↓ja0 l33, ↓ja0 l34, r7, r8, r10, yx2, wb, bslice1, jf5, a1, w4, w5]
     exact hx _ H' v' (by simp +decide only [ja1, reduceIte, r0]) (by simp +decide only [ja1, reduceIte]) (by simp +decide only [ja1, reduceIte]) a2
   · refine yx8 (i := i) (v := v) (g := 0 * 16 + hexN (s.getD (i + 3) 0)) q0 q7 q8 q10 q11 hsm hj2 n2 fun E' q4 q5 q6 => ?_
     simp +decide only [↓jo3, ↓jt7, dG.o]
     exact hb (i + 4) E' (by rw [if_neg no1]; exact ⟨.inl (by omega), rfl⟩) q4 q5 q6
 · refine yx6 (i := i) (v := v) (g := 0) (by simp +decide only [ja1, reduceIte, e0]) (by simp +decide only [ja1, reduceIte, e7]) (by simp +decide only [ja1, reduceIte, e8]) (by simp +decide only [ja1, reduceIte]; rfl) (by simp +decide only [ja1, reduceIte]) hsm hj2 n1 fun E' q4 q5 q6 => ?_
   simp +decide only [↓jo3, ↓jt7, dG.o]
   exact hb (i + 3) E' (by rw [if_pos (.inl (by omega))]) q4 q5 q6
end
end Go.Am
