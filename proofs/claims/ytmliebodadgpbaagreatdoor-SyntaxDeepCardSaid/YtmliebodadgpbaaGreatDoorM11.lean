/- The rounds of next: blanks, remarks. -/
import Derived.Test.YtmliebodadgpbaaGreatDoorM10
import Derived.Test.YtmliebodadgpbaaGreatDoorM09
open Go.Proofs
namespace Go.Am
set_option maxRecDepth 100000
variable {H : Heap} {a : Option Addr} {s : List UInt8} {b N d c i : Nat} {hk : Hook} {R0 : RS} {E : Env} {Q : Am.R → Prop} {k : KOE}
theorem ji6 (h : Brow H a s) (hne : ∀ y, a = some y → y.block ≠ b) (z : Blk) : Brow (H.set b z) a s :=
 h.keep fun y x hy e => by rw [Heap.get_set, if_neg (hne y hy)]; exact e
def hashE (s : List UInt8) : Nat → Nat → Nat
 | 0, i => i
 | n + 1, i => if i + 1 < s.length ∧ s.getD (i + 1) 0 ≠ 10 then hashE s n (i + 1) else i
def blankI (u : UInt8) : Bool := decide (u = 32 ∨ u = 9 ∨ u = 10 ∨ u = 13)
def skipP (s : List UInt8) : Nat → Nat → Nat
 | 0, i => i
 | n + 1, i => if i < s.length then (if blankI (s.getD i 0) = true then skipP s n (i + 1) else if s.getD i 0 = 35 then skipP s n (hashE s (s.length - i) i + 1) else i) else i
theorem j01 (s : List UInt8) : ∀ n i, i < s.length → i ≤ hashE s n i ∧ hashE s n i < s.length
 | 0, i, h => ⟨Nat.le_refl _, h⟩
 | n + 1, i, h => by
   unfold hashE
   split
   · rename_i h1
     have := j01 s n (i + 1) h1.1
     omega
   · exact ⟨Nat.le_refl _, h⟩
theorem jw8 (s : List UInt8) : ∀ n i, i ≤ s.length → i ≤ skipP s n i ∧ skipP s n i ≤ s.length
 | 0, i, h => ⟨Nat.le_refl _, h⟩
 | n + 1, i, h => by
   unfold skipP
   split
   · rename_i h1
     split
     · have := jw8 s n (i + 1) (by omega); omega
     · split
       · have h2 := j01 s (s.length - i) i h1
         have := jw8 s n (hashE s (s.length - i) i + 1) (by omega)
         omega
       · exact ⟨Nat.le_refl _, h⟩
   · exact ⟨Nat.le_refl _, h⟩
theorem code18 : codeOf Tryz.f18 = .scope (.seq (rF Tryz.f18 0) (.seq (rF Tryz.f18 1) (.seq (.label 0) (.seq (.block 0 (.loop (.seq (.seq (rT Tryz.f18 2) (.cond (.tmp 43) .skip (.exit 0))) (.seq (.block 1 (.seq (rT Tryz.f18 4) (.seq (rF Tryz.f18 5) (.block 2 (.seq (.seq (rF Tryz.f18 6) (.cond (.tmp 62) .skip (.seq (rF Tryz.f18 7) (.cond (.tmp 62) .skip (.seq (rF Tryz.f18 8) (.cond (.tmp 62) .skip (rF Tryz.f18 9))))))) (.cond (.tmp 62) .skip (.seq (rF Tryz.f18 10) (.cond (.tmp 67) (.block 3 (.loop (.seq (.seq (rT Tryz.f18 11) (.cond (.tmp 93) .skip (.exit 3))) (.block 4 (rF Tryz.f18 12))))) (.exit 0))))))))) (rF Tryz.f18 3))))) (.seq (rF Tryz.f18 13) (.seq (.seq (rT Tryz.f18 14) (.cond (.tmp 117) .ret .skip)) (.seq (rF Tryz.f18 15) (.seq (rT Tryz.f18 16) (.seq (.seq (rF Tryz.f18 17) (.cond (.tmp 147) (.seq (rF Tryz.f18 18) .ret) .skip)) (rF Tryz.f18 19)))))))))) := by kernel_rfl
theorem j0b : ((rgn Tryz.f18 11)[11]?).bind (·.dst) = some 80 := by kernel_rfl
theorem j19 : ((rgn Tryz.f18 17)[2]?).bind (·.dst) = some 143 := by kernel_rfl
theorem y03 {N : Nat} {hk : Hook} {d : Nat} (hr : Brow H a s) (hne : ∀ y, a = some y → y.block ≠ b) (hs : s.length ≤ 1048576) (e0 : E 0 = .pointer (some ⟨b, 0, none⟩)) (hi : ¬ i + 1 < s.length) (hi2 : i < s.length) (hx : ∀ E', E' 0 = .pointer (some ⟨b, 0, none⟩) → Q (k (.exit 3) E' [] (H.set b (rdB a c s { R0 with at_ := i })))) :
   Q (execG PP XX (CH N hk d) N noPr (.seq (.seq (rT Tryz.f18 11) (.cond (.tmp 93) .skip (.exit 3))) (.block 4 (rF Tryz.f18 12))) none E [] (H.set b (rdB a c s { R0 with at_ := i })) k) := by
 have hb := jb4 H b (rdB a c s { R0 with at_ := i })
 have hrow := ji6 hr hne (rdB a c s { R0 with at_ := i })
 have w : IntKind.i64.wrap ((i : Int) + 1) = ((i + 1 : Nat) : Int) := by rw [jb2 (by omega) (by omega)]; omega
 have hlt : decide (((i + 1 : Nat) : Int) < (s.length : Int)) = false := decide_eq_false (by omega)
 have lL := lX2 Tryz.f18 11 12
 conv at lL in (occs := *) (rgnX _ _) => all_goals simp only [rX, opsAt, Tryz.f18, dL.o, reduceIte, Nat.reduceEqDiff]
 obtain ⟨l11, l12⟩ := lL
 simp (decide := true) only [↓uR.o, dG.o, ja1, reduceIte, Bool.not_true, ↓ja0 l11, ↓r_no _ 11 true 80 _ j0b, dA.o, je2 hb, jg0 hb, ja7 (ts := #[34]) rfl und34, e0, hlt, w]
 exact hx _ (e0)
theorem y4i {N : Nat} {hk : Hook} {d : Nat} (hr : Brow H a s) (hne : ∀ y, a = some y → y.block ≠ b) (hs : s.length ≤ 1048576) (e0 : E 0 = .pointer (some ⟨b, 0, none⟩)) (hi : i + 1 < s.length) (hv : s[i + 1] = 10) (hx : ∀ E', E' 0 = .pointer (some ⟨b, 0, none⟩) → Q (k (.exit 3) E' [] (H.set b (rdB a c s { R0 with at_ := i })))) :
   Q (execG PP XX (CH N hk d) N noPr (.seq (.seq (rT Tryz.f18 11) (.cond (.tmp 93) .skip (.exit 3))) (.block 4 (rF Tryz.f18 12))) none E [] (H.set b (rdB a c s { R0 with at_ := i })) k) := by
 have hb := jb4 H b (rdB a c s { R0 with at_ := i })
 have hrow := ji6 hr hne (rdB a c s { R0 with at_ := i })
 have w : IntKind.i64.wrap ((i : Int) + 1) = ((i + 1 : Nat) : Int) := by rw [jb2 (by omega) (by omega)]; omega
 have hlt : decide (((i + 1 : Nat) : Int) < (s.length : Int)) = true := decide_eq_true (by omega)
 obtain ⟨y, rfl, hl⟩ := hrow.bts.cell (i + 1) hi
 have hix := jc1 (n := s.length) (c := c) (a := y) hi
 have q10 : ((s[i + 1].toNat : Int) != 10) = false := by rw [hv]; rfl
 have lL := lX2 Tryz.f18 11 12
 conv at lL in (occs := *) (rgnX _ _) => all_goals simp only [rX, opsAt, Tryz.f18, dL.o, reduceIte, Nat.reduceEqDiff]
 obtain ⟨l11, l12⟩ := lL
 simp (decide := true) only [↓uR.o, dG.o, ja1, reduceIte, ↓ja0 l11, ↓jb7 _ 11 true 80 _ j0b, dA.o, je2 hb, jg0 hb, ja7 (ts := #[34]) rfl und34, e0, hlt, w, hix, ja9 hl, q10]
 exact hx _ (e0)
theorem yp5 {N : Nat} {hk : Hook} {d : Nat} (hr : Brow H a s) (hne : ∀ y, a = some y → y.block ≠ b) (hs : s.length ≤ 1048576) (e0 : E 0 = .pointer (some ⟨b, 0, none⟩)) (hi : i + 1 < s.length) (hv : s[i + 1] ≠ 10) (hx : ∀ E', E' 0 = .pointer (some ⟨b, 0, none⟩) → Q (k .norm E' [] (H.set b (rdB a c s { R0 with at_ := i + 1 })))) :
   Q (execG PP XX (CH N hk d) N noPr (.seq (.seq (rT Tryz.f18 11) (.cond (.tmp 93) .skip (.exit 3))) (.block 4 (rF Tryz.f18 12))) none E [] (H.set b (rdB a c s { R0 with at_ := i })) k) := by
 have hb := jb4 H b (rdB a c s { R0 with at_ := i })
 have hrow := ji6 hr hne (rdB a c s { R0 with at_ := i })
 have w : IntKind.i64.wrap ((i : Int) + 1) = ((i + 1 : Nat) : Int) := by rw [jb2 (by omega) (by omega)]; omega
 have hlt : decide (((i + 1 : Nat) : Int) < (s.length : Int)) = true := decide_eq_true (by omega)
 obtain ⟨y, rfl, hl⟩ := hrow.bts.cell (i + 1) hi
 have hix := jc1 (n := s.length) (c := c) (a := y) hi
 have q10 : ((s[i + 1].toNat : Int) != 10) = true := by rw [neB s[i + 1] 10 10 rfl]; simp [hv]
 have lL := lX2 Tryz.f18 11 12
 conv at lL in (occs := *) (rgnX _ _) => all_goals simp only [rX, opsAt, Tryz.f18, dL.o, reduceIte, Nat.reduceEqDiff]
 obtain ⟨l11, l12⟩ := lL
 simp (decide := true) only [↓uR.o, dG.o, ja1, ja5, reduceIte, ↓ja0 l11, ↓ja0 l12, ↓jb7 _ 11 true 80 _ j0b, dA.o, je2 hb, jg0 hb, ja7 (ts := #[34]) rfl und34, e0, hlt, w, hix, ja9 hl, q10, j71 hb, Heap.set_set]
 exact hx _ (e0)
theorem j6n {N : Nat} {hk : Hook} {d : Nat} (hr : Brow H a s) (hne : ∀ y, a = some y → y.block ≠ b) (hs : s.length ≤ 1048576) : ∀ (n i m : Nat) (_ : i < s.length) (_ : s.length ≤ i + n) (_ : n < m) {E : Env} (_ : E 0 = .pointer (some ⟨b, 0, none⟩)) (_ : ∀ E', E' 0 = .pointer (some ⟨b, 0, none⟩) → Q (k (.exit 3) E' [] (H.set b (rdB a c s { R0 with at_ := hashE s n i })))),
   Q (loopE (execG PP XX (CH N hk d) N noPr (.seq (.seq (rT Tryz.f18 11) (.cond (.tmp 93) .skip (.exit 3))) (.block 4 (rF Tryz.f18 12))) none) m E [] (H.set b (rdB a c s { R0 with at_ := i })) k)
 | 0, i, m + 1, hi, hn, hm, E, e, hx => by omega
 | n + 1, i, m + 1, hi, hn, hm, E, e, hx => by
   rw [jb5]
   by_cases h1 : i + 1 < s.length
   · have hg : s.getD (i + 1) 0 = s[i + 1] := by simp [List.getD, h1]
     by_cases hv : s[i + 1] = 10
     · have er : hashE s (n + 1) i = i := by rw [hashE, if_neg (fun h => by rw [hg] at h; exact h.2 hv)]
       rw [er] at hx
       exact y4i hr hne hs e h1 hv fun E' e' => by rw [je3]; exact hx E' e'
     · have er : hashE s (n + 1) i = hashE s n (i + 1) := by rw [hashE, if_pos ⟨h1, by rw [hg]; exact hv⟩]
       rw [er] at hx
       refine yp5 hr hne hs e h1 hv fun E' e' => ?_
       rw [jc4]
       exact j6n hr hne hs n (i + 1) m h1 (by omega) (by omega) e' hx
   · have er : hashE s (n + 1) i = i := by rw [hashE, if_neg (fun h => h1 h.1)]
     rw [er] at hx
     exact y03 hr hne hs e h1 hi fun E' e' => by rw [je3]; exact hx E' e'
theorem j6o {N : Nat} {hk : Hook} {d : Nat} (hr : Brow H a s) (hne : ∀ y, a = some y → y.block ≠ b) (hs : s.length ≤ 1048576) (e0 : E 0 = .pointer (some ⟨b, 0, none⟩)) (hi : i < s.length) (hv : s[i] = 32) (hx : ∀ E', E' 0 = .pointer (some ⟨b, 0, none⟩) → Q (k .norm E' [] (H.set b (rdB a c s { R0 with at_ := i + 1 })))) :
   Q (execG PP XX (CH N hk d) N noPr (.seq (.seq (rT Tryz.f18 2) (.cond (.tmp 43) .skip (.exit 0))) (.seq (.block 1 (.seq (rT Tryz.f18 4) (.seq (rF Tryz.f18 5) (.block 2 (.seq (.seq (rF Tryz.f18 6) (.cond (.tmp 62) .skip (.seq (rF Tryz.f18 7) (.cond (.tmp 62) .skip (.seq (rF Tryz.f18 8) (.cond (.tmp 62) .skip (rF Tryz.f18 9))))))) (.cond (.tmp 62) .skip (.seq (rF Tryz.f18 10) (.cond (.tmp 67) (.block 3 (.loop (.seq (.seq (rT Tryz.f18 11) (.cond (.tmp 93) .skip (.exit 3))) (.block 4 (rF Tryz.f18 12))))) (.exit 0))))))))) (rF Tryz.f18 3))) none E [] (H.set b (rdB a c s { R0 with at_ := i })) k) := by
 have hb := jb4 H b (rdB a c s { R0 with at_ := i })
 have hrow := ji6 hr hne (rdB a c s { R0 with at_ := i })
 have w : IntKind.i64.wrap ((i : Int) + 1) = ((i + 1 : Nat) : Int) := by rw [jb2 (by omega) (by omega)]; omega
 have hlt : decide ((i : Int) < (s.length : Int)) = true := decide_eq_true (by omega)
 obtain ⟨y, rfl, hl⟩ := hrow.bts.cell i hi
 have hix := jc1 (n := s.length) (c := c) (a := y) hi
 have q32 : ((s[i].toNat : Int) == 32) = true := by rw [hv]; rfl
 have lL := lX6 Tryz.f18 2 4 5 6 10 3
 conv at lL in (occs := *) (rgnX _ _) => all_goals simp only [rX, opsAt, Tryz.f18, dL.o, reduceIte, Nat.reduceEqDiff]
 obtain ⟨l2, l4, l5, l6, l10, l3⟩ := lL
 simp (decide := true) only [↓uR.o, dG.o, ja1, ja5, reduceIte, ↓ja0 l2, ↓ja0 l4, ↓ja0 l5, ↓ja0 l6, ↓ja0 l3, dA.o, je2 hb, jg0 hb, ja7 (ts := #[34]) rfl und34, e0, hlt, hix, ja9 hl, q32, w, j71 hb, Heap.set_set]
 exact hx _ (e0)
theorem j8c {N : Nat} {hk : Hook} {d : Nat} (hr : Brow H a s) (hne : ∀ y, a = some y → y.block ≠ b) (hs : s.length ≤ 1048576) (e0 : E 0 = .pointer (some ⟨b, 0, none⟩)) (hi : i < s.length) (hv : s[i] = 9) (hx : ∀ E', E' 0 = .pointer (some ⟨b, 0, none⟩) → Q (k .norm E' [] (H.set b (rdB a c s { R0 with at_ := i + 1 })))) :
   Q (execG PP XX (CH N hk d) N noPr (.seq (.seq (rT Tryz.f18 2) (.cond (.tmp 43) .skip (.exit 0))) (.seq (.block 1 (.seq (rT Tryz.f18 4) (.seq (rF Tryz.f18 5) (.block 2 (.seq (.seq (rF Tryz.f18 6) (.cond (.tmp 62) .skip (.seq (rF Tryz.f18 7) (.cond (.tmp 62) .skip (.seq (rF Tryz.f18 8) (.cond (.tmp 62) .skip (rF Tryz.f18 9))))))) (.cond (.tmp 62) .skip (.seq (rF Tryz.f18 10) (.cond (.tmp 67) (.block 3 (.loop (.seq (.seq (rT Tryz.f18 11) (.cond (.tmp 93) .skip (.exit 3))) (.block 4 (rF Tryz.f18 12))))) (.exit 0))))))))) (rF Tryz.f18 3))) none E [] (H.set b (rdB a c s { R0 with at_ := i })) k) := by
 have hb := jb4 H b (rdB a c s { R0 with at_ := i })
 have hrow := ji6 hr hne (rdB a c s { R0 with at_ := i })
 have w : IntKind.i64.wrap ((i : Int) + 1) = ((i + 1 : Nat) : Int) := by rw [jb2 (by omega) (by omega)]; omega
 have hlt : decide ((i : Int) < (s.length : Int)) = true := decide_eq_true (by omega)
 obtain ⟨y, rfl, hl⟩ := hrow.bts.cell i hi
 have hix := jc1 (n := s.length) (c := c) (a := y) hi
 have q32 : ((s[i].toNat : Int) == 32) = false := by rw [hv]; rfl
 have q9 : ((s[i].toNat : Int) == 9) = true := by rw [hv]; rfl
 have lL := lX7 Tryz.f18 2 4 5 6 7 10 3
 conv at lL in (occs := *) (rgnX _ _) => all_goals simp only [rX, opsAt, Tryz.f18, dL.o, reduceIte, Nat.reduceEqDiff]
 obtain ⟨l2, l4, l5, l6, l7, l10, l3⟩ := lL
 simp (decide := true) only [↓uR.o, dG.o, ja1, ja5, reduceIte, ↓ja0 l2, ↓ja0 l4, ↓ja0 l5, ↓ja0 l6, ↓ja0 l7, ↓ja0 l3, dA.o, je2 hb, jg0 hb, ja7 (ts := #[34]) rfl und34, e0, hlt, hix, ja9 hl, q32, q9, w, j71 hb, Heap.set_set]
 exact hx _ (e0)
theorem j6p {N : Nat} {hk : Hook} {d : Nat} (hr : Brow H a s) (hne : ∀ y, a = some y → y.block ≠ b) (hs : s.length ≤ 1048576) (e0 : E 0 = .pointer (some ⟨b, 0, none⟩)) (hi : i < s.length) (hv : s[i] = 10) (hx : ∀ E', E' 0 = .pointer (some ⟨b, 0, none⟩) → Q (k .norm E' [] (H.set b (rdB a c s { R0 with at_ := i + 1 })))) :
   Q (execG PP XX (CH N hk d) N noPr (.seq (.seq (rT Tryz.f18 2) (.cond (.tmp 43) .skip (.exit 0))) (.seq (.block 1 (.seq (rT Tryz.f18 4) (.seq (rF Tryz.f18 5) (.block 2 (.seq (.seq (rF Tryz.f18 6) (.cond (.tmp 62) .skip (.seq (rF Tryz.f18 7) (.cond (.tmp 62) .skip (.seq (rF Tryz.f18 8) (.cond (.tmp 62) .skip (rF Tryz.f18 9))))))) (.cond (.tmp 62) .skip (.seq (rF Tryz.f18 10) (.cond (.tmp 67) (.block 3 (.loop (.seq (.seq (rT Tryz.f18 11) (.cond (.tmp 93) .skip (.exit 3))) (.block 4 (rF Tryz.f18 12))))) (.exit 0))))))))) (rF Tryz.f18 3))) none E [] (H.set b (rdB a c s { R0 with at_ := i })) k) := by
 have hb := jb4 H b (rdB a c s { R0 with at_ := i })
 have hrow := ji6 hr hne (rdB a c s { R0 with at_ := i })
 have w : IntKind.i64.wrap ((i : Int) + 1) = ((i + 1 : Nat) : Int) := by rw [jb2 (by omega) (by omega)]; omega
 have hlt : decide ((i : Int) < (s.length : Int)) = true := decide_eq_true (by omega)
 obtain ⟨y, rfl, hl⟩ := hrow.bts.cell i hi
 have hix := jc1 (n := s.length) (c := c) (a := y) hi
 have q32 : ((s[i].toNat : Int) == 32) = false := by rw [hv]; rfl
 have q9 : ((s[i].toNat : Int) == 9) = false := by rw [hv]; rfl
 have q10 : ((s[i].toNat : Int) == 10) = true := by rw [hv]; rfl
 have lL := lX8 Tryz.f18 2 4 5 6 7 8 10 3
 conv at lL in (occs := *) (rgnX _ _) => all_goals simp only [rX, opsAt, Tryz.f18, dL.o, reduceIte, Nat.reduceEqDiff]
 obtain ⟨l2, l4, l5, l6, l7, l8, l10, l3⟩ := lL
 simp (decide := true) only [↓uR.o, dG.o, ja1, ja5, reduceIte, ↓ja0 l2, ↓ja0 l4, ↓ja0 l5, ↓ja0 l6, ↓ja0 l7, ↓ja0 l8, ↓ja0 l3, dA.o, je2 hb, jg0 hb, ja7 (ts := #[34]) rfl und34, e0, hlt, hix, ja9 hl, q32, q9, q10, w, j71 hb, Heap.set_set]
 exact hx _ (e0)
theorem j6q {N : Nat} {hk : Hook} {d : Nat} (hr : Brow H a s) (hne : ∀ y, a = some y → y.block ≠ b) (hs : s.length ≤ 1048576) (e0 : E 0 = .pointer (some ⟨b, 0, none⟩)) (hi : i < s.length) (hv : s[i] = 13) (hx : ∀ E', E' 0 = .pointer (some ⟨b, 0, none⟩) → Q (k .norm E' [] (H.set b (rdB a c s { R0 with at_ := i + 1 })))) :
   Q (execG PP XX (CH N hk d) N noPr (.seq (.seq (rT Tryz.f18 2) (.cond (.tmp 43) .skip (.exit 0))) (.seq (.block 1 (.seq (rT Tryz.f18 4) (.seq (rF Tryz.f18 5) (.block 2 (.seq (.seq (rF Tryz.f18 6) (.cond (.tmp 62) .skip (.seq (rF Tryz.f18 7) (.cond (.tmp 62) .skip (.seq (rF Tryz.f18 8) (.cond (.tmp 62) .skip (rF Tryz.f18 9))))))) (.cond (.tmp 62) .skip (.seq (rF Tryz.f18 10) (.cond (.tmp 67) (.block 3 (.loop (.seq (.seq (rT Tryz.f18 11) (.cond (.tmp 93) .skip (.exit 3))) (.block 4 (rF Tryz.f18 12))))) (.exit 0))))))))) (rF Tryz.f18 3))) none E [] (H.set b (rdB a c s { R0 with at_ := i })) k) := by
 have hb := jb4 H b (rdB a c s { R0 with at_ := i })
 have hrow := ji6 hr hne (rdB a c s { R0 with at_ := i })
 have w : IntKind.i64.wrap ((i : Int) + 1) = ((i + 1 : Nat) : Int) := by rw [jb2 (by omega) (by omega)]; omega
 have hlt : decide ((i : Int) < (s.length : Int)) = true := decide_eq_true (by omega)
 obtain ⟨y, rfl, hl⟩ := hrow.bts.cell i hi
 have hix := jc1 (n := s.length) (c := c) (a := y) hi
 have q32 : ((s[i].toNat : Int) == 32) = false := by rw [hv]; rfl
 have q9 : ((s[i].toNat : Int) == 9) = false := by rw [hv]; rfl
 have q10 : ((s[i].toNat : Int) == 10) = false := by rw [hv]; rfl
 have q13 : ((s[i].toNat : Int) == 13) = true := by rw [hv]; rfl
 have lL : _ ∧ _ := ⟨lX8 Tryz.f18 2 4 5 6 7 8 9 10, lX Tryz.f18 3⟩
 conv at lL in (occs := *) (rgnX _ _) => all_goals simp only [rX, opsAt, Tryz.f18, dL.o, reduceIte, Nat.reduceEqDiff]
 obtain ⟨⟨l2, l4, l5, l6, l7, l8, l9, l10⟩, l3⟩ := lL
 simp (decide := true) only [↓uR.o, dG.o, ja1, ja5, reduceIte, ↓ja0 l2, ↓ja0 l4, ↓ja0 l5, ↓ja0 l6, ↓ja0 l7, ↓ja0 l8, ↓ja0 l9, ↓ja0 l3, dA.o, je2 hb, jg0 hb, ja7 (ts := #[34]) rfl und34, e0, hlt, hix, ja9 hl, q32, q9, q10, q13, w, j71 hb, Heap.set_set]
 exact hx _ (e0)
theorem j99 {N : Nat} {hk : Hook} {d : Nat} (hr : Brow H a s) (hne : ∀ y, a = some y → y.block ≠ b) (hs : s.length ≤ 1048576) (e0 : E 0 = .pointer (some ⟨b, 0, none⟩)) (hi : ¬ i < s.length) (hx : ∀ E', E' 0 = .pointer (some ⟨b, 0, none⟩) → Q (k (.exit 0) E' [] (H.set b (rdB a c s { R0 with at_ := i })))) :
   Q (execG PP XX (CH N hk d) N noPr (.seq (.seq (rT Tryz.f18 2) (.cond (.tmp 43) .skip (.exit 0))) (.seq (.block 1 (.seq (rT Tryz.f18 4) (.seq (rF Tryz.f18 5) (.block 2 (.seq (.seq (rF Tryz.f18 6) (.cond (.tmp 62) .skip (.seq (rF Tryz.f18 7) (.cond (.tmp 62) .skip (.seq (rF Tryz.f18 8) (.cond (.tmp 62) .skip (rF Tryz.f18 9))))))) (.cond (.tmp 62) .skip (.seq (rF Tryz.f18 10) (.cond (.tmp 67) (.block 3 (.loop (.seq (.seq (rT Tryz.f18 11) (.cond (.tmp 93) .skip (.exit 3))) (.block 4 (rF Tryz.f18 12))))) (.exit 0))))))))) (rF Tryz.f18 3))) none E [] (H.set b (rdB a c s { R0 with at_ := i })) k) := by
 have hb := jb4 H b (rdB a c s { R0 with at_ := i })
 have hrow := ji6 hr hne (rdB a c s { R0 with at_ := i })
 have hlt : decide ((i : Int) < (s.length : Int)) = false := decide_eq_false (by omega)
 have l2 := tl (rgn Tryz.f18 2)
 conv at l2 => rhs; simp only [rgn, opsAt, codeOf, Tryz.f18, gS, gN, reduceIte, Nat.reduceEqDiff, tA]
 simp (decide := true) only [↓uR.o, dG.o, ja1, reduceIte, ↓ja0 l2, dA.o, je2 hb, jg0 hb, ja7 (ts := #[34]) rfl und34, e0, hlt]
 exact hx _ (e0)
theorem yp6 {N : Nat} {hk : Hook} {d : Nat} (hr : Brow H a s) (hne : ∀ y, a = some y → y.block ≠ b) (hs : s.length ≤ 1048576) (e0 : E 0 = .pointer (some ⟨b, 0, none⟩)) (hi : i < s.length) (h1 : s[i] ≠ 32) (h2 : s[i] ≠ 9) (h3 : s[i] ≠ 10) (h4 : s[i] ≠ 13) (h5 : s[i] ≠ 35) (hx : ∀ E', E' 0 = .pointer (some ⟨b, 0, none⟩) → Q (k (.exit 0) E' [] (H.set b (rdB a c s { R0 with at_ := i })))) :
   Q (execG PP XX (CH N hk d) N noPr (.seq (.seq (rT Tryz.f18 2) (.cond (.tmp 43) .skip (.exit 0))) (.seq (.block 1 (.seq (rT Tryz.f18 4) (.seq (rF Tryz.f18 5) (.block 2 (.seq (.seq (rF Tryz.f18 6) (.cond (.tmp 62) .skip (.seq (rF Tryz.f18 7) (.cond (.tmp 62) .skip (.seq (rF Tryz.f18 8) (.cond (.tmp 62) .skip (rF Tryz.f18 9))))))) (.cond (.tmp 62) .skip (.seq (rF Tryz.f18 10) (.cond (.tmp 67) (.block 3 (.loop (.seq (.seq (rT Tryz.f18 11) (.cond (.tmp 93) .skip (.exit 3))) (.block 4 (rF Tryz.f18 12))))) (.exit 0))))))))) (rF Tryz.f18 3))) none E [] (H.set b (rdB a c s { R0 with at_ := i })) k) := by
 have hb := jb4 H b (rdB a c s { R0 with at_ := i })
 have hrow := ji6 hr hne (rdB a c s { R0 with at_ := i })
 have hlt : decide ((i : Int) < (s.length : Int)) = true := decide_eq_true (by omega)
 obtain ⟨y, rfl, hl⟩ := hrow.bts.cell i hi
 have hix := jc1 (n := s.length) (c := c) (a := y) hi
 have q32 : ((s[i].toNat : Int) == 32) = false := by rw [eqB s[i] 32 32 rfl]; simp [h1]
 have q9 : ((s[i].toNat : Int) == 9) = false := by rw [eqB s[i] 9 9 rfl]; simp [h2]
 have q10 : ((s[i].toNat : Int) == 10) = false := by rw [eqB s[i] 10 10 rfl]; simp [h3]
 have q13 : ((s[i].toNat : Int) == 13) = false := by rw [eqB s[i] 13 13 rfl]; simp [h4]
 have q35 : ((s[i].toNat : Int) == 35) = false := by rw [eqB s[i] 35 35 rfl]; simp [h5]
 have lL := lX8 Tryz.f18 2 4 5 6 7 8 9 10
 conv at lL in (occs := *) (rgnX _ _) => all_goals simp only [rX, opsAt, Tryz.f18, dL.o, reduceIte, Nat.reduceEqDiff]
 obtain ⟨l2, l4, l5, l6, l7, l8, l9, l10⟩ := lL
 simp (decide := true) only [↓uR.o, dG.o, ja1, reduceIte, ↓ja0 l2, ↓ja0 l4, ↓ja0 l5, ↓ja0 l6, ↓ja0 l7, ↓ja0 l8, ↓ja0 l9, ↓ja0 l10, dA.o, je2 hb, jg0 hb, ja7 (ts := #[34]) rfl und34, e0, hlt, hix, ja9 hl, q32, q9, q10, q13, q35]
 exact hx _ (e0)
theorem yp7 {hk : Hook} {d : Nat} (hr : Brow H a s) (hne : ∀ y, a = some y → y.block ≠ b) (hs : s.length ≤ 1048576) (hN : s.length < N) (e0 : E 0 = .pointer (some ⟨b, 0, none⟩)) (hi : i < s.length) (h5 : s[i] = 35) (hx : ∀ E', E' 0 = .pointer (some ⟨b, 0, none⟩) → Q (k .norm E' [] (H.set b (rdB a c s { R0 with at_ := hashE s (s.length - i) i + 1 })))) :
   Q (execG PP XX (CH N hk d) N noPr (.seq (.seq (rT Tryz.f18 2) (.cond (.tmp 43) .skip (.exit 0))) (.seq (.block 1 (.seq (rT Tryz.f18 4) (.seq (rF Tryz.f18 5) (.block 2 (.seq (.seq (rF Tryz.f18 6) (.cond (.tmp 62) .skip (.seq (rF Tryz.f18 7) (.cond (.tmp 62) .skip (.seq (rF Tryz.f18 8) (.cond (.tmp 62) .skip (rF Tryz.f18 9))))))) (.cond (.tmp 62) .skip (.seq (rF Tryz.f18 10) (.cond (.tmp 67) (.block 3 (.loop (.seq (.seq (rT Tryz.f18 11) (.cond (.tmp 93) .skip (.exit 3))) (.block 4 (rF Tryz.f18 12))))) (.exit 0))))))))) (rF Tryz.f18 3))) none E [] (H.set b (rdB a c s { R0 with at_ := i })) k) := by
 have hb := jb4 H b (rdB a c s { R0 with at_ := i })
 have hrow := ji6 hr hne (rdB a c s { R0 with at_ := i })
 have hlt : decide ((i : Int) < (s.length : Int)) = true := decide_eq_true (by omega)
 have hle := j01 s (s.length - i) i hi
 obtain ⟨y, hy, hl⟩ := hrow.bts.cell i hi
 have hix : indexAddrA PP 34 (.slice a s.length c) (.int .i64 (i : Int)) = some (.pointer (some (y.add i))) := by rw [hy]; exact jc1 (n := s.length) (c := c) (a := y) hi
 have q32 : ((s[i].toNat : Int) == 32) = false := by rw [h5]; rfl
 have q9 : ((s[i].toNat : Int) == 9) = false := by rw [h5]; rfl
 have q10 : ((s[i].toNat : Int) == 10) = false := by rw [h5]; rfl
 have q13 : ((s[i].toNat : Int) == 13) = false := by rw [h5]; rfl
 have q35 : ((s[i].toNat : Int) == 35) = true := by rw [h5]; rfl
 have lL : _ ∧ _ := ⟨lX8 Tryz.f18 2 4 5 6 7 8 9 10, lX Tryz.f18 3⟩
 conv at lL in (occs := *) (rgnX _ _) => all_goals simp only [rX, opsAt, Tryz.f18, dL.o, reduceIte, Nat.reduceEqDiff]
 obtain ⟨⟨l2, l4, l5, l6, l7, l8, l9, l10⟩, l3⟩ := lL
 simp (decide := true) only [↓uR.o, dG.o, ja1, reduceIte, ↓ja0 l2, ↓ja0 l4, ↓ja0 l5, ↓ja0 l6, ↓ja0 l7, ↓ja0 l8, ↓ja0 l9, ↓ja0 l10, dA.o, je2 hb, jg0 hb, ja7 (ts := #[34]) rfl und34, e0, hlt, hix, ja9 hl, q32, q9, q10, q13, q35, ↓jc8]
 refine j6n hr hne hs (s.length - i) i N hi (by omega) (by omega) (e0) fun E' e' => ?_
 have hb := jb4 H b (rdB a c s { R0 with at_ := hashE s (s.length - i) i })
 generalize hz : hashE s (s.length - i) i = z at *
 have w : IntKind.i64.wrap ((z : Int) + 1) = ((z + 1 : Nat) : Int) := by rw [jb2 (by omega) (by omega)]; omega
 simp (decide := true) only [↓uR.o, dG.o, ja1, ja5, reduceIte, ↓ja0 l3, rfat, jg0 hb, e', w, j71 hb, Heap.set_set]
 exact hx _ (by simp (decide := true) only [ja1, reduceIte, e'])
theorem j2a {hk : Hook} {d : Nat} (hr : Brow H a s) (hne : ∀ y, a = some y → y.block ≠ b) (hs : s.length ≤ 1048576) (hN : s.length < N) : ∀ (n i m : Nat) (_ : s.length < i + n) (_ : n < m) {E : Env} (_ : E 0 = .pointer (some ⟨b, 0, none⟩)) (_ : ∀ E', E' 0 = .pointer (some ⟨b, 0, none⟩) → Q (k (.exit 0) E' [] (H.set b (rdB a c s { R0 with at_ := skipP s n i })))),
   Q (loopE (execG PP XX (CH N hk d) N noPr (.seq (.seq (rT Tryz.f18 2) (.cond (.tmp 43) .skip (.exit 0))) (.seq (.block 1 (.seq (rT Tryz.f18 4) (.seq (rF Tryz.f18 5) (.block 2 (.seq (.seq (rF Tryz.f18 6) (.cond (.tmp 62) .skip (.seq (rF Tryz.f18 7) (.cond (.tmp 62) .skip (.seq (rF Tryz.f18 8) (.cond (.tmp 62) .skip (rF Tryz.f18 9))))))) (.cond (.tmp 62) .skip (.seq (rF Tryz.f18 10) (.cond (.tmp 67) (.block 3 (.loop (.seq (.seq (rT Tryz.f18 11) (.cond (.tmp 93) .skip (.exit 3))) (.block 4 (rF Tryz.f18 12))))) (.exit 0))))))))) (rF Tryz.f18 3))) none) m E [] (H.set b (rdB a c s { R0 with at_ := i })) k)
 | 0, i, m + 1, hn, hm, E, e, hx => by
   rw [jb5]
   exact j99 hr hne hs e (by omega) fun E' e' => by rw [je3]; exact hx E' e'
 | n + 1, i, m, hn, hm, E, e, hx => by
   obtain ⟨m, rfl⟩ : ∃ q, m = q + 1 := ⟨m - 1, by omega⟩
   rw [jb5]
   by_cases hi : i < s.length
   · have hg : s.getD i 0 = s[i] := by simp [List.getD, hi]
     by_cases hbl : blankI s[i] = true
     · have er : skipP s (n + 1) i = skipP s n (i + 1) := by rw [skipP, if_pos hi, if_pos (by rw [hg]; exact hbl)]
       rw [er] at hx
       have next : ∀ E', E' 0 = .pointer (some ⟨b, 0, none⟩) → Q (thenE (fun E ds H k => loopE (execG PP XX (CH N hk d) N noPr (.seq (.seq (rT Tryz.f18 2) (.cond (.tmp 43) .skip (.exit 0))) (.seq (.block 1 (.seq (rT Tryz.f18 4) (.seq (rF Tryz.f18 5) (.block 2 (.seq (.seq (rF Tryz.f18 6) (.cond (.tmp 62) .skip (.seq (rF Tryz.f18 7) (.cond (.tmp 62) .skip (.seq (rF Tryz.f18 8) (.cond (.tmp 62) .skip (rF Tryz.f18 9))))))) (.cond (.tmp 62) .skip (.seq (rF Tryz.f18 10) (.cond (.tmp 67) (.block 3 (.loop (.seq (.seq (rT Tryz.f18 11) (.cond (.tmp 93) .skip (.exit 3))) (.block 4 (rF Tryz.f18 12))))) (.exit 0))))))))) (rF Tryz.f18 3))) none) m E ds H k) k .norm E' [] (H.set b (rdB a c s { R0 with at_ := i + 1 }))) := fun E' e' => by
         rw [jc4]
         exact j2a hr hne hs hN n (i + 1) m (by omega) (by omega) e' hx
       rcases of_decide_eq_true hbl with h | h | h | h
       · exact j6o hr hne hs e hi h next
       · exact j8c hr hne hs e hi h next
       · exact j6p hr hne hs e hi h next
       · exact j6q hr hne hs e hi h next
     · have hb4 : ¬ (s[i] = 32 ∨ s[i] = 9 ∨ s[i] = 10 ∨ s[i] = 13) := fun h => hbl (decide_eq_true h)
       by_cases h5 : s[i] = 35
       · have er : skipP s (n + 1) i = skipP s n (hashE s (s.length - i) i + 1) := by rw [skipP, if_pos hi, if_neg (by rw [hg]; exact hbl), if_pos (by rw [hg]; exact h5)]
         rw [er] at hx
         have hle := j01 s (s.length - i) i hi
         refine yp7 hr hne hs hN e hi h5 fun E' e' => ?_
         rw [jc4]
         exact j2a hr hne hs hN n _ m (by omega) (by omega) e' hx
       · have er : skipP s (n + 1) i = i := by rw [skipP, if_pos hi, if_neg (by rw [hg]; exact hbl), if_neg (by rw [hg]; exact h5)]
         rw [er] at hx
         exact yp6 hr hne hs e hi (fun h => hb4 (.inl h)) (fun h => hb4 (.inr (.inl h))) (fun h => hb4 (.inr (.inr (.inl h)))) (fun h => hb4 (.inr (.inr (.inr h)))) h5 fun E' e' => by rw [je3]; exact hx E' e'
   · have er : skipP s (n + 1) i = i := by rw [skipP, if_neg hi]
     rw [er] at hx
     exact j99 hr hne hs e hi fun E' e' => by rw [je3]; exact hx E' e'
end Go.Am
namespace Go.Am
set_option maxRecDepth 100000
variable {a : Option Addr} {c b : Nat} {s w : List UInt8} {H : Heap} {R : RS}
def tk0 : Tk := ⟨0, 0, .empty, 0, 0⟩
def nextP (s : List UInt8) (p : PS) : PS :=
 if skipP s (s.length + 1 - p.to_) p.to_ < s.length then
   { p with at_ := skipP s (s.length + 1 - p.to_) p.to_, to_ := reachI s (skipP s (s.length + 1 - p.to_) p.to_), k := (lex1 ((s.drop (skipP s (s.length + 1 - p.to_) p.to_)).take (reachI s (skipP s (s.length + 1 - p.to_) p.to_) - skipP s (s.length + 1 - p.to_) p.to_))).getD tk0 }
 else { p with at_ := skipP s (s.length + 1 - p.to_) p.to_, to_ := skipP s (s.length + 1 - p.to_) p.to_, k := tk0 }
structure Rest (R R' : RS) : Prop where
 pos : R'.pos = R.pos
 word : R'.word = R.word
 wat : R'.wat = R.wat
 index : R'.index = R.index
 top : R'.top = R.top
theorem j2b (c : Code) (body : Option Nat → Env → List Deferred → Heap → KOE → Am.R) (n : Nat) (k : KOE) (E : Env) (ds : List Deferred) (H : Heap) : scopeK c body n k .norm E ds H = k .norm E ds H := id rfl
theorem yp8 : buildA PP 49 #[] = some (.agg tk0.cells.toArray) := by kernel_rfl
theorem y2w (h : H.get b = some (rdB a c s R)) (k : Tk) : storeA PP 49 (.pointer (some ⟨b, 3, none⟩)) (.agg k.cells.toArray) H = some (undef, H.set b (rdB a c s { R with k := k })) := by
 simp only [storeA, size29, stV]
 simp [Tk.cells, Value.cells, st, look, h, rdB, rdC, over, Value.oneCell']
theorem y4j (k : Tk) : storeA PP 49 (.pointer (some ⟨b, 3, none⟩)) (.agg k.cells.toArray) (H.set b (rdB a c s R)) = some (undef, H.set b (rdB a c s { R with k := k })) := by rw [y2w (jb4 _ _ _) k, Heap.set_set]
theorem y74 {q : Nat} {tk : Tk} (h : H.get q = some ⟨tk.cells, true, 5, none⟩) : loadA PP 49 (.pointer (some ⟨q, 0, none⟩)) H = some (.agg tk.cells.toArray, H) := by
 simp only [loadA, agg29, size29]
 simp [ldN, look, h, Tk.cells]
theorem yp9 (x : Rd a c s b H R) : ∃ w, sliceOpA PP 22 R.want none (some (.int .i64 0)) none H = some w ∧ Value.oneCell' w = true ∧ WantOk H w 0 ∧ ∀ q, blkOf w = some q → blkOf R.want = some q := by
 rcases x.want with h | ⟨q, n, m, h1, h2, h3, h4, ws, h5, h6⟩
 · rw [h]
   refine ⟨.slice none 0 0, ?_, rfl, .inl rfl, fun q hq => hq⟩
   simp [sliceOpA, jo6, sliceA]
 · rw [h1]
   refine ⟨.slice (some ⟨q, 0, none⟩) 0 m, ?_, rfl, .inr ⟨q, 0, m, rfl, Nat.zero_le _, h3, Nat.le_refl _, ws, h5, h6⟩, fun q' hq => hq⟩
   simp [sliceOpA, jo6, sliceA, look, h5, Addr.add]
theorem Rd.self {R' : RS} (x : Rd a c s b H R) (e1 : R'.items = R.items) (e2 : R'.nodes = R.nodes) (e3 : R'.its = R.its) (e4 : R'.nds = R.nds) (e5 : R'.own = R.own) (hw : WantOk H R'.want R'.wl) (hwb : ∀ q, blkOf R'.want = some q → blkOf R.want = some q)
   (sz : R'.its.length ≤ R'.to_ ∧ R'.nds.length ≤ R'.to_ ∧ R'.opened ≤ 32 ∧ R'.at_ ≤ R'.to_ ∧ R'.to_ ≤ s.length) : Rd a c s b (H.set b (rdB a c s R')) R' := by
 have mn : ∀ q, mine b R' q → mine b R q := fun q h => by
   rcases h with h | h | h | h
   · exact .inl h
   · exact .inr (.inl (hwb q h))
   · rw [e1] at h; exact .inr (.inr (.inl h))
   · rw [e2] at h; exact .inr (.inr (.inr h))
 have kF : ∀ q y, (R.own q ∧ ¬ mine b R q) → H.get q = some y → (R'.own q ∧ ¬ mine b R' q) ∧ H.get q = some y := fun q y hq e => ⟨⟨by rw [e5]; exact hq.1, fun h => hq.2 (mn q h)⟩, e⟩
 refine x.turn (Nat.le_refl _) x.fresh (fun _ _ e _ => e) (fun q => ?_) (fun q h => .inl (mn q h)) (fun q _ h => mn q h) ⟨_, x.blk⟩ hw ⟨fun h => x.d1.1 (hwb b h), ?_, ?_⟩ (fun q hq => ?_) ?_ ?_ ?_ sz
 · rw [e5]
   constructor
   · exact .inl
   · rintro (h | h)
     · exact h
     · omega
 · rw [e1]; exact x.d1.2.1
 · rw [e2]; exact x.d1.2.2
 · rw [e1, e2]; exact x.d2 q (hwb q hq)
 · rw [e1, e2]; exact x.d3
 · rw [e1, e3]
   obtain ⟨cells, h1, h2⟩ := x.items
   exact ⟨cells, h1, h2.mono fun _ _ h => h.keep kF⟩
 · rw [e2, e4]
   obtain ⟨cells, h1, h2⟩ := x.nodes
   exact ⟨cells, h1, h2.mono fun _ _ h => h.keep kF⟩
theorem Rd.ext {H' : Heap} (x : Rd a c s b H R) (e : Ext H H') : Rd a c s b H' R := x.keep e.next e.fresh fun q y _ h => e.keep q y h
theorem Fr.ext {S : Nat → Prop} {A B C : Heap} (h : Fr S A B) (e : Ext B C) : Fr S A C := ⟨Nat.le_trans h.next e.next, fun q y g n => e.keep q y (h.keep q y g n), e.fresh⟩
theorem Fr.own {S : Nat → Prop} {A B : Heap} (h : Fr S A B) {b : Nat} (hb : S b) (hl : b < A.next) (z : Blk) : Fr S A (B.set b z) :=
 ⟨h.next, fun q y g n => by rw [Heap.get_set, if_neg (fun e : q = b => n (e ▸ hb))]; exact h.keep q y g n, jd5 h.fresh (Nat.lt_of_lt_of_le hl h.next) z⟩
theorem y4k {tk : Tk} (h1 : (toksI w (w.length + 1) 0).1 = [tk]) (h2 : (toksI w (w.length + 1) 0).2 = none) : lex1 w = some tk := by
 unfold lex1
 rw [show toksI w (w.length + 1) 0 = ([tk], none) from Prod.ext h1 h2]
theorem yq0 (h : (toksI w (w.length + 1) 0).1.length ≠ 1) : lex1 w = none := by
 unfold lex1
 split
 · rename_i tk' e'
   rw [e'] at h
   exact absurd rfl h
 · rfl
theorem y04 {e : Nat} (h : (toksI w (w.length + 1) 0).2 = some e) : lex1 w = none := by
 unfold lex1
 split
 · rename_i tk' e'
   rw [e'] at h
   cases h
 · rfl
structure Nx (a : Option Addr) (c : Nat) (s : List UInt8) (b : Nat) (H : Heap) (R : RS) (H' : Heap) (R' : RS) : Prop where
 go : Go a c s b H R H' R'
 ps : R'.ps = nextP s R.ps
 rest : Rest R R'
 wl : R'.wl = 0
set_option maxHeartbeats 2000000 in
theorem j6r {N : Nat} {hk : Hook} {d : Nat} (x : Rd a c s b H R) (hh : NH hk) (K : TkOk N hk (d + 1)) (hK2 : TkOk N hk (d + 2)) (hN : 2 * s.length + 100 < N) :
   ∃ H' R', Nx a c s b H R H' R' ∧ ∀ (Q : Am.R → Prop) (k : KOE), (∀ E' o, (o = .ret ∨ o = .norm) → Q (k o E' [] H')) → Q (execG PP XX (CH N hk (d + 2)) N noPr (codeOf Tryz.f18) none (startE #[.pointer (some ⟨b, 0, none⟩)]) [] H k) := by
 obtain ⟨n, rfl⟩ : ∃ n, N = n + 1 := ⟨N - 1, by omega⟩
 obtain ⟨w, hw1, hw2, hw3, hw4⟩ := yp9 x
 have hne : ∀ y, a = some y → y.block ≠ b := fun y hy e => (x.src y hy).2 (.inl e)
 have hsz := x.sz
 have hle := jw8 s (s.length + 1 - R.to_) R.to_ (by omega)
 have e0 : (startE #[.pointer (some ⟨b, 0, none⟩)]) 0 = .pointer (some ⟨b, 0, none⟩) := rfl
 have hbm : mine b R b := .inl rfl
 have hbl := x.ltN
 have hsl := x.short.1
 have hcap := x.cap
 have wk1 : WantOk H ({ R with want := w, name := false, num := false, k := tk0, bad := 0, wl := 0 } : RS).want 0 := hw3
 have enx : ∀ (Q : Am.R → Prop) (k : KOE) (_ : ∀ E', E' 0 = .pointer (some ⟨b, 0, none⟩) → Q (execG PP XX (CH (n + 1) hk (d + 2)) (n + 1) noPr (.seq (rF Tryz.f18 13) (.seq (.seq (rT Tryz.f18 14) (.cond (.tmp 117) .ret .skip)) (.seq (rF Tryz.f18 15) (.seq (rT Tryz.f18 16) (.seq (.seq (rF Tryz.f18 17) (.cond (.tmp 147) (.seq (rF Tryz.f18 18) .ret) .skip)) (rF Tryz.f18 19)))))) none E' [] (H.set b (rdB a c s { ({ R with want := w, name := false, num := false, k := tk0, bad := 0, wl := 0 } : RS) with at_ := skipP s (s.length + 1 - R.to_) R.to_ })) (scopeK (.seq (rF Tryz.f18 0) (.seq (rF Tryz.f18 1) (.seq (.label 0) (.seq (.block 0 (.loop (.seq (.seq (rT Tryz.f18 2) (.cond (.tmp 43) .skip (.exit 0))) (.seq (.block 1 (.seq (rT Tryz.f18 4) (.seq (rF Tryz.f18 5) (.block 2 (.seq (.seq (rF Tryz.f18 6) (.cond (.tmp 62) .skip (.seq (rF Tryz.f18 7) (.cond (.tmp 62) .skip (.seq (rF Tryz.f18 8) (.cond (.tmp 62) .skip (rF Tryz.f18 9))))))) (.cond (.tmp 62) .skip (.seq (rF Tryz.f18 10) (.cond (.tmp 67) (.block 3 (.loop (.seq (.seq (rT Tryz.f18 11) (.cond (.tmp 93) .skip (.exit 3))) (.block 4 (rF Tryz.f18 12))))) (.exit 0))))))))) (rF Tryz.f18 3))))) (.seq (rF Tryz.f18 13) (.seq (.seq (rT Tryz.f18 14) (.cond (.tmp 117) .ret .skip)) (.seq (rF Tryz.f18 15) (.seq (rT Tryz.f18 16) (.seq (.seq (rF Tryz.f18 17) (.cond (.tmp 147) (.seq (rF Tryz.f18 18) .ret) .skip)) (rF Tryz.f18 19)))))))))) (execG PP XX (CH (n + 1) hk (d + 2)) (n + 1) noPr (.seq (rF Tryz.f18 0) (.seq (rF Tryz.f18 1) (.seq (.label 0) (.seq (.block 0 (.loop (.seq (.seq (rT Tryz.f18 2) (.cond (.tmp 43) .skip (.exit 0))) (.seq (.block 1 (.seq (rT Tryz.f18 4) (.seq (rF Tryz.f18 5) (.block 2 (.seq (.seq (rF Tryz.f18 6) (.cond (.tmp 62) .skip (.seq (rF Tryz.f18 7) (.cond (.tmp 62) .skip (.seq (rF Tryz.f18 8) (.cond (.tmp 62) .skip (rF Tryz.f18 9))))))) (.cond (.tmp 62) .skip (.seq (rF Tryz.f18 10) (.cond (.tmp 67) (.block 3 (.loop (.seq (.seq (rT Tryz.f18 11) (.cond (.tmp 93) .skip (.exit 3))) (.block 4 (rF Tryz.f18 12))))) (.exit 0))))))))) (rF Tryz.f18 3))))) (.seq (rF Tryz.f18 13) (.seq (.seq (rT Tryz.f18 14) (.cond (.tmp 117) .ret .skip)) (.seq (rF Tryz.f18 15) (.seq (rT Tryz.f18 16) (.seq (.seq (rF Tryz.f18 17) (.cond (.tmp 147) (.seq (rF Tryz.f18 18) .ret) .skip)) (rF Tryz.f18 19))))))))))) n k))),
     Q (execG PP XX (CH (n + 1) hk (d + 2)) (n + 1) noPr (codeOf Tryz.f18) none (startE #[.pointer (some ⟨b, 0, none⟩)]) [] H k) := fun Q k hx => by
   have lL := lX2 Tryz.f18 0 1
   conv at lL in (occs := *) (rgnX _ _) => all_goals simp only [rX, opsAt, Tryz.f18, dL.o, reduceIte, Nat.reduceEqDiff]
   obtain ⟨l0, l1⟩ := lL
   rw [code18]
   simp (decide := true) only [↓uR.o, dG.o, ja1, ja5, reduceIte, ↓ja0 l0, ↓ja0 l1, ↓jo7, ↓jg9, ↓jo8, ↓jc8, dA.o, j4l x.blk, hw1, yp8, yn2 x.blk w hw2, j92, y36, y4j, y35, j9z, y6a, Option.map_some, Option.map_none]
   refine j2a (R0 := { R with want := w, name := false, num := false, k := tk0, bad := 0, wl := 0 }) x.row hne hsl (by omega) (s.length + 1 - R.to_) R.to_ (n + 1) (by omega) (by omega) (e0) fun E' e' => ?_
   simp only [jt9, jc4]
   exact hx E' e'
 generalize hz : skipP s (s.length + 1 - R.to_) R.to_ = z at hle enx
 have rd1 : Rd a c s b (H.set b (rdB a c s ({ R with want := w, name := false, num := false, k := tk0, bad := 0, wl := 0, at_ := z, to_ := z } : RS))) ({ R with want := w, name := false, num := false, k := tk0, bad := 0, wl := 0, at_ := z, to_ := z } : RS) := x.self rfl rfl rfl rfl rfl hw3 hw4 ⟨by show R.its.length ≤ z; omega, by show R.nds.length ≤ z; omega, hsz.2.2.1, Nat.le_refl _, hle.2⟩
 have fr1 : Fr (mine b R) H (H.set b (rdB a c s ({ R with want := w, name := false, num := false, k := tk0, bad := 0, wl := 0, at_ := z, to_ := z } : RS))) := (Fr.refl x.fresh).own hbm hbl _
 have mn : ∀ (R' : RS), R'.want = w → R'.items = R.items → R'.nodes = R.nodes → ∀ q, mine b R' q → mine b R q := fun R' e1 e2 e3 q h => by
   rcases h with h | h | h | h
   · exact .inl h
   · rw [e1] at h; exact .inr (.inl (hw4 q h))
   · rw [e2] at h; exact .inr (.inr (.inl h))
   · rw [e3] at h; exact .inr (.inr (.inr h))
 have lL := lX7 Tryz.f18 13 14 15 16 17 18 19
 conv at lL in (occs := *) (rgnX _ _) => all_goals simp only [rX, opsAt, Tryz.f18, dL.o, reduceIte, Nat.reduceEqDiff]
 obtain ⟨l13, l14, l15, l16, l17, l18, l19⟩ := lL
 by_cases hlt : z < s.length
 · have hne0 : ((z : Int) == (s.length : Int)) = false := by
     have : ¬ (z : Int) = (s.length : Int) := by omega
     simpa using this
   obtain ⟨H2, hr', x2⟩ := yg4 rd1 hh K hN hlt
   have hr : CH (n + 1) hk (d + 2) 35 #[.pointer (some ⟨b, 0, none⟩)] (H.set b (rdB a c s ({ R with want := w, name := false, num := false, k := tk0, bad := 0, wl := 0, at_ := z, to_ := z } : RS))) = some (.ret (.int .i64 (reachI s z : Int)), H2) := hr'
   have rd2 := rd1.ext x2
   have rl := jw6 s hlt
   have rd3 : Rd a c s b (H2.set b (rdB a c s ({ R with want := w, name := false, num := false, k := tk0, bad := 0, wl := 0, at_ := z, to_ := reachI s z } : RS))) ({ R with want := w, name := false, num := false, k := tk0, bad := 0, wl := 0, at_ := z, to_ := reachI s z } : RS) := rd2.self rfl rfl rfl rfl rfl rd2.want (fun _ h => h) ⟨by show R.its.length ≤ reachI s z; omega, by show R.nds.length ≤ reachI s z; omega, hsz.2.2.1, by show z ≤ reachI s z; omega, rl.2⟩
   obtain ⟨a', c', hs, hrow, hc'⟩ := j8b rd3.row (i := z) (j := reachI s z) (c := c) rl.1 rl.2 hcap
   have hl2 : ((s.drop z).take (reachI s z - z)).length ≤ 1048576 := by simp; omega
   obtain ⟨H4, x4, v, e, q, ht, hv⟩ := hK2 (H2.set b (rdB a c s ({ R with want := w, name := false, num := false, k := tk0, bad := 0, wl := 0, at_ := z, to_ := reachI s z } : RS))) a' c' _ rd3.gg hrow hl2 hc' (x.short.2.sub _ _)
   have rd4 := rd3.ext x4
   have fr4 : Fr (mine b R) H H4 := ((fr1.ext x2).own hbm hbl _).ext x4
   have fin : ∀ (k' : Tk) (bd : Int), (lex1 ((s.drop z).take (reachI s z - z))).getD tk0 = k' → Nx a c s b H R (H4.set b (rdB a c s ({ R with want := w, name := false, num := false, wl := 0, at_ := z, to_ := reachI s z, k := k', bad := bd } : RS))) ({ R with want := w, name := false, num := false, wl := 0, at_ := z, to_ := reachI s z, k := k', bad := bd } : RS) := fun k' bd hk' => by
     refine ⟨⟨rd4.self rfl rfl rfl rfl rfl rd4.want (fun _ h => h) rd4.sz, fr4.own hbm hbl _, fun q h => .inl h, fun q h => h, fun q h => .inl (mn ({ R with want := w, name := false, num := false, wl := 0, at_ := z, to_ := reachI s z, k := k', bad := bd } : RS) rfl rfl rfl q h), by show R.at_ ≤ z; omega, by show R.its.length + R.at_ ≤ R.its.length + z; omega, by show R.nds.length + R.at_ ≤ R.nds.length + z; omega⟩, ?_, ⟨rfl, rfl, rfl, rfl, rfl⟩, rfl⟩
     show (⟨z, reachI s z, k', R.opened, R.its, R.nds⟩ : PS) = nextP s R.ps
     unfold nextP
     simp only [RS.ps, hz, if_pos hlt, hk']
   rcases hv with ⟨g1, g2, rfl, rfl⟩ | ⟨wr, g1, rfl, rfl, rfl⟩
   · obtain ⟨y2, m2, rfl⟩ := y2t g2
     by_cases hone : (toksI ((s.drop z).take (reachI s z - z)) (((s.drop z).take (reachI s z - z)).length + 1) 0).1.length = 1
     · obtain ⟨tk, htk⟩ := List.length_eq_one_iff.mp hone
       rw [htk] at g2 ht
       obtain ⟨q2, e2, hq2, _⟩ := y2u g2
       rw [e2] at ht
       refine ⟨_, _, fin tk 0 (by rw [y4k htk g1]; rfl), fun Q k hx => enx Q k fun E' e0 => ?_⟩
       simp (decide := true) only [↓uR.o, dG.o, ja1, ja5, reduceIte, ↓ja0 l13, ↓ja0 l14, ↓ja0 l15, ↓ja0 l16, ↓ja0 l17, ↓ja0 l18, ↓jb7 _ 2 true 143 _ j19, dA.o, e0, j3n, j9z, j4m, j90, ja7 (ts := #[34]) rfl und34, hne0, ja3 Tryz.func35 rfl rfl hr, y0q rd2.blk, hs, ja3 Tryz.func12 rfl rfl ht, exA, exB, exC, ji0, z00, j18, z11, yp0, y74 hq2, y2w rd4.blk, Option.map_some, Option.map_none]
       exact hx _ _ (.inl rfl)
     · have zone : (((toksI ((s.drop z).take (reachI s z - z)) (((s.drop z).take (reachI s z - z)).length + 1) 0).1.length : Int) == 1) = false := by
         have : ¬ ((toksI ((s.drop z).take (reachI s z - z)) (((s.drop z).take (reachI s z - z)).length + 1) 0).1.length : Int) = 1 := by omega
         simpa using this
       refine ⟨_, _, fin tk0 0 (by rw [yq0 hone]; rfl), fun Q k hx => enx Q k fun E' e0 => ?_⟩
       simp (decide := true) only [↓uR.o, dG.o, ja1, ja5, reduceIte, ↓ja0 l13, ↓ja0 l14, ↓ja0 l15, ↓ja0 l16, ↓ja0 l17, ↓ja0 l19, ↓jb7 _ 2 true 143 _ j19, dA.o, e0, j3n, j9z, j4m, j90, ja7 (ts := #[34]) rfl und34, hne0, ja3 Tryz.func35 rfl rfl hr, y0q rd2.blk, hs, ja3 Tryz.func12 rfl rfl ht, exA, exB, exC, j2b, z00, j18, zone, yn1 rd4.blk, Option.map_some, Option.map_none]
       exact hx _ _ (.inr rfl)
   · refine ⟨_, _, fin tk0 (wr : Int) (by rw [y04 g1]; rfl), fun Q k hx => enx Q k fun E' e0 => ?_⟩
     simp (decide := true) only [↓uR.o, dG.o, ja1, ja5, reduceIte, Bool.not_true, ↓ja0 l13, ↓ja0 l14, ↓ja0 l15, ↓ja0 l16, ↓ja0 l17, ↓ja0 l19, ↓r_no _ 2 true 143 _ j19, dA.o, e0, j3n, j9z, j4m, j90, ja7 (ts := #[34]) rfl und34, hne0, ja3 Tryz.func35 rfl rfl hr, y0q rd2.blk, hs, ja3 Tryz.func12 rfl rfl ht, exA, exB, exC, j2b, z60, yn1 rd4.blk, Option.map_some, Option.map_none]
     exact hx _ _ (.inr rfl)
 · have hze : z = s.length := by omega
   have hne0 : ((z : Int) == (s.length : Int)) = true := by rw [hze]; simp
   refine ⟨_, ({ R with want := w, name := false, num := false, k := tk0, bad := 0, wl := 0, at_ := z, to_ := z } : RS), ⟨⟨rd1, fr1, fun q h => .inl h, fun q h => h, fun q h => .inl (mn ({ R with want := w, name := false, num := false, k := tk0, bad := 0, wl := 0, at_ := z, to_ := z } : RS) rfl rfl rfl q h), by show R.at_ ≤ z; omega, by show R.its.length + R.at_ ≤ R.its.length + z; omega, by show R.nds.length + R.at_ ≤ R.nds.length + z; omega⟩, ?_, ⟨rfl, rfl, rfl, rfl, rfl⟩, rfl⟩, fun Q k hx => enx Q k fun E' e0 => ?_⟩
   · show (⟨z, z, tk0, R.opened, R.its, R.nds⟩ : PS) = nextP s R.ps
     unfold nextP
     simp only [RS.ps, hz, if_neg hlt]
   · simp (decide := true) only [↓uR.o, dG.o, ja1, ja5, reduceIte, ↓ja0 l13, ↓ja0 l14, dA.o, e0, j3n, j4m, j90, ja7 (ts := #[34]) rfl und34, hne0, ji0]
     exact hx _ _ (.inl rfl)
theorem yq1 {N : Nat} {hk : Hook} {d : Nat} (x : Rd a c s b H R) (hh : NH hk) (K : TkOk N hk (d + 1)) (hK2 : TkOk N hk (d + 2)) (hN : 2 * s.length + 100 < N) :
   ∃ H' R', CH N hk (d + 3) 18 #[.pointer (some ⟨b, 0, none⟩)] H = some (.ret (.tuple #[]), H') ∧ Nx a c s b H R H' R' := by
 obtain ⟨H', R', h1, h2⟩ := j6r x hh K hK2 hN
 refine ⟨H', R', ?_, h1⟩
 have hU := jb8 (P := PP) (okf := okC) (prf := prS) (X := XX) (N := N) (hk := hk) (d := d + 2) (args := #[.pointer (some ⟨b, 0, none⟩)]) (H := H) (hh _ _ _ rfl) Tryz.func18 (c := codeOf Tryz.f18) rfl rfl rfl (pr := noPr) rfl
 refine hU.trans (h2 (fun r => r = some (.ret (.tuple #[]), H')) _ fun E' o ho => ?_)
 rcases ho with rfl | rfl
 · exact ja4 (l := []) rfl
 · exact jq3 (l := []) rfl
end Go.Am
namespace Go.Am
set_option maxRecDepth 100000
def haltE (z : Int) (e : Int) : PanicEntry := { v := .iface 58 (.agg #[.int .i64 z, .int .i64 e]), recovered := false }
def Bad (s : List UInt8) (b : Nat) (H : Heap) (R : RS) (x : Am.R) (lo : Nat) : Prop := ∃ (z : Int) (H' : Heap), x = some (.pan [haltE z 60], H') ∧ Fr (mine b R) H H' ∧ (lo = s.length → z = (s.length : Int))
def TooDeep (b : Nat) (H : Heap) (R : RS) (x : Am.R) (z : Nat) : Prop := ∃ H', x = some (.pan [haltE z 61], H') ∧ Fr (mine b R) H H'
def FailOk (N : Nat) (hk : Hook) (d : Nat) : Prop := ∀ (a : Option Addr) (c : Nat) (s : List UInt8) (b : Nat) (H : Heap) (R : RS), Rd a c s b H R → Bad s b H R (CH N hk d 23 #[.pointer (some ⟨b, 0, none⟩)] H) R.at_
structure PK (N : Nat) (hk : Hook) : Prop where
 hh : NH hk
 tk : ∀ d, TkOk N hk (d + 5)
 fl : ∀ d, FailOk N hk (d + 12)
 big : 2097400 < N
theorem Go.fr' {a : Option Addr} {c : Nat} {s : List UInt8} {b : Nat} {H H1 H2 : Heap} {R R1 : RS} (x : Rd a c s b H R) (h : Go a c s b H R H1 R1) (k : Fr (Am.mine b R1) H1 H2) : Fr (Am.mine b R) H H2 := by
 refine ⟨Nat.le_trans h.fr.next k.next, fun q y e hn => ?_, k.fresh⟩
 refine k.keep q y (h.fr.keep q y e hn) fun hm => ?_
 rcases h.mine q hm with e' | e'
 · exact hn e'
 · have := jc9 x.fresh e; omega
theorem Bad.of {a : Option Addr} {c : Nat} {s : List UInt8} {b : Nat} {H H1 : Heap} {R R1 : RS} (x : Rd a c s b H R) (h : Go a c s b H R H1 R1) {y : Am.R} {lo : Nat} (k : Bad s b H1 R1 y lo) : Bad s b H R y lo :=
 let ⟨z, H', e, f, l⟩ := k; ⟨z, H', e, h.fr' x f, l⟩
theorem TooDeep.of {a : Option Addr} {c : Nat} {s : List UInt8} {b : Nat} {H H1 : Heap} {R R1 : RS} (x : Rd a c s b H R) (h : Go a c s b H R H1 R1) {y : Am.R} {z : Nat} (k : TooDeep b H1 R1 y z) : TooDeep b H R y z :=
 let ⟨H', e, f⟩ := k; ⟨H', e, h.fr' x f⟩
theorem Same.rest {R R' : RS} (h : Same R R') : Rest R R' := ⟨h.pos, h.word, h.wat, h.index, h.top⟩
theorem Rest.trans {R R1 R2 : RS} (h : Rest R R1) (k : Rest R1 R2) : Rest R R2 := ⟨k.pos.trans h.pos, k.word.trans h.word, k.wat.trans h.wat, k.index.trans h.index, k.top.trans h.top⟩
theorem Rest.refl (R : RS) : Rest R R := ⟨rfl, rfl, rfl, rfl, rfl⟩
section
variable {N : Nat} {hk : Hook} {d : Nat} {a : Option Addr} {c : Nat} {s : List UInt8} {b : Nat} {H : Heap} {R : RS}
theorem PK.next (P : PK N hk) (x : Rd a c s b H R) : ∃ H' R', CH N hk (d + 7) 18 #[.pointer (some ⟨b, 0, none⟩)] H = some (.ret (.tuple #[]), H') ∧ Nx a c s b H R H' R' :=
 yq1 (d := d + 4) x P.hh (P.tk d) (P.tk (d + 1)) (by have := P.big; have := x.short; omega)
theorem PK.see (P : PK N hk) (x : Rd a c s b H R) (hw : R.wl < 1000) (k : Int) :
   ∃ H' R', CH N hk (d + 1) 38 #[.pointer (some ⟨b, 0, none⟩), .int .i64 k] H = some (.ret (.bool (R.k.kind == k)), H') ∧ Go a c s b H R H' R' ∧ Same R R' ∧ R'.wl ≤ R.wl + 1 ∧ (R.k.kind = k → R'.wl = R.wl) := y0u x P.hh hw k
theorem yq2 {R R' : RS} (h : R'.ps = R.ps) : R'.k = R.k ∧ R'.at_ = R.at_ ∧ R'.to_ = R.to_ ∧ R'.opened = R.opened ∧ R'.its = R.its ∧ R'.nds = R.nds := by
 simp only [RS.ps, PS.mk.injEq] at h
 exact ⟨h.2.2.1, h.1, h.2.1, h.2.2.2.1, h.2.2.2.2.1, h.2.2.2.2.2⟩
theorem code36 : codeOf Tryz.f36 = .seq (rF Tryz.f36 0) (.seq (.seq (rF Tryz.f36 1) (.cond (.tmp 8) (.seq (rF Tryz.f36 2) .ret) .skip)) (.seq (rF Tryz.f36 3) (.seq (rF Tryz.f36 4) .ret))) := by kernel_rfl
theorem unNT : unA PP .not (.bool true) = some (.bool false) := by rfl
theorem unNF : unA PP .not (.bool false) = some (.bool true) := by rfl
theorem j6s (P : PK N hk) (x : Rd a c s b H R) (hw : R.wl < 1000) (k : Int) :
   ∃ H' R', CH N hk (d + 8) 36 #[.pointer (some ⟨b, 0, none⟩), .int .i64 k] H = some (.ret (.bool (R.k.kind == k)), H') ∧ Go a c s b H R H' R' ∧ R'.ps = (if R.k.kind = k then nextP s R.ps else R.ps) ∧ Rest R R' ∧ R'.wl ≤ (if R.k.kind = k then 0 else R.wl + 1) := by
 have hh := P.hh
 obtain ⟨H1, R1, c1, g1, s1, w1, w1'⟩ := P.see (d := d + 6) x hw k
 have hU := jb8 (P := PP) (okf := okC) (prf := prS) (X := XX) (N := N) (hk := hk) (d := d + 7) (args := #[.pointer (some ⟨b, 0, none⟩), .int .i64 k]) (H := H) (hh _ _ _ rfl) Tryz.func36 (c := codeOf Tryz.f36) rfl rfl rfl (pr := noPr) rfl
 rw [code36] at hU
 generalize hF : finG PP okC prS XX (CH N hk (d + 7)) N Tryz.f36 = F at hU
 have lL := lX5 Tryz.f36 0 1 2 3 4
 conv at lL in (occs := *) (rgnX _ _) => all_goals simp only [rX, opsAt, Tryz.f36, dL.o, reduceIte, Nat.reduceEqDiff]
 obtain ⟨l0, l1, l2, l3, l4⟩ := lL
 by_cases h : R.k.kind = k
 · have e : (R.k.kind == k) = true := by rw [h]; simp
   rw [e] at c1 ⊢
   obtain ⟨H2, R2, c2, n2⟩ := P.next (d := d) g1.rd
   refine ⟨H2, R2, hU.trans ?_, g1.trans x n2.go, by rw [if_pos h, n2.ps, s1.ps], s1.rest.trans n2.rest, by rw [if_pos h, n2.wl]; exact Nat.le_refl _⟩
   simp (decide := true) only [↓uR.o, dG.o, ja1, reduceIte, ↓ja0 l0, ↓ja0 l1, ↓ja0 l3, ↓ja0 l4, ja3 Tryz.func38 rfl rfl c1, unNT, ja3 Tryz.func18 rfl rfl c2]
   rw [← hF, ja4 (l := [.bool true]) (by simp (decide := true) [Tryz.f36, resE, ja1])]
   rfl
 · have e : (R.k.kind == k) = false := by simp [h]
   rw [e] at c1 ⊢
   refine ⟨H1, R1, hU.trans ?_, g1, by rw [if_neg h, s1.ps], s1.rest, by rw [if_neg h]; exact w1⟩
   simp (decide := true) only [↓uR.o, dG.o, ja1, reduceIte, ↓ja0 l0, ↓ja0 l1, ↓ja0 l2, ja3 Tryz.func38 rfl rfl c1, unNF]
   rw [← hF, ja4 (l := [.bool false]) (by simp (decide := true) [Tryz.f36, resE, ja1])]
   rfl
theorem code19 : codeOf Tryz.f19 = .seq (rF Tryz.f19 0) (.cond (.tmp 7) (rF Tryz.f19 1) .skip) := by kernel_rfl
theorem j6t (P : PK N hk) (x : Rd a c s b H R) (hw : R.wl < 999) (k : Int) :
   (R.k.kind = k → ∃ H' R', CH N hk (d + 13) 19 #[.pointer (some ⟨b, 0, none⟩), .int .i64 k] H = some (.ret (.tuple #[]), H') ∧ Go a c s b H R H' R' ∧ R'.ps = nextP s R.ps ∧ Rest R R' ∧ R'.wl = 0) ∧
   (R.k.kind ≠ k → Bad s b H R (CH N hk (d + 13) 19 #[.pointer (some ⟨b, 0, none⟩), .int .i64 k] H) R.at_) := by
 have hh := P.hh
 obtain ⟨H1, R1, c1, g1, p1, r1, w1⟩ := j6s (d := d + 4) P x (by omega) k
 have hU := jb8 (P := PP) (okf := okC) (prf := prS) (X := XX) (N := N) (hk := hk) (d := d + 12) (args := #[.pointer (some ⟨b, 0, none⟩), .int .i64 k]) (H := H) (hh _ _ _ rfl) Tryz.func19 (c := codeOf Tryz.f19) rfl rfl rfl (pr := noPr) rfl
 rw [code19] at hU
 generalize hF : finG PP okC prS XX (CH N hk (d + 12)) N Tryz.f19 = F at hU
 have lL := lX2 Tryz.f19 0 1
 conv at lL in (occs := *) (rgnX _ _) => all_goals simp only [rX, opsAt, Tryz.f19, dL.o, reduceIte, Nat.reduceEqDiff]
 obtain ⟨l0, l1⟩ := lL
 refine ⟨fun h => ?_, fun h => ?_⟩
 · have e : (R.k.kind == k) = true := by rw [h]; simp
   rw [e] at c1
   rw [if_pos h] at p1 w1
   refine ⟨H1, R1, hU.trans ?_, g1, p1, r1, by omega⟩
   simp (decide := true) only [↓uR.o, dG.o, ja1, reduceIte, ↓ja0 l0, ja3 Tryz.func36 rfl rfl c1, unNT]
   rw [← hF]
   exact jq3 (l := []) rfl
 · have e : (R.k.kind == k) = false := by simp [h]
   rw [e] at c1
   rw [if_neg h] at p1
   have pk := yq2 p1
   obtain ⟨z, H2, e2, f2, l2⟩ := P.fl d a c s b H1 R1 g1.rd
   refine ⟨z, H2, hU.trans ?_, g1.fr' x f2, by rw [← pk.2.1]; exact l2⟩
   simp (decide := true) only [↓uR.o, dG.o, ja1, reduceIte, ↓ja0 l0, ↓ja0 l1, ja3 Tryz.func36 rfl rfl c1, unNF, jc0 Tryz.func23 rfl rfl e2, dH.o]
   rw [← hF]
   exact jc5
theorem code37 : codeOf Tryz.f37 = .seq (.seq (rF Tryz.f37 0) (.cond (.tmp 7) (rF Tryz.f37 1) .skip)) (.seq (.seq (rF Tryz.f37 2) (.cond (.tmp 14) (rF Tryz.f37 3) .skip)) (.seq (rF Tryz.f37 4) (rF Tryz.f37 5))) := by kernel_rfl
theorem j0c (x y : Int) : buildA PP 58 #[(0, .int .i64 x), (1, .int .i64 y)] = some (.agg #[.int .i64 x, .int .i64 y]) := by kernel_rfl
theorem y4l : notIface PP 58 = true := by decide +kernel
theorem y4m {K : Kf} {d : Option Tmp} {t : TypeId} {p : String} {af : Array Edge} {E : Env} {ds : List Deferred} {H : Heap} {k : KE} {kp : List PanicEntry → KE} {g : Option (Nat × Bool)} (x : Operand) : opE PP XX K ⟨d, .makeInterface 58 x, t, p, af, g⟩ E ds H k kp = k (upd E d (.iface 58 (evalE E x))) ds H := j10 58 x y4l
def opened1 (p : PS) : PS := { p with opened := p.opened + 1 }
theorem yq3 (P : PK N hk) (x : Rd a c s b H R) (hw : R.wl < 999) (k : Int) :
   (R.k.kind = k → R.opened < 32 → ∃ H' R', CH N hk (d + 13) 37 #[.pointer (some ⟨b, 0, none⟩), .int .i64 k] H = some (.ret (.tuple #[]), H') ∧ Go a c s b H R H' R' ∧ R'.ps = nextP s (opened1 R.ps) ∧ Rest R R' ∧ R'.wl = 0) ∧
   (R.k.kind = k → R.opened = 32 → TooDeep b H R (CH N hk (d + 13) 37 #[.pointer (some ⟨b, 0, none⟩), .int .i64 k] H) R.at_) ∧
   (R.k.kind ≠ k → Bad s b H R (CH N hk (d + 13) 37 #[.pointer (some ⟨b, 0, none⟩), .int .i64 k] H) R.at_) := by
 have hh := P.hh
 obtain ⟨H1, R1, c1, g1, s1, w1, w1'⟩ := P.see (d := d + 11) x (by omega) k
 have pk := yq2 s1.ps
 have hU := jb8 (P := PP) (okf := okC) (prf := prS) (X := XX) (N := N) (hk := hk) (d := d + 12) (args := #[.pointer (some ⟨b, 0, none⟩), .int .i64 k]) (H := H) (hh _ _ _ rfl) Tryz.func37 (c := codeOf Tryz.f37) rfl rfl rfl (pr := noPr) rfl
 rw [code37] at hU
 generalize hF : finG PP okC prS XX (CH N hk (d + 12)) N Tryz.f37 = F at hU
 have lL := lX6 Tryz.f37 0 1 2 3 4 5
 conv at lL in (occs := *) (rgnX _ _) => all_goals simp only [rX, opsAt, Tryz.f37, dL.o, reduceIte, Nat.reduceEqDiff]
 obtain ⟨l0, l1, l2, l3, l4, l5⟩ := lL
 refine ⟨fun h ho => ?_, fun h ho => ?_, fun h => ?_⟩
 · have e : (R.k.kind == k) = true := by rw [h]; simp
   rw [e] at c1
   have z32 : ((R1.opened : Int) == 32) = false := by
     have : ¬ (R1.opened : Int) = 32 := by rw [pk.2.2.2.1]; omega
     simpa using this
   have w : IntKind.i64.wrap ((R1.opened : Int) + 1) = ((R1.opened + 1 : Nat) : Int) := by rw [jb2 (by omega) (by rw [pk.2.2.2.1]; omega)]; omega
   have rd2 : Rd a c s b (H1.set b (rdB a c s { R1 with opened := R1.opened + 1 })) { R1 with opened := R1.opened + 1 } := g1.rd.self rfl rfl rfl rfl rfl g1.rd.want (fun _ h => h) ⟨g1.rd.sz.1, g1.rd.sz.2.1, by show R1.opened + 1 ≤ 32; rw [pk.2.2.2.1]; omega, g1.rd.sz.2.2.2.1, g1.rd.sz.2.2.2.2⟩
   have g2 : Go a c s b H1 R1 (H1.set b (rdB a c s { R1 with opened := R1.opened + 1 })) { R1 with opened := R1.opened + 1 } :=
     ⟨rd2, (Fr.refl g1.rd.fresh).own (.inl rfl) g1.rd.ltN _, fun _ h => .inl h, fun _ h => h, fun _ h => .inl h, Nat.le_refl _, Nat.le_refl _, Nat.le_refl _⟩
   obtain ⟨H3, R3, c3, n3⟩ := P.next (d := d + 5) rd2
   refine ⟨H3, R3, hU.trans ?_, g1.trans x (g2.trans g1.rd n3.go), ?_, s1.rest.trans ⟨n3.rest.pos, n3.rest.word, n3.rest.wat, n3.rest.index, n3.rest.top⟩, n3.wl⟩
   · simp (decide := true) only [↓uR.o, dG.o, ja1, ja5, reduceIte, ↓ja0 l0, ↓ja0 l2, ↓ja0 l4, ↓ja0 l5, rfopened, ja3 Tryz.func38 rfl rfl c1, unNT, j11 g1.rd.blk, z32, w, j6h g1.rd.blk, ja3 Tryz.func18 rfl rfl c3]
     rw [← hF]
     exact jq3 (l := []) rfl
   · rw [n3.ps]
     congr 1
     show (⟨R1.at_, R1.to_, R1.k, R1.opened + 1, R1.its, R1.nds⟩ : PS) = opened1 R.ps
     rw [pk.1, pk.2.1, pk.2.2.1, pk.2.2.2.1, pk.2.2.2.2.1, pk.2.2.2.2.2]
     rfl
 · have e : (R.k.kind == k) = true := by rw [h]; simp
   rw [e] at c1
   have z32 : ((R1.opened : Int) == 32) = true := by rw [pk.2.2.2.1, ho]; rfl
   refine ⟨H1, hU.trans ?_, g1.fr⟩
   simp (decide := true) only [↓uR.o, dG.o, ja1, reduceIte, ↓ja0 l0, ↓ja0 l2, ↓ja0 l3, dA.o, ja3 Tryz.func38 rfl rfl c1, unNT, j11 g1.rd.blk, jg0 g1.rd.blk, z32, j0c, ↓y4m, ↓j70 (ty := 58) (v := .agg #[.int .i64 (R1.at_ : Int), .int .i64 61]), dH.o]
   rw [← hF, pk.2.1]
   exact jc5
 · have e : (R.k.kind == k) = false := by simp [h]
   rw [e] at c1
   obtain ⟨z, H2, e2, f2, l2⟩ := P.fl d a c s b H1 R1 g1.rd
   refine ⟨z, H2, hU.trans ?_, g1.fr' x f2, by rw [← pk.2.1]; exact l2⟩
   simp (decide := true) only [↓uR.o, dG.o, ja1, reduceIte, ↓ja0 l0, ↓ja0 l1, ja3 Tryz.func38 rfl rfl c1, unNF, jc0 Tryz.func23 rfl rfl e2, dH.o]
   rw [← hF]
   exact jc5
theorem code39 : codeOf Tryz.f39 = .seq (rF Tryz.f39 0) (rF Tryz.f39 1) := by kernel_rfl
def opened0 (p : PS) : PS := { p with opened := p.opened - 1 }
theorem yq4 (P : PK N hk) (x : Rd a c s b H R) (hw : R.wl < 999) (k : Int) (ho : 1 ≤ R.opened) :
   (R.k.kind = k → ∃ H' R', CH N hk (d + 14) 39 #[.pointer (some ⟨b, 0, none⟩), .int .i64 k] H = some (.ret (.tuple #[]), H') ∧ Go a c s b H R H' R' ∧ R'.ps = opened0 (nextP s R.ps) ∧ Rest R R' ∧ R'.wl = 0) ∧
   (R.k.kind ≠ k → Bad s b H R (CH N hk (d + 14) 39 #[.pointer (some ⟨b, 0, none⟩), .int .i64 k] H) R.at_) := by
 have hh := P.hh
 obtain ⟨m1, m2⟩ := j6t (d := d) P x hw k
 have hU := jb8 (P := PP) (okf := okC) (prf := prS) (X := XX) (N := N) (hk := hk) (d := d + 13) (args := #[.pointer (some ⟨b, 0, none⟩), .int .i64 k]) (H := H) (hh _ _ _ rfl) Tryz.func39 (c := codeOf Tryz.f39) rfl rfl rfl (pr := noPr) rfl
 rw [code39] at hU
 generalize hF : finG PP okC prS XX (CH N hk (d + 13)) N Tryz.f39 = F at hU
 have lL := lX2 Tryz.f39 0 1
 conv at lL in (occs := *) (rgnX _ _) => all_goals simp only [rX, opsAt, Tryz.f39, dL.o, reduceIte, Nat.reduceEqDiff]
 obtain ⟨l0, l1⟩ := lL
 refine ⟨fun h => ?_, fun h => ?_⟩
 · obtain ⟨H1, R1, c1, g1, p1, r1, w1⟩ := m1 h
   have ho1 : R1.opened = R.opened := by
     have : R1.ps.opened = R.ps.opened := by
       rw [p1]
       unfold nextP
       split <;> rfl
     exact this
   have w : IntKind.i64.wrap ((R1.opened : Int) - 1) = ((R1.opened - 1 : Nat) : Int) := by rw [jb2 (by omega) (by have := g1.rd.sz; omega)]; omega
   have rd2 : Rd a c s b (H1.set b (rdB a c s { R1 with opened := R1.opened - 1 })) { R1 with opened := R1.opened - 1 } := g1.rd.self rfl rfl rfl rfl rfl g1.rd.want (fun _ h => h) ⟨g1.rd.sz.1, g1.rd.sz.2.1, by show R1.opened - 1 ≤ 32; have := g1.rd.sz.2.2.1; omega, g1.rd.sz.2.2.2.1, g1.rd.sz.2.2.2.2⟩
   have g2 : Go a c s b H1 R1 (H1.set b (rdB a c s { R1 with opened := R1.opened - 1 })) { R1 with opened := R1.opened - 1 } :=
     ⟨rd2, (Fr.refl g1.rd.fresh).own (.inl rfl) g1.rd.ltN _, fun _ h => .inl h, fun _ h => h, fun _ h => .inl h, Nat.le_refl _, Nat.le_refl _, Nat.le_refl _⟩
   refine ⟨_, _, hU.trans ?_, g1.trans x g2, ?_, r1.trans ⟨rfl, rfl, rfl, rfl, rfl⟩, w1⟩
   · simp (decide := true) only [↓uR.o, dG.o, ja1, ja5, reduceIte, ↓ja0 l0, ↓ja0 l1, rfopened, ja3 Tryz.func19 rfl rfl c1, j11 g1.rd.blk, w, j6h g1.rd.blk]
     rw [← hF]
     exact jq3 (l := []) rfl
   · rw [← p1]
     rfl
 · obtain ⟨z, H2, e2, f2, l2⟩ := m2 h
   refine ⟨z, H2, hU.trans ?_, f2, l2⟩
   simp (decide := true) only [↓uR.o, dG.o, ja1, reduceIte, ↓ja0 l0, jc0 Tryz.func19 rfl rfl e2, dH.o]
   rw [← hF]
   exact jc5
end
end Go.Am
namespace Go.Am
set_option maxRecDepth 100000
variable {a : Option Addr} {c b : Nat} {s : List UInt8} {H H1 : Heap} {R R1 : RS}
theorem y05 (s : ByteArray) : veq (.string s) (.string s) = true := by simp [veq, veq0]
theorem Go.alloc (g : Go a c s b H R H1 R1) (es : Nat) (cells : List Value) : Go a c s b H R (H1.alloc es cells) R1 :=
 ⟨g.rd.alloc es cells, g.fr.ext (Ext.alloc g.fr.fresh es cells), g.own, g.own', g.mine, g.grow⟩
theorem Go.other (g : Go a c s b H R H1 R1) (x : Rd a c s b H R) {q : Nat} (h1 : H.next ≤ q) (h2 : q < H1.next) (ho : ¬ R1.own q) (y : Blk) : Go a c s b H R (H1.set q y) R1 :=
 ⟨g.rd.other h2 ho y, ⟨g.fr.next, fun k z e n => by
   have := jc9 x.fresh e
   rw [Heap.get_set, if_neg (by omega)]
   exact g.fr.keep k z e n, jd5 g.fr.fresh h2 y⟩, g.own, g.own', g.mine, g.grow⟩
theorem Go.upd {R2 : RS} (x : Rd a c s b H R) (g : Go a c s b H R H1 R1) (rd : Rd a c s b (H1.set b (rdB a c s R2)) R2) (e1 : R2.want = R1.want) (e2 : R2.items = R1.items) (e3 : R2.nodes = R1.nodes) (e4 : R2.own = R1.own) (e5 : R2.at_ = R1.at_) (e6 : R2.its = R1.its) (e7 : R2.nds = R1.nds) : Go a c s b H R (H1.set b (rdB a c s R2)) R2 := by
 refine ⟨rd, g.fr.own (.inl rfl) x.ltN _, fun q h => g.own q (e4 ▸ h), fun q h => e4 ▸ g.own' q h, fun q h => ?_, ?_⟩
 · refine g.mine q ?_
   rcases h with h | h | h | h
   · exact .inl h
   · exact .inr (.inl (e1 ▸ h))
   · exact .inr (.inr (.inl (e2 ▸ h)))
   · exact .inr (.inr (.inr (e3 ▸ h)))
 · rw [e5, e6, e7]; exact g.grow
theorem y6j : aggT PP 24 = some true := by decide +kernel
theorem ya0 : sizeT PP 24 = some 3 := by decide +kernel
theorem y6k : esT PP 24 = 1 := by decide +kernel
theorem y06 : zeroT PP 24 = some [.string .empty, .int .i64 0, .slice none 0 0] := by kernel_rfl
def rfB (w : ByteArray) (n : Int) (v : Value) : Blk := ⟨[.string w, .int .i64 n, v], true, 1, none⟩
theorem jw9 (H : Heap) : allocA PP 24 H = some (.pointer (some ⟨H.next, 0, none⟩), H.alloc 1 [.string .empty, .int .i64 0, .slice none 0 0]) := by simp only [allocA, y06, y6k, mk]
theorem yq5 (w : ByteArray) (n : Int) : buildA PP 24 #[(0, .string w), (1, .int .i64 n)] = some (.agg #[.string w, .int .i64 n, .slice none 0 0]) := by kernel_rfl
theorem ya1 {q : Nat} {w w' : ByteArray} {n n' : Int} {v v' : Value} (h : H.get q = some (rfB w n v)) (hv : Value.oneCell' v' = true) : storeA PP 24 (.pointer (some ⟨q, 0, none⟩)) (.agg #[.string w', .int .i64 n', v']) H = some (undef, H.set q (rfB w' n' v')) := by
 simp only [storeA, ya0, stV]
 simp [Value.cells, st, look, h, rfB, over, Value.oneCell']
 simpa [Value.oneCell'] using hv
theorem ya2 {q : Nat} {w : ByteArray} {n : Int} {v : Value} (h : H.get q = some (rfB w n v)) : loadA PP 24 (.pointer (some ⟨q, 0, none⟩)) H = some (.agg #[.string w, .int .i64 n, v], H) := by
 simp only [loadA, y6j, ya0]
 simp [ldN, look, h, rfB]
theorem code20 : codeOf Tryz.f20 = .seq (rF Tryz.f20 0) (.seq (rF Tryz.f20 1) (.seq (.seq (rF Tryz.f20 2) (.cond (.tmp 12) (rF Tryz.f20 3) .skip)) (.seq (rT Tryz.f20 4) (.seq (rF Tryz.f20 5) (.seq (rF Tryz.f20 6) .ret))))) := by kernel_rfl
def refV (w : ByteArray) (n : Nat) (v : Value) : Value := .agg #[.string w, .int .i64 (n : Int), v]
theorem y6l {N : Nat} {hk : Hook} {d : Nat} (P : PK N hk) (x : Rd a c s b H R) (hw : R.wl < 999) :
   (R.k.kind = 1 → ∃ H' R', CH N hk (d + 13) 20 #[.pointer (some ⟨b, 0, none⟩)] H = some (.ret (refV R.k.w R.at_ (.slice none 0 0)), H') ∧ Go a c s b H R H' R' ∧ R'.ps = nextP s R.ps ∧ Rest R R' ∧ R'.wl = 0) ∧
   (R.k.kind ≠ 1 → Bad s b H R (CH N hk (d + 13) 20 #[.pointer (some ⟨b, 0, none⟩)] H) R.at_) := by
 have hh := P.hh
 have g0 : Go a c s b H R (H.alloc 1 [.string .empty, .int .i64 0, .slice none 0 0]) R := (Go.refl x).alloc _ _
 have g1 : Go a c s b H R ((H.alloc 1 [.string .empty, .int .i64 0, .slice none 0 0]).set b (rdB a c s ({ R with name := true } : RS))) ({ R with name := true } : RS) := g0.upd x (g0.rd.self rfl rfl rfl rfl rfl g0.rd.want (fun _ h => h) g0.rd.sz) rfl rfl rfl rfl rfl rfl rfl
 have hq0 : ((H.alloc 1 [.string .empty, .int .i64 0, .slice none 0 0]).set b (rdB a c s ({ R with name := true } : RS))).get H.next = some (rfB .empty 0 (.slice none 0 0)) := by
   rw [Heap.get_set, if_neg (by have := x.ltN; omega), jc6]; rfl
 have no : ∀ q, H.next ≤ q → ¬ R.own q := fun q h ho => by have := x.lt q ho; omega
 have hU := jb8 (P := PP) (okf := okC) (prf := prS) (X := XX) (N := N) (hk := hk) (d := d + 12) (args := #[.pointer (some ⟨b, 0, none⟩)]) (H := H) (hh _ _ _ rfl) Tryz.func20 (c := codeOf Tryz.f20) rfl rfl rfl (pr := pr20) rfl
 rw [code20] at hU
 generalize hF : finG PP okC prS XX (CH N hk (d + 12)) N Tryz.f20 = F at hU
 have lL := lX7 Tryz.f20 0 1 2 3 4 5 6
 conv at lL in (occs := *) (rgnX _ _) => all_goals simp only [rX, opsAt, Tryz.f20, dL.o, reduceIte, Nat.reduceEqDiff]
 obtain ⟨l0, l1, l2, l3, l4, l5, l6⟩ := lL
 refine ⟨fun h => ?_, fun h => ?_⟩
 · have z1 : (R.k.kind != 1) = false := by rw [h]; rfl
   have g2 := g1.alloc 1 [.string .empty, .int .i64 0, .slice none 0 0]
   have nx1 : ((H.alloc 1 [.string .empty, .int .i64 0, .slice none 0 0]).set b (rdB a c s ({ R with name := true } : RS))).next = H.next + 1 := rfl
   have hq1 := jc6 ((H.alloc 1 [.string .empty, .int .i64 0, .slice none 0 0]).set b (rdB a c s ({ R with name := true } : RS))) 1 [.string .empty, .int .i64 0, .slice none 0 0]
   have hq1' : (((H.alloc 1 [.string .empty, .int .i64 0, .slice none 0 0]).set b (rdB a c s ({ R with name := true } : RS))).alloc 1 [.string .empty, .int .i64 0, .slice none 0 0]).get (H.next + 1) = some (rfB .empty 0 (.slice none 0 0)) := hq1
   have hb2 : (((H.alloc 1 [.string .empty, .int .i64 0, .slice none 0 0]).set b (rdB a c s ({ R with name := true } : RS))).alloc 1 [.string .empty, .int .i64 0, .slice none 0 0]).get b = some (rdB a c s ({ R with name := true } : RS)) := g2.rd.blk
   have g3 := g2.other x (q := H.next + 1) (by omega) (Nat.lt_succ_self _) (no _ (by omega)) (rfB R.k.w R.at_ (.slice none 0 0))
   have hq2 := jb4 (((H.alloc 1 [.string .empty, .int .i64 0, .slice none 0 0]).set b (rdB a c s ({ R with name := true } : RS))).alloc 1 [.string .empty, .int .i64 0, .slice none 0 0]) (H.next + 1) (rfB R.k.w R.at_ (.slice none 0 0))
   have hq02 : ((((H.alloc 1 [.string .empty, .int .i64 0, .slice none 0 0]).set b (rdB a c s ({ R with name := true } : RS))).alloc 1 [.string .empty, .int .i64 0, .slice none 0 0]).set (H.next + 1) (rfB R.k.w R.at_ (.slice none 0 0))).get H.next = some (rfB .empty 0 (.slice none 0 0)) := by
     rw [Heap.get_set, if_neg (by omega)]
     exact jb3 g1.fr.fresh hq0 _ _
   have nx3 : ((((H.alloc 1 [.string .empty, .int .i64 0, .slice none 0 0]).set b (rdB a c s ({ R with name := true } : RS))).alloc 1 [.string .empty, .int .i64 0, .slice none 0 0]).set (H.next + 1) (rfB R.k.w R.at_ (.slice none 0 0))).next = H.next + 2 := rfl
   obtain ⟨H4, R4, c4, n4⟩ := P.next (d := d + 5) g3.rd
   have m3 : ∀ q, H.next ≤ q → ¬ mine b ({ R with name := true } : RS) q := fun q h hm => by
     rcases g3.mine q hm with e | e
     · exact no q h (x.mo q e).1
     · rcases hm with e' | e' | e' | e'
       · have := x.ltN; omega
       · exact no q h (x.mo q (.inr (.inl e'))).1
       · exact no q h (x.mo q (.inr (.inr (.inl e')))).1
       · exact no q h (x.mo q (.inr (.inr (.inr e')))).1
   have hq4 := n4.go.fr.keep _ _ hq2 (m3 _ (by omega))
   have hq04 := n4.go.fr.keep _ _ hq02 (m3 _ (Nat.le_refl _))
   have g4 := g3.trans x n4.go
   have hn4 := n4.go.fr.next
   rw [nx3] at hn4
   have ho4 : ¬ R4.own H.next := fun ho => by
     rcases n4.go.own _ ho with e | e
     · exact no _ (Nat.le_refl _) e
     · rw [nx3] at e; omega
   have g5 := g4.other x (q := H.next) (Nat.le_refl _) (by omega) ho4 (rfB R.k.w R.at_ (.slice none 0 0))
   refine ⟨_, _, hU.trans ?_, g5, n4.ps, ⟨n4.rest.pos, n4.rest.word, n4.rest.wat, n4.rest.index, n4.rest.top⟩, n4.wl⟩
   simp (decide := true) only [↓jb9, jh4, ↓jk6 l4, ↓j4i, ↓jp3, jf1, pr20, ↓uG.o, dG.o, ja1, ja5, reduceIte, ↓ja0 l0, ↓ja0 l1, ↓ja0 l2, dA.o, jw9, j73 g0.rd.blk, j91, y6b, j3n, z1, yq5, nx1, ya1 (v' := .slice none 0 0) hq1' rfl]
   rw [jo5 (by simp (decide := true) only [List.nil_append, List.cons_append, List.all_cons, List.all_nil, pairChkE, l4, List.getElem?_cons_zero, List.getElem?_cons_succ, guardBE, qval, opK, builtinK, dG.o, ja1, reduceIte, Bool.and_self, j7x, y05, y6b, j3n, ld_w hb2, jg0 hb2])]
   simp (decide := true) only [↓jb9, ↓uG.o, dG.o, ja1, ja5, reduceIte, ↓ja0 l5, ↓ja0 l6, ja3 Tryz.func18 rfl rfl c4, ya2 hq4, ya1 (v' := .slice none 0 0) hq04 rfl]
   rw [← hF, ja4 (l := [refV R.k.w R.at_ (.slice none 0 0)]) (by simp (decide := true) only [Tryz.f20, resE, ja1, reduceIte, ya2 (jb4 _ _ _), refV])]
   rfl
 · have z1 : (R.k.kind != 1) = true := by simp [h]
   obtain ⟨z, H2, e2, f2, lz⟩ := P.fl d a c s b _ _ g1.rd
   refine ⟨z, H2, hU.trans ?_, g1.fr' x f2, lz⟩
   simp (decide := true) only [↓jb9, ↓uG.o, dG.o, ja1, ja5, reduceIte, ↓ja0 l0, ↓ja0 l1, ↓ja0 l2, ↓ja0 l3, dA.o, jw9, j73 g0.rd.blk, j91, z1, jc0 Tryz.func23 rfl rfl e2, dH.o]
   rw [← hF]
   exact jc5
end Go.Am
namespace Go.Am
set_option maxRecDepth 100000
variable {H : Heap}
theorem All2.snoc {α : Type} {Q : α → List Value → Prop} {x : α} {v : List Value} (hx : Q x v) : ∀ {l : List α} {u : List Value}, All2 Q l u → All2 Q (l ++ [x]) (u ++ v)
 | [], u, h => by
   have : u = [] := h
   subst this
   exact ⟨v, [], by simp, hx, rfl⟩
 | y :: l, u, ⟨w, z, e, q, r⟩ => ⟨w, z ++ v, by rw [e, List.append_assoc], q, All2.snoc hx r⟩
theorem Rd.turn2 {a : Option Addr} {c : Nat} {s : List UInt8} {b : Nat} {H2 : Heap} {R R' : RS} (x : Rd a c s b H R) (hn : H.next ≤ H2.next) (hf : Fresh H2) (keep : ∀ q y, H.get q = some y → ¬ mine b R q → H2.get q = some y)
   (oi : ∀ q, R.own q → R'.own q) (ol : ∀ q, R'.own q → q < H2.next) (on : ∀ q, H.next ≤ q → mine b R' q → R'.own q) (mn : ∀ q, mine b R' q → mine b R q ∨ H.next ≤ q) (mn' : ∀ q, R.own q → mine b R' q → mine b R q)
   (want : WantOk H2 R'.want R'.wl) (d1 : blkOf R'.want ≠ some b ∧ blkOf R'.items ≠ some b ∧ blkOf R'.nodes ≠ some b)
   (d2 : ∀ q, blkOf R'.want = some q → blkOf R'.items ≠ some q ∧ blkOf R'.nodes ≠ some q) (d3 : ∀ q, blkOf R'.items = some q → blkOf R'.nodes ≠ some q)
   (items : ∃ cells, Row H2 R'.items 21 R'.its.length cells ∧ All2 (ItR H2 fun q => R'.own q ∧ ¬ mine b R' q) R'.its cells)
   (nodes : ∃ cells, Row H2 R'.nodes 5 R'.nds.length cells ∧ All2 (NdR H2 fun q => R'.own q ∧ ¬ mine b R' q) R'.nds cells)
   (sz : R'.its.length ≤ R'.to_ ∧ R'.nds.length ≤ R'.to_ ∧ R'.opened ≤ 32 ∧ R'.at_ ≤ R'.to_ ∧ R'.to_ ≤ s.length) :
   Rd a c s b (H2.set b (rdB a c s R')) R' := by
 have hbl : b < H2.next := Nat.lt_of_lt_of_le x.ltN hn
 have hbm : mine b R' b := .inl rfl
 have k2 : ∀ q y, q ≠ b → H2.get q = some y → (H2.set b (rdB a c s R')).get q = some y := fun q y hq e => by rw [Heap.get_set, if_neg hq]; exact e
 have kF : ∀ q y, (R'.own q ∧ ¬ mine b R' q) → H2.get q = some y → (R'.own q ∧ ¬ mine b R' q) ∧ (H2.set b (rdB a c s R')).get q = some y := fun q y hq e => ⟨hq, k2 q y (fun e' => hq.2 (e' ▸ hbm)) e⟩
 refine ⟨⟨Nat.le_trans x.gg.next hn, fun q y e => ?_, jd5 hf hbl _⟩, ol, fun q hq => oi q (x.low q hq), fun q hq => ?_, ?_, fun y hy => ?_, x.cap, x.short, jb4 _ _ _, ?_, d1, d2, d3, ?_, ?_, sz⟩
 · have hl := jc9 jo0.fresh e
   have hnm : ¬ mine b R q := fun hm => by have := (x.mo q hm).2; omega
   exact k2 q y (fun e' => hnm (.inl e')) (keep q y (x.gg.keep q y e) hnm)
 · rcases mn q hq with h | h
   · exact ⟨oi q (x.mo q h).1, (x.mo q h).2⟩
   · exact ⟨on q h hq, Nat.le_trans x.gg.next h⟩
 · refine x.row.keep fun y z hy e => ?_
   have hs := (x.src y hy).2
   exact k2 _ _ (fun e' => hs (.inl e')) (keep _ _ e hs)
 · exact ⟨oi _ (x.src y hy).1, fun hm => (x.src y hy).2 (mn' _ (x.src y hy).1 hm)⟩
 · rcases want with h | ⟨q, n, m, h1, h2, h3, h4, ws, h5, h6⟩
   · exact .inl h
   · exact .inr ⟨q, n, m, h1, h2, h3, h4, ws, k2 q _ (fun e' => d1.1 (by rw [h1, ← e']; rfl)) h5, h6⟩
 · obtain ⟨cells, h1, h2⟩ := items
   exact ⟨cells, h1.keep fun q y hq e => k2 q y (fun e' => d1.2.1 (e' ▸ hq)) e, h2.mono fun _ _ h => h.keep kF⟩
 · obtain ⟨cells, h1, h2⟩ := nodes
   exact ⟨cells, h1.keep fun q y hq e => k2 q y (fun e' => d1.2.2 (e' ▸ hq)) e, h2.mono fun _ _ h => h.keep kF⟩
theorem WantOk.keep {H' : Heap} {v : Value} {wl : Nat} (h : WantOk H v wl) (k : ∀ q y, blkOf v = some q → H.get q = some y → H'.get q = some y) : WantOk H' v wl := by
 rcases h with h | ⟨q, n, m, h1, h2, h3, h4, ws, h5, h6⟩
 · exact .inl h
 · exact .inr ⟨q, n, m, h1, h2, h3, h4, ws, k q _ (by rw [h1]; rfl) h5, h6⟩
theorem infoNode : ∃ i, PP.info? 37 = some i ∧ i.size = 5 ∧ i.bytes = 64 := by
 have h : (match PP.info? 37 with | some i => decide (i.size = 5) && decide (i.bytes = 64) | none => false) = true := by decide +kernel
 split at h
 · rename_i i e
   simp only [Bool.and_eq_true, decide_eq_true_eq] at h
   exact ⟨i, e, h.1, h.2⟩
 · cases h
theorem undNodes : PP.underlying 26 = some (.slice 37) := Tryz.underlying26
theorem zeroNode : zeroT PP 37 = some [.int .i64 0, .int .u64 0, .string .empty, .slice none 0 0, .int .i64 0] := by kernel_rfl
theorem agNode : aggT PP 37 = some true := by decide +kernel
theorem szNode : sizeT PP 37 = some 5 := by decide +kernel
theorem esNode : esT PP 37 = 1 := by decide +kernel
def ndC (op n : Int) (w : ByteArray) (kv : Value) (p : Nat) : List Value := [.int .i64 op, .int .u64 n, .string w, kv, .int .i64 (p : Int)]
theorem y07 (H : Heap) (op n : Int) (w : ByteArray) (kv : Value) (p : Nat) : boxA PP 37 (.agg (ndC op n w kv p).toArray) H = some (.pointer (some ⟨H.next, 0, none⟩), H.alloc 1 (ndC op n w kv p)) := by
 simp only [boxA, esNode, mk, Value.cells]
theorem y4n {q : Nat} {op n : Int} {w : ByteArray} {kv : Value} {p : Nat} (h : H.get q = some ⟨ndC op n w kv p, true, 1, none⟩) : loadA PP 37 (.pointer (some ⟨q, 0, none⟩)) H = some (.agg (ndC op n w kv p).toArray, H) := by
 simp only [loadA, agNode, szNode]
 simp [ldN, look, h, ndC]
theorem j8d (H : Heap) (op n : Int) (w : ByteArray) (kv : Value) (p : Nat) (hk : kv.cells = #[kv]) : buildSliceA PP 26 1 #[(0, .agg (ndC op n w kv p).toArray)] H = some (.slice (some ⟨H.next, 0, none⟩) 1 1, H.alloc 5 (ndC op n w kv p)) := by
 have hf : Instr.fill (fun i => some (i * 5, 5)) (zeroRow [.int .i64 0, .int .u64 0, .string .empty, .slice none 0 0, .int .i64 0] (1 * 5)).toArray [(0, .agg (ndC op n w kv p).toArray)] = some (ndC op n w kv p).toArray := by rfl
 simp only [buildSliceA, undNodes, szNode, zeroNode, mkRow, hf]
 simp
theorem j8e {v : Value} {q : Nat} {cells : List Value} (hl : cells.length = 5) (hq : H.get q = some ⟨cells, true, 5, none⟩) : appendA PP #[26, 26] v (.slice (some ⟨q, 0, none⟩) 1 1) H = app H 5 64 v 1 cells := by
 obtain ⟨i, h1, h2, h3⟩ := infoNode
 have ht : cells.take 5 = cells := by rw [← hl, List.take_length]
 have src : srcCells H 5 (.slice (some ⟨q, 0, none⟩) 1 1) = some (1, cells) := by simp [srcCells, look, hq, hl, ht]
 simp only [appendA]
 simp [h1, h2, h3, zeroNode, src]
theorem yq6 (s x : Value) (H : Heap) (k : Value → Heap → Am.R) : builtinK PP .append #[26, 26] #[s, x] H k = bindV (appendA PP #[26, 26] s x H) k := by simp [builtinK]
theorem code100 : codeOf Tryz.f100 = .seq (rF Tryz.f100 0) (.seq (rT Tryz.f100 1) (.seq (rF Tryz.f100 2) .ret)) := by kernel_rfl
def noded (R : RS) (v kv : Value) (nd : Nd) (n n' : Nat) : RS := { R with nodes := v, nds := R.nds ++ [nd], own := fun q => R.own q ∨ blkOf kv = some q ∨ (n ≤ q ∧ q < n') }
theorem y6m {N : Nat} {hk : Hook} {d : Nat} {a : Option Addr} {c : Nat} {s : List UInt8} {b : Nat} {R : RS} (hh : NH hk) (x : Rd a c s b H R) (hsz : R.nds.length < R.to_) {op n : Int} {w : ByteArray} {kv : Value} {p : Nat} {kids : List Nat} (hkv : Ints H (fun q => q < H.next ∧ ¬ R.own q) kv kids) :
   ∃ H' R', CH N hk (d + 1) 100 #[.pointer (some ⟨b, 0, none⟩), .agg (ndC op n w kv p).toArray] H = some (.ret (.int .i64 (R.nds.length : Int)), H') ∧ Rd a c s b H' R' ∧ Fr (mine b R) H H' ∧ (∀ q, R'.own q → R.own q ∨ blkOf kv = some q ∨ H.next ≤ q) ∧ (∀ q, R.own q → R'.own q) ∧ (∀ q, mine b R' q → mine b R q ∨ H.next ≤ q) ∧
     R'.ps = { R.ps with nds := R.nds ++ [⟨op, n, w, kids, p⟩] } ∧ Rest R R' ∧ R'.wl = R.wl := by
 have hkc : kv.cells = #[kv] ∧ Value.oneCell' kv = true := by
   rcases hkv with ⟨h, _⟩ | ⟨q, _, h, _⟩ <;> rw [h] <;> exact ⟨rfl, rfl⟩
 obtain ⟨cells, hrow, hall⟩ := x.nodes
 have hsl := x.short
 have hto := x.sz
 have f1 := jb1 x.fresh 1 (ndC op n w kv p)
 have f2 := jb1 f1 5 (ndC op n w kv p)
 have k2 : ∀ q y, H.get q = some y → ((H.alloc 1 (ndC op n w kv p)).alloc 5 (ndC op n w kv p)).get q = some y := fun q y e => jb3 f1 (jb3 x.fresh e _ _) _ _
 have n2 : ((H.alloc 1 (ndC op n w kv p)).alloc 5 (ndC op n w kv p)).next = H.next + 2 := rfl
 have hq1 := jc6 H 1 (ndC op n w kv p)
 have hq2 := jc6 (H.alloc 1 (ndC op n w kv p)) 5 (ndC op n w kv p)
 have nx1 : (H.alloc 1 (ndC op n w kv p)).next = H.next + 1 := rfl
 have hq2' : ((H.alloc 1 (ndC op n w kv p)).alloc 5 (ndC op n w kv p)).get (H.next + 1) = some ⟨ndC op n w kv p, true, 5, none⟩ := hq2
 obtain ⟨H3, a1, a2, a3, a4, a5, a6⟩ := j4n (hrow.keep fun q y _ e => k2 q y e) f2 (news := ndC op n w kv p) (bytes := 64) rfl (by simp [ndC, Value.oneCell', List.all_cons]; simpa [Value.oneCell'] using hkc.2) (by unfold most; omega) (by unfold most; omega)
 rw [n2] at a1 a2 a4
 have keep3 : ∀ q y, H.get q = some y → blkOf R.nodes ≠ some q → H3.get q = some y := fun q y e hn => a6 q y (k2 q y e) hn
 have hb3 : H3.get b = some (rdB a c s R) := keep3 b _ x.blk x.d1.2.2
 have mlt : ∀ q, mine b R q → q < H.next := fun q h => x.lt q (x.mo q h).1
 have kvn : ∀ q, blkOf kv = some q → q < H.next ∧ ¬ R.own q := fun q hq => by
   rcases hkv with ⟨h, _⟩ | ⟨q', f, h, _⟩
   · rw [h] at hq; cases hq
   · rw [h] at hq
     injection hq with hq
     exact hq ▸ f
 let R' : RS := noded R (.slice (some ⟨H.next + 2, 0, none⟩) (R.nds.length + 1) (R.nds.length + 1)) kv ⟨op, n, w, kids, p⟩ H.next H3.next
 have hlen : R'.nds.length = R.nds.length + 1 := by show (R.nds ++ [_]).length = _; simp
 have mn : ∀ q, mine b R' q → mine b R q ∨ H.next ≤ q := fun q hq => by
   rcases hq with h | h | h | h
   · exact .inl (.inl h)
   · exact .inl (.inr (.inl h))
   · exact .inl (.inr (.inr (.inl h)))
   · right
     have : some (H.next + 2) = some q := h
     injection this with this
     omega
 have kF : ∀ q y, (R.own q ∧ ¬ mine b R q) → H.get q = some y → (R'.own q ∧ ¬ mine b R' q) ∧ H3.get q = some y := fun q y hq e => by
   refine ⟨⟨.inl hq.1, fun hm => ?_⟩, keep3 q y e fun h => hq.2 (.inr (.inr (.inr h)))⟩
   rcases mn q hm with h | h
   · exact hq.2 h
   · have := x.lt q hq.1; omega
 have rd : Rd a c s b (H3.set b (rdB a c s R')) R' := by
   refine x.turn2 (by omega) a5 (fun q y e hn => keep3 q y e fun h => hn (.inr (.inr (.inr h)))) (fun q h => .inl h) (fun q h => ?_) (fun q h hm => .inr (.inr ⟨h, ?_⟩)) mn (fun q ho hm => ?_) ((show WantOk H R.want R.wl from x.want).keep fun q y hq e => keep3 q y e (x.d2 q hq).2) ⟨x.d1.1, x.d1.2.1, fun h => ?_⟩ (fun q hq => ⟨(x.d2 q hq).1, fun h => ?_⟩) (fun q hq h => ?_) ?_ ?_ ⟨x.sz.1, ?_, x.sz.2.2⟩
   · rcases h with h | h | h
     · have := x.lt q h; omega
     · have := (kvn q h).1; omega
     · exact h.2
   · rcases hm with e | e | e | e
     · have := x.ltN; omega
     · have := mlt q (.inr (.inl e)); omega
     · have := mlt q (.inr (.inr (.inl e))); omega
     · have : some (H.next + 2) = some q := e
       injection this with this
       omega
   · rcases mn q hm with h | h
     · exact h
     · have := x.lt q ho; omega
   · have : some (H.next + 2) = some b := h
     injection this with this
     have := x.ltN; omega
   · have : some (H.next + 2) = some q := h
     injection this with this
     have := mlt q (.inr (.inl hq)); omega
   · have : some (H.next + 2) = some q := h
     injection this with this
     have := mlt q (.inr (.inr (.inl hq))); omega
   · obtain ⟨cs, h1, h2⟩ := x.items
     exact ⟨cs, h1.keep fun q y hq e => keep3 q y e (x.d3 q hq), h2.mono fun _ _ h => h.keep kF⟩
   · refine ⟨cells ++ ndC op n w kv p, .inr ⟨H.next + 2, ?_, a2, by rw [hlen]; exact a3⟩, All2.snoc ⟨kv, rfl, ?_⟩ (hall.mono fun _ _ h => h.keep kF)⟩
     · rw [hlen]; rfl
     · rcases hkv with h | ⟨q, f, h1, h2, h3⟩
       · exact .inl h
       · have hnm : ¬ mine b R q := fun h => f.2 (x.mo q h).1
         refine .inr ⟨q, ⟨.inr (.inl (by rw [h1]; rfl)), fun hm => ?_⟩, h1, keep3 q _ h2 fun h => hnm (.inr (.inr (.inr h))), h3⟩
         rcases mn q hm with h | h
         · exact hnm h
         · have := f.1; omega
   · show (R.nds ++ [_]).length ≤ R.to_
     simp; omega
 have hb1 : (H.alloc 1 (ndC op n w kv p)).get b = some (rdB a c s R) := jb3 x.fresh x.blk _ _
 have hb2 : ((H.alloc 1 (ndC op n w kv p)).alloc 5 (ndC op n w kv p)).get b = some (rdB a c s R) := k2 b _ x.blk
 have hv : veq R.nodes R.nodes = true := by
   rcases hrow with ⟨h, _⟩ | ⟨q, h, _⟩ <;> rw [h] <;> exact ji8 _ _ _
 have hw : IntKind.i64.wrap (((R.nds.length + 1 : Nat) : Int) - 1) = (R.nds.length : Int) := by rw [jb2 (by omega) (by omega)]; omega
 have hU := jb8 (P := PP) (okf := okC) (prf := prS) (X := XX) (N := N) (hk := hk) (d := d) (args := #[.pointer (some ⟨b, 0, none⟩), .agg (ndC op n w kv p).toArray]) (H := H) (hh _ _ _ rfl) Tryz.func100 (c := codeOf Tryz.f100) rfl rfl rfl (pr := pr100) rfl
 rw [code100] at hU
 generalize hF : finG PP okC prS XX (CH N hk d) N Tryz.f100 = F at hU
 have lL := lX3 Tryz.f100 0 1 2
 conv at lL in (occs := *) (rgnX _ _) => all_goals simp only [rX, opsAt, Tryz.f100, dL.o, reduceIte, Nat.reduceEqDiff]
 obtain ⟨l0, l1, l2⟩ := lL
 refine ⟨_, R', hU.trans ?_, rd, ⟨?_, fun q y e hn => ?_, rd.fresh⟩, fun q h => ?_, fun q h => .inl h, mn, rfl, ⟨rfl, rfl, rfl, rfl, rfl⟩, rfl⟩
 · simp (decide := true) only [↓jb9, jh4, ↓jk6 l1, ↓j4i, ↓jp3, jf1, pr100, ↓uG.o, dG.o, ja1, ja5, reduceIte, ↓ja0 l0, dA.o, y07, j0x hb1, y4n hq1, j8d _ _ _ _ _ _ hkc.1, yq6, nx1, j8e (cells := ndC op n w kv p) rfl hq2', a1, y0s hb3 (.slice (some ⟨H.next + 2, 0, none⟩) (R.nds.length + 1) (R.nds.length + 1)) rfl]
   rw [jo5 (by simp (decide := true) only [List.nil_append, List.cons_append, List.all_cons, List.all_nil, pairChkE, l1, List.getElem?_cons_zero, List.getElem?_cons_succ, guardBE, qval, opK, builtinK, dG.o, ja1, reduceIte, Bool.and_self, j0x hb1, j0x hb2, hv])]
   simp (decide := true) only [↓jb9, ↓uG.o, dG.o, ja1, reduceIte, ↓ja0 l2, dA.o, yn3, ja7 (ts := #[26]) rfl undNodes, hw]
   rw [← hF, ja4 (l := [.int .i64 (R.nds.length : Int)]) (by simp (decide := true) [Tryz.f100, resE, ja1])]
   rfl
 · show H.next ≤ H3.next; omega
 · rw [Heap.get_set, if_neg (fun e' : q = b => hn (.inl e'))]
   exact keep3 q y e fun h => hn (.inr (.inr (.inr h)))
 · rcases h with h | h | h
   · exact .inl h
   · exact .inr (.inl h)
   · exact .inr (.inr h.1)
end Go.Am
namespace Go.Am
set_option maxRecDepth 100000
variable {s : List UInt8} {N e b ab v : Nat} {hk : Hook} {H : Heap} {E : Env} {Q : Am.R → Prop} {k : KOE} {mo : Int}
inductive Er where
 | bad (lo : Nat)
 | deep (z : Nat)
inductive Ou (α : Type) where
 | ok (v : α) (p : PS)
 | er (e : Er)
abbrev Ot := Ou Nat
def bindM {α β : Type} (x : Option (Ou α)) (f : α → PS → Option (Ou β)) : Option (Ou β) :=
 match x with
 | some (.ok v p) => f v p
 | some (.er e) => some (.er e)
 | none => none
theorem ja6 {α β : Type} (v : α) (p : PS) (f : α → PS → Option (Ou β)) : bindM (some (.ok v p)) f = f v p := rfl
theorem jg6 {α β : Type} (e : Er) (f : α → PS → Option (Ou β)) : bindM (some (.er e)) f = some (.er e) := rfl
def mustP (s : List UInt8) (k : Int) (p : PS) : Option (Ou Unit) := if p.k.kind = k then some (.ok () (nextP s p)) else some (.er (.bad p.at_))
def takeP (s : List UInt8) (k : Int) (p : PS) : Option (Ou Bool) := if p.k.kind = k then some (.ok true (nextP s p)) else some (.ok false p)
def openP (s : List UInt8) (k : Int) (p : PS) : Option (Ou Unit) := if p.k.kind = k then (if p.opened = 32 then some (.er (.deep p.at_)) else some (.ok () (nextP s (opened1 p)))) else some (.er (.bad p.at_))
def shutP (s : List UInt8) (k : Int) (p : PS) : Option (Ou Unit) := if p.k.kind = k then some (.ok () (opened0 (nextP s p))) else some (.er (.bad p.at_))
def wordP (s : List UInt8) (p : PS) : Option (Ou Rf) := if p.k.kind = 1 then some (.ok ⟨p.k.w, p.at_, []⟩ (nextP s p)) else some (.er (.bad p.at_))
def rankN (k : Int) : Nat := (rankI k).toNat
theorem j4r (k : Int) : ((rankN k : Nat) : Int) = rankI k ∧ rankN k ≤ 7 := by
 unfold rankN rankI
 repeat' split
 all_goals decide
def addNd (p : PS) (nd : Nd) : PS := { p with nds := p.nds ++ [nd] }
def atomP (s : List UInt8) (ex : Nat → PS → Option Ot) (p : PS) : Option Ot :=
 if p.k.kind = 8 then bindM (openP s 8 p) fun _ p => bindM (ex 0 p) fun v p => bindM (shutP s 9 p) fun _ p => some (.ok v p)
 else if p.k.kind = 2 then some (.ok p.nds.length (nextP s (addNd p ⟨2, p.k.n, .empty, [], p.at_⟩)))
 else if p.k.kind = 1 then none
 else some (.er (.bad p.at_))
def opsP (s : List UInt8) (ex : Nat → PS → Option Ot) (ab : Nat) : Nat → Int → Nat → PS → Option Ot
 | 0, _, _, _ => none
 | n + 1, mo, v, p =>
   if rankN p.k.kind ≤ ab ∨ mo ≤ (rankN p.k.kind : Int) then some (.ok v p)
   else bindM none fun w q => opsP s ex ab n mo w q
def exprP (s : List UInt8) : Nat → Nat → PS → Option Ot
 | 0, _, _ => none
 | n + 1, ab, p => bindM (atomP s (exprP s n) p) fun v q => opsP s (exprP s n) ab (n + 1) 8 v q
structure Lv (p : PS) : Prop where
 tok : p.k.kind ≠ 0 → p.at_ < p.to_
 its : p.its.length ≤ p.at_
 nds : p.nds.length ≤ p.at_
theorem yq7 {p : PS} (h1 : p.its.length ≤ p.to_) (h2 : p.nds.length ≤ p.to_) (h3 : p.to_ ≤ s.length) : Lv (nextP s p) ∧ p.to_ ≤ (nextP s p).at_ := by
 have hle := jw8 s (s.length + 1 - p.to_) p.to_ h3
 unfold nextP
 split
 · rename_i h
   exact ⟨⟨fun _ => (jw6 s h).1, by show p.its.length ≤ skipP _ _ _; omega, by show p.nds.length ≤ skipP _ _ _; omega⟩, hle.1⟩
 · exact ⟨⟨fun h => absurd rfl h, by show p.its.length ≤ skipP _ _ _; omega, by show p.nds.length ≤ skipP _ _ _; omega⟩, hle.1⟩
theorem jb0 (s : List UInt8) (p : PS) : (nextP s p).opened = p.opened ∧ (nextP s p).its = p.its ∧ (nextP s p).nds = p.nds := by
 unfold nextP
 split <;> exact ⟨rfl, rfl, rfl⟩
theorem code73 : codeOf Tryz.f73 = .seq (rF Tryz.f73 0) (.seq (rF Tryz.f73 1) (.seq (rF Tryz.f73 2) (.block 0 (.loop (.block 1 (.seq (.seq (rF Tryz.f73 3) (.block 2 (.loop (.seq (.seq (rF Tryz.f73 4) (.cond (.tmp 14) .skip (.exit 2))) (.seq (.block 3 (.seq (rF Tryz.f73 6) (.cond (.tmp 26) (rF Tryz.f73 7) .skip))) (rF Tryz.f73 5)))))) (.seq (rF Tryz.f73 8) (.seq (.seq (rF Tryz.f73 9) (.cond (.tmp 44) (.seq (rF Tryz.f73 10) .ret) .skip)) (.seq (rF Tryz.f73 11) (.seq (rF Tryz.f73 12) (.seq (rF Tryz.f73 13) (.seq (rF Tryz.f73 14) (.seq (rF Tryz.f73 15) (.cond (.tmp 66) (rF Tryz.f73 16) .skip)))))))))))))) := by kernel_rfl
theorem j4s : ((rgn Tryz.f73 6)[4]?).bind (·.dst) = some 21 := by kernel_rfl
theorem ya3 : ((rgn Tryz.f73 9)[4]?).bind (·.dst) = some 39 := by kernel_rfl
theorem y6n {a : Option Addr} {c : Nat} {R : RS} {v : Nat} {j : Nat} (P : PK N hk) (x : Rd a c s b H R) (hw : R.wl < 999) (e' : E 0 = .pointer (some ⟨b, 0, none⟩) ∧ E 1 = .int .i64 (ab : Int) ∧ E 5 = .int .i64 (v : Int) ∧ E 6 = .int .i64 mo ∧ E 7 = .int .i64 (j : Int)) (hj : j ≤ 29) (hr : ab < rankN j ∧ (rankN j : Int) < mo) (hx : ∀ E' H' R', E' 0 = .pointer (some ⟨b, 0, none⟩) ∧ E' 1 = .int .i64 (ab : Int) ∧ E' 5 = .int .i64 (v : Int) ∧ E' 6 = .int .i64 mo ∧ E' 7 = .int .i64 ((j + 1 : Nat) : Int) → Go a c s b H R H' R' → Same R R' → R'.wl ≤ R.wl + 1 → Q (k .norm E' [] H')) :
   Q (execG PP XX (CH N hk (e + 18)) N noPr (.seq (.seq (rF Tryz.f73 4) (.cond (.tmp 14) .skip (.exit 2))) (.seq (.block 3 (.seq (rF Tryz.f73 6) (.cond (.tmp 26) (rF Tryz.f73 7) .skip))) (rF Tryz.f73 5))) none E [] H k) := by
 obtain ⟨e0, e1, e5, e6, e7⟩ := e'
 have rk := j12 (N := N) (hk := hk) (d := e + 17) (H := H) P.hh (j : Int)
 rw [← (j4r (j : Int)).1] at rk
 have g1 : decide ((j : Int) ≤ 29) = true := decide_eq_true (by omega)
 have g2 : decide ((rankN (j : Int) : Int) > (ab : Int)) = true := decide_eq_true (by omega)
 have g3 : decide ((rankN (j : Int) : Int) < mo) = true := decide_eq_true hr.2
 have w : IntKind.i64.wrap ((j : Int) + 1) = ((j + 1 : Nat) : Int) := by rw [jb2 (by omega) (by omega)]; omega
 obtain ⟨H1, R1, c1, go1, s1, w1, _⟩ := P.see (d := e + 17) x (by omega) (j : Int)
 have lL := lX4 Tryz.f73 4 5 6 7
 conv at lL in (occs := *) (rgnX _ _) => all_goals simp only [rX, opsAt, Tryz.f73, dL.o, reduceIte, Nat.reduceEqDiff]
 obtain ⟨l4, l5, l6, l7⟩ := lL
 simp (decide := true) only [↓uR.o, dG.o, ja1, reduceIte, ↓ja0 l4, ↓ja0 l5, ↓ja0 l6, ↓ja0 l7, ↓jb7 _ 4 true 21 _ j4s, e0, e1, e6, e7, g1, g2, g3, w, ja3 Tryz.func99 rfl rfl rk, ja3 Tryz.func38 rfl rfl c1]
 exact hx _ _ _ ⟨by simp (decide := true) only [ja1, reduceIte, e0], by simp (decide := true) only [ja1, reduceIte, e1], by simp (decide := true) only [ja1, reduceIte, e5], by simp (decide := true) only [ja1, reduceIte, e6], by simp (decide := true) only [ja1, reduceIte, e7]⟩ go1 s1 w1
theorem y4o {v : Nat} {j : Nat} (P : PK N hk) (e' : E 0 = .pointer (some ⟨b, 0, none⟩) ∧ E 1 = .int .i64 (ab : Int) ∧ E 5 = .int .i64 (v : Int) ∧ E 6 = .int .i64 mo ∧ E 7 = .int .i64 (j : Int)) (hj : j ≤ 29) (hr : ¬ (ab < rankN j ∧ (rankN j : Int) < mo)) (hx : ∀ E', E' 0 = .pointer (some ⟨b, 0, none⟩) ∧ E' 1 = .int .i64 (ab : Int) ∧ E' 5 = .int .i64 (v : Int) ∧ E' 6 = .int .i64 mo ∧ E' 7 = .int .i64 ((j + 1 : Nat) : Int) → Q (k .norm E' [] H)) :
   Q (execG PP XX (CH N hk (e + 18)) N noPr (.seq (.seq (rF Tryz.f73 4) (.cond (.tmp 14) .skip (.exit 2))) (.seq (.block 3 (.seq (rF Tryz.f73 6) (.cond (.tmp 26) (rF Tryz.f73 7) .skip))) (rF Tryz.f73 5))) none E [] H k) := by
 obtain ⟨e0, e1, e5, e6, e7⟩ := e'
 have rk := j12 (N := N) (hk := hk) (d := e + 17) (H := H) P.hh (j : Int)
 rw [← (j4r (j : Int)).1] at rk
 have g1 : decide ((j : Int) ≤ 29) = true := decide_eq_true (by omega)
 have w : IntKind.i64.wrap ((j : Int) + 1) = ((j + 1 : Nat) : Int) := by rw [jb2 (by omega) (by omega)]; omega
 have lL := lX4 Tryz.f73 4 5 6 7
 conv at lL in (occs := *) (rgnX _ _) => all_goals simp only [rX, opsAt, Tryz.f73, dL.o, reduceIte, Nat.reduceEqDiff]
 obtain ⟨l4, l5, l6, l7⟩ := lL
 by_cases h1 : ab < rankN (j : Int)
 · have g2 : decide ((rankN (j : Int) : Int) > (ab : Int)) = true := decide_eq_true (by omega)
   have g3 : decide ((rankN (j : Int) : Int) < mo) = false := decide_eq_false fun h => hr ⟨h1, h⟩
   simp (decide := true) only [↓uR.o, dG.o, ja1, reduceIte, ↓ja0 l4, ↓ja0 l5, ↓ja0 l6, ↓jb7 _ 4 true 21 _ j4s, e1, e6, e7, g1, g2, g3, w, ja3 Tryz.func99 rfl rfl rk]
   exact hx _ ⟨by simp (decide := true) only [ja1, reduceIte, e0], by simp (decide := true) only [ja1, reduceIte, e1], by simp (decide := true) only [ja1, reduceIte, e5], by simp (decide := true) only [ja1, reduceIte, e6], by simp (decide := true) only [ja1, reduceIte, e7]⟩
 · have g2 : decide ((rankN (j : Int) : Int) > (ab : Int)) = false := decide_eq_false (by omega)
   simp (decide := true) only [↓uR.o, dG.o, ja1, reduceIte, Bool.not_true, ↓ja0 l4, ↓ja0 l5, ↓ja0 l6, ↓r_no _ 4 true 21 _ j4s, e1, e7, g1, g2, w, ja3 Tryz.func99 rfl rfl rk]
   exact hx _ ⟨by simp (decide := true) only [ja1, reduceIte, e0], by simp (decide := true) only [ja1, reduceIte, e1], by simp (decide := true) only [ja1, reduceIte, e5], by simp (decide := true) only [ja1, reduceIte, e6], by simp (decide := true) only [ja1, reduceIte, e7]⟩
theorem y6o {ab v : Nat} (e' : E 0 = .pointer (some ⟨b, 0, none⟩) ∧ E 1 = .int .i64 (ab : Int) ∧ E 5 = .int .i64 (v : Int) ∧ E 6 = .int .i64 mo ∧ E 7 = .int .i64 (30 : Int)) (hx : ∀ E', E' 0 = .pointer (some ⟨b, 0, none⟩) ∧ E' 1 = .int .i64 (ab : Int) ∧ E' 5 = .int .i64 (v : Int) ∧ E' 6 = .int .i64 mo → Q (k (.exit 2) E' [] H)) :
   Q (execG PP XX (CH N hk (e + 18)) N noPr (.seq (.seq (rF Tryz.f73 4) (.cond (.tmp 14) .skip (.exit 2))) (.seq (.block 3 (.seq (rF Tryz.f73 6) (.cond (.tmp 26) (rF Tryz.f73 7) .skip))) (rF Tryz.f73 5))) none E [] H k) := by
 obtain ⟨e0, e1, e5, e6, e7⟩ := e'
 have g1 : decide ((30 : Int) ≤ 29) = false := rfl
 have l4 := tl (rgn Tryz.f73 4)
 conv at l4 => rhs; simp only [rgn, opsAt, codeOf, Tryz.f73, gS, gN, reduceIte, Nat.reduceEqDiff, tA]
 simp (decide := true) only [↓uR.o, dG.o, ja1, reduceIte, ↓ja0 l4, e7, dcF]
 exact hx _ ⟨by simp (decide := true) only [ja1, reduceIte, e0], by simp (decide := true) only [ja1, reduceIte, e1], by simp (decide := true) only [ja1, reduceIte, e5], by simp (decide := true) only [ja1, reduceIte, e6]⟩
theorem j8f {a : Option Addr} {c : Nat} {H0 : Heap} {R0 : RS} {ab v : Nat} (P : PK N hk) (x0 : Rd a c s b H0 R0) : ∀ (n m : Nat) {j : Nat} (_ : j + n = 30) (_ : n < m) {H : Heap} {R : RS} {E : Env} (_ : Go a c s b H0 R0 H R) (_ : Same R0 R) (_ : R.wl ≤ R0.wl + (16 - n)) (_ : R0.wl < 900) (_ : n ≤ 16) (_ : E 0 = .pointer (some ⟨b, 0, none⟩) ∧ E 1 = .int .i64 (ab : Int) ∧ E 5 = .int .i64 (v : Int) ∧ E 6 = .int .i64 mo ∧ E 7 = .int .i64 (j : Int))
   (_ : ∀ E' H' R', E' 0 = .pointer (some ⟨b, 0, none⟩) ∧ E' 1 = .int .i64 (ab : Int) ∧ E' 5 = .int .i64 (v : Int) ∧ E' 6 = .int .i64 mo → Go a c s b H0 R0 H' R' → Same R0 R' → R'.wl ≤ R0.wl + 16 → Q (k (.exit 2) E' [] H')), Q (loopE (execG PP XX (CH N hk (e + 18)) N noPr (.seq (.seq (rF Tryz.f73 4) (.cond (.tmp 14) .skip (.exit 2))) (.seq (.block 3 (.seq (rF Tryz.f73 6) (.cond (.tmp 26) (rF Tryz.f73 7) .skip))) (rF Tryz.f73 5))) none) m E [] H k)
 | 0, m + 1, j, hj, hm, H, R, E, g, sm, hw, hw0, hn, e', hx => by
   have : j = 30 := by omega
   subst this
   rw [jb5]
   exact y6o e' fun E' e'' => by rw [je3]; exact hx E' H R e'' g sm (by omega)
 | n + 1, m + 1, j, hj, hm, H, R, E, g, sm, hw, hw0, hn, e', hx => by
   rw [jb5]
   by_cases hr : ab < rankN j ∧ (rankN j : Int) < mo
   · refine y6n P g.rd (by omega) e' (by omega) hr fun E' H' R' e'' g' s' w' => ?_
     rw [jc4]
     exact j8f P x0 n m (by omega) (by omega) (g.trans x0 g') (sm.trans s') (by omega) hw0 (by omega) e'' hx
   · refine y4o P e' (by omega) hr fun E' e'' => ?_
     rw [jc4]
     exact j8f P x0 n m (by omega) (by omega) g sm (by omega) hw0 (by omega) e'' hx
end Go.Am
