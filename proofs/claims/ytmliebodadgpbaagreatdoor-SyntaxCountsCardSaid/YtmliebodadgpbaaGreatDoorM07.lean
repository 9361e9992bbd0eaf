/- A text: the walk. -/
import Derived.Test.YtmliebodadgpbaaGreatDoorM06
import Derived.Laws.RangeString
open Go.Proofs
namespace Go.Am
set_option maxRecDepth 100000
theorem Own.setB {H0 H : Heap} {es n b : Nat} {v : Value} {cells : List Value} (o : Own H0 H es v n cells) (hb : b < H0.next) (y : Blk) : Own H0 (H.set b y) es v n cells := o.keep (Nat.le_refl _) fun q h1 _ => by rw [Heap.get_set, if_neg (by omega)]
theorem jk3 (s : List UInt8) : ∀ (f g j : Nat) (o : List UInt8), s.length ≤ j + f → s.length ≤ j + g → j < s.length → textI s f j o = textI s g j o
 | 0, _, j, _, h, _, hj => by omega
 | _ + 1, 0, j, _, _, h, hj => by omega
 | f + 1, g + 1, j, o, h1, h2, hj => by
   unfold textI
   have r : ∀ i o', j < i → i < s.length → textI s f i o' = textI s g i o' := fun i o' h hi => jk3 s f g i o' (by omega) (by omega) hi
   refine ite_congr rfl (fun _ => rfl) fun n1 => ite_congr rfl (fun _ => rfl) fun _ => ite_congr rfl (fun _ => ite_congr rfl (fun _ => rfl) fun n2 => ?_) fun _ => ite_congr rfl (fun _ => rfl) fun _ => r _ _ (by omega) (by omega)
   have r2 : ∀ o', textI s f (j + 2) o' = textI s g (j + 2) o' := fun o' => r _ _ (by omega) (by omega)
   refine ite_congr rfl (fun _ => r2 _) fun _ => ite_congr rfl (fun _ => r2 _) fun _ => ite_congr rfl (fun _ => r2 _) fun _ => ite_congr rfl (fun _ => r2 _) fun _ => ite_congr rfl (fun _ => ?_) fun _ => rfl
   exact ite_congr rfl (fun _ => rfl) fun n3 => ite_congr rfl (fun _ => rfl) fun n4 => r _ _ (by omega) (by omega)
theorem j38 (u : Nat) : hexT u ≤ 16 := by
 unfold hexT
 repeat' split
 all_goals omega
theorem ja7 (n m : Nat) : (((n : Nat) : Int) == ((m : Nat) : Int)) = decide (n = m) := by rw [Bool.eq_iff_iff, beq_iff_eq, decide_eq_true_eq]; omega
theorem Own.to {H0 H : Heap} {es n : Nat} {v : Value} {cells : List Value} (o : Own H0 H es v n cells) {q : Nat} (hq : H.next ≤ q) : Own H0 (H.to q) es v n cells := o.keep hq fun _ _ _ => rfl
theorem yh8 : ∀ g h : Fin 16, IntKind.u64.wrap ((BitVec.ofInt IntKind.u64.bits (IntKind.u64.wrap (((g.val : Nat) : Int) * 2 ^ min 4 IntKind.u64.bits)) ||| BitVec.ofInt IntKind.u64.bits ((h.val : Nat) : Int)).toNat : Int) = ((g.val * 16 + h.val : Nat) : Int) := by decide +kernel
theorem or_w (g h : Nat) (hg : g < 16) (hh : h < 16) : IntKind.u64.wrap ((BitVec.ofInt IntKind.u64.bits (IntKind.u64.wrap ((g : Int) * 2 ^ min 4 IntKind.u64.bits)) ||| BitVec.ofInt IntKind.u64.bits (h : Int)).toNat : Int) = ((g * 16 + h : Nat) : Int) := yh8 ⟨g, hg⟩ ⟨h, hh⟩
theorem sh4 (x y : Operand) (a : Int) : binA PP .shl 35 x y (.int .u64 a) (.int .u64 4) = some (.int .u64 (IntKind.u64.wrap (a * 2 ^ min 4 IntKind.u64.bits))) := j6r (b := 4)
theorem c648 (H : Heap) (n : Int) : convertA PP 35 5 (.int .u64 n) H = some (.int .u8 (IntKind.u8.wrap n), H) := jk1 Tryz.underlying35 Tryz.underlying5 n H
set_option maxHeartbeats 4000000 in
theorem yh9 {H : Heap} {a : Option Addr} {c b t i : Nat} {s : List UInt8} (x : Ctx H a s b) (hb : H.get b = some (cur a s.length c i)) (ht : H.get t = some (tok 3 0 .empty (i : Int) 0)) (tb' : t ≠ b) (hi : i < s.length) {k : KV} {kp : KP} (hk : lexK H a c s b t (textR i (textI s (s.length - i) i [])) k) :
   callW PP 51 #[.pointer (some ⟨b, 0, none⟩), .pointer (some ⟨t, 0, none⟩)] H k kp := by
 refine ja4 (H0 := H) (.refl _) (run 2 rfl Tryz.func51 (pr := noPr) (by decide +kernel) (by kernel_rfl) ?_)
 have hs := x.row.small
 have tb : (t = b) = False := eq_false tb'
 have lt := x.tabs.lt ht
 have lb := x.lt
 simp +decide only [zf51.o, ↓G.o, reduceIte]
 generalize hR : textI s (s.length - i) i [] = R at hk
 have badK : ∀ e H', Near H b (cur a s.length c e) H' → R = .bad e → ∃ H'', Ghost H' H'' ∧ k (.bool false) H'' := fun e H' h hr => by
   rw [hr] at hk
   have := hk (tok 3 0 .empty (i : Int) 0) H'.next h.next
   rw [Heap.set_same (H := H.set b _) (by rw [Heap.get_set, if_neg tb']; exact ht)] at this
   exact ⟨_, h.ghost x.tabs, this⟩
 have goodK : ∀ e w H', Near H b (cur a s.length c e) H' → R = .good w e → ∃ H'', Ghost (H'.set t (tok 3 0 ⟨⟨w⟩⟩ (i : Int) 0)) H'' ∧ k (.bool true) H'' := fun e w H' h hr => by
   rw [hr] at hk
   exact ⟨_, (h.ghost x.tabs).set t _, hk H'.next h.next⟩
 refine jk2 [0, 1] (by decide +kernel) (fun m l E ds H' => ds = [] ∧ (E 0 = .pointer (some ⟨b, 0, none⟩) ∧ E 1 = .pointer (some ⟨t, 0, none⟩)) ∧ match l with
   | none => m = 2 * s.length + 5 ∧ H' = H
   | some 0 => ∃ j o v, i ≤ j ∧ j < s.length ∧ o.length ≤ j ∧ Near H b (cur a s.length c j) H' ∧ Own H H' 1 v o.length (rowB o) ∧ E 5 = v ∧ textI s (s.length - j) j o = R ∧ m = 2 * (s.length - j) + 1
   | some 1 => ∃ j o v, i ≤ j ∧ j + 1 < s.length ∧ o.length ≤ j ∧ Near H b (cur a s.length c (j + 1)) H' ∧ Own H H' 1 v o.length (rowB o) ∧ E 5 = v ∧ s.getD (j + 1) 0 = 92 ∧ textI s (s.length - j) j o = R ∧ m = 2 * (s.length - j)
   | _ => False) (i := 2 * s.length + 5) ?_ ⟨rfl, ⟨?_, ?_⟩, rfl, rfl⟩
 · rintro Z C B hB hC m l E ds H' hI hZ
   have h0 := hC 0 (by decide)
   have h1 := hC 1 (by decide)
   clear hC
   have S0 : ∀ (E : Env) (H' : Heap) (j : Nat) (o : List UInt8) (v : Value), E 0 = .pointer (some ⟨b, 0, none⟩) → E 1 = .pointer (some ⟨t, 0, none⟩) → i ≤ j → j < s.length → o.length ≤ j → Near H b (cur a s.length c j) H' → Own H H' 1 v o.length (rowB o) → E 5 = v → textI s (s.length - j) j o = R → 2 * (s.length - j) + 1 ≤ m → B (some 0) E [] H' := by
     intro E H' j o v e0 e1 p1 p2 p3 nr ow e5 p6 p7
     rw [hB]
     have hb' := nr.here
     have w1 : IntKind.i64.wrap ((j : Int) + 1) = ((j + 1 : Nat) : Int) := ja1 (by omega)
     have n1 := nr.set (cur a s.length c (j + 1))
     obtain ⟨f, hf⟩ : ∃ f, s.length - j = f + 1 := ⟨s.length - j - 1, by omega⟩
     have q6 := p6
     rw [hf, textI] at p6
     by_cases hj : j + 1 = s.length
     · rw [if_pos hj] at p6
       simp +decide only [zf51.o, ↓G.o, reduceIte, jc0, jc1, e0, hb', w1, ja7, decide_eq_true hj, jb9]
       exact badK _ _ n1 p6.symm
     rw [if_neg hj] at p6
     have hl : j + 1 < s.length := by omega
     obtain ⟨q0, o0, cs, r, ea, hq, hc⟩ := (nr.ctx x).row.at hl
     subst ea
     have qb : (q0 = b) = False := eq_false (x.ne _ rfl)
     rw [List.getD_eq_getElem?_getD (i := j + 1), List.getElem?_eq_getElem hl, Option.getD_some] at p6
     have n34 := jb7 s[j + 1] 34 (n := 34) rfl
     have n92 := jb7 s[j + 1] 92 (n := 92) rfl
     by_cases h34 : s[j + 1] = 34
     · rw [if_pos h34] at p6
       rw [decide_eq_true h34] at n34
       have w2 : IntKind.i64.wrap (((j + 1 : Nat) : Int) + 1) = ((j + 2 : Nat) : Int) := ja1 (by omega)
       have cv := (ow.setB lb (cur (some ⟨q0, o0, none⟩) s.length c (j + 2))).conv (by omega)
       have ht' : H'.get t = some (tok 3 0 .empty (i : Int) 0) := (nr.old t lt tb').trans ht
       simp +decide only [zf51.o, ↓G.o, reduceIte, jc0, jc1, e0, e1, e5, hb', w1, w2, ja7, decide_eq_false hj, qb, tb, Heap.get_set, hl, hq, hc, n34, cv, ht', strV, jb9]
       exact goodK _ _ _ (nr.set _) p6.symm
     rw [if_neg h34] at p6
     rw [decide_eq_false h34] at n34
     by_cases h92 : s[j + 1] = 92
     · rw [decide_eq_true h92] at n92
       simp +decide only [zf51.o, ↓G.o, reduceIte, jc0, jc1, e0, hb', w1, ja7, decide_eq_false hj, qb, Heap.get_set, hl, hq, hc, n34, n92, jd9, h1]
       refine hZ (2 * (s.length - j)) 1 _ _ _ (by omega) ⟨rfl, ⟨?_, ?_⟩, j, o, v, p1, hl, p3, n1, ow.setB lb _, ?_, by rw [List.getD_eq_getElem?_getD, List.getElem?_eq_getElem hl, Option.getD_some]; exact h92, q6, rfl⟩
       all_goals simp +decide only [↓G.o, reduceIte, e0, e1, e5]
     rw [if_neg h92] at p6
     rw [decide_eq_false h92] at n92
     have hpush := j37 (ow.setB lb (cur (some ⟨q0, o0, none⟩) s.length c (j + 1))) n1 lb (by omega) s[j + 1]
     obtain ⟨v', H2, f1, f2, f3, f4⟩ := hpush
     rw [Heap.next_set] at f1
     have push : ∀ E', E' 0 = .pointer (some ⟨b, 0, none⟩) → E' 1 = .pointer (some ⟨t, 0, none⟩) → E' 5 = v' → textI s f (j + 1) (o ++ [s[j + 1]]) = R → Z 0 E' [] H2 := fun E' a0 a1 a5 ar =>
       hZ (2 * (s.length - (j + 1)) + 1) 0 _ _ _ (by omega) ⟨rfl, ⟨a0, a1⟩, j + 1, o ++ [s[j + 1]], v', by omega, hl, by simp; omega, f2, f3, a5, by rw [show s.length - (j + 1) = f by omega]; exact ar, rfl⟩
     by_cases lo : s[j + 1].toNat < 32
     · rw [if_pos (.inl lo)] at p6
       simp +decide only [zf51.o, ↓G.o, reduceIte, jc0, jc1, e0, hb', w1, ja7, decide_eq_false hj, qb, Heap.get_set, hl, hq, hc, n34, n92, decide_eq_true (show (s[j + 1].toNat : Int) < 32 by omega), jb9]
       exact badK _ _ n1 p6.symm
     by_cases up : 126 < s[j + 1].toNat
     · rw [if_pos (.inr up)] at p6
       simp +decide only [zf51.o, ↓G.o, reduceIte, jc0, jc1, e0, hb', w1, ja7, decide_eq_false hj, qb, Heap.get_set, hl, hq, hc, n34, n92, decide_eq_false (show ¬ (s[j + 1].toNat : Int) < 32 by omega), decide_eq_true (show (s[j + 1].toNat : Int) > 126 by omega), jb9]
       exact badK _ _ n1 p6.symm
     rw [if_neg (by omega)] at p6
     simp +decide only [zf51.o, ↓G.o, reduceIte, jc0, jc1, e0, e5, hb', w1, ja7, decide_eq_false hj, qb, Heap.get_set, hl, hq, hc, n34, n92, decide_eq_false (show ¬ (s[j + 1].toNat : Int) < 32 by omega), decide_eq_false (show ¬ (s[j + 1].toNat : Int) > 126 by omega), bs_b, jq6, f1, jd9, h0]
     refine push _ ?_ ?_ ?_ p6
     all_goals simp +decide only [↓G.o, reduceIte, e0, e1]
   have S3 := S0
   simp only [hB] at S3
   simp +decide only [jc0, jc1, jl1] at S3
   obtain ⟨rfl, ⟨e0, e1⟩, hI⟩ := hI
   rcases l with _ | _ | _ | l
   · obtain ⟨rfl, hH⟩ := hI
     rw [hB, hH]
     simp +decide only [zf51.o, ↓G2.o, reduceIte]
     rw [jh2]
     refine S3 _ H i [] _ ?_ ?_ (Nat.le_refl _) hi (Nat.zero_le _) (Near.start x.tabs hb) (Own.nil _ _ _) ?_ hR (by omega)
     all_goals simp +decide only [↓G.o, reduceIte, e0, e1]
   · obtain ⟨j, o, v, p1, p2, p3, p4, p5, e5, p6, rfl⟩ := hI
     exact S0 E H' j o v e0 e1 p1 p2 p3 p4 p5 e5 p6 (Nat.le_refl _)
   · obtain ⟨j, o, v, p1, p2, p3, nr, ow, e5, c92, p6, rfl⟩ := hI
     rw [hB]
     have hb' := nr.here
     have w1 : IntKind.i64.wrap (((j + 1 : Nat) : Int) + 1) = ((j + 2 : Nat) : Int) := ja1 (by omega)
     have n1 := nr.set (cur a s.length c (j + 2))
     obtain ⟨f, hf⟩ : ∃ f, s.length - j = f + 1 := ⟨s.length - j - 1, by omega⟩
     rw [hf, textI, if_neg (by omega), c92, if_neg (by decide), if_pos rfl] at p6
     by_cases hj : j + 2 = s.length
     · rw [if_pos hj] at p6
       simp +decide only [zf51.o, ↓G.o, reduceIte, jc0, jc1, e0, hb', w1, ja7, decide_eq_true hj, jb9]
       exact badK _ _ n1 p6.symm
     rw [if_neg hj] at p6
     have hl : j + 2 < s.length := by omega
     obtain ⟨q0, o0, cs, r, ea, hq, hc⟩ := (nr.ctx x).row.at hl
     subst ea
     have qb : (q0 = b) = False := eq_false (x.ne _ rfl)
     rw [List.getD_eq_getElem?_getD (i := j + 2), List.getElem?_eq_getElem hl, Option.getD_some] at p6
     have n110 := jb7 s[j + 2] 110 (n := 110) rfl
     have n116 := jb7 s[j + 2] 116 (n := 116) rfl
     have n34 := jb7 s[j + 2] 34 (n := 34) rfl
     have n92 := jb7 s[j + 2] 92 (n := 92) rfl
     have n120 := jb7 s[j + 2] 120 (n := 120) rfl
     have push : ∀ (u : UInt8) (n : Int), (u.toNat : Int) = n → textI s f (j + 2) (o ++ [u]) = R → ∃ v' H2, appendA PP #[34, 34] v (.slice (some ⟨H'.next, 0, none⟩) 1 1) ((H'.set b (cur (some ⟨q0, o0, none⟩) s.length c (j + 2))).alloc 1 [.int .u8 n]) = some (v', H2) ∧
         ∀ E', E' 0 = .pointer (some ⟨b, 0, none⟩) → E' 1 = .pointer (some ⟨t, 0, none⟩) → E' 5 = v' → Z 0 E' [] H2 := fun u n hn hu => by
       subst hn
       obtain ⟨v', H2, f1, f2, f3, f4⟩ := j37 (ow.setB lb (cur (some ⟨q0, o0, none⟩) s.length c (j + 2))) n1 lb (by omega) u
       rw [Heap.next_set] at f1
       exact ⟨v', H2, f1, fun E' a0 a1 a5 => hZ (2 * (s.length - (j + 2)) + 1) 0 _ _ _ (by omega) ⟨rfl, ⟨a0, a1⟩, j + 2, o ++ [u], v', by omega, hl, by simp; omega, f2, f3, a5, by rw [← hu]; exact jk3 s _ _ _ _ (by omega) (by omega) hl, rfl⟩⟩
     by_cases h110 : s[j + 2] = 110
     · rw [if_pos h110] at p6
       rw [decide_eq_true h110] at n110
       obtain ⟨v', H2, f1, f2⟩ := push 10 10 rfl p6
       simp +decide only [zf51.o, ↓G.o, reduceIte, jc0, jc1, e0, e5, hb', w1, ja7, decide_eq_false hj, qb, Heap.get_set, hl, hq, hc, n110, bs_b, jq6, f1, jd9, h0]
       refine f2 _ ?_ ?_ ?_
       all_goals simp +decide only [↓G.o, reduceIte, e0, e1]
     rw [if_neg h110] at p6
     rw [decide_eq_false h110] at n110
     by_cases h116 : s[j + 2] = 116
     · rw [if_pos h116] at p6
       rw [decide_eq_true h116] at n116
       obtain ⟨v', H2, f1, f2⟩ := push 9 9 rfl p6
       simp +decide only [zf51.o, ↓G.o, reduceIte, jc0, jc1, e0, e5, hb', w1, ja7, decide_eq_false hj, qb, Heap.get_set, hl, hq, hc, n110, n116, bs_b, jq6, f1, jd9, h0]
       refine f2 _ ?_ ?_ ?_
       all_goals simp +decide only [↓G.o, reduceIte, e0, e1]
     rw [if_neg h116] at p6
     rw [decide_eq_false h116] at n116
     by_cases h34 : s[j + 2] = 34
     · rw [if_pos h34] at p6
       rw [decide_eq_true h34] at n34
       obtain ⟨v', H2, f1, f2⟩ := push 34 34 rfl p6
       simp +decide only [zf51.o, ↓G.o, reduceIte, jc0, jc1, e0, e5, hb', w1, ja7, decide_eq_false hj, qb, Heap.get_set, hl, hq, hc, bs_b, jq6, show (s[j + 2].toNat : Int) = 34 by rw [h34]; rfl, Int.reduceBEq, f1, jd9, h0]
       refine f2 _ ?_ ?_ ?_
       all_goals simp +decide only [↓G.o, reduceIte, e0, e1]
     rw [if_neg h34] at p6
     rw [decide_eq_false h34] at n34
     by_cases h92 : s[j + 2] = 92
     · rw [if_pos h92] at p6
       rw [decide_eq_true h92] at n92
       obtain ⟨v', H2, f1, f2⟩ := push 92 92 rfl p6
       simp +decide only [zf51.o, ↓G.o, reduceIte, jc0, jc1, e0, e5, hb', w1, ja7, decide_eq_false hj, qb, Heap.get_set, hl, hq, hc, bs_b, jq6, show (s[j + 2].toNat : Int) = 92 by rw [h92]; rfl, Int.reduceBEq, f1, jd9, h0]
       refine f2 _ ?_ ?_ ?_
       all_goals simp +decide only [↓G.o, reduceIte, e0, e1]
     rw [if_neg h92] at p6
     rw [decide_eq_false h92] at n92
     by_cases h120 : s[j + 2] = 120
     · rw [if_pos h120] at p6
       rw [decide_eq_true h120] at n120
       simp +decide only [zf51.o, ↓G.o, reduceIte, jc0, jc1, e0, hb', w1, ja7, decide_eq_false hj, qb, Heap.get_set, hl, hq, hc, n110, n116, n34, n92, n120]
       clear hb' w1 n1 push hq hc
       refine ja6 (I := fun m E ds H' => ds = [] ∧ (E 0 = .pointer (some ⟨b, 0, none⟩) ∧ E 1 = .pointer (some ⟨t, 0, none⟩) ∧ E 5 = v) ∧ (
         (m = 2 ∧ E 101 = .int .i64 0 ∧ E 7 = .int .u64 ((0 : Nat) : Int) ∧ Near H b (cur (some ⟨q0, o0, none⟩) s.length c (j + 2)) H' ∧ Own H H' 1 v o.length (rowB o)) ∨
         (m = 1 ∧ E 101 = .int .i64 1 ∧ ∃ g : Nat, g < 16 ∧ E 7 = .int .u64 (g : Int) ∧ g = hexN (s.getD (j + 3) 0) ∧ Near H b (cur (some ⟨q0, o0, none⟩) s.length c (j + 3)) H' ∧ Own H H' 1 v o.length (rowB o) ∧ ¬ (j + 3 = s.length ∨ hexT (s.getD (j + 3) 0).toNat = 16)) ∨
         (m = 0 ∧ E 101 = .int .i64 2 ∧ ∃ h g : Nat, h < 16 ∧ g < 16 ∧ E 7 = .int .u64 ((g * 16 + h : Nat) : Int) ∧ Near H b (cur (some ⟨q0, o0, none⟩) s.length c (j + 4)) H' ∧ Own H H' 1 v o.length (rowB o) ∧ textI s f (j + 4) (o ++ [UInt8.ofNat (g * 16 + h)]) = R ∧ j + 4 < s.length))) (i := 2) ?_ ⟨rfl, ⟨?_, ?_, ?_⟩, .inl ⟨rfl, ?_, ?_, nr.set _, ow.setB lb _⟩⟩
       · rintro W m' E' _ H2 ⟨rfl, ⟨e0, e1, e5⟩, h⟩ hW
         rcases h with ⟨rfl, e101, e7, nr, ow⟩ | ⟨rfl, e101, g, hg, e7, gd, nr, ow, no⟩ | ⟨rfl, e101, h, g, hh, hg, e7, nr, ow, hr, hl4⟩
         · skip
           have hb' := nr.here
           have w1 : IntKind.i64.wrap (((j + 2 : Nat) : Int) + 1) = ((j + 3 : Nat) : Int) := ja1 (by omega)
           have n1 := nr.set (cur (some ⟨q0, o0, none⟩) s.length c (j + 3))
           by_cases hjd : j + 3 = s.length
           · rw [if_pos (.inl hjd)] at p6
             simp +decide only [zf51.o, ↓G.o, reduceIte, e0, e101, hb', w1, ja7, decide_eq_true hjd, jb9]
             exact badK _ _ n1 p6.symm
           have hld : j + 3 < s.length := by omega
           obtain ⟨q2, o2, cs2, r2, ea, hq2, hc2⟩ := (nr.ctx x).row.at hld
           obtain ⟨rfl, rfl⟩ : q0 = q2 ∧ o0 = o2 := by simpa using ea
           have hgd : s.getD (j + 3) 0 = s[j + 3] := by rw [List.getD_eq_getElem?_getD, List.getElem?_eq_getElem hld, Option.getD_some]
           simp +decide only [zf51.o, ↓G.o, reduceIte, e0, e101, hb', w1, ja7, decide_eq_false hjd, qb, Heap.get_set, hld, hq2, hc2]
           refine j2l s[j + 3] (n1.ctx x).tabs fun m1 hm1 => ?_
           by_cases h16 : hexT s[j + 3].toNat = 16
           · rw [if_pos (.inr (by rw [hgd]; exact h16))] at p6
             have h16' : (hexT s[j + 3].toNat == 16) = true := by simpa using h16
             simp +decide only [zf51.o, ↓G.o, reduceIte, h16', jb9]
             exact badK _ _ (n1.to hm1) p6.symm
           · have no : ¬ (j + 3 = s.length ∨ hexT (s.getD (j + 3) 0).toNat = 16) := fun h => h.elim hjd (by rw [hgd]; exact h16)
             have h16' : (hexT s[j + 3].toNat == 16) = false := by simpa using h16
             have hh := j38 s[j + 3].toNat
             have hn := j0g s[j + 3].toNat
             have hv : hexT s[j + 3].toNat = ((hexN s[j + 3] : Nat) : Int) := by unfold hexN; omega
             have hlt : hexN s[j + 3] < 16 := by omega
             have ov := or_w 0 (hexN s[j + 3]) (by decide) hlt
             simp +decide only [zf51.o, ↓G.o, reduceIte, h16', e0, e7, qb, Heap.get_set, hld, hq2, hc2, sh4]
             refine j2l s[j + 3] ((n1.to hm1).ctx x).tabs fun m2 hm2 => ?_
             rw [hv]
             simp +decide only [zf51.o, ↓G.o, reduceIte, e101, b_or, ov, show IntKind.i64.wrap (0 + 1) = 1 from by decide +kernel]
             refine hW 1 _ _ _ (by omega) ⟨rfl, ⟨?_, ?_, ?_⟩, .inr (.inl ⟨rfl, ?_, hexN s[j + 3], hlt, ?_, by rw [hgd], n1.to (Nat.le_trans hm1 hm2), (ow.setB lb _).to (Nat.le_trans hm1 hm2), no⟩)⟩
             all_goals simp +decide only [↓G.o, reduceIte, e0, e1, e5]
         · rw [if_neg no] at p6
           have hb' := nr.here
           have w1 : IntKind.i64.wrap (((j + 3 : Nat) : Int) + 1) = ((j + 4 : Nat) : Int) := ja1 (by omega)
           have n1 := nr.set (cur (some ⟨q0, o0, none⟩) s.length c (j + 4))
           by_cases hjd : j + 4 = s.length
           · rw [if_pos (.inl hjd)] at p6
             simp +decide only [zf51.o, ↓G.o, reduceIte, e0, e101, hb', w1, ja7, decide_eq_true hjd, jb9]
             exact badK _ _ n1 p6.symm
           have hld : j + 4 < s.length := by omega
           obtain ⟨q2, o2, cs2, r2, ea, hq2, hc2⟩ := (nr.ctx x).row.at hld
           obtain ⟨rfl, rfl⟩ : q0 = q2 ∧ o0 = o2 := by simpa using ea
           have hgd : s.getD (j + 4) 0 = s[j + 4] := by rw [List.getD_eq_getElem?_getD, List.getElem?_eq_getElem hld, Option.getD_some]
           simp +decide only [zf51.o, ↓G.o, reduceIte, e0, e101, hb', w1, ja7, decide_eq_false hjd, qb, Heap.get_set, hld, hq2, hc2]
           refine j2l s[j + 4] (n1.ctx x).tabs fun m1 hm1 => ?_
           by_cases h16 : hexT s[j + 4].toNat = 16
           · rw [if_pos (.inr (by rw [hgd]; exact h16))] at p6
             have h16' : (hexT s[j + 4].toNat == 16) = true := by simpa using h16
             simp +decide only [zf51.o, ↓G.o, reduceIte, h16', jb9]
             exact badK _ _ (n1.to hm1) p6.symm
           · have no : ¬ (j + 4 = s.length ∨ hexT (s.getD (j + 4) 0).toNat = 16) := fun h => h.elim hjd (by rw [hgd]; exact h16)
             have h16' : (hexT s[j + 4].toNat == 16) = false := by simpa using h16
             have hh := j38 s[j + 4].toNat
             have hn := j0g s[j + 4].toNat
             have hv : hexT s[j + 4].toNat = ((hexN s[j + 4] : Nat) : Int) := by unfold hexN; omega
             have hlt : hexN s[j + 4] < 16 := by omega
             have ov := or_w g (hexN s[j + 4]) hg hlt
             simp +decide only [zf51.o, ↓G.o, reduceIte, h16', e0, e7, qb, Heap.get_set, hld, hq2, hc2, sh4]
             refine j2l s[j + 4] ((n1.to hm1).ctx x).tabs fun m2 hm2 => ?_
             rw [hv]
             simp +decide only [zf51.o, ↓G.o, reduceIte, e101, b_or, ov, show IntKind.i64.wrap (1 + 1) = 2 from by decide +kernel]
             rw [if_neg no, hgd, ← gd] at p6
             refine hW 0 _ _ _ (by omega) ⟨rfl, ⟨?_, ?_, ?_⟩, .inr (.inr ⟨rfl, ?_, hexN s[j + 4], g, hlt, hg, ?_, n1.to (Nat.le_trans hm1 hm2), (ow.setB lb _).to (Nat.le_trans hm1 hm2), p6, hld⟩)⟩
             all_goals simp +decide only [↓G.o, reduceIte, e0, e1, e5]
         · have hu : ((UInt8.ofNat (g * 16 + h)).toNat : Int) = ((g * 16 + h : Nat) : Int) := by rw [UInt8.toNat_ofNat_of_lt' (by simp [UInt8.size]; omega)]
           obtain ⟨v', H3, f1, f2, f3, f4⟩ := j37 ow nr lb (by omega) (UInt8.ofNat (g * 16 + h))
           rw [hu] at f1
           have wu : IntKind.u8.wrap ((g * 16 + h : Nat) : Int) = ((g * 16 + h : Nat) : Int) := ji4 (by omega) (by omega)
           simp +decide only [zf51.o, ↓G.o, reduceIte, e5, e101, e7, c648, wu, bs_b, jq6, f1, jd9, h0, Nat.reduceBEq]
           refine hZ (2 * (s.length - (j + 4)) + 1) 0 _ _ _ (by omega) ⟨rfl, ⟨?_, ?_⟩, j + 4, o ++ [UInt8.ofNat (g * 16 + h)], v', by omega, hl4, by simp; omega, f2, f3, ?_, by rw [← hr]; exact jk3 s _ _ _ _ (by omega) (by omega) hl4, rfl⟩
           all_goals simp +decide only [↓G.o, reduceIte, e0, e1]
       all_goals simp +decide only [↓G.o, reduceIte, e0, e1, e5]
       all_goals first | rfl | skip
     · rw [if_neg h120] at p6
       rw [decide_eq_false h120] at n120
       simp +decide only [zf51.o, ↓G.o, reduceIte, jc0, jc1, e0, hb', w1, ja7, decide_eq_false hj, qb, Heap.get_set, hl, hq, hc, n110, n116, n34, n92, n120, jb9]
       exact badK _ _ n1 p6.symm
   · exact hI.elim
 all_goals simp +decide only [↓G.o, reduceIte]
end Go.Am
namespace Go.Am
variable {b t c : Nat} {H : Heap} {a : Option Addr} {s : List UInt8}
set_option maxRecDepth 100000
def lexI (s : List UInt8) (i : Nat) : LR :=
 if clsI (s.getD i 0) = 3 then intR i (intI s i)
 else if clsI (s.getD i 0) = 4 then wordI s i
 else if clsI (s.getD i 0) = 5 then textR i (textI s (s.length - i) i [])
 else if clsI (s.getD i 0) = 6 then signI s i
 else .bad i
theorem Heap.set_over (h : t ≠ b) (H : Heap) (x y z : Blk) : ((H.set t x).set b y).set t z = (H.set b y).set t z := by
 simp only [Heap.set]; congr 1; funext k
 by_cases e : k = t
 · simp [e]
 · simp [e]
theorem lexK.over {r : LR} {k : KV} (h : t ≠ b) (hk : lexK H a c s b t r k) (x : Blk) : lexK (H.set t x) a c s b t r k := by
 cases r with
 | bad e => intro y n hn; rw [Heap.set_over h]; exact hk y n hn
 | good tk => intro n hn; rw [Heap.set_over h]; exact hk n hn
theorem lexK.mono {r : LR} {k k' : KV} (hk : lexK H a c s b t r k) (h : ∀ v H', k v H' → k' v H') : lexK H a c s b t r k' := by
 cases r with
 | bad e => exact fun y n hn => h _ _ (hk y n hn)
 | good tk => exact fun n hn => h _ _ (hk n hn)
theorem yr3 {i : Nat} (l : Lx H a c s b t i) (hi : i < s.length) {k : KV} {kp : KP} (hk : lexK H a c s b t (lexI s i) k) :
   callW PP 27 #[.pointer (some ⟨b, 0, none⟩), .pointer (some ⟨t, 0, none⟩)] H k kp := by
 refine run 2 rfl Tryz.func27 (pr := noPr) (by decide +kernel) (by kernel_rfl) ?_
 obtain ⟨q, o, cs, r, rfl, hq, hc⟩ := l.x.row.at hi
 have hb := l.here
 have ht := l.lex
 have lt := l.x.tabs.lt ht
 have bt : (b = t) = False := eq_false (Ne.symm l.tb)
 simp +decide only [zf27.o, ↓G.o, reduceIte, hb, hq, hc, hi]
 refine jn2 l.x.tabs _ ?_
 unfold lexI at hk
 rw [List.getD_eq_getElem?_getD, List.getElem?_eq_getElem hi, Option.getD_some] at hk
 have nb : ∀ {n : Int}, clsI s[i] ≠ n → (clsI s[i] == n) = false := fun h => by simpa using h
 have yb : ∀ {n : Int}, clsI s[i] = n → (clsI s[i] == n) = true := fun h => by simpa using h
 have own : ∀ kd : Int, Ctx (H.set t (tok kd 0 .empty (i : Int) 0)) (some ⟨q, o, none⟩) s b ∧ (H.set t (tok kd 0 .empty (i : Int) 0)).get b = some (cur (some ⟨q, o, none⟩) s.length c i) := fun kd =>
   ⟨l.x.seT l.low lt l.ne _, by rw [Heap.get_set, if_neg (Ne.symm l.tb)]; exact hb⟩
 by_cases h3 : clsI s[i] = 3
 · rw [if_pos h3] at hk
   simp +decide only [zf27.o, ↓G.o, reduceIte, yb h3, ht]
   refine yr2 (own 2).1 (own 2).2 (Heap.get_self H t _) l.tb l.low l.ne hi ((hk.over l.tb _).mono fun v H' hv => ?_)
   simpa +decide only [zf27.o, ↓G.o, reduceIte] using hv
 rw [if_neg h3] at hk
 by_cases h4 : clsI s[i] = 4
 · rw [if_pos h4] at hk
   simp +decide only [zf27.o, ↓G.o, reduceIte, nb h3, yb h4]
   refine yg9 l (Nat.le_of_lt hi) (hk.mono fun v H' hv => ?_)
   simpa +decide only [zf27.o, ↓G.o, reduceIte] using hv
 rw [if_neg h4] at hk
 by_cases h5 : clsI s[i] = 5
 · rw [if_pos h5] at hk
   simp +decide only [zf27.o, ↓G.o, reduceIte, nb h3, nb h4, yb h5, ht]
   refine yh9 (own 3).1 (own 3).2 (Heap.get_self H t _) l.tb hi ((hk.over l.tb _).mono fun v H' hv => ?_)
   simpa +decide only [zf27.o, ↓G.o, reduceIte] using hv
 rw [if_neg h5] at hk
 by_cases h6 : clsI s[i] = 6
 · rw [if_pos h6] at hk
   simp +decide only [zf27.o, ↓G.o, reduceIte, nb h3, nb h4, nb h5, yb h6]
   refine yh0 l hi (hk.mono fun v H' hv => ?_)
   simpa +decide only [zf27.o, ↓G.o, reduceIte] using hv
 rw [if_neg h6] at hk
 simp +decide only [zf27.o, ↓G.o, reduceIte, nb h3, nb h4, nb h5, nb h6]
 have := l.bad hk
 rwa [Heap.set_same l.here] at this
end Go.Am
namespace Go.Am
variable {s : List UInt8} {i n m e : Nat}
theorem jd0 : ∀ (k i : Nat) (o w : List UInt8) (e : Nat), i < s.length → textI s k i o = .good w e → i < e ∧ e ≤ s.length
 | 0, i, o, w, e, hi, h => by cases h
 | k + 1, i, o, w, e, hi, h => by
   have g0 : ∀ j, s.length ≤ j → s.getD j 0 = 0 := fun j hj => by simp [List.getD, List.getElem?_eq_none hj]
   have hz : hexT (0 : UInt8).toNat = 16 := by decide
   unfold textI at h
   by_cases hj : i + 1 = s.length
   · rw [if_pos hj] at h; cases h
   rw [if_neg hj] at h
   by_cases c34 : s.getD (i + 1) 0 = 34
   · rw [if_pos c34] at h
     injection h with h1 h2
     omega
   rw [if_neg c34] at h
   by_cases c92 : s.getD (i + 1) 0 = 92
   · rw [if_pos c92] at h
     by_cases hj2 : i + 2 = s.length
     · rw [if_pos hj2] at h; cases h
     rw [if_neg hj2] at h
     by_cases c110 : s.getD (i + 2) 0 = 110
     · rw [if_pos c110] at h
       have := jd0 k (i + 2) _ w e (by omega) h; omega
     rw [if_neg c110] at h
     by_cases c116 : s.getD (i + 2) 0 = 116
     · rw [if_pos c116] at h
       have := jd0 k (i + 2) _ w e (by omega) h; omega
     rw [if_neg c116] at h
     by_cases d34 : s.getD (i + 2) 0 = 34
     · rw [if_pos d34] at h
       have := jd0 k (i + 2) _ w e (by omega) h; omega
     rw [if_neg d34] at h
     by_cases d92 : s.getD (i + 2) 0 = 92
     · rw [if_pos d92] at h
       have := jd0 k (i + 2) _ w e (by omega) h; omega
     rw [if_neg d92] at h
     by_cases d120 : s.getD (i + 2) 0 = 120
     · rw [if_pos d120] at h
       by_cases n1 : i + 3 = s.length ∨ hexT (s.getD (i + 3) 0).toNat = 16
       · rw [if_pos n1] at h; cases h
       rw [if_neg n1] at h
       by_cases n2 : i + 4 = s.length ∨ hexT (s.getD (i + 4) 0).toNat = 16
       · rw [if_pos n2] at h; cases h
       rw [if_neg n2] at h
       have m1 : ¬ i + 3 = s.length := fun q => n1 (.inl q)
       have m2 : ¬ i + 4 = s.length := fun q => n2 (.inl q)
       have q3 : i + 3 < s.length := by
         by_cases q : i + 3 < s.length
         · exact q
         · exact absurd (.inr (by rw [g0 _ (by omega)]; exact hz)) n1
       have := jd0 k (i + 4) _ w e (by omega) h; omega
     rw [if_neg d120] at h
     cases h
   rw [if_neg c92] at h
   by_cases hr : (s.getD (i + 1) 0).toNat < 32 ∨ 126 < (s.getD (i + 1) 0).toNat
   · rw [if_pos hr] at h; cases h
   · rw [if_neg hr] at h
     have := jd0 k (i + 1) _ w e (by omega) h; omega
theorem jn6 (s : List UInt8) : ∀ n i, i ≤ s.length → i ≤ skipTo s n i ∧ skipTo s n i ≤ s.length
 | 0, i, h => by simp [skipTo]; exact h
 | n + 1, i, h => by
   unfold skipTo
   split
   · rename_i h1
     have := jn6 s n (i + 1) (jh0 h1)
     omega
   · split
     · have l := jg7 s (s.length - i) i
       have := jn6 s n (lineEnd s (s.length - i) i) (by omega)
       omega
     · omega
theorem jn7 (h : endI s i n = .good m e) : e = i := by
 unfold endI at h
 split at h
 · cases h
 · injection h with h1 h2; exact h2.symm
theorem jx5 {f : Nat} (h : mulI s i n f = .good m e) : e = i + 1 := by
 unfold mulI at h
 split at h
 · exact jn7 h
 · cases h
theorem ji5 (hi : i ≤ s.length) (h : sufI s i n = .good m e) : i ≤ e ∧ e ≤ s.length := by
 unfold sufI at h
 split at h
 · rename_i h4
   have := jh0 h4
   split at h
   · have := jx5 h; omega
   · split at h
     · have := jx5 h; omega
     · cases h
 · have := jn7 h; omega
theorem jx6 : ∀ (f i n m e : Nat), i ≤ s.length → decI s f i n = .good m e → i ≤ e ∧ e ≤ s.length
 | 0, i, n, m, e, hi, h => ji5 hi h
 | f + 1, i, n, m, e, hi, h => by
   unfold decI at h
   split at h
   · rename_i h3
     have := jh0 h3
     split at h
     · have := jx6 f (i + 1) _ m e (by omega) h
       omega
     · cases h
   · exact ji5 hi h
theorem jx7 {fr : Nat} : ∀ (f i n m e : Nat), i + f ≤ s.length → hexI s fr f i n = .good m e → i ≤ e ∧ e ≤ s.length
 | 0, i, n, m, e, hi, h => by
   unfold hexI endH at h
   split at h
   · cases h
   · exact ji5 (by omega) h
 | f + 1, i, n, m, e, hi, h => by
   unfold hexI at h
   split at h
   · split at h
     · have := jx7 f (i + 1) _ m e (by omega) h
       omega
     · cases h
   · unfold endH at h
     split at h
     · cases h
     · exact ji5 (by omega) h
theorem j2m (hi : i < s.length) (h3 : isI s i 3 = true) (h : decI s (s.length - i) i n = .good m e) : i < e ∧ e ≤ s.length := by
 obtain ⟨f, hf⟩ : ∃ f, s.length - i = f + 1 := ⟨s.length - i - 1, by omega⟩
 rw [hf] at h
 unfold decI at h
 rw [if_pos h3] at h
 split at h
 · have := jx6 f (i + 1) _ m e (by omega) h
   omega
 · cases h
theorem j39 (hi : i < s.length) (h3 : isI s i 3 = true) (h : intI s i = .good m e) : i < e ∧ e ≤ s.length := by
 unfold intI at h
 split at h
 · rename_i hq
   by_cases h2 : i + 2 ≤ s.length
   · have := jx7 (s.length - (i + 2)) (i + 2) 0 m e (by omega) h
     omega
   · omega
 · exact j2m hi h3 h
theorem jx8 (u v : Int) : 1 ≤ (signR u v).2 ∧ (signR u v).2 ≤ 2 := by
 unfold signR
 repeat' split
 all_goals omega
theorem jx9 {u v : Int} (h : (signR u v).2 = 2) : v ≠ 0 := by
 intro hv
 subst hv
 unfold signR at h
 repeat' split at h
 all_goals first
   | omega
   | exact absurd h (by decide)
theorem clsW {q : Int} (hi : i < s.length) (h : clsI (s.getD i 0) = q) : isI s i q = true := by
 unfold isI
 rw [decide_eq_true hi, h]; simp
theorem jy0 {tk : Tk} (hi : i < s.length) (h : lexI s i = .good tk) : tk.from_ = i ∧ i < tk.to_ ∧ tk.to_ ≤ s.length := by
 unfold lexI at h
 split at h
 · rename_i c3
   cases hq : intI s i with
   | bad e => rw [hq] at h; cases h
   | good n e =>
     rw [hq] at h
     injection h with h
     subst h
     exact ⟨rfl, j39 hi (clsW hi c3) hq⟩
 · split at h
   · rename_i c4
     unfold wordI at h
     split at h
     · injection h with h
       subst h
       have h4 := clsW hi c4
       have hw : isW s i = true := by unfold isW; rw [h4]; rfl
       obtain ⟨f, hf⟩ : ∃ f, s.length - i = f + 1 := ⟨s.length - i - 1, by omega⟩
       have g := ji3 s f (i + 1)
       have e : runTo s (s.length - i) i = runTo s f (i + 1) := by rw [hf, runTo, if_pos hw]
       refine ⟨rfl, ?_, ?_⟩
       · show i < runTo s (s.length - i) i
         omega
       · show runTo s (s.length - i) i ≤ s.length
         omega
     · cases h
   · split at h
     · cases hq : textI s (s.length - i) i [] with
       | bad e => rw [hq] at h; cases h
       | good w e =>
         rw [hq] at h
         injection h with h
         subst h
         exact ⟨rfl, jd0 _ i [] w e hi hq⟩
     · split at h
       · unfold signI at h
         split at h
         · cases h
         · injection h with h
           subst h
           have l := jx8 ((s.getD i 0).toNat : Int) (nextB s i)
           refine ⟨rfl, ?_, ?_⟩
           · show i < i + (signR ((s.getD i 0).toNat : Int) (nextB s i)).2
             omega
           · show i + (signR ((s.getD i 0).toNat : Int) (nextB s i)).2 ≤ s.length
             by_cases q : (signR ((s.getD i 0).toNat : Int) (nextB s i)).2 = 2
             · have hn := jx9 q
               unfold nextB at hn
               split at hn
               · omega
               · exact absurd rfl hn
             · omega
       · cases h
end Go.Am
namespace Go.Am
variable {H0 H : Heap}
set_option maxRecDepth 100000
def Tk.cells (k : Tk) : List Value := [.int .i64 k.kind, .int .u64 k.n, .string k.w, .int .i64 (k.from_ : Int), .int .i64 (k.to_ : Int)]
def toksI (s : List UInt8) : Nat → Nat → List Tk × Option Nat
 | 0, _ => ([], none)
 | k + 1, i =>
   if skipTo s (s.length - i) i < s.length then
     match lexI s (skipTo s (s.length - i) i) with
     | .bad e => ([], some e)
     | .good tk => (tk :: (toksI s k tk.to_).1, (toksI s k tk.to_).2)
   else ([], none)
def cellsK (l : List Tk) : List Value := l.flatMap Tk.cells
theorem Near.setT {b t : Nat} {x : Blk} (h : Near H0 b x H) (h1 : H0.next ≤ t) (h2 : t ≠ b) (h3 : t < H.next) (y : Blk) : Near H0 b x (H.set t y) := ⟨h.next, fun k hk hb => by rw [Heap.get_set, if_neg (by omega)]; exact h.old k hk hb, by rw [Heap.get_set, if_neg (Ne.symm h2)]; exact h.here, fun k hk => by
 have hk' : H.next ≤ k := hk
 rw [Heap.get_set, if_neg (by omega)]; exact h.fresh k hk⟩
theorem Ghost.trans {H1 H2 H3 : Heap} (g : Ghost H1 H2) (g' : Ghost H2 H3) : Ghost H1 H3 := ⟨g'.1.trans g.1, fun b y e => by
 obtain ⟨x, h1, h2, h3⟩ := g'.2 b y e
 obtain ⟨z, h4, h5, h6⟩ := g.2 b x h1
 refine ⟨z, h4, ?_, fun r => h6 (h3 r)⟩
 have := h2
 rw [h5] at this
 exact this⟩
theorem zrT : zeroT PP 49 = some [.int .i64 0, .int .u64 0, .string .empty, .int .i64 0, .int .i64 0] := by kernel_rfl
theorem bd_t (x : Int) : buildA PP 49 #[(3, .int .i64 x)] = some (.agg #[.int .i64 0, .int .u64 0, .string .empty, .int .i64 x, .int .i64 0]) := by kernel_rfl
theorem bd_c (a : Option Addr) (n c : Nat) : buildA PP 71 #[(0, .slice a n c)] = some (.agg #[.slice a n c, .int .i64 0]) := by kernel_rfl
theorem infoT : (PP.info? 49).map (fun i => (i.size, i.bytes)) = some (5, 48) := by kernel_rfl
theorem bs_t (H : Heap) (k n f t : Int) (w : ByteArray) : buildSliceA PP 44 1 #[(0, .agg #[.int .i64 k, .int .u64 n, .string w, .int .i64 f, .int .i64 t])] H = some (.slice (some ⟨H.next, 0, none⟩) 1 1, H.alloc 5 [.int .i64 k, .int .u64 n, .string w, .int .i64 f, .int .i64 t]) := by kernel_rfl
theorem stT (k n f t : Int) (w : ByteArray) (H : Heap) {q : Nat} {k' n' f' t' : Int} {w' : ByteArray} (h : H.get q = some (tok k' n' w' f' t')) : storeA PP 49 (.pointer (some ⟨q, 0, none⟩)) (.agg #[.int .i64 k, .int .u64 n, .string w, .int .i64 f, .int .i64 t]) H = some (undef, H.set q (tok k n w f t)) := by
 have hs : sizeT PP 49 = some 5 := by decide +kernel
 simp [storeA, hs, stV, Value.cells, st, look, h, over, Value.oneCell']
theorem Own.setO {es n t : Nat} {v : Value} {cells : List Value} {y : Blk} (o : Own H0 H es v n cells) (h : H.get t = some y) (he : y.es ≠ es) (z : Blk) : Own H0 (H.set t z) es v n cells := by
 obtain ⟨o1, o2 | ⟨q, o2, o3, o4, o5⟩⟩ := o
 · exact ⟨o1, .inl o2⟩
 · refine ⟨o1, .inr ⟨q, o2, o3, o4, ?_⟩⟩
   rw [Heap.get_set, if_neg]
   · exact o5
   · rintro rfl
     rw [h] at o5; cases o5; exact he rfl
theorem yi0 {b : Nat} {x : Blk} {v : Value} {l : List Tk} (o : Own H0 H 5 v l.length (cellsK l)) (h : Near H0 b x H) (hb : b < H0.next) (hl : l.length < 2 ^ 40) (u : Tk) :
   ∃ v' H', appendA PP #[44, 44] v (.slice (some ⟨H.next, 0, none⟩) 1 1) (H.alloc 5 u.cells) = some (v', H') ∧ Near H0 b x H' ∧ Own H0 H' 5 v' (l ++ [u]).length (cellsK (l ++ [u])) ∧ H.next ≤ H'.next := by
 have h1 := h.alloc 5 u.cells
 have o1 : Own H0 (H.alloc 5 u.cells) 5 v l.length (cellsK l) := o.keep (Nat.le_succ _) fun q _ hq => by rw [Heap.get_alloc, if_neg (by omega)]
 obtain ⟨v', H', e1, e2, e3, e4⟩ := o1.app (bytes := 48) (news := u.cells) h1 hb rfl rfl (by unfold most; omega) (by unfold most; omega)
 refine ⟨v', H', ?_, e2, by simpa [cellsK] using e3, Nat.le_trans (Nat.le_succ _) e4⟩
 rw [← e1]
 exact je8 Tryz.underlying44 infoT zrT rfl (by decide) (by rw [Heap.get_alloc, if_pos rfl]) rfl v
theorem yi1 : lk PP 49 = 7 ∧ esT PP 44 = 1 := by decide +kernel
theorem Ghost.add {X Y : Heap} (g : Ghost X Y) {q : Nat} {y : Blk} (h : X.get q = some y) : Ghost X (Y.set q y) := ⟨g.1, fun k z e => by
 rw [Heap.get_set] at e
 by_cases hk : k = q
 · rw [if_pos hk] at e; cases e; subst hk; exact ⟨_, h, rfl, id⟩
 · rw [if_neg hk] at e; exact g.2 k z e⟩
def resK (H : Heap) (l : List Tk) (k : KV) : Prop :=
 (l = [] → ∀ n, H.next ≤ n → k (.tuple #[.slice none 0 0, .int .i64 0, .int .i64 0]) (H.to n)) ∧
 ∀ q n, H.next ≤ q → q < n → k (.tuple #[.slice (some ⟨q, 0, none⟩) l.length l.length, .int .i64 0, .int .i64 0]) ((H.to n).set q ⟨cellsK l, true, 5, none⟩)
theorem jm0 {a : Option Addr} {c : Nat} {s : List UInt8} (t : Tabs H) (w : Brow H a s) (hc : s.length ≤ c) {k : KV} {kp : KP}
   (hl : 1048576 < s.length → k (.tuple #[.slice none 0 0, .int .i64 0, .int .i64 3]) H)
   (hb : ∀ e n, s.length ≤ 1048576 → (toksI s (s.length + 1) 0).2 = some e → H.next ≤ n → k (.tuple #[.slice none 0 0, .int .i64 (e : Int), .int .i64 60]) (H.to n))
   (hg : s.length ≤ 1048576 → (toksI s (s.length + 1) 0).2 = none → resK H (toksI s (s.length + 1) 0).1 k) :
   callW PP 12 #[.slice a s.length c] H k kp := by
 by_cases h : s.length ≤ 1048576
 · refine ja4 (H0 := H) (.refl _) (run 1 rfl Tryz.func12 (pr := noPr) (by decide +kernel) (by kernel_rfl) ?_)
   simp +decide only [zf12.o, ↓G.o, reduceIte, decide_eq_false (show ¬ (s.length : Int) > 1048576 by omega), bd_c, jn5]
   have hn := t.next
   have t1 := t.alloc 1 [.slice a s.length c, .int .i64 0]
   have x1 : Ctx (H.alloc 1 [.slice a s.length c, .int .i64 0]) a s H.next := ⟨t1, w.keep fun y hy => by
     obtain ⟨cs, r, _, h2, _⟩ := w.row y hy
     rw [Heap.get_alloc, if_neg (Nat.ne_of_lt (t.lt h2))], hn, Nat.lt_succ_self _, fun y hy => by
     obtain ⟨cs, r, _, h2, _⟩ := w.row y hy
     exact Nat.ne_of_lt (t.lt h2)⟩
   have hb1 : (H.alloc 1 [.slice a s.length c, .int .i64 0]).get H.next = some (cur a s.length c 0) := by rw [Heap.get_alloc, if_pos rfl]; rfl
   have g0 : ∀ {n x}, Ghost (((H.alloc 1 [.slice a s.length c, .int .i64 0]).set H.next x).to n) (H.to n) := fun {n x} => ⟨rfl, fun q y e => ⟨y, by
     have hq : q ≠ H.next := Nat.ne_of_lt (t.lt e)
     show ((H.alloc 1 _).set H.next x).get q = some y
     rw [Heap.get_set, if_neg hq, Heap.get_alloc, if_neg hq]; exact e, rfl, id⟩⟩
   generalize hH1 : H.alloc 1 [.slice a s.length c, .int .i64 0] = H1 at *
   have hlt1 : H.next < H1.next := x1.lt
   generalize hT : toksI s (s.length + 1) 0 = T at hb hg
   refine ja6 (I := fun m E ds H' => ds = [] ∧ E 5 = .pointer (some ⟨H.next, 0, none⟩) ∧ ∃ j f l v, j ≤ s.length ∧ m = s.length - j ∧ s.length < j + f ∧ Near H1 H.next (cur a s.length c j) H' ∧ Own H1 H' 5 v l.length (cellsK l) ∧ E 6 = v ∧ l.length ≤ j ∧ (l ++ (toksI s f j).1, (toksI s f j).2) = T) (i := s.length) ?_ ⟨rfl, ?_, 0, s.length + 1, [], _, Nat.zero_le _, rfl, by omega, Near.start t1 hb1, Own.nil _ _ _, ?_, Nat.le_refl _, by rw [← hT]; rfl⟩
   · rintro Z m E _ H' ⟨rfl, e5, j, f, l, v, p1, rfl, p3, nr, ow, e6, p4, p5⟩ hZ
     obtain ⟨f, rfl⟩ : ∃ g, f = g + 1 := ⟨f - 1, by omega⟩
     simp +decide only [zf12.o, ↓G.o, reduceIte, e5]
     refine yg7 (nr.ctx x1) nr.here p1 ?_
     generalize hj : skipTo s (s.length - j) j = j' at *
     have n1 := nr.set (cur a s.length c j')
     unfold toksI at p5
     rw [hj] at p5
     by_cases hlt : j' < s.length
     · rw [if_pos hlt] at p5
       have hst : storeA PP 49 (.pointer (some ⟨H'.next, 0, none⟩)) (.agg #[.int .i64 0, .int .u64 0, .string .empty, .int .i64 (j' : Int), .int .i64 0]) ((H'.set H.next (cur a s.length c j')).alloc 1 [.int .i64 0, .int .u64 0, .string .empty, .int .i64 0, .int .i64 0]) = some (undef, ((H'.set H.next (cur a s.length c j')).alloc 1 [.int .i64 0, .int .u64 0, .string .empty, .int .i64 0, .int .i64 0]).set H'.next (tok 0 0 .empty (j' : Int) 0)) := stT _ _ _ _ _ _ (k' := 0) (n' := 0) (w' := .empty) (f' := 0) (t' := 0) (by rw [Heap.get_alloc]; exact if_pos rfl)
       have hle : H1.next ≤ H'.next := nr.next
       have n2 := (n1.alloc 1 [.int .i64 0, .int .u64 0, .string .empty, .int .i64 0, .int .i64 0]).setT (t := H'.next) hle (by omega) (Nat.lt_succ_self H'.next) (tok 0 0 .empty (j' : Int) 0)
       have o2 : Own H1 (((H'.set H.next (cur a s.length c j')).alloc 1 [.int .i64 0, .int .u64 0, .string .empty, .int .i64 0, .int .i64 0]).set H'.next (tok 0 0 .empty (j' : Int) 0)) 5 v l.length (cellsK l) := (ow.setB hlt1 _).keep (Nat.le_succ _) fun q _ hq => by
         have hq' : q < H'.next := hq
         rw [Heap.get_set, if_neg (by omega), Heap.get_alloc]; exact if_neg (show q ≠ H'.next by omega)
       simp +decide only [zf12.o, ↓G.o, reduceIte, decide_eq_true hlt, e5, bd_t, je5 zrT, hst]
       have ht2 := Heap.get_self ((H'.set H.next (cur a s.length c j')).alloc 1 [.int .i64 0, .int .u64 0, .string .empty, .int .i64 0, .int .i64 0]) H'.next (tok 0 0 .empty (j' : Int) 0)
       have hm2 : H'.next + 1 = (((H'.set H.next (cur a s.length c j')).alloc 1 [.int .i64 0, .int .u64 0, .string .empty, .int .i64 0, .int .i64 0]).set H'.next (tok 0 0 .empty (j' : Int) 0)).next := rfl
       generalize ((H'.set H.next (cur a s.length c j')).alloc 1 [.int .i64 0, .int .u64 0, .string .empty, .int .i64 0, .int .i64 0]).set H'.next (tok 0 0 .empty (j' : Int) 0) = H2 at *
       generalize H'.next = t' at *
       have bt : (H.next = t') = False := eq_false (by omega)
       have tb : (t' = H.next) = False := eq_false (by omega)
       refine yr3 (i := j') ⟨n2.ctx x1, n2.here, ht2, by omega, by omega, fun y hy => ?_, hc⟩ hlt ?_
       · obtain ⟨cs, r, _, h2, _⟩ := w.row y hy
         have := t.lt h2
         omega
       · cases hlx : lexI s j' with
         | bad e =>
           intro y n hn
           rw [hlx] at p5
           have n3 := ((n2.set (cur a s.length c e)).setT (t := t') hle (by omega) (show t' < H2.next by omega) y).to hn
           simp +decide only [zf12.o, ↓G.o, reduceIte, jf2, Bool.not_false, e5, bt, Heap.get_set]
           exact ⟨_, (n3.ghost t1).trans g0, hb e n h (by rw [← p5]) (by omega)⟩
         | good tk =>
           intro n hn
           rw [hlx] at p5
           have n3 := ((n2.set (cur a s.length c tk.to_)).setT (t := t') hle (by omega) (show t' < H2.next by omega) (tok tk.kind tk.n tk.w (tk.from_ : Int) (tk.to_ : Int))).to hn
           have o3 := ((o2.setB hlt1 (cur a s.length c tk.to_)).setO (t := t') (y := tok 0 0 .empty (j' : Int) 0) (by rw [Heap.get_set, if_neg (by omega)]; exact ht2) (show (1 : Nat) ≠ 5 by decide) (tok tk.kind tk.n tk.w (tk.from_ : Int) (tk.to_ : Int))).to hn
           obtain ⟨v', H4, f1, f2, f3, f4⟩ := yi0 o3 n3 hlt1 (by omega) tk
           rw [Heap.next_to] at f1
           simp +decide only [Tk.cells] at f1
           simp +decide only [zf12.o, ↓G.o, reduceIte, jf2, e5, e6, bt, Heap.get_set, yi1, bs_t, jq6, f1]
           have lo := (jy0 hlt hlx).2
           have sk := jn6 s (s.length - j) j p1
           rw [hj] at sk
           refine hZ (s.length - tk.to_) _ _ _ (by omega) ⟨rfl, ?_, tk.to_, f, l ++ [tk], v', lo.2, rfl, by omega, f2, f3, ?_, by simp; omega, by rw [← p5]; simp⟩
           all_goals simp +decide only [↓G.o, reduceIte, e5]
     · rw [if_neg hlt] at p5
       simp +decide only [zf12.o, ↓G.o, reduceIte, decide_eq_false hlt, e6]
       have e1 : T.1 = l := by rw [← p5]; simp
       have g1 := (n1.ghost t1).trans g0
       have := hg h (by rw [← p5])
       rw [e1] at this
       have hle : H1.next ≤ H'.next := nr.next
       obtain ⟨_, ⟨rfl, o3⟩ | ⟨q, rfl, o3, o4, o5⟩⟩ := ow
       · exact ⟨_, g1, this.1 (by simpa using o3) H'.next (by omega)⟩
       · exact ⟨_, g1.add (q := q) (by rw [Heap.get_set, if_neg (by omega)]; exact o5), this.2 q H'.next (by omega) o4⟩
   all_goals simp +decide only [↓G.o, reduceIte]
 · refine run 1 rfl Tryz.func12 (pr := noPr) (by decide +kernel) (by kernel_rfl) ?_
   simp +decide only [zf12.o, ↓G.o, reduceIte, decide_eq_true (show (s.length : Int) > 1048576 by omega)]
   exact hl (by omega)
end Go.Am
namespace Go.Am
variable {H : Heap} {s : List UInt8}
set_option maxRecDepth 100000
def wbI (u : UInt8) : Bool := decide ((48 ≤ u.toNat ∧ u.toNat ≤ 57) ∨ (97 ≤ u.toNat ∧ u.toNat ≤ 122) ∨ (65 ≤ u.toNat ∧ u.toNat ≤ 90) ∨ u.toNat = 95)
theorem wb_w (u : UInt8) {k : KV} {kp : KP} (hk : k (.bool (wbI u)) H) : callW PP 54 #[.int .u8 (u.toNat : Int)] H k kp := by
 refine run 1 rfl Tryz.func54 (pr := noPr) (by decide +kernel) (by kernel_rfl) ?_
 have hb : ((u.toNat : Int) == 95) = decide (u.toNat = 95) := ja7 _ 95
 by_cases h1 : (u.toNat : Int) ≥ 48 <;> by_cases h2 : (u.toNat : Int) ≤ 57 <;> by_cases h3 : (u.toNat : Int) ≥ 97 <;> by_cases h4 : (u.toNat : Int) ≤ 122 <;> by_cases h5 : (u.toNat : Int) ≥ 65 <;> by_cases h6 : (u.toNat : Int) ≤ 90 <;> by_cases h7 : u.toNat = 95 <;> first
   | (exfalso; omega)
   | (simp +decide only [fx Tryz.f54.eq_1, ↓G.o, reduceIte, h1, h2, h3, h4, h5, h6, hb, h7]; rwa [wbI, decide_eq_true (by omega)] at hk)
   | (simp +decide only [fx Tryz.f54.eq_1, ↓G.o, reduceIte, h1, h2, h3, h4, h5, h6, hb, h7]; rwa [wbI, decide_eq_false (by omega)] at hk)
def wbB (u : UInt8) : Bool := (clsI u == 3) || (clsI u == 4)
theorem yr4 (t : Tabs H) (u : UInt8) {k : KV} {kp : KP} (hk : k (.bool (wbB u)) H) : callW PP 88 #[.int .u8 (u.toNat : Int)] H k kp := by
 refine run 1 rfl Tryz.func88 (pr := noPr) (by decide +kernel) (by kernel_rfl) ?_
 simp +decide only [zf88.o, ↓G.o, reduceIte]
 refine jn2 t _ ?_
 cases h3 : (clsI u == 3) with
 | true =>
   simp +decide only [zf88.o, ↓G.o, reduceIte, h3]
   rwa [wbB, h3, Bool.true_or] at hk
 | false =>
   simp +decide only [zf88.o, ↓G.o, reduceIte, h3]
   refine jn2 t _ ?_
   simp +decide only [zf88.o, ↓G.o, reduceIte]
   rwa [wbB, h3, Bool.false_or] at hk
def badR (r : Nat) : Bool := decide (127 < r) || !wbB (UInt8.ofNat r)
theorem c328 (H : Heap) (n : Int) : convertA PP 21 5 (.int .i32 n) H = some (.int .u8 (IntKind.u8.wrap n), H) := jk1 Tryz.underlying21 Tryz.underlying5 n H
theorem yi2 (t : Tabs H) (r : Nat) {k : KV} {kp : KP} (hk : k (.bool (badR r)) H) : callW PP 87 #[.int .i32 (r : Int)] H k kp := by
 refine run 1 rfl Tryz.func87 (pr := noPr) (by decide +kernel) (by kernel_rfl) ?_
 by_cases h : (r : Int) > 127
 · simp +decide only [zf87.o, ↓G.o, reduceIte, h]
   rwa [badR, decide_eq_true (by omega), Bool.true_or] at hk
 · have wr : IntKind.u8.wrap (r : Int) = ((UInt8.ofNat r).toNat : Int) := by
     simp [IntKind.wrap, IntKind.bits, IntKind.signed]
   simp +decide only [zf87.o, ↓G.o, reduceIte, h, c328, wr]
   refine yr4 t _ ?_
   simp +decide only [zf87.o, ↓G.o, reduceIte, jf2]
   rwa [badR, decide_eq_false (by omega), Bool.false_or] at hk
abbrev itH (H : Heap) (s : List UInt8) (j : Nat) : Heap := H.allocO (.stringIter ⟨⟨s⟩⟩ j)
theorem j6t (s : List UInt8) (H : Heap) : rangeA PP 9 (strV s) H = some (.pointer (some ⟨H.next, 0, none⟩), itH H s 0) := by simp only [rangeA, strV, Tryz.underlying9]
theorem j6u {j : Nat} (h : ¬ j < s.length) : nextA (.pointer (some ⟨H.next, 0, none⟩)) true (itH H s j) = some (.tuple #[.bool false], itH H s j) := by
 have e : (⟨⟨s⟩⟩ : ByteArray).size = s.length := rfl
 simp [nextA, Heap.get_allocO, e, h]
theorem j4a {j : Nat} (h : j < s.length) : nextA (.pointer (some ⟨H.next, 0, none⟩)) true (itH H s j) = some (.tuple #[.bool true, .int .i64 (j : Int), .int .i32 ((Utf8.decode ⟨⟨s⟩⟩ j).1 : Int)], itH H s (j + (Utf8.decode ⟨⟨s⟩⟩ j).2)) := by
 have e : (⟨⟨s⟩⟩ : ByteArray).size = s.length := rfl
 have q : ∀ o o' : Obj, (H.allocO o).set H.next ⟨[], true, 0, some o'⟩ = H.allocO o' := fun o o' => by
   simp only [Heap.set, Heap.allocO]; congr 1; funext k; split <;> simp_all
 simp [nextA, Heap.get_allocO, e, h, q]
theorem jr8 {pos : Nat} (hp : pos < s.length) (h : s[pos].toNat < 128) : Utf8.decode ⟨⟨s⟩⟩ pos = (s[pos].toNat, 1) := decode_ascii ⟨⟨s⟩⟩ pos hp h
theorem j0h {pos : Nat} (hp : pos < s.length) (h : ¬ s[pos].toNat < 128) : 127 < (Utf8.decode ⟨⟨s⟩⟩ pos).1 := by
 have hb : ((⟨⟨s⟩⟩ : ByteArray).get! (pos + 0)).toNat = s[pos].toNat := by
   have : (⟨⟨s⟩⟩ : ByteArray).get! (pos + 0) = s[pos] := by simp [ByteArray.get!, hp]
   rw [this]
 have re : 127 < Utf8.runeError := by decide
 unfold Utf8.decode
 simp only [hb]
 rw [if_neg (by omega)]
 repeat' split
 all_goals first | exact re | (rename_i h; simp only [Bool.and_eq_true, decide_eq_true_eq] at h; show 127 < _; omega) | (show 127 < _; omega)
theorem Tabs.allocO (h : Tabs H) (o : Obj) : Tabs (H.allocO o) := by
 have hn := h.next
 have ne : ∀ q, q < H.next → (H.allocO o).get q = H.get q := fun q hq => by rw [Heap.get_allocO, if_neg (by omega)]
 refine ⟨(ne 1 (by omega)).trans h.cls, (ne 2 (by omega)).trans h.asc, (ne 4 (by omega)).trans h.e4, (ne 5 (by omega)).trans h.e5, Nat.le_succ_of_le hn, fun q hq => ?_⟩
 have hq' : H.next + 1 ≤ q := hq
 rw [Heap.get_allocO, if_neg (by omega)]; exact h.fresh q (by omega)
theorem j9z : ∀ u : UInt8, wbB u = true → u.toNat < 128 := fun u h => by
 unfold wbB clsI at h
 by_cases c : 127 < u.toNat
 · rw [if_pos c] at h; cases h
 · omega
theorem yi3 (x y : Operand) (b : Bool) : binA PP .eql 4 x y (.bool b) (.bool true) = some (.bool b) := by cases b <;> kernel_rfl
theorem ext0 (x : Value) (l : List Value) : extractA (.tuple ⟨x :: l⟩) 0 = some x := id rfl
theorem ext1 (x y : Value) (l : List Value) : extractA (.tuple ⟨x :: y :: l⟩) 1 = some y := id rfl
theorem ext2 (x y z : Value) (l : List Value) : extractA (.tuple ⟨x :: y :: z :: l⟩) 2 = some z := id rfl
theorem yi4 (t : Tabs H) (s : List UInt8) {k : KV} {kp : KP} (hk : ∀ z : Int, decide (z ≥ 0) = !s.all wbB → k (.int .i64 z) (H.to (H.next + 1))) :
   callW PP 118 #[strV s, .func (.func 87) #[] #[], .bool true] H k kp := by
 refine ja4 (.refl _) (run 3 rfl Tryz.func118 (pr := noPr) (by decide +kernel) (by kernel_rfl) ?_)
 have gh : ∀ j, Ghost (itH H s j) (H.to (H.next + 1)) := fun j => ⟨rfl, fun q y e => ⟨y, by
   rw [Heap.get_allocO, if_neg (by have := t.lt e; omega)]; exact e, rfl, id⟩⟩
 simp +decide only [zf118.o, ↓G.o, reduceIte, j6t]
 refine ja6 (I := fun m E ds H' => ds = [] ∧ E 1 = .func (.func 87) #[] #[] ∧ E 2 = .bool true ∧ E 10 = .pointer (some ⟨H.next, 0, none⟩) ∧ ∃ j, j ≤ s.length ∧ m = s.length - j ∧ H' = itH H s j ∧ (s.drop j).all wbB = s.all wbB) (i := s.length) ?_ ⟨rfl, ?_, ?_, ?_, 0, Nat.zero_le _, rfl, rfl, rfl⟩
 · rintro Z m E _ _ ⟨rfl, e1, e2, e10, j, hj, rfl, rfl, ha⟩ hZ
   by_cases h : j < s.length
   · rw [List.drop_eq_getElem_cons h, List.all_cons] at ha
     simp +decide only [zf118.o, ↓G.o, reduceIte, e1, e10, j4a h, ext0, ext1, ext2]
     refine yi2 (t.allocO _) _ ?_
     by_cases hw : wbB s[j] = true
     · have hl := j9z _ hw
       have hb : badR s[j].toNat = false := by
         rw [badR, decide_eq_false (by omega), show UInt8.ofNat s[j].toNat = s[j] by simp, hw]; rfl
       rw [hw, Bool.true_and] at ha
       rw [jr8 h hl]
       simp +decide only [↓G.o, reduceIte, e2, hb, yi3]
       refine hZ (s.length - (j + 1)) _ _ _ (by omega) ⟨rfl, ?_, ?_, ?_, j + 1, h, rfl, rfl, ha⟩ <;> simp +decide only [↓G.o, reduceIte, e1, e2, e10]
     · have hw : wbB s[j] = false := by simpa using hw
       have hb : badR (Utf8.decode ⟨⟨s⟩⟩ j).1 = true := by
         unfold badR
         by_cases hl : s[j].toNat < 128
         · rw [jr8 h hl, show UInt8.ofNat s[j].toNat = s[j] by simp, hw]; simp
         · rw [decide_eq_true (j0h h hl)]; rfl
       rw [hw, Bool.false_and] at ha
       simp +decide only [zf118.o, ↓G.o, reduceIte, e2, hb, yi3]
       exact ⟨_, gh _, hk _ (by rw [← ha]; exact decide_eq_true (by omega))⟩
   · simp +decide only [zf118.o, ↓G.o, reduceIte, e10, j6u h, ext0]
     rw [List.drop_eq_nil_of_le (by omega)] at ha
     exact ⟨_, gh _, hk _ (by rw [← ha]; rfl)⟩
 all_goals simp +decide only [↓G.o, reduceIte]
theorem yr5 (t : Tabs H) (s : List UInt8) {k : KV} {kp : KP} (hk : k (.bool !s.all wbB) (H.to (H.next + 1))) : callW PP 86 #[strV s, .func (.func 87) #[] #[]] H k kp := by
 refine run 2 rfl Tryz.func86 (pr := noPr) (by decide +kernel) (by kernel_rfl) ?_
 simp +decide only [fx Tryz.f86.eq_1, ↓G.o, reduceIte]
 have A : ∀ {k : KV} {kp : KP}, (∀ z : Int, decide (z ≥ 0) = !s.all wbB → k (.int .i64 z) (H.to (H.next + 1))) → callW PP 108 #[strV s, .func (.func 87) #[] #[]] H k kp := fun {k kp} hk => by
   refine run 2 rfl Tryz.func108 (pr := noPr) (by decide +kernel) (by kernel_rfl) ?_
   simp +decide only [fx Tryz.f108.eq_1, ↓G.o, reduceIte]
   refine yi4 t s fun z hz => ?_
   simp +decide only [fx Tryz.f108.eq_1, ↓G.o, reduceIte]
   exact hk z hz
 refine A fun z hz => ?_
 simp +decide only [fx Tryz.f86.eq_1, ↓G.o, reduceIte, hz]
 exact hk
def legalI (w : List UInt8) : Bool := decide (1 ≤ w.length) && decide (w.length ≤ 32) && decide (clsI (w.headD 0) = 4) && decide (resI w = 0) && w.all wbB
theorem j4b {i : Nat} (h : i < s.length) : indexA PP 9 (strV s) (.int .i64 (i : Int)) = some (.int .u8 (s[i].toNat : Int)) := by
 have e : (⟨⟨s⟩⟩ : ByteArray)[i]? = some s[i] := by
   rw [getElem?_pos _ i (show i < (⟨⟨s⟩⟩ : ByteArray).size from h)]; rfl
 simp [indexA, Tryz.underlying9, strV, byteAt, e]
theorem j90 (t : Tabs H) (w : List UInt8) {k : KV} {kp : KP} (hk : ∀ n, H.next ≤ n → k (.bool (legalI w)) (H.to n)) : callW PP 59 #[strV w] H k kp := by
 refine run 1 rfl Tryz.func59 (pr := noPr) (by decide +kernel) (by kernel_rfl) ?_
 have hk0 := hk H.next (Nat.le_refl _)
 rw [Heap.to_next] at hk0
 have ln : ∀ b, (strV w = b) → builtinA PP .len #[9] #[b] H = some (.int .i64 (w.length : Int), H) := fun b e => by subst e; exact jn1 Tryz.underlying9 _ H
 have ln := ln _ rfl
 by_cases h1 : (w.length : Int) < 1
 · simp +decide only [zf59.o, ↓G.o, reduceIte, ln, h1]
   rwa [legalI, decide_eq_false (show ¬ 1 ≤ w.length by omega)] at hk0
 by_cases h2 : (w.length : Int) > 32
 · simp +decide only [zf59.o, ↓G.o, reduceIte, ln, h1, h2]
   rwa [legalI, decide_eq_false (show ¬ w.length ≤ 32 by omega), Bool.and_false] at hk0
 have h0 : 0 < w.length := by omega
 have hd : w.headD 0 = w[0] := by cases w with | nil => cases h0 | cons u r => rfl
 have ix := j4b h0
 have c1 : decide (1 ≤ w.length) = true := decide_eq_true (by omega)
 have c2 : decide (w.length ≤ 32) = true := decide_eq_true (by omega)
 simp only [legalI, c1, c2, hd, Bool.and_self, Bool.true_and] at hk hk0
 simp +decide only [zf59.o, ↓G.o, reduceIte, ln, h1, h2, show indexA PP 9 (strV w) (.int .i64 0) = _ from ix]
 refine jn2 t _ ?_
 by_cases h4 : clsI w[0] = 4
 · simp only [h4, decide_true, Bool.true_and] at hk
   simp +decide only [zf59.o, ↓G.o, reduceIte, show (clsI w[0] != 4) = false by rw [h4]; rfl]
   refine j9t t _ ?_
   have t1 := t.to (Nat.le_succ H.next)
   by_cases hr : resI w = 0
   · simp only [hr, decide_true, Bool.true_and] at hk
     simp +decide only [zf59.o, ↓G.o, reduceIte, show (resI w != 0) = false by rw [hr]; rfl]
     refine yr5 t1 w ?_
     simp +decide only [zf59.o, ↓G.o, reduceIte, jf2, Bool.not_not]
     exact hk _ (by omega)
   · simp +decide only [zf59.o, ↓G.o, reduceIte, show (resI w != 0) = true by simpa using hr]
     have := hk (H.next + 1) (by omega)
     rwa [decide_eq_false hr, Bool.false_and] at this
 · simp +decide only [zf59.o, ↓G.o, reduceIte, show (clsI w[0] != 4) = true by simpa using h4]
   rwa [decide_eq_false h4, Bool.false_and, Bool.false_and] at hk0
end Go.Am
namespace Go.Am
set_option maxRecDepth 100000
structure Fle (H H' : Heap) : Prop where
 next : H.next ≤ H'.next
 keep : ∀ q cells es, H.get q = some ⟨cells, false, es, none⟩ → H'.get q = some ⟨cells, false, es, none⟩
 gap : ∀ q, q < H.next → H.get q = none → H'.get q = none
 fresh : ∀ q, H'.next ≤ q → H'.get q = none
structure Hle (H H' : Heap) : Prop where
 next : H.next ≤ H'.next
 keep : ∀ q y, H.get q = some y → H'.get q = some y
 fresh : ∀ q, H'.next ≤ q → H'.get q = none
abbrev Fresh (H : Heap) : Prop := ∀ q, H.next ≤ q → H.get q = none
theorem Fresh.lt {H : Heap} (h : Fresh H) {q : Nat} {x : Blk} (e : H.get q = some x) : q < H.next := Nat.lt_of_not_le fun g => by rw [h q g] at e; cases e
theorem Fle.refl {H : Heap} (h : Fresh H) : Fle H H := ⟨Nat.le_refl _, fun _ _ _ e => e, fun _ _ e => e, h⟩
theorem Fle.trans {H1 H2 H3 : Heap} (h : Fle H1 H2) (k : Fle H2 H3) : Fle H1 H3 := ⟨Nat.le_trans h.next k.next, fun q c e x => k.keep q c e (h.keep q c e x), fun q hq e => k.gap q (Nat.lt_of_lt_of_le hq h.next) (h.gap q hq e), k.fresh⟩
theorem Fle.set {H : Heap} (h : Fresh H) {b es : Nat} {x : List Value} (e : H.get b = some ⟨x, true, es, none⟩) (y : Blk) : Fle H (H.set b y) := ⟨Nat.le_refl _, fun q c es' e' => by
 have : q ≠ b := by rintro rfl; rw [e] at e'; cases e'
 rw [Heap.get_set, if_neg this]; exact e', fun q _ e' => by
 have : q ≠ b := by rintro rfl; rw [e] at e'; cases e'
 rw [Heap.get_set, if_neg this]; exact e', fun q hq => by
 have hq' : H.next ≤ q := hq
 have : q ≠ b := by rintro rfl; rw [h q hq'] at e; cases e
 rw [Heap.get_set, if_neg this]; exact h q hq'⟩
theorem Hle.refl {H : Heap} (h : Fresh H) : Hle H H := ⟨Nat.le_refl _, fun _ _ e => e, h⟩
theorem Hle.trans {H1 H2 H3 : Heap} (h : Hle H1 H2) (k : Hle H2 H3) : Hle H1 H3 := ⟨Nat.le_trans h.next k.next, fun q y e => k.keep q y (h.keep q y e), k.fresh⟩
theorem Hle.to {H : Heap} (h : Fresh H) {n : Nat} (hn : H.next ≤ n) : Hle H (H.to n) := ⟨hn, fun _ _ e => e, fun q hq => h q (Nat.le_trans hn hq)⟩
theorem Fle.to {H : Heap} (h : Fresh H) {n : Nat} (hn : H.next ≤ n) : Fle H (H.to n) := ⟨hn, fun _ _ _ e => e, fun _ _ e => e, fun q hq => h q (Nat.le_trans hn hq)⟩
theorem Fresh.set {H : Heap} (h : Fresh H) {b : Nat} {x : Blk} (e : H.get b = some x) (y : Blk) : Fresh (H.set b y) := fun q hq => by
 have hq' : H.next ≤ q := hq
 have : q ≠ b := by rintro rfl; rw [h q hq'] at e; cases e
 rw [Heap.get_set, if_neg this]; exact h q hq'
theorem Fresh.to {H : Heap} (h : Fresh H) {n : Nat} (hn : H.next ≤ n) : Fresh (H.to n) := fun q hq => h q (Nat.le_trans hn hq)
theorem Tabs.fle {H H' : Heap} (t : Tabs H) (f : Fle H H') : Tabs H' := ⟨f.keep _ _ _ t.cls, f.keep _ _ _ t.asc, f.keep _ _ _ t.e4, f.keep _ _ _ t.e5, Nat.le_trans t.next f.next, f.fresh⟩
theorem Tabs.hle {H H' : Heap} (t : Tabs H) (f : Hle H H') : Tabs H' := ⟨f.keep _ _ t.cls, f.keep _ _ t.asc, f.keep _ _ t.e4, f.keep _ _ t.e5, Nat.le_trans t.next f.next, f.fresh⟩
structure Fr (H0 H : Heap) (L : List (Nat × Blk)) : Prop where
 fle : Fle H0 H
 keys : ∀ q y, L.lookup q = some y → H0.next ≤ q ∧ q < H.next ∧ H.get q = none
section
variable {H0 H H' : Heap} {L : List (Nat × Blk)}
theorem Fr.start (h : Fresh H0) : Fr H0 H0 [] := ⟨.refl h, fun _ _ e => by cases e⟩
theorem Fr.beside (f : Fr H0 H L) : Beside H L := fun q y e => ⟨(f.keys q y e).2.2, (f.keys q y e).2.1⟩
theorem Fr.fresh (f : Fr H0 H L) : Fresh H := f.fle.fresh
theorem Fr.call (f : Fr H0 H L) (g : Fle H H') : Fr H0 H' L := ⟨f.fle.trans g, fun q y e => let ⟨a, b, c⟩ := f.keys q y e; ⟨a, Nat.lt_of_lt_of_le b g.next, g.gap q b c⟩⟩
theorem Fr.new (f : Fr H0 H L) (y : Blk) : Fr H0 (H.to (H.next + 1)) ((H.next, y) :: L) := ⟨f.fle.trans (.to f.fresh (Nat.le_succ _)), fun q z e => by
 rw [List.lookup] at e
 split at e
 · rename_i h
   have : q = H.next := by simpa using h
   subst this
   exact ⟨f.fle.next, Nat.lt_succ_self _, f.fresh _ (Nat.le_refl _)⟩
 · obtain ⟨a, b, c⟩ := f.keys q z e
   exact ⟨a, Nat.lt_succ_of_lt b, c⟩⟩
theorem Fr.up (f : Fr H0 H L) (q : Nat) (x : Blk) : Fr H0 H (upL q x L) := ⟨f.fle, fun k y e => by
 rw [ja3] at e
 cases h : L.lookup k with
 | none => rw [h] at e; split at e <;> cases e
 | some z => exact f.keys k z h⟩
theorem Fr.hle (f : Fr H0 H L) : Hle H (H.plus L) := by
 refine ⟨Nat.le_refl _, fun q y e => ?_, fun q hq => ?_⟩
 · rw [ja2]
   cases h : L.lookup q with
   | none => exact e
   | some z => rw [(f.keys q z h).2.2] at e; cases e
 · have hq' : H.next ≤ q := hq
   rw [ja2]
   cases h : L.lookup q with
   | none => exact f.fresh q hq'
   | some z => have := (f.keys q z h).2.1; omega
theorem Fr.out (f : Fr H0 H L) : Fle H0 (H.plus L) := by
 refine ⟨f.fle.next, fun q c e h => f.hle.keep _ _ (f.fle.keep q c e h), fun q hq e => ?_, f.hle.fresh⟩
 rw [ja2]
 cases h : L.lookup q with
 | none => exact f.fle.gap q hq e
 | some z => have := (f.keys q z h).1; omega
end
inductive DV where
 | p (v : Value)
 | r (es : Nat) (l : List DV)
inductive Vd (H : Heap) : DV → Value → Prop where
 | p (v : Value) : Vd H (.p v) v
 | z (es : Nat) : Vd H (.r es []) (.slice none 0 0)
 | r {es q o n c : Nat} {l : List DV} {cells : List Value} (hq : H.get q = some ⟨cells, false, es, none⟩) (hn : l ≠ []) (hl : l.length = n * es) (hc : o + l.length ≤ cells.length) (he : ∀ i (h1 : i < l.length) (h2 : o + i < cells.length), Vd H l[i] cells[o + i]) : Vd H (.r es l) (.slice (some ⟨q, o, none⟩) n c)
def Vds (H : Heap) (l : List DV) (cells : List Value) : Prop := l.length = cells.length ∧ ∀ i (h1 : i < l.length) (h2 : i < cells.length), Vd H l[i] cells[i]
theorem Vd.mono {H H' : Heap} (k : ∀ q cells es, H.get q = some ⟨cells, false, es, none⟩ → H'.get q = some ⟨cells, false, es, none⟩) {d : DV} {v : Value} (h : Vd H d v) : Vd H' d v := by
 induction h with
 | p v => exact .p v
 | z es => exact .z es
 | r hq hn hl hc _ ih => exact .r (k _ _ _ hq) hn hl hc ih
theorem Vds.mono {H H' : Heap} (k : ∀ q cells es, H.get q = some ⟨cells, false, es, none⟩ → H'.get q = some ⟨cells, false, es, none⟩) {l : List DV} {cells : List Value} (h : Vds H l cells) : Vds H' l cells := ⟨h.1, fun i a b => (h.2 i a b).mono k⟩
theorem Hle.frz {H H' : Heap} (h : Hle H H') : ∀ q cells es, H.get q = some ⟨cells, false, es, none⟩ → H'.get q = some ⟨cells, false, es, none⟩ := fun q c e x => h.keep q _ x
theorem Vds.nil (H : Heap) : Vds H [] [] := ⟨rfl, fun _ h => by cases h⟩
theorem Vds.cons {H : Heap} {d : DV} {v : Value} {l : List DV} {cells : List Value} (h : Vd H d v) (t : Vds H l cells) : Vds H (d :: l) (v :: cells) := ⟨congrArg (· + 1) t.1, fun i h1 h2 => by
 cases i with
 | zero => exact h
 | succ i => exact t.2 i (Nat.lt_of_succ_lt_succ h1) (Nat.lt_of_succ_lt_succ h2)⟩
theorem Vds.inv {H : Heap} {d : DV} {v : Value} {l : List DV} {cells : List Value} (h : Vds H (d :: l) (v :: cells)) : Vd H d v ∧ Vds H l cells := ⟨h.2 0 (Nat.succ_pos _) (Nat.succ_pos _), Nat.succ.inj h.1, fun i h1 h2 => h.2 (i + 1) (Nat.succ_lt_succ h1) (Nat.succ_lt_succ h2)⟩
theorem Vds.cons_inv {H : Heap} {d : DV} {l : List DV} {cells : List Value} (h : Vds H (d :: l) cells) : ∃ v r, cells = v :: r ∧ Vd H d v ∧ Vds H l r := by
 cases cells with
 | nil => have := h.1; cases this
 | cons v r => exact ⟨v, r, rfl, h.inv⟩
theorem Vds.nil_inv {H : Heap} {cells : List Value} (h : Vds H [] cells) : cells = [] := List.length_eq_zero_iff.1 h.1.symm
theorem Vds.append {H : Heap} {l l' : List DV} {cells cells' : List Value} (h : Vds H l cells) (t : Vds H l' cells') : Vds H (l ++ l') (cells ++ cells') := by
 refine ⟨by simp [h.1, t.1], fun i h1 h2 => ?_⟩
 by_cases c : i < l.length
 · have c' : i < cells.length := h.1 ▸ c
   simp only [List.getElem_append_left c, List.getElem_append_left c']; exact h.2 i c c'
 · have c' : ¬ i < cells.length := h.1 ▸ c
   have e := h.1
   simp only [List.length_append] at h1 h2
   rw [List.getElem_append_right (by omega), List.getElem_append_right (by omega)]
   simp only [e]
   exact t.2 (i - cells.length) (by omega) (by omega)
theorem Vds.drop {H : Heap} {l : List DV} {cells : List Value} (h : Vds H l cells) (n : Nat) : Vds H (l.drop n) (cells.drop n) := ⟨by simp [h.1], fun i h1 h2 => by
 simp only [List.length_drop] at h1 h2
 simp only [List.getElem_drop]; exact h.2 (n + i) (by omega) (by omega)⟩
theorem Vds.take {H : Heap} {l : List DV} {cells : List Value} (h : Vds H l cells) (n : Nat) : Vds H (l.take n) (cells.take n) := ⟨by simp [h.1], fun i h1 h2 => by
 simp only [List.length_take] at h1 h2
 simp only [List.getElem_take]; exact h.2 i (by omega) (by omega)⟩
theorem Vd.p_inv {H : Heap} {u v : Value} (h : Vd H (.p u) v) : v = u := by cases h; rfl
theorem Vd.row {H : Heap} {es q o n c : Nat} {l : List DV} {cells : List Value} (hq : H.get q = some ⟨cells, false, es, none⟩) (hn : l ≠ []) (hl : l.length = n * es) (hc : o + l.length ≤ cells.length) (hd : Vds H l ((cells.drop o).take l.length)) : Vd H (.r es l) (.slice (some ⟨q, o, none⟩) n c) :=
 .r hq hn hl hc fun i a b => by
   have := hd.2 i a (by simp only [List.length_take, List.length_drop]; omega)
   simpa using this
def blkOf : Value → Option Nat
 | .slice (some y) _ _ => some y.block
 | _ => none
structure Ch (s : Option Nat) (H H' : Heap) : Prop where
 next : H.next ≤ H'.next
 keep : ∀ q y, H.get q = some y → s ≠ some q → H'.get q = some y
 gap : ∀ q, q < H.next → H.get q = none → H'.get q = none
 fresh : Fresh H'
theorem Ch.fle {s : Option Nat} {H H' : Heap} (c : Ch s H H') (h : ∀ q, s = some q → ∃ x e, H.get q = some ⟨x, true, e, none⟩) : Fle H H' := ⟨c.next, fun q cs e x => c.keep q _ x (fun hs => by
 obtain ⟨y, e', hy⟩ := h q hs
 rw [hy] at x; cases x), c.gap, c.fresh⟩
theorem Ch.set {H : Heap} (h : Fresh H) {b : Nat} {x : Blk} (e : H.get b = some x) (y : Blk) : Ch (some b) H (H.set b y) := ⟨Nat.le_refl _, fun q z e' hs => by
 rw [Heap.get_set, if_neg fun k => hs (by rw [k])]; exact e', fun q hq e' => by
 have : q ≠ b := fun k => by rw [k, e] at e'; cases e'
 rw [Heap.get_set, if_neg this]; exact e', h.set e y⟩
theorem Ch.drop {H : Heap} (h : Fresh H) (b : Nat) : Ch (some b) H (H.drop b) := ⟨Nat.le_refl _, fun q z e' hs => by
 rw [Heap.get_drop, if_neg fun k => hs (by rw [k])]; exact e', fun q hq e' => by
 rw [Heap.get_drop]; split
 · rfl
 · exact e', fun q hq => by
 rw [Heap.get_drop]; split
 · rfl
 · exact h q hq⟩
theorem Ch.alloc {H : Heap} (h : Fresh H) (es : Nat) (cells : List Value) : Ch none H (H.alloc es cells) := ⟨Nat.le_succ _, fun q z e _ => by
 rw [Heap.get_alloc, if_neg (Nat.ne_of_lt (h.lt e))]; exact e, fun q hq e => by
 rw [Heap.get_alloc, if_neg (Nat.ne_of_lt hq)]; exact e, fun q hq => by
 have hq' : H.next + 1 ≤ q := hq
 rw [Heap.get_alloc, if_neg (by omega)]; exact h q (by omega)⟩
theorem Ch.to {H : Heap} (h : Fresh H) {n : Nat} (hn : H.next ≤ n) : Ch none H (H.to n) := ⟨hn, fun _ _ e _ => e, fun _ _ e => e, h.to hn⟩
theorem Ch.trans {s t : Option Nat} {H1 H2 H3 : Heap} (f : Fresh H1) (c : Ch s H1 H2) (d : Ch t H2 H3) (h : ∀ q, t = some q → s = some q ∨ H1.next ≤ q) : Ch s H1 H3 := ⟨Nat.le_trans c.next d.next, fun q y e hs => by
 refine d.keep q y (c.keep q y e hs) fun ht => ?_
 rcases h q ht with k | k
 · exact hs k
 · have := f.lt e; omega, fun q hq e => d.gap q (Nat.lt_of_lt_of_le hq c.next) (c.gap q hq e), d.fresh⟩
def Rw (H : Heap) (v : Value) (es n : Nat) (cells : List Value) : Prop :=
 (v = .slice none 0 0 ∧ n = 0 ∧ cells = []) ∨ ∃ q m cs, v = .slice (some ⟨q, 0, none⟩) n m ∧ H.get q = some ⟨cs, true, es, none⟩ ∧ cs.length = m * es ∧ n ≤ m ∧ cells = cs.take (n * es)
theorem Rw.nil (H : Heap) (es : Nat) : Rw H (.slice none 0 0) es 0 [] := .inl ⟨rfl, rfl, rfl⟩
theorem Rw.sc {H : Heap} {v : Value} {es n : Nat} {cells : List Value} (r : Rw H v es n cells) : (∃ a m, v = .slice a n m) ∧ sc v = true := by
 rcases r with ⟨rfl, rfl, _⟩ | ⟨q, m, cs, rfl, _⟩ <;> exact ⟨⟨_, _, rfl⟩, rfl⟩
theorem Rw.ch {H H' : Heap} {v : Value} {es n : Nat} {cells : List Value} (r : Rw H v es n cells) {s : Option Nat} (c : Ch s H H') (h : ∀ q, s = some q → blkOf v ≠ some q) : Rw H' v es n cells := by
 rcases r with r | ⟨q, m, cs, rfl, h1, h2⟩
 · exact .inl r
 · exact .inr ⟨q, m, cs, rfl, c.keep _ _ h1 fun e => h q e rfl, h2⟩
theorem Rw.blk {H : Heap} {v : Value} {es n : Nat} {cells : List Value} (r : Rw H v es n cells) : ∀ q, blkOf v = some q → ∃ x, H.get q = some ⟨x, true, es, none⟩ := by
 rcases r with ⟨rfl, _⟩ | ⟨q, m, cs, rfl, h1, _⟩
 · intro q e; cases e
 · intro q' e; cases e; exact ⟨cs, h1⟩
theorem Rw.zero {H : Heap} {v : Value} {es n : Nat} {cells : List Value} (r : Rw H v es n cells) {a : Option Addr} {m : Nat} (h : v = .slice a n m) : Rw H (.slice a 0 m) es 0 [] := by
 rcases r with ⟨rfl, rfl, _⟩ | ⟨q, m', cs, rfl, h1, h2, _⟩
 · cases h; exact Rw.nil H es
 · cases h; exact .inr ⟨q, _, cs, rfl, h1, h2, Nat.zero_le _, by simp⟩
theorem Rw.app {H : Heap} {v : Value} {es n : Nat} {cells : List Value} (r : Rw H v es n cells) (f : Fresh H) {bytes : Nat} {news : List Value} (hl : news.length = es) (hc : news.all Value.oneCell' = true) (hm : (n + 1) * bytes ≤ most) (hm' : n + 1 ≤ most) :
   ∃ v' H', app H es bytes v 1 news = some (v', H') ∧ Rw H' v' es (n + 1) (cells ++ news) ∧ Ch (blkOf v) H H' ∧ (blkOf v' = blkOf v ∨ blkOf v' = some H.next) ∧ (blkOf v').isSome = true := by
 rcases r with ⟨rfl, rfl, rfl⟩ | ⟨q, m, cs, rfl, h1, h2, h3, rfl⟩
 · refine ⟨_, H.alloc es news, by simp only [Go.Am.app, mkRow]; rw [if_neg (by omega), if_pos ⟨by omega, by omega⟩], .inr ⟨H.next, 1, news, rfl, by rw [Heap.get_alloc, if_pos rfl], by omega, Nat.le_refl _, by rw [List.take_of_length_le (by omega)]; rfl⟩, ?_, .inr rfl, rfl⟩
   exact Ch.alloc f es news
 · have e : look H ⟨q, 0, none⟩ = some ⟨cs, true, es, none⟩ := by simp [look, h1]
   have hn : n * es ≤ m * es := Nat.mul_le_mul_right _ h3
   by_cases h : n + 1 ≤ m
   · have hn1 : (n + 1) * es ≤ m * es := Nat.mul_le_mul_right _ h
     rw [Nat.add_mul, Nat.one_mul] at hn1
     have ol : (over cs (n * es) news).length = cs.length := over_length (by omega)
     refine ⟨.slice (some ⟨q, 0, none⟩) (n + 1) m, H.set q ⟨over cs (n * es) news, true, es, none⟩, ?_, .inr ⟨q, m, _, rfl, by rw [Heap.get_set, if_pos rfl], by rw [ol, h2], h, ?_⟩, Ch.set f h1 _, .inl rfl, rfl⟩
     · simp only [Go.Am.app, e, Nat.zero_add]
       rw [if_pos ⟨trivial, trivial, by omega, hc, hm, hm'⟩, if_pos h, if_pos (by omega)]
     · rw [over, Nat.add_mul, Nat.one_mul, List.take_left' (by simp; omega)]
   · have hm2 : n = m := by omega
     subst hm2
     refine ⟨.slice (some ⟨H.next, 0, none⟩) (n + 1) (n + 1), (H.drop q).alloc es (cs ++ news), ?_, .inr ⟨H.next, n + 1, cs ++ news, rfl, by rw [Heap.get_alloc]; exact if_pos rfl, by simp [h2, hl, Nat.add_mul], Nat.le_refl _, ?_⟩, (Ch.drop f q).trans f (Ch.alloc (Ch.drop f q).fresh _ _) (fun _ e => by cases e), .inr rfl, rfl⟩
     · simp only [Go.Am.app, e, Nat.zero_add]
       rw [if_pos ⟨trivial, trivial, by omega, hc, hm, hm'⟩, if_neg h, mkRow, List.drop_zero, List.take_of_length_le (by omega)]
       rfl
     · rw [List.take_of_length_le (by omega), List.take_of_length_le (by simp [h2, hl, Nat.add_mul])]
structure Rf where
 word : ByteArray
 at_ : Nat
 index : List Nat
structure Nd where
 op : Int
 n : Int
 s : ByteArray
 kids : List Nat
 at_ : Nat
structure It where
 kind : Int
 pos : Nat
 name : Rf
 from_ : Rf
 to_ : Rf
 over_ : Rf
 params : List Rf
 e : List Nat
 flags : Int
 how : Int
 text : ByteArray
 kids : List Nat
 els : List Nat
structure PS where
 at_ : Nat
 to_ : Nat
 k : Tk
 opened : Nat
 its : List It
 nds : List Nd
def iD (i : Nat) : DV := .p (.int .i64 (i : Int))
def rowD (l : List Nat) : DV := .r 1 (l.map iD)
def Rf.dv (f : Rf) : List DV := [.p (.string f.word), iD f.at_, rowD f.index]
def Nd.dv (x : Nd) : List DV := [.p (.int .i64 x.op), .p (.int .u64 x.n), .p (.string x.s), rowD x.kids, iD x.at_]
def It.dv (x : It) : List DV := [.p (.int .i64 x.kind), iD x.pos] ++ (x.name.dv ++ (x.from_.dv ++ (x.to_.dv ++ (x.over_.dv ++ [.r 3 (x.params.flatMap Rf.dv), rowD x.e, .p (.int .i64 x.flags), .p (.int .i64 x.how), .p (.string x.text), rowD x.kids, rowD x.els]))))
def OwnD (H : Heap) (v : Value) (es n : Nat) (l : List DV) : Prop := ∃ cells, Rw H v es n cells ∧ Vds H l cells ∧ (l = [] → v = .slice none 0 0)
theorem OwnD.ch {H H' : Heap} {v : Value} {es n : Nat} {l : List DV} (o : OwnD H v es n l) {s : Option Nat} (c : Ch s H H') (h : ∀ q, s = some q → blkOf v ≠ some q ∧ ∃ x e, H.get q = some ⟨x, true, e, none⟩) : OwnD H' v es n l :=
 let ⟨cells, o1, o2, o3⟩ := o
 ⟨cells, o1.ch c fun q e => (h q e).1, o2.mono (c.fle fun q e => (h q e).2).keep, o3⟩
theorem OwnD.chE {H H' : Heap} {v : Value} {es n e : Nat} {l : List DV} (o : OwnD H v es n l) {s : Option Nat} (c : Ch s H H') (he : es ≠ e) (h : ∀ q, s = some q → ∃ y, H.get q = some ⟨y, true, e, none⟩) : OwnD H' v es n l := by
 obtain ⟨cells, o1, o2, o3⟩ := o
 refine OwnD.ch ⟨cells, o1, o2, o3⟩ c fun q hq => ⟨fun hb => ?_, let ⟨y, hy⟩ := h q hq; ⟨y, e, hy⟩⟩
 obtain ⟨y, hy⟩ := h q hq
 obtain ⟨y', hy'⟩ := o1.blk q hb
 rw [hy] at hy'; cases hy'; exact he rfl
structure Cx where
 a : Option Addr
 c : Nat
 s : List UInt8
 b : Nat
structure Tc where
 pos : Value
 word : Value
 wat : Value
 idx : Value
 top : Value
abbrev rdB (z : Cx) (T : Tc) (p : PS) (f t bad : Int) (wv : Value) (nm nu : Bool) (iv nv : Value) : Blk :=
 ⟨[.slice z.a z.s.length z.c, .int .i64 (p.at_ : Int), .int .i64 (p.to_ : Int), .int .i64 p.k.kind, .int .u64 p.k.n, .string p.k.w, .int .i64 f, .int .i64 t, .int .i64 bad, wv, .bool nm, .bool nu, .int .i64 (p.opened : Int), T.pos, T.word, T.wat, T.idx, iv, nv, T.top], true, 1, none⟩
structure Base (z : Cx) (H : Heap) : Prop where
 tabs : Tabs H
 row : Brow H z.a z.s
 frz : ∀ y, z.a = some y → ∃ cs, H.get y.block = some ⟨cs, false, 1, none⟩
 cap : z.s.length ≤ z.c
 short : z.s.length ≤ 1048576
theorem Base.fle {z : Cx} {H H' : Heap} (x : Base z H) (f : Fle H H') : Base z H' := ⟨x.tabs.fle f, x.row.keep fun y hy => by
 obtain ⟨cs, h⟩ := x.frz y hy
 rw [h, f.keep _ _ _ h], fun y hy => let ⟨cs, h⟩ := x.frz y hy; ⟨cs, f.keep _ _ _ h⟩, x.cap, x.short⟩
def ints (l : List Int) : List Value := l.map fun i => .int .i64 i
def Want (H : Heap) (b : Nat) (v : Value) (w : Nat) : Prop := blkOf v ≠ some b ∧ ∃ l : List Int, l.length ≤ w ∧ Rw H v 1 l.length (ints l)
def Sz (s : List UInt8) (p : PS) : Prop := p.its.length ≤ p.to_ ∧ p.nds.length ≤ p.to_ ∧ p.opened ≤ 32 ∧ p.at_ ≤ p.to_ ∧ p.to_ ≤ s.length
structure Rx (z : Cx) (H : Heap) (p : PS) (w : Nat) (wv iv nv : Value) : Prop where
 want : Want H z.b wv w
 its : OwnD H iv 21 p.its.length (p.its.flatMap It.dv)
 nds : OwnD H nv 5 p.nds.length (p.nds.flatMap Nd.dv)
 sz : Sz z.s p
 tok : p.k.kind ≠ 0 → p.at_ < p.to_
structure Rd (z : Cx) (T : Tc) (H : Heap) (p : PS) (w : Nat) : Prop where
 base : Base z H
 low : 12 ≤ z.b
 ex : ∃ f t bad wv nm nu iv nv, H.get z.b = some (rdB z T p f t bad wv nm nu iv nv) ∧ Rx z H p w wv iv nv
section
variable {z : Cx} {T : Tc} {H H' : Heap} {p : PS} {w : Nat}
theorem Rd.fresh (x : Rd z T H p w) : Fresh H := x.base.tabs.fresh
theorem Rx.ch {wv iv nv : Value} (x : Rx z H p w wv iv nv) {s : Option Nat} (c : Ch s H H') (h : ∀ q, s = some q → blkOf wv ≠ some q ∧ ∃ y, H.get q = some ⟨y, true, 1, none⟩) : Rx z H' p w wv iv nv := by
 obtain ⟨⟨w1, l, w2, w3⟩, h1, h2, h3, h4⟩ := x
 exact ⟨⟨w1, l, w2, w3.ch c fun q e => (h q e).1⟩, h1.chE c (by decide) fun q e => (h q e).2, h2.chE c (by decide) fun q e => (h q e).2, h3, h4⟩
theorem Rx.ask {wv iv nv v : Value} (x : Rx z H p w wv iv nv) (c : Ch (blkOf wv) H H') {w' : Nat} (h : Want H' z.b v w') : Rx z H' p w' v iv nv := by
 obtain ⟨⟨_, l, _, w3⟩, h1, h2, h3, h4⟩ := x
 exact ⟨h, h1.chE c (by decide) w3.blk, h2.chE c (by decide) w3.blk, h3, h4⟩
theorem Rd.set (x : Base z H) (l : 12 ≤ z.b) {y : Blk} {p' : PS} {f t bad : Int} {wv iv nv : Value} {nm nu : Bool} {cs : List Value} (hb : H.get z.b = some ⟨cs, true, 1, none⟩) (r : Rx z H p' w wv iv nv) (hy : y = rdB z T p' f t bad wv nm nu iv nv) : Rd z T (H.set z.b y) p' w := by
 subst hy
 exact ⟨x.fle (Fle.set x.tabs.fresh hb _), l, f, t, bad, wv, nm, nu, iv, nv, Heap.get_self _ _ _, r.ch (Ch.set x.tabs.fresh hb _) fun q e => by cases e; exact ⟨r.want.1, _, hb⟩⟩
theorem Rd.ch (x : Rd z T H p w) (c : Ch none H H') : Rd z T H' p w := by
 obtain ⟨h1, h2, f, t, bad, wv, nm, nu, iv, nv, h3, h4⟩ := x
 exact ⟨h1.fle (c.fle fun q e => by cases e), h2, f, t, bad, wv, nm, nu, iv, nv, c.keep _ _ h3 (by simp), h4.ch c fun q e => by cases e⟩
theorem Rd.to (x : Rd z T H p w) {n : Nat} (hn : H.next ≤ n) : Rd z T (H.to n) p w := x.ch (.to x.fresh hn)
theorem Rd.hle (x : Rd z T H p w) (e : Hle H H') : Rd z T H' p w := by
 obtain ⟨h1, h2, f, t, bad, wv, nm, nu, iv, nv, h3, ⟨w1, l, w2, w3⟩, ⟨ci, i1, i2, i3⟩, ⟨cn, n1, n2, n3⟩, hs, ht⟩ := x
 have rw : ∀ {v es n cells}, Rw H v es n cells → Rw H' v es n cells := fun r => by
   rcases r with r | ⟨q, m, cs, rfl, h1, h2⟩
   · exact .inl r
   · exact .inr ⟨q, m, cs, rfl, e.keep _ _ h1, h2⟩
 exact ⟨⟨h1.tabs.hle e, h1.row.keep fun y hy => by
   obtain ⟨cs, h⟩ := h1.frz y hy
   rw [h, e.keep _ _ h], fun y hy => let ⟨cs, h⟩ := h1.frz y hy; ⟨cs, e.keep _ _ h⟩, h1.cap, h1.short⟩, h2, f, t, bad, wv, nm, nu, iv, nv, e.keep _ _ h3, ⟨w1, l, w2, rw w3⟩, ⟨ci, rw i1, i2.mono e.frz, i3⟩, ⟨cn, rw n1, n2.mono e.frz, n3⟩, hs, ht⟩
theorem Rd.mono (x : Rd z T H p w) {v : Nat} (h : w ≤ v) : Rd z T H p v := by
 obtain ⟨h1, h2, f, t, bad, wv, nm, nu, iv, nv, h3, ⟨w1, l, w2, w3⟩, h4, h5, h6, h7⟩ := x
 exact ⟨h1, h2, f, t, bad, wv, nm, nu, iv, nv, h3, ⟨w1, l, Nat.le_trans w2 h, w3⟩, h4, h5, h6, h7⟩
end
theorem tyR : lk PP 60 = 1 ∧ foff PP 62 0 = some 0 ∧ foff PP 62 1 = some 1 ∧ foff PP 62 2 = some 2 ∧ foff PP 62 3 = some 3 ∧ foff PP 62 4 = some 8 ∧ foff PP 62 5 = some 9 ∧ foff PP 62 6 = some 10 ∧ foff PP 62 7 = some 11 ∧ foff PP 62 8 = some 12 ∧ foff PP 62 9 = some 13 := by decide +kernel
theorem tyV : foff PP 28 0 = some 0 ∧ foff PP 28 1 = some 1 ∧ foff PP 28 2 = some 4 ∧ foff PP 28 3 = some 5 ∧ foff PP 28 4 = some 6 ∧ lk PP 49 = 7 ∧ sizeT PP 49 = some 5 := by decide +kernel
theorem zrI : zeroT PP 3 = some [.int .i64 0] := by kernel_rfl
theorem infoI : (PP.info? 3).map (fun i => (i.size, i.bytes)) = some (1, 8) := by kernel_rfl
theorem bs_i (H : Heap) (n : Int) : buildSliceA PP 22 1 #[(0, .int .i64 n)] H = some (.slice (some ⟨H.next, 0, none⟩) 1 1, H.alloc 1 [.int .i64 n]) := by kernel_rfl
theorem j6v (l : List Int) (i : Int) : ints l ++ [.int .i64 i] = ints (l ++ [i]) := by simp [ints]
theorem yi5 {H : Heap} {v : Value} {l : List Int} (r : Rw H v 1 l.length (ints l)) (f : Fresh H) (hl : l.length < 2 ^ 40) (i : Int) :
   ∃ v' H', appendA PP #[22, 22] v (.slice (some ⟨H.next, 0, none⟩) 1 1) (H.alloc 1 [.int .i64 i]) = some (v', H') ∧ Rw H' v' 1 (l ++ [i]).length (ints (l ++ [i])) ∧ Ch (blkOf v) H H' ∧ (blkOf v' = blkOf v ∨ blkOf v' = some (H.next + 1)) ∧ (blkOf v').isSome = true := by
 have c1 := Ch.alloc f 1 [.int .i64 i]
 have r1 := r.ch c1 (fun q e => by cases e)
 obtain ⟨v', H', e1, e2, e3, e4, e5⟩ := r1.app c1.fresh (bytes := 8) (news := [.int .i64 i]) rfl rfl (by unfold most; omega) (by unfold most; omega)
 refine ⟨v', H', ?_, by rw [j6v] at e2; simpa using e2, ⟨Nat.le_trans c1.next e3.next, fun q y e hs => e3.keep q y (c1.keep q y e (by simp)) hs, fun q hq e => e3.gap q (Nat.lt_of_lt_of_le hq c1.next) (c1.gap q hq e), e3.fresh⟩, e4, e5⟩
 rw [← e1]
 exact je8 Tryz.underlying22 infoI zrI rfl (by decide) (by rw [Heap.get_alloc, if_pos rfl]) rfl v
def GR := Pf.mk (And.intro G.o (And.intro tyR (And.intro tyV (And.intro @bs_i (And.intro @jq6 @jf2)))))
abbrev pt (b : Nat) : Value := .pointer (some ⟨b, 0, none⟩)
section
variable {z : Cx} {T : Tc} {H : Heap} {p : PS} {w : Nat} {k : KV} {kp : KP}
theorem jg9 (x : Rd z T H p w) (hw : w < 2 ^ 30) (kd : Int) (hk : ∀ H', Fle H H' → Rd z T H' p (w + 1) → k (.bool (p.k.kind == kd)) H') : callW PP 38 #[pt z.b, .int .i64 kd] H k kp := by
 refine run 2 rfl Tryz.func38 (pr := noPr) (by decide +kernel) (by kernel_rfl) ?_
 obtain ⟨f, t, bad, wv, nm, nu, iv, nv, hb, r⟩ := x.ex
 by_cases h : p.k.kind = kd
 · have e : (p.k.kind == kd) = true := by simpa using h
   simp +decide only [fx Tryz.f38.eq_1, ↓GR.o, reduceIte, hb, e]
   rw [e] at hk
   exact hk H (.refl x.fresh) (x.mono (Nat.le_succ _))
 · have e : (p.k.kind == kd) = false := by simpa using h
   obtain ⟨n1, l, n2, rw1⟩ := r.want
   obtain ⟨wv', H1, e1, r1, c1, b1, b2⟩ := yi5 rw1 x.fresh (by omega) kd
   have hb1 := c1.keep _ _ hb n1
   have s1 := r1.sc.2
   have nb : blkOf wv' ≠ some z.b := by
     rcases b1 with b | b <;> rw [b]
     · exact n1
     · intro e; injection e with e; have := x.fresh.lt hb; omega
   simp +decide only [fx Tryz.f38.eq_1, ↓GR.o, reduceIte, hb, e, e1, hb1, s1]
   rw [e] at hk
   have f1 := c1.fle fun q e => let ⟨y, hy⟩ := rw1.blk q e; ⟨y, 1, hy⟩
   exact hk _ (f1.trans (.set c1.fresh hb1 _)) (Rd.set (x.base.fle f1) x.low hb1 (r.ask c1 ⟨nb, l ++ [kd], by simp; omega, r1⟩) rfl)
end
end Go.Am
