/- The lexemes of a text, read off the bytes that are left. -/
import Derived.Test.YtohmeeglehopiaaDoorS8
import Derived.Lib.ItoaNum
namespace Go.Am
inductive SR where
  | bad (k : Nat)
  | good (n k : Nat)
def SR.up : SR → Nat → SR
  | .bad k, j => .bad (j + k)
  | .good n k, j => .good n (j + k)
def SR.at_ : SR → Nat → IR
  | .bad k, i => .bad (i + k)
  | .good n k, i => .good n (i + k)
theorem SR.up_at (r : SR) (j i : Nat) : (r.up j).at_ i = r.at_ (i + j) := by cases r <;> simp [SR.up, SR.at_, Nat.add_assoc]
def isL (l : List UInt8) (k : Int) : Bool := match l with | [] => false | u :: _ => clsI u == k
def isWL (l : List UInt8) : Bool := isL l 4 || isL l 3
def endL (l : List UInt8) (n : Nat) : SR := if isWL l then .bad 0 else .good n 0
def mulL (l : List UInt8) (n f : Nat) : SR := if n * f < m64 then (endL l.tail (n * f)).up 1 else .bad 0
def sufL (l : List UInt8) (n : Nat) : SR := if isL l 4 then (if l.headD 0 = 77 then mulL l n 1048576 else if l.headD 0 = 75 then mulL l n 1024 else .bad 0) else endL l n
def decL : List UInt8 → Nat → SR
  | [], n => sufL [] n
  | u :: r, n => if clsI u = 3 then (if n * 10 + dg u < m64 then (decL r (n * 10 + dg u)).up 1 else .bad 0) else sufL (u :: r) n
def hexL : Bool → List UInt8 → Nat → SR
  | fr, [], n => if fr then .bad 0 else sufL [] n
  | fr, u :: r, n => if hexT u.toNat < 16 then (if n * 16 + (hexT u.toNat).toNat < m64 then (hexL false r (n * 16 + (hexT u.toNat).toNat)).up 1 else .bad 0) else if fr then .bad 0 else sufL (u :: r) n
def is0x (l : List UInt8) : Prop := ∃ r, l = 48 :: 120 :: r
def intL : List UInt8 → SR
  | u :: v :: r => if u = 48 ∧ v = 120 then (hexL true r 0).up 2 else decL (u :: v :: r) 0
  | l => decL l 0
theorem intL_two (u v : UInt8) (r : List UInt8) : intL (u :: v :: r) = if u = 48 ∧ v = 120 then (hexL true r 0).up 2 else decL (u :: v :: r) 0 := rfl
section bridge
variable {s : List UInt8} {i : Nat}
theorem isI_L (s : List UInt8) (i : Nat) (k : Int) : isI s i k = isL (s.drop i) k := by
  unfold isI isL
  by_cases h : i < s.length
  · rw [List.drop_eq_getElem_cons h, decide_eq_true h, Bool.true_and]
    simp [List.getD, h]
  · rw [List.drop_eq_nil_of_le (by omega), decide_eq_false h, Bool.false_and]
theorem isW_L (s : List UInt8) (i : Nat) : isW s i = isWL (s.drop i) := by unfold isW isWL; rw [isI_L, isI_L]
theorem getD_L (s : List UInt8) (i : Nat) : s.getD i 0 = (s.drop i).headD 0 := by
  by_cases h : i < s.length
  · rw [List.drop_eq_getElem_cons h]
    simp [List.getD, h]
  · rw [List.drop_eq_nil_of_le (by omega)]
    simp [List.getD, h]
theorem endI_L (s : List UInt8) (i n : Nat) : endI s i n = (endL (s.drop i) n).at_ i := by
  unfold endI endL
  rw [isW_L]
  split <;> rfl
theorem mulI_L (s : List UInt8) (i n f : Nat) : mulI s i n f = (mulL (s.drop i) n f).at_ i := by
  unfold mulI mulL
  split
  · rw [endI_L, SR.up_at, List.tail_drop]
  · rfl
theorem sufI_L (s : List UInt8) (i n : Nat) : sufI s i n = (sufL (s.drop i) n).at_ i := by
  unfold sufI sufL
  rw [isI_L, getD_L, mulI_L, mulI_L, endI_L]
  split
  · split
    · rfl
    · split
      · rfl
      · rfl
  · rfl
theorem decI_L (s : List UInt8) : ∀ (k i n : Nat), s.length ≤ i + k → decI s k i n = (decL (s.drop i) n).at_ i
  | 0, i, n, h => by
    rw [decI, sufI_L, List.drop_eq_nil_of_le (by omega)]
    rfl
  | k + 1, i, n, h => by
    unfold decI
    by_cases hi : i < s.length
    · have e := List.drop_eq_getElem_cons hi
      have g : s.getD i 0 = s[i] := by simp [List.getD, hi]
      rw [isI_L, g, e]
      unfold decL
      by_cases c : clsI s[i] = 3
      · have : isL (s[i] :: s.drop (i + 1)) 3 = true := by simp [isL, c]
        rw [this, if_pos rfl, if_pos c]
        by_cases o : n * 10 + dg s[i] < m64
        · rw [if_pos o, if_pos o, decI_L s k (i + 1) _ (by omega), SR.up_at]
        · rw [if_neg o, if_neg o]; rfl
      · have : isL (s[i] :: s.drop (i + 1)) 3 = false := by simp [isL, c]
        rw [this, if_neg (by decide), if_neg c, sufI_L, e]
    · have : isI s i 3 = false := by rw [isI_L, List.drop_eq_nil_of_le (by omega)]; rfl
      rw [this, if_neg (by decide), sufI_L, List.drop_eq_nil_of_le (by omega)]
      rfl
theorem hexI_L (s : List UInt8) (fr : Nat) : ∀ (k i n : Nat), fr ≤ i → s.length ≤ i + k → hexI s fr k i n = (hexL (decide (i = fr)) (s.drop i) n).at_ i
  | 0, i, n, hf, h => by
    rw [hexI, List.drop_eq_nil_of_le (by omega)]
    unfold endH hexL
    by_cases c : i = fr
    · rw [if_pos c, decide_eq_true c]; rfl
    · rw [if_neg c, decide_eq_false c, sufI_L, List.drop_eq_nil_of_le (by omega)]; rfl
  | k + 1, i, n, hf, h => by
    unfold hexI
    by_cases hi : i < s.length
    · have e := List.drop_eq_getElem_cons hi
      have g : s.getD i 0 = s[i] := by simp [List.getD, hi]
      rw [g, e]
      unfold hexL
      by_cases c : hexT s[i].toNat < 16
      · rw [if_pos c, if_pos c]
        by_cases o : n * 16 + (hexT s[i].toNat).toNat < m64
        · rw [if_pos o, if_pos o, hexI_L s fr k (i + 1) _ (by omega) (by omega), SR.up_at, decide_eq_false (show ¬ i + 1 = fr by omega)]
        · rw [if_neg o, if_neg o]; rfl
      · rw [if_neg c, if_neg c]
        unfold endH
        by_cases c : i = fr
        · rw [if_pos c, decide_eq_true c]; rfl
        · rw [if_neg c, decide_eq_false c, sufI_L, e]; rfl
    · have g : s.getD i 0 = 0 := by simp [List.getD, hi]
      have z : ¬ hexT (0 : UInt8).toNat < 16 := by decide
      rw [g, if_neg z, List.drop_eq_nil_of_le (by omega)]
      unfold endH hexL
      by_cases c : i = fr
      · rw [if_pos c, decide_eq_true c]; rfl
      · rw [if_neg c, decide_eq_false c, sufI_L, List.drop_eq_nil_of_le (by omega)]; rfl
theorem intI_L (s : List UInt8) (i : Nat) : intI s i = (intL (s.drop i)).at_ i := by
  unfold intI
  by_cases h1 : i + 1 < s.length
  · have e0 := List.drop_eq_getElem_cons (show i < s.length by omega)
    have e1 := List.drop_eq_getElem_cons h1
    have g0 : s.getD i 0 = s[i] := by simp [List.getD, show i < s.length by omega]
    have g1 : s.getD (i + 1) 0 = s[i + 1] := by simp [List.getD, h1]
    have ei : intL (s[i] :: s[i + 1] :: s.drop (i + 1 + 1)) = if s[i] = 48 ∧ s[i + 1] = 120 then (hexL true (s.drop (i + 1 + 1)) 0).up 2 else decL (s[i] :: s[i + 1] :: s.drop (i + 1 + 1)) 0 := rfl
    rw [g0, g1, e0, e1, ei]
    by_cases c : s[i] = 48 ∧ s[i + 1] = 120
    · rw [if_pos ⟨c.1, h1, c.2⟩, if_pos c, hexI_L s (i + 2) _ (i + 2) 0 (Nat.le_refl _) (by omega), SR.up_at, decide_eq_true rfl]
    · rw [if_neg (fun q => c ⟨q.1, q.2.2⟩), if_neg c, decI_L s _ i 0 (by omega), e0, e1]
  · rw [if_neg (fun q => h1 q.2.1), decI_L s _ i 0 (by omega)]
    by_cases h0 : i < s.length
    · rw [List.drop_eq_getElem_cons h0, List.drop_eq_nil_of_le (by omega)]; rfl
    · rw [List.drop_eq_nil_of_le (by omega)]; rfl
end bridge
/-- The end of a word. -/
def runL : List UInt8 → Nat
  | [] => 0
  | u :: r => if isWL (u :: r) then runL r + 1 else 0
inductive XR where
  | bad (k : Nat)
  | good (w : List UInt8) (k : Nat)
def XR.up : XR → List UInt8 → Nat → XR
  | .bad k, _, j => .bad (j + k)
  | .good w k, o, j => .good (o ++ w) (j + k)
def XR.at_ : XR → List UInt8 → Nat → TR
  | .bad k, _, i => .bad (i + k)
  | .good w k, o, i => .good (o ++ w) (i + k)
theorem XR.up_at (r : XR) (o p : List UInt8) (j i : Nat) : (r.up p j).at_ o i = r.at_ (o ++ p) (i + j) := by cases r <;> simp [XR.up, XR.at_, Nat.add_assoc]
def textL : List UInt8 → XR
  | [] => .bad 0
  | u :: r =>
    if u = 34 then .good [] 1
    else if u = 92 then
      (match r with
      | [] => .bad 1
      | v :: r =>
        if v = 110 then (textL r).up [10] 2
        else if v = 116 then (textL r).up [9] 2
        else if v = 34 then (textL r).up [34] 2
        else if v = 92 then (textL r).up [92] 2
        else if v = 120 then
          (match r with
          | [] => .bad 2
          | x :: r =>
            if hexT x.toNat = 16 then .bad 2
            else (match r with
              | [] => .bad 3
              | y :: r => if hexT y.toNat = 16 then .bad 3 else (textL r).up [UInt8.ofNat (hexN x * 16 + hexN y)] 4))
        else .bad 1)
    else if u.toNat < 32 ∨ 126 < u.toNat then .bad 0
    else (textL r).up [u] 1
def nextL : List UInt8 → Int
  | _ :: v :: _ => (v.toNat : Int)
  | _ => 0
inductive LL where
  | bad (k : Nat)
  | good (kd n : Int) (w : ByteArray) (k : Nat)
def LL.at_ : LL → Nat → LR
  | .bad k, i => .bad (i + k)
  | .good kd n w k, i => .good ⟨kd, n, w, i, i + k⟩
def wordL (l : List UInt8) : LL := if runL l ≤ 32 then .good (wordKT (l.take (runL l))).1 0 ⟨⟨(wordKT (l.take (runL l))).2⟩⟩ (runL l) else .bad 32
def signL (l : List UInt8) : LL := if (signR ((l.headD 0).toNat : Int) (nextL l)).1 = 0 then .bad (signR ((l.headD 0).toNat : Int) (nextL l)).2 else .good (signR ((l.headD 0).toNat : Int) (nextL l)).1 0 .empty (signR ((l.headD 0).toNat : Int) (nextL l)).2
def SR.ll : SR → LL
  | .bad k => .bad k
  | .good n k => .good 2 (n : Int) .empty k
def XR.ll : XR → LL
  | .bad k => .bad (1 + k)
  | .good w k => .good 3 0 ⟨⟨w⟩⟩ (1 + k)
def lexL (l : List UInt8) : LL :=
  if clsI (l.headD 0) = 3 then (intL l).ll else if clsI (l.headD 0) = 4 then wordL l else if clsI (l.headD 0) = 5 then (textL l.tail).ll else if clsI (l.headD 0) = 6 then signL l else .bad 0
/-- Blanks and comments ahead. -/
def skipL : Bool → List UInt8 → Nat
  | _, [] => 0
  | true, u :: r => if u = 10 then skipL false r + 1 else skipL true r + 1
  | false, u :: r => if clsI u = 1 then skipL false r + 1 else if clsI u = 2 then skipL true r + 1 else 0
def toksL : Nat → Nat → List UInt8 → List Tk × Option Nat
  | 0, _, _ => ([], none)
  | k + 1, i, l =>
    match l.drop (skipL false l) with
    | [] => ([], none)
    | u :: r =>
      match lexL (u :: r) with
      | .bad e => ([], some (i + skipL false l + e))
      | .good kd n w j => (⟨kd, n, w, i + skipL false l, i + skipL false l + j⟩ :: (toksL k (i + skipL false l + j) ((u :: r).drop j)).1, (toksL k (i + skipL false l + j) ((u :: r).drop j)).2)
end Go.Am
/- The lexemes of a text, read off the bytes that are left: blanks, the whole. -/
namespace Go.Am
def lineL : List UInt8 → Nat
  | [] => 0
  | u :: r => if u = 10 then 0 else lineL r + 1
/-- What may stand behind a lexeme that stays as it is. -/
def Stop (r l : List UInt8) : Prop := r = [] ∨ r.head? = some 32 ∨ r.head? = l.head?
end Go.Am
/- A lexeme is told by its own bytes; a wrong byte by what stands up to it; what stands ahead can be gone on with. -/
namespace Go.Am
inductive XT where
  | fin (r : XR)
  | go (o : List UInt8) (j : Nat)
def stepL : List UInt8 → XT
  | [] => .fin (.bad 0)
  | u :: r =>
    if u = 34 then .fin (.good [] 1)
    else if u = 92 then
      (match r with
      | [] => .fin (.bad 1)
      | v :: r =>
        if v = 110 then .go [10] 2
        else if v = 116 then .go [9] 2
        else if v = 34 then .go [34] 2
        else if v = 92 then .go [92] 2
        else if v = 120 then
          (match r with
          | [] => .fin (.bad 2)
          | x :: r =>
            if hexT x.toNat = 16 then .fin (.bad 2)
            else (match r with
              | [] => .fin (.bad 3)
              | y :: _ => if hexT y.toNat = 16 then .fin (.bad 3) else .go [UInt8.ofNat (hexN x * 16 + hexN y)] 4))
        else .fin (.bad 1))
    else if u.toNat < 32 ∨ 126 < u.toNat then .fin (.bad 0)
    else .go [u] 1
def ends4 : List (List UInt8) := [[34], [110, 34], [48, 48, 34], [48, 34]]
end Go.Am
/- A lexeme at a place: kept where its bytes are; a wrong byte: kept where the bytes up to it are; what stands ahead of it can be gone on with. -/
namespace Go.Am
def ends8 : List (List UInt8) := [[], [34], [110, 34], [48, 48, 34], [48, 34], [48], [46], [61]]
end Go.Am
/- The first wrong byte of a text: it stays where it is whatever stands behind it, and what stands ahead of it can be gone on with. -/
namespace Go.Am
end Go.Am
/- Numbers, texts and words as they are spelled are one lexeme. -/
namespace Go.Am
theorem each_byte {p : UInt8 → Bool} (h : (List.range 256).all (fun n => p (UInt8.ofNat n)) = true) (u : UInt8) : p u = true := by
  have := List.all_eq_true.mp h u.toNat (List.mem_range.mpr u.toNat_lt)
  have e : UInt8.ofNat u.toNat = u := by simp
  rw [e] at this
  exact this
/-- Digits. -/
def accD (n : Nat) (l : List UInt8) : Nat := l.foldl (fun a d => a * 10 + dg d) n
theorem accD_ge : ∀ (l : List UInt8) (n : Nat), n ≤ accD n l
  | [], n => Nat.le_refl _
  | u :: l, n => by
    have := accD_ge l (n * 10 + dg u)
    show n ≤ accD (n * 10 + dg u) l
    omega
theorem decL_digits : ∀ (l : List UInt8) (n : Nat), (∀ d ∈ l, clsI d = 3) → accD n l < m64 → decL l n = .good (accD n l) l.length
  | [], n, _, _ => rfl
  | u :: l, n, hd, ha => by
    have h3 : clsI u = 3 := hd u (List.mem_cons_self ..)
    have ha' : accD (n * 10 + dg u) l < m64 := ha
    have := accD_ge l (n * 10 + dg u)
    rw [decL, if_pos h3, if_pos (by omega), decL_digits l _ (fun d h => hd d (List.mem_cons_of_mem _ h)) ha']
    show SR.good (accD (n * 10 + dg u) l) (1 + l.length) = SR.good (accD (n * 10 + dg u) l) (l.length + 1)
    rw [Nat.add_comm 1 l.length]
theorem digit_cls {d : Nat} (h : d < 10) : clsI (UInt8.ofNat (48 + d)) = 3 ∧ dg (UInt8.ofNat (48 + d)) = d ∧ UInt8.ofNat (48 + d) ≠ 120 := by
  have hall : (List.range 10).all (fun d => decide (clsI (UInt8.ofNat (48 + d)) = 3) && decide (dg (UInt8.ofNat (48 + d)) = d) && decide (UInt8.ofNat (48 + d) ≠ 120)) = true := by decide +kernel
  have := List.all_eq_true.mp hall d (List.mem_range.mpr h)
  simp only [Bool.and_eq_true, decide_eq_true_eq] at this
  exact ⟨this.1.1, this.1.2, this.2⟩
theorem dec_digits : ∀ (m u : Nat), u < m → (∀ d ∈ Lib.decDigits u, clsI d = 3 ∧ d ≠ 120) ∧ accD 0 (Lib.decDigits u) = u
  | 0, u, h => by omega
  | m + 1, u, h => by
    rw [Lib.decDigits]
    by_cases c : u < 10
    · rw [dif_pos c]
      obtain ⟨h1, h2, h3⟩ := digit_cls c
      refine ⟨fun d hd => ?_, ?_⟩
      · rw [List.mem_singleton] at hd; subst hd; exact ⟨h1, h3⟩
      · show 0 * 10 + dg _ = u
        rw [h2]; omega
    · rw [dif_neg c]
      obtain ⟨h1, h2, h3⟩ := digit_cls (show u % 10 < 10 by omega)
      obtain ⟨i1, i2⟩ := dec_digits m (u / 10) (by omega)
      refine ⟨fun d hd => ?_, ?_⟩
      · rcases List.mem_append.mp hd with hd | hd
        · exact i1 d hd
        · rw [List.mem_singleton] at hd; subst hd; exact ⟨h1, h3⟩
      · unfold accD at i2 ⊢
        rw [List.foldl_append, i2]
        show u / 10 * 10 + dg _ = u
        rw [h2]; omega
theorem decDigits_ne (u : Nat) : Lib.decDigits u ≠ [] := fun e => by
  have := congrArg List.length e
  rw [Lib.decDigits_length, List.length_nil] at this
  have := Lib.nDigits_pos u
  omega
/-- A byte of a text as it is spelled. -/
def hexD (n : Nat) : UInt8 := if n < 10 then UInt8.ofNat (48 + n) else UInt8.ofNat (87 + n)
def escB (c : UInt8) : List UInt8 :=
  if c = 10 then [92, 110] else if c = 9 then [92, 116]
  else if c.toNat < 32 ∨ 126 < c.toNat then [92, 120, hexD (c.toNat / 16), hexD (c.toNat % 16)]
  else if c = 34 ∨ c = 92 then [92, c] else [c]
def bodyB (t : List UInt8) : List UInt8 := t.flatMap escB
def quoteB (t : List UInt8) : List UInt8 := 34 :: bodyB t ++ [34]
theorem esc_len (c : UInt8) : 1 ≤ (escB c).length ∧ (escB c).length ≤ 4 := by
  unfold escB
  repeat' split
  all_goals exact ⟨by simp, by simp⟩
theorem body_len : ∀ t : List UInt8, t.length ≤ (bodyB t).length ∧ (bodyB t).length ≤ 4 * t.length
  | [] => ⟨Nat.le_refl _, Nat.le_refl _⟩
  | c :: t => by
    have e : bodyB (c :: t) = escB c ++ bodyB t := by simp [bodyB]
    have h1 := esc_len c
    have h2 := body_len t
    rw [e, List.length_append, List.length_cons]
    omega
/-- Words. -/
def wbB (u : UInt8) : Bool := isWL [u]
def legalI (w : List UInt8) : Bool := decide (1 ≤ w.length) && decide (w.length ≤ 32) && decide (clsI (w.headD 0) = 4) && decide (resI w = 0) && w.all wbB
end Go.Am
