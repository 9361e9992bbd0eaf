/- The lexemes of a text, read off the bytes that are left. -/
import Derived.Test.YtohmeeglehopiaaDoorS8
import Derived.Lib.ItoaNum
namespace Go.Am
inductive SR where
  | bad (k : Nat)
  | good (n k : Nat)
def SR.up : SR → Nat → SR
  | .bad k, j => .bad (j + k)
  | .good n k, j => .good n (j + k)
def SR.at_ : SR → Nat → IR
  | .bad k, i => .bad (i + k)
  | .good n k, i => .good n (i + k)
theorem SR.up_at (r : SR) (j i : Nat) : (r.up j).at_ i = r.at_ (i + j) := by cases r <;> simp [SR.up, SR.at_, Nat.add_assoc]
def isL (l : List UInt8) (k : Int) : Bool := match l with | [] => false | u :: _ => clsI u == k
def isWL (l : List UInt8) : Bool := isL l 4 || isL l 3
def endL (l : List UInt8) (n : Nat) : SR := if isWL l then .bad 0 else .good n 0
def mulL (l : List UInt8) (n f : Nat) : SR := if n * f < m64 then (endL l.tail (n * f)).up 1 else .bad 0
def sufL (l : List UInt8) (n : Nat) : SR := if isL l 4 then (if l.headD 0 = 77 then mulL l n 1048576 else if l.headD 0 = 75 then mulL l n 1024 else .bad 0) else endL l n
def decL : List UInt8 → Nat → SR
  | [], n => sufL [] n
  | u :: r, n => if clsI u = 3 then (if n * 10 + dg u < m64 then (decL r (n * 10 + dg u)).up 1 else .bad 0) else sufL (u :: r) n
def hexL : Bool → List UInt8 → Nat → SR
  | fr, [], n => if fr then .bad 0 else sufL [] n
  | fr, u :: r, n => if hexT u.toNat < 16 then (if n * 16 + (hexT u.toNat).toNat < m64 then (hexL false r (n * 16 + (hexT u.toNat).toNat)).up 1 else .bad 0) else if fr then .bad 0 else sufL (u :: r) n
def is0x (l : List UInt8) : Prop := ∃ r, l = 48 :: 120 :: r
def intL : List UInt8 → SR
  | u :: v :: r => if u = 48 ∧ v = 120 then (hexL true r 0).up 2 else decL (u :: v :: r) 0
  | l => decL l 0
theorem intL_two (u v : UInt8) (r : List UInt8) : intL (u :: v :: r) = if u = 48 ∧ v = 120 then (hexL true r 0).up 2 else decL (u :: v :: r) 0 := rfl
section bridge
variable {s : List UInt8} {i : Nat}
theorem isI_L (s : List UInt8) (i : Nat) (k : Int) : isI s i k = isL (s.drop i) k := by
  unfold isI isL
  by_cases h : i < s.length
  · rw [List.drop_eq_getElem_cons h, decide_eq_true h, Bool.true_and]
    simp [List.getD, h]
  · rw [List.drop_eq_nil_of_le (by omega), decide_eq_false h, Bool.false_and]
theorem isW_L (s : List UInt8) (i : Nat) : isW s i = isWL (s.drop i) := by unfold isW isWL; rw [isI_L, isI_L]
theorem getD_L (s : List UInt8) (i : Nat) : s.getD i 0 = (s.drop i).headD 0 := by
  by_cases h : i < s.length
  · rw [List.drop_eq_getElem_cons h]
    simp [List.getD, h]
  · rw [List.drop_eq_nil_of_le (by omega)]
    simp [List.getD, h]
theorem endI_L (s : List UInt8) (i n : Nat) : endI s i n = (endL (s.drop i) n).at_ i := by
  unfold endI endL
  rw [isW_L]
  split <;> rfl
theorem mulI_L (s : List UInt8) (i n f : Nat) : mulI s i n f = (mulL (s.drop i) n f).at_ i := by
  unfold mulI mulL
  split
  · rw [endI_L, SR.up_at, List.tail_drop]
  · rfl
theorem sufI_L (s : List UInt8) (i n : Nat) : sufI s i n = (sufL (s.drop i) n).at_ i := by
  unfold sufI sufL
  rw [isI_L, getD_L, mulI_L, mulI_L, endI_L]
  split
  · split
    · rfl
    · split
      · rfl
      · rfl
  · rfl
theorem decI_L (s : List UInt8) : ∀ (k i n : Nat), s.length ≤ i + k → decI s k i n = (decL (s.drop i) n).at_ i
  | 0, i, n, h => by
    rw [decI, sufI_L, List.drop_eq_nil_of_le (by omega)]
    rfl
  | k + 1, i, n, h => by
    unfold decI
    by_cases hi : i < s.length
    · have e := List.drop_eq_getElem_cons hi
      have g : s.getD i 0 = s[i] := by simp [List.getD, hi]
      rw [isI_L, g, e]
      unfold decL
      by_cases c : clsI s[i] = 3
      · have : isL (s[i] :: s.drop (i + 1)) 3 = true := by simp [isL, c]
        rw [this, if_pos rfl, if_pos c]
        by_cases o : n * 10 + dg s[i] < m64
        · rw [if_pos o, if_pos o, decI_L s k (i + 1) _ (by omega), SR.up_at]
        · rw [if_neg o, if_neg o]; rfl
      · have : isL (s[i] :: s.drop (i + 1)) 3 = false := by simp [isL, c]
        rw [this, if_neg (by decide), if_neg c, sufI_L, e]
    · have : isI s i 3 = false := by rw [isI_L, List.drop_eq_nil_of_le (by omega)]; rfl
      rw [this, if_neg (by decide), sufI_L, List.drop_eq_nil_of_le (by omega)]
      rfl
theorem hexI_L (s : List UInt8) (fr : Nat) : ∀ (k i n : Nat), fr ≤ i → s.length ≤ i + k → hexI s fr k i n = (hexL (decide (i = fr)) (s.drop i) n).at_ i
  | 0, i, n, hf, h => by
    rw [hexI, List.drop_eq_nil_of_le (by omega)]
    unfold endH hexL
    by_cases c : i = fr
    · rw [if_pos c, decide_eq_true c]; rfl
    · rw [if_neg c, decide_eq_false c, sufI_L, List.drop_eq_nil_of_le (by omega)]; rfl
  | k + 1, i, n, hf, h => by
    unfold hexI
    by_cases hi : i < s.length
    · have e := List.drop_eq_getElem_cons hi
      have g : s.getD i 0 = s[i] := by simp [List.getD, hi]
      rw [g, e]
      unfold hexL
      by_cases c : hexT s[i].toNat < 16
      · rw [if_pos c, if_pos c]
        by_cases o : n * 16 + (hexT s[i].toNat).toNat < m64
        · rw [if_pos o, if_pos o, hexI_L s fr k (i + 1) _ (by omega) (by omega), SR.up_at, decide_eq_false (show ¬ i + 1 = fr by omega)]
        · rw [if_neg o, if_neg o]; rfl
      · rw [if_neg c, if_neg c]
        unfold endH
        by_cases c : i = fr
        · rw [if_pos c, decide_eq_true c]; rfl
        · rw [if_neg c, decide_eq_false c, sufI_L, e]; rfl
    · have g : s.getD i 0 = 0 := by simp [List.getD, hi]
      have z : ¬ hexT (0 : UInt8).toNat < 16 := by decide
      rw [g, if_neg z, List.drop_eq_nil_of_le (by omega)]
      unfold endH hexL
      by_cases c : i = fr
      · rw [if_pos c, decide_eq_true c]; rfl
      · rw [if_neg c, decide_eq_false c, sufI_L, List.drop_eq_nil_of_le (by omega)]; rfl
theorem intI_L (s : List UInt8) (i : Nat) : intI s i = (intL (s.drop i)).at_ i := by
  unfold intI
  by_cases h1 : i + 1 < s.length
  · have e0 := List.drop_eq_getElem_cons (show i < s.length by omega)
    have e1 := List.drop_eq_getElem_cons h1
    have g0 : s.getD i 0 = s[i] := by simp [List.getD, show i < s.length by omega]
    have g1 : s.getD (i + 1) 0 = s[i + 1] := by simp [List.getD, h1]
    have ei : intL (s[i] :: s[i + 1] :: s.drop (i + 1 + 1)) = if s[i] = 48 ∧ s[i + 1] = 120 then (hexL true (s.drop (i + 1 + 1)) 0).up 2 else decL (s[i] :: s[i + 1] :: s.drop (i + 1 + 1)) 0 := rfl
    rw [g0, g1, e0, e1, ei]
    by_cases c : s[i] = 48 ∧ s[i + 1] = 120
    · rw [if_pos ⟨c.1, h1, c.2⟩, if_pos c, hexI_L s (i + 2) _ (i + 2) 0 (Nat.le_refl _) (by omega), SR.up_at, decide_eq_true rfl]
    · rw [if_neg (fun q => c ⟨q.1, q.2.2⟩), if_neg c, decI_L s _ i 0 (by omega), e0, e1]
  · rw [if_neg (fun q => h1 q.2.1), decI_L s _ i 0 (by omega)]
    by_cases h0 : i < s.length
    · rw [List.drop_eq_getElem_cons h0, List.drop_eq_nil_of_le (by omega)]; rfl
    · rw [List.drop_eq_nil_of_le (by omega)]; rfl
end bridge
/-- The end of a word. -/
def runL : List UInt8 → Nat
  | [] => 0
  | u :: r => if isWL (u :: r) then runL r + 1 else 0
theorem runTo_L (s : List UInt8) : ∀ (k i : Nat), s.length ≤ i + k → runTo s k i = i + runL (s.drop i)
  | 0, i, h => by rw [List.drop_eq_nil_of_le (by omega)]; rfl
  | k + 1, i, h => by
    unfold runTo
    by_cases hi : i < s.length
    · have e := List.drop_eq_getElem_cons hi
      rw [isW_L, e]
      unfold runL
      split
      · rw [runTo_L s k (i + 1) (by omega)]; omega
      · rfl
    · rw [isW_L, List.drop_eq_nil_of_le (by omega)]
      rfl
inductive XR where
  | bad (k : Nat)
  | good (w : List UInt8) (k : Nat)
def XR.up : XR → List UInt8 → Nat → XR
  | .bad k, _, j => .bad (j + k)
  | .good w k, o, j => .good (o ++ w) (j + k)
def XR.at_ : XR → List UInt8 → Nat → TR
  | .bad k, _, i => .bad (i + k)
  | .good w k, o, i => .good (o ++ w) (i + k)
theorem XR.up_at (r : XR) (o p : List UInt8) (j i : Nat) : (r.up p j).at_ o i = r.at_ (o ++ p) (i + j) := by cases r <;> simp [XR.up, XR.at_, Nat.add_assoc]
def textL : List UInt8 → XR
  | [] => .bad 0
  | u :: r =>
    if u = 34 then .good [] 1
    else if u = 92 then
      (match r with
      | [] => .bad 1
      | v :: r =>
        if v = 110 then (textL r).up [10] 2
        else if v = 116 then (textL r).up [9] 2
        else if v = 34 then (textL r).up [34] 2
        else if v = 92 then (textL r).up [92] 2
        else if v = 120 then
          (match r with
          | [] => .bad 2
          | x :: r =>
            if hexT x.toNat = 16 then .bad 2
            else (match r with
              | [] => .bad 3
              | y :: r => if hexT y.toNat = 16 then .bad 3 else (textL r).up [UInt8.ofNat (hexN x * 16 + hexN y)] 4))
        else .bad 1)
    else if u.toNat < 32 ∨ 126 < u.toNat then .bad 0
    else (textL r).up [u] 1
theorem getD_lt {s : List UInt8} {i : Nat} (h : i < s.length) : s.getD i 0 = s[i] := by simp [List.getD, h]
theorem textI_L (s : List UInt8) : ∀ (k i : Nat) (o : List UInt8), i < s.length → s.length ≤ i + k → textI s k i o = (textL (s.drop (i + 1))).at_ o (i + 1)
  | 0, i, o, hi, h => by omega
  | k + 1, i, o, hi, h => by
    unfold textI
    by_cases h1 : i + 1 < s.length
    · have e1 := List.drop_eq_getElem_cons h1
      rw [if_neg (by omega), getD_lt h1, e1]
      unfold textL
      by_cases c1 : s[i + 1] = 34
      · rw [if_pos c1, if_pos c1]; simp [XR.at_]
      rw [if_neg c1, if_neg c1]
      by_cases c2 : s[i + 1] = 92
      · rw [if_pos c2, if_pos c2]
        by_cases h2 : i + 2 < s.length
        · have e2 := List.drop_eq_getElem_cons h2
          rw [if_neg (by omega), getD_lt h2]
          simp only [e2, show i + 1 + 1 = i + 2 from rfl]
          by_cases d1 : s[i + 2] = 110
          · rw [if_pos d1, if_pos d1, textI_L s k (i + 2) _ h2 (by omega), XR.up_at]
          rw [if_neg d1, if_neg d1]
          by_cases d2 : s[i + 2] = 116
          · rw [if_pos d2, if_pos d2, textI_L s k (i + 2) _ h2 (by omega), XR.up_at]
          rw [if_neg d2, if_neg d2]
          by_cases d3 : s[i + 2] = 34
          · rw [if_pos d3, if_pos d3, textI_L s k (i + 2) _ h2 (by omega), XR.up_at]
          rw [if_neg d3, if_neg d3]
          by_cases d4 : s[i + 2] = 92
          · rw [if_pos d4, if_pos d4, textI_L s k (i + 2) _ h2 (by omega), XR.up_at]
          rw [if_neg d4, if_neg d4]
          by_cases d5 : s[i + 2] = 120
          · rw [if_pos d5, if_pos d5]
            by_cases h3 : i + 3 < s.length
            · have e3 := List.drop_eq_getElem_cons h3
              rw [getD_lt h3]
              simp only [e3, show i + 2 + 1 = i + 3 from rfl]
              by_cases f1 : hexT s[i + 3].toNat = 16
              · rw [if_pos (.inr f1), if_pos f1]; rfl
              rw [if_neg (by omega), if_neg f1]
              by_cases h4 : i + 4 < s.length
              · have e4 := List.drop_eq_getElem_cons h4
                rw [getD_lt h4]
                simp only [e4, show i + 3 + 1 = i + 4 from rfl]
                by_cases f2 : hexT s[i + 4].toNat = 16
                · rw [if_pos (.inr f2), if_pos f2]; rfl
                rw [if_neg (by omega), if_neg f2, textI_L s k (i + 4) _ h4 (by omega), XR.up_at]
              · rw [if_pos (.inl (by omega))]
                simp only [List.drop_eq_nil_of_le (show s.length ≤ i + 3 + 1 by omega)]
                rfl
            · rw [if_pos (.inl (by omega))]
              simp only [List.drop_eq_nil_of_le (show s.length ≤ i + 2 + 1 by omega)]
              rfl
          · rw [if_neg d5, if_neg d5]; rfl
        · rw [if_pos (by omega)]
          simp only [List.drop_eq_nil_of_le (show s.length ≤ i + 1 + 1 by omega)]
          rfl
      · rw [if_neg c2, if_neg c2]
        by_cases c3 : s[i + 1].toNat < 32 ∨ 126 < s[i + 1].toNat
        · rw [if_pos c3, if_pos c3]; rfl
        · rw [if_neg c3, if_neg c3, textI_L s k (i + 1) _ h1 (by omega), XR.up_at]
    · rw [if_pos (by omega), List.drop_eq_nil_of_le (by omega)]
      rfl
def nextL : List UInt8 → Int
  | _ :: v :: _ => (v.toNat : Int)
  | _ => 0
theorem nextB_L (s : List UInt8) (i : Nat) : nextB s i = nextL (s.drop i) := by
  unfold nextB
  by_cases h1 : i + 1 < s.length
  · rw [if_pos h1, List.drop_eq_getElem_cons (show i < s.length by omega), List.drop_eq_getElem_cons h1, getD_lt h1]; rfl
  · rw [if_neg h1]
    by_cases h0 : i < s.length
    · rw [List.drop_eq_getElem_cons h0, List.drop_eq_nil_of_le (by omega)]; rfl
    · rw [List.drop_eq_nil_of_le (by omega)]; rfl
inductive LL where
  | bad (k : Nat)
  | good (kd n : Int) (w : ByteArray) (k : Nat)
def LL.at_ : LL → Nat → LR
  | .bad k, i => .bad (i + k)
  | .good kd n w k, i => .good ⟨kd, n, w, i, i + k⟩
def wordL (l : List UInt8) : LL := if runL l ≤ 32 then .good (wordKT (l.take (runL l))).1 0 ⟨⟨(wordKT (l.take (runL l))).2⟩⟩ (runL l) else .bad 32
def signL (l : List UInt8) : LL := if (signR ((l.headD 0).toNat : Int) (nextL l)).1 = 0 then .bad (signR ((l.headD 0).toNat : Int) (nextL l)).2 else .good (signR ((l.headD 0).toNat : Int) (nextL l)).1 0 .empty (signR ((l.headD 0).toNat : Int) (nextL l)).2
def SR.ll : SR → LL
  | .bad k => .bad k
  | .good n k => .good 2 (n : Int) .empty k
def XR.ll : XR → LL
  | .bad k => .bad (1 + k)
  | .good w k => .good 3 0 ⟨⟨w⟩⟩ (1 + k)
def lexL (l : List UInt8) : LL :=
  if clsI (l.headD 0) = 3 then (intL l).ll else if clsI (l.headD 0) = 4 then wordL l else if clsI (l.headD 0) = 5 then (textL l.tail).ll else if clsI (l.headD 0) = 6 then signL l else .bad 0
theorem lexI_L {s : List UInt8} {i : Nat} (hi : i < s.length) : lexI s i = (lexL (s.drop i)).at_ i := by
  unfold lexI lexL
  rw [getD_L]
  by_cases c3 : clsI ((s.drop i).headD 0) = 3
  · rw [if_pos c3, if_pos c3, intI_L]
    cases intL (s.drop i) <;> rfl
  rw [if_neg c3, if_neg c3]
  by_cases c4 : clsI ((s.drop i).headD 0) = 4
  · rw [if_pos c4, if_pos c4]
    unfold wordI wordL
    rw [runTo_L s _ i (by omega), Nat.add_sub_cancel_left]
    by_cases h : runL (s.drop i) ≤ 32
    · rw [if_pos (by omega), if_pos h]; rfl
    · rw [if_neg (by omega), if_neg h]; rfl
  rw [if_neg c4, if_neg c4]
  by_cases c5 : clsI ((s.drop i).headD 0) = 5
  · rw [if_pos c5, if_pos c5, textI_L s _ i [] hi (by omega), List.tail_drop]
    cases textL (s.drop (i + 1)) <;> simp [XR.at_, XR.ll, LL.at_, Nat.add_assoc]
  rw [if_neg c5, if_neg c5]
  by_cases c6 : clsI ((s.drop i).headD 0) = 6
  · rw [if_pos c6, if_pos c6]
    unfold signI signL
    rw [getD_L, nextB_L]
    split <;> rfl
  · rw [if_neg c6, if_neg c6]; rfl
/-- Blanks and comments ahead. -/
def skipL : Bool → List UInt8 → Nat
  | _, [] => 0
  | true, u :: r => if u = 10 then skipL false r + 1 else skipL true r + 1
  | false, u :: r => if clsI u = 1 then skipL false r + 1 else if clsI u = 2 then skipL true r + 1 else 0
def toksL : Nat → Nat → List UInt8 → List Tk × Option Nat
  | 0, _, _ => ([], none)
  | k + 1, i, l =>
    match l.drop (skipL false l) with
    | [] => ([], none)
    | u :: r =>
      match lexL (u :: r) with
      | .bad e => ([], some (i + skipL false l + e))
      | .good kd n w j => (⟨kd, n, w, i + skipL false l, i + skipL false l + j⟩ :: (toksL k (i + skipL false l + j) ((u :: r).drop j)).1, (toksL k (i + skipL false l + j) ((u :: r).drop j)).2)
end Go.Am
/- The lexemes of a text, read off the bytes that are left: blanks, the whole. -/
namespace Go.Am
def lineL : List UInt8 → Nat
  | [] => 0
  | u :: r => if u = 10 then 0 else lineL r + 1
theorem lineEnd_L (s : List UInt8) : ∀ (k i : Nat), i + k = s.length → lineEnd s k i = i + lineL (s.drop i)
  | 0, i, h => by rw [List.drop_eq_nil_of_le (by omega)]; rfl
  | k + 1, i, h => by
    have hi : i < s.length := by omega
    rw [lineEnd, getD_lt hi, List.drop_eq_getElem_cons hi, lineL]
    split
    · rfl
    · rw [lineEnd_L s k (i + 1) (by omega)]; omega
theorem lineL_le : ∀ l : List UInt8, lineL l ≤ l.length
  | [] => Nat.le_refl _
  | u :: r => by
    unfold lineL
    have := lineL_le r
    split <;> simp <;> omega
theorem cls10 : clsI 10 = 1 := by decide +kernel
theorem skip_line : ∀ l : List UInt8, skipL true l = lineL l + skipL false (l.drop (lineL l))
  | [] => rfl
  | u :: r => by
    have e : skipL true (u :: r) = if u = 10 then skipL false r + 1 else skipL true r + 1 := by rw [skipL]
    have e' : lineL (u :: r) = if u = 10 then 0 else lineL r + 1 := by rw [lineL]
    by_cases c : u = 10
    · rw [e, e', if_pos c, if_pos c, List.drop_zero]
      subst c
      simp [skipL, cls10]
    · rw [e, e', if_neg c, if_neg c, skip_line r, List.drop_succ_cons]
      omega
theorem skip_le : ∀ (c : Bool) (l : List UInt8), skipL c l ≤ l.length
  | true, [] => Nat.le_refl _
  | false, [] => Nat.le_refl _
  | true, u :: r => by
    unfold skipL
    have h1 := skip_le true r
    have h2 := skip_le false r
    split <;> simp <;> omega
  | false, u :: r => by
    unfold skipL
    have h1 := skip_le true r
    have h2 := skip_le false r
    split
    · simp; omega
    · split <;> simp; omega
theorem skipTo_L (s : List UInt8) : ∀ (k i : Nat), i ≤ s.length → s.length ≤ i + k → skipTo s k i = i + skipL false (s.drop i)
  | 0, i, hi, h => by rw [List.drop_eq_nil_of_le (by omega)]; rfl
  | k + 1, i, hi, h => by
    unfold skipTo
    rw [isI_L, isI_L]
    by_cases h0 : i < s.length
    · have e := List.drop_eq_getElem_cons h0
      rw [e]
      unfold skipL
      by_cases c1 : clsI s[i] = 1
      · have : isL (s[i] :: s.drop (i + 1)) 1 = true := by simp [isL, c1]
        rw [this, if_pos rfl, if_pos c1, skipTo_L s k (i + 1) h0 (by omega)]; omega
      · have n1 : isL (s[i] :: s.drop (i + 1)) 1 = false := by simp [isL, c1]
        rw [n1, if_neg (by decide), if_neg c1]
        by_cases c2 : clsI s[i] = 2
        · have n2 : isL (s[i] :: s.drop (i + 1)) 2 = true := by simp [isL, c2]
          have hn : s[i] ≠ 10 := fun q => by rw [q, cls10] at c1; exact c1 rfl
          have hl := lineEnd_L s (s.length - i) i (by omega)
          rw [n2, if_pos rfl, if_pos c2, hl, skip_line (s.drop (i + 1))]
          rw [e, lineL, if_neg hn]
          have hle := lineL_le (s.drop (i + 1))
          rw [List.length_drop] at hle
          rw [skipTo_L s k _ (by omega) (by omega), List.drop_drop]
          have : i + (lineL (s.drop (i + 1)) + 1) = i + 1 + lineL (s.drop (i + 1)) := by omega
          rw [this]; omega
        · have n2 : isL (s[i] :: s.drop (i + 1)) 2 = false := by simp [isL, c2]
          rw [n2, if_neg (by decide), if_neg c2]; rfl
    · rw [List.drop_eq_nil_of_le (by omega)]
      rfl
theorem LL_to {s : List UInt8} {i : Nat} {kd n : Int} {w : ByteArray} {k : Nat} : (LL.good kd n w k).at_ i = .good ⟨kd, n, w, i, i + k⟩ := rfl
/-- A lexeme's length. -/
theorem endL_good {l : List UInt8} {n v k : Nat} (h : endL l n = .good v k) : k = 0 ∧ v = n ∧ isWL l = false := by
  unfold endL at h
  cases c : isWL l with
  | true => rw [c, if_pos rfl] at h; cases h
  | false => rw [c, if_neg (by decide)] at h; injection h with h1 h2; exact ⟨h2.symm, h1.symm, rfl⟩
theorem up_good {r : SR} {j v k : Nat} (h : r.up j = .good v k) : ∃ k', k = j + k' ∧ r = .good v k' := by
  cases r with
  | bad e => cases h
  | good n e => injection h with h1 h2; exact ⟨e, h2.symm, by rw [h1]⟩
theorem up_bad {r : SR} {j k : Nat} (h : r.up j = .bad k) : ∃ k', k = j + k' ∧ r = .bad k' := by
  cases r with
  | good n e => cases h
  | bad e => injection h with h1; exact ⟨e, h1.symm, rfl⟩
/-- What may stand behind a lexeme that stays as it is. -/
def Stop (r l : List UInt8) : Prop := r = [] ∨ r.head? = some 32 ∨ r.head? = l.head?
theorem isL_head {r l : List UInt8} (h : r.head? = l.head?) (k : Int) : isL r k = isL l k := by
  cases r with
  | nil => cases l with | nil => rfl | cons _ _ => cases h
  | cons u r => cases l with
    | nil => cases h
    | cons v l => simp only [List.head?_cons, Option.some.injEq] at h; rw [h]; rfl
theorem isWL_head {r l : List UInt8} (h : r.head? = l.head?) : isWL r = isWL l := by unfold isWL; rw [isL_head h, isL_head h]
theorem isWL_stop {r l : List UInt8} (h : Stop r l) (hl : isWL l = false) : isWL r = false := by
  rcases h with rfl | h | h
  · rfl
  · have : isWL r = isWL [32] := isWL_head h
    rw [this]; decide +kernel
  · rw [isWL_head h, hl]
theorem isL4_of {l : List UInt8} (h : isWL l = false) : isL l 4 = false := by
  unfold isWL at h
  cases c : isL l 4 with
  | false => rfl
  | true => rw [c] at h; cases h
theorem endL_no {l : List UInt8} {n : Nat} (h : isWL l = false) : endL l n = .good n 0 := by unfold endL; rw [h, if_neg (by decide)]
theorem sufL_no {l : List UInt8} {n : Nat} (h : isWL l = false) : sufL l n = .good n 0 := by
  unfold sufL
  rw [isL4_of h, if_neg (by decide), endL_no h]
theorem mulL_good {u : UInt8} {l : List UInt8} {n f v k : Nat} (h : mulL (u :: l) n f = .good v k) : k = 1 ∧ ∀ r, Stop r l → mulL (u :: r) n f = .good v 1 := by
  unfold mulL at h
  by_cases c : n * f < m64
  · rw [if_pos c] at h
    replace h := up_good h; obtain ⟨k', rfl, h⟩ := h
    obtain ⟨rfl, rfl, hw⟩ := endL_good h
    refine ⟨rfl, fun r hr => ?_⟩
    unfold mulL
    rw [if_pos c, List.tail_cons, endL_no (isWL_stop hr hw)]; rfl
  · rw [if_neg c] at h; cases h
theorem sufL_good {l : List UInt8} {n v k : Nat} (h : sufL l n = .good v k) : k ≤ l.length ∧ ∀ r, Stop r (l.drop k) → sufL (l.take k ++ r) n = .good v k := by
  by_cases c : isL l 4 = true
  · cases l with
    | nil => cases c
    | cons u l =>
      have hm : ∀ r, isL (u :: r) 4 = true := fun _ => c
      unfold sufL at h
      rw [c, if_pos rfl, List.headD_cons] at h
      by_cases c1 : u = 77
      · rw [if_pos c1] at h
        obtain ⟨rfl, hr⟩ := mulL_good h
        refine ⟨by simp, fun r q => ?_⟩
        show sufL (u :: r) n = _
        unfold sufL
        rw [hm, if_pos rfl, List.headD_cons, if_pos c1]; exact hr r q
      · rw [if_neg c1] at h
        by_cases c2 : u = 75
        · rw [if_pos c2] at h
          obtain ⟨rfl, hr⟩ := mulL_good h
          refine ⟨by simp, fun r q => ?_⟩
          show sufL (u :: r) n = _
          unfold sufL
          rw [hm, if_pos rfl, List.headD_cons, if_neg c1, if_pos c2]; exact hr r q
        · rw [if_neg c2] at h; cases h
  · unfold sufL at h
    rw [if_neg c] at h
    obtain ⟨rfl, rfl, hw⟩ := endL_good h
    refine ⟨Nat.zero_le _, fun r hr => ?_⟩
    exact sufL_no (isWL_stop hr hw)
theorem isWL_3 {u : UInt8} {r : List UInt8} (h : clsI u = 3) : isWL (u :: r) = true := by simp [isWL, isL, h]
theorem decL_suf {l : List UInt8} (h : isL l 3 = false) (n : Nat) : decL l n = sufL l n := by
  cases l with
  | nil => rfl
  | cons u r =>
    unfold decL
    rw [if_neg (fun q => by simp [isL, q] at h)]
theorem sufL_zero {l : List UInt8} {n v : Nat} (h : sufL l n = .good v 0) : isWL l = false := by
  unfold sufL at h
  by_cases c : isL l 4 = true
  · rw [if_pos c] at h
    have hm : ∀ f, mulL l n f ≠ .good v 0 := fun f q => by
      unfold mulL at q
      split at q
      · obtain ⟨k', e, _⟩ := up_good q; omega
      · cases q
    split at h
    · exact absurd h (hm _)
    · split at h
      · exact absurd h (hm _)
      · cases h
  · rw [if_neg c] at h
    exact (endL_good h).2.2
theorem isL3_of {l : List UInt8} (h : isWL l = false) : isL l 3 = false := by
  unfold isWL at h
  cases c : isL l 3 with
  | false => rfl
  | true => rw [c, Bool.or_true] at h; cases h
theorem isL_take {l : List UInt8} {k : Nat} (h : 0 < k) (r : List UInt8) (hl : l ≠ []) (q : Int) : isL (l.take k ++ r) q = isL l q := by
  obtain ⟨k, rfl⟩ : ∃ j, k = j + 1 := ⟨k - 1, by omega⟩
  cases l with
  | nil => exact absurd rfl hl
  | cons u l => rfl
theorem decL_good : ∀ {l : List UInt8} {n v k : Nat}, decL l n = .good v k → k ≤ l.length ∧ ∀ r, Stop r (l.drop k) → decL (l.take k ++ r) n = .good v k
  | [], n, v, k, h => by
    have h : sufL [] n = .good v k := h
    have h0 : sufL [] n = .good n 0 := rfl
    rw [h0] at h
    injection h with h1 h2
    subst h1; subst h2
    refine ⟨Nat.le_refl _, fun r hr => ?_⟩
    have hw := isWL_stop hr (rfl : isWL [] = false)
    show decL r n = _
    rw [decL_suf (isL3_of hw), sufL_no hw]
  | u :: l, n, v, k, h => by
    unfold decL at h
    by_cases c : clsI u = 3
    · rw [if_pos c] at h
      by_cases o : n * 10 + dg u < m64
      · rw [if_pos o] at h
        replace h := up_good h; obtain ⟨k', rfl, h⟩ := h
        obtain ⟨h1, h2⟩ := decL_good h
        refine ⟨by simp; omega, fun r hr => ?_⟩
        rw [Nat.add_comm 1 k'] at hr ⊢
        rw [List.drop_succ_cons] at hr
        rw [List.take_succ_cons, List.cons_append, decL, if_pos c, if_pos o, h2 r hr, Nat.add_comm k' 1]; rfl
      · rw [if_neg o] at h; cases h
    · rw [if_neg c] at h
      obtain ⟨h1, h2⟩ := sufL_good h
      refine ⟨h1, fun r hr => ?_⟩
      rw [← h2 r hr]
      refine decL_suf ?_ n
      by_cases hk : 0 < k
      · rw [isL_take hk r (by simp)]; simp [isL, c]
      · obtain rfl : k = 0 := by omega
        exact isL3_of (isWL_stop hr (sufL_zero h))
theorem hex_word {u : UInt8} (h : hexT u.toNat < 16) : isWL [u] = true := by
  have : ∀ n : Nat, n < 256 → hexT n < 16 → isWL [UInt8.ofNat n] = true := by
    have hall : (List.range 256).all (fun n => !decide (hexT n < 16) || isWL [UInt8.ofNat n]) = true := by decide +kernel
    intro n hn hh
    have := List.all_eq_true.mp hall n (List.mem_range.mpr hn)
    simpa [hh] using this
  have := this u.toNat u.toNat_lt h
  simpa using this
theorem hexL_no {l : List UInt8} (h : isWL l = false) (n : Nat) : hexL false l n = .good n 0 := by
  cases l with
  | nil => exact sufL_no h
  | cons u r =>
    unfold hexL
    have : ¬ hexT u.toNat < 16 := fun q => by
      have e : isWL (u :: r) = isWL [u] := isWL_head rfl
      rw [e, hex_word q] at h; cases h
    rw [if_neg this, if_neg (by decide), sufL_no h]
theorem hexL_good : ∀ {fr : Bool} {l : List UInt8} {n v k : Nat}, hexL fr l n = .good v k → (fr = true → 0 < k) ∧ k ≤ l.length ∧ ∀ r, Stop r (l.drop k) → hexL fr (l.take k ++ r) n = .good v k
  | true, [], n, v, k, h => by cases h
  | false, [], n, v, k, h => by
    have h : sufL [] n = .good v k := h
    have h0 : sufL [] n = .good n 0 := rfl
    rw [h0] at h
    injection h with h1 h2
    subst h1; subst h2
    exact ⟨fun q => (by cases q), Nat.le_refl _, fun r hr => hexL_no (isWL_stop hr (rfl : isWL [] = false)) _⟩
  | fr, u :: l, n, v, k, h => by
    unfold hexL at h
    by_cases c : hexT u.toNat < 16
    · rw [if_pos c] at h
      by_cases o : n * 16 + (hexT u.toNat).toNat < m64
      · rw [if_pos o] at h
        replace h := up_good h; obtain ⟨k', rfl, h⟩ := h
        obtain ⟨_, h1, h2⟩ := hexL_good h
        refine ⟨fun _ => by omega, by simp; omega, fun r hr => ?_⟩
        rw [Nat.add_comm 1 k'] at hr ⊢
        rw [List.drop_succ_cons] at hr
        rw [List.take_succ_cons, List.cons_append, hexL, if_pos c, if_pos o, h2 r hr, Nat.add_comm k' 1]; rfl
      · rw [if_neg o] at h; cases h
    · rw [if_neg c] at h
      cases fr with
      | true => cases h
      | false =>
        rw [if_neg (by decide)] at h
        obtain ⟨h1, h2⟩ := sufL_good h
        refine ⟨fun q => (by cases q), h1, fun r hr => ?_⟩
        by_cases hk : 0 < k
        · rw [← h2 r hr]
          obtain ⟨k, rfl⟩ : ∃ j, k = j + 1 := ⟨k - 1, by omega⟩
          rw [List.take_succ_cons, List.cons_append, hexL, if_neg c, if_neg (by decide)]
        · obtain rfl : k = 0 := by omega
          have hw := sufL_zero h
          have := (endL_good (by
            have e := sufL_no (n := n) hw
            rw [e] at h
            rw [endL_no hw]; exact h : endL (u :: l) n = .good v 0)).2.1
          subst this
          exact hexL_no (isWL_stop hr hw) _
theorem intL_good {l : List UInt8} {v k : Nat} (hd : isL l 3 = true) (h : intL l = .good v k) : 0 < k ∧ k ≤ l.length ∧ ∀ r, Stop r (l.drop k) → intL (l.take k ++ r) = .good v k := by
  have pos : ∀ l, isL l 3 = true → decL l 0 = .good v k → 0 < k := fun l hd h => by
    cases l with
    | nil => cases hd
    | cons u l =>
      have c : clsI u = 3 := by simpa [isL] using hd
      unfold decL at h
      rw [if_pos c] at h
      split at h
      · obtain ⟨k', rfl, _⟩ := up_good h; omega
      · cases h
  match l, hd, h with
  | [], hd, _ => cases hd
  | [u], hd, h =>
    have h : decL [u] 0 = .good v k := h
    have hk := pos _ hd h
    obtain ⟨h1, h2⟩ := decL_good h
    refine ⟨hk, h1, fun r hr => ?_⟩
    obtain rfl : k = 1 := by simp at h1; omega
    rw [← h2 r hr]
    show intL (u :: r) = decL (u :: r) 0
    cases r with
    | nil => rfl
    | cons x r =>
      have hx : x ≠ 120 := fun q => by
        subst q
        rcases hr with q | q | q
        · cases q
        · exact absurd (Option.some.inj q) (by decide)
        · cases q
      rw [intL_two, if_neg (fun q => hx q.2)]
  | u :: w :: l, hd, h =>
    rw [intL_two] at h
    by_cases c : u = 48 ∧ w = 120
    · rw [if_pos c] at h
      obtain ⟨k', rfl, hq⟩ := up_good h
      obtain ⟨_, h1, h2⟩ := hexL_good hq
      refine ⟨by omega, by simp; omega, fun r hr => ?_⟩
      rw [Nat.add_comm 2 k'] at hr ⊢
      have hr : Stop r (l.drop k') := hr
      rw [show (u :: w :: l).take (k' + 2) ++ r = u :: w :: (l.take k' ++ r) from rfl, intL_two, if_pos c, h2 r hr, Nat.add_comm k' 2]; rfl
    · rw [if_neg c] at h
      have hk := pos _ hd h
      obtain ⟨h1, h2⟩ := decL_good h
      refine ⟨hk, h1, fun r hr => ?_⟩
      rw [← h2 r hr]
      by_cases k1 : k = 1
      · subst k1
        show intL (u :: r) = decL (u :: r) 0
        cases r with
        | nil => rfl
        | cons x r =>
          rw [intL_two]
          refine if_neg fun q => ?_
          rcases hr with z | z | z
          · cases z
          · rw [q.2] at z; exact absurd (Option.some.inj z) (by decide)
          · rw [q.2] at z
            have : w = 120 := (Option.some.inj z).symm
            exact c ⟨q.1, this⟩
      · obtain ⟨k, rfl⟩ : ∃ j, k = j + 2 := ⟨k - 2, by omega⟩
        rw [show (u :: w :: l).take (k + 2) ++ r = u :: w :: (l.take k ++ r) from rfl, intL_two, if_neg c]
theorem runL_le : ∀ l : List UInt8, runL l ≤ l.length
  | [] => Nat.le_refl _
  | u :: r => by
    unfold runL
    have := runL_le r
    split <;> simp; omega
theorem runL_stop : ∀ (l r : List UInt8), Stop r (l.drop (runL l)) → runL (l.take (runL l) ++ r) = runL l
  | [], r, hr => by
    have hw := isWL_stop hr (rfl : isWL [] = false)
    show runL r = 0
    cases r with
    | nil => rfl
    | cons u r => unfold runL; rw [hw, if_neg (by decide)]
  | u :: l, r, hr => by
    by_cases c : isWL (u :: l) = true
    · have e : runL (u :: l) = runL l + 1 := by rw [runL, if_pos c]
      rw [e] at hr ⊢
      rw [List.take_succ_cons, List.cons_append, runL]
      have c' : isWL (u :: (l.take (runL l) ++ r)) = true := by rw [isWL_head (r := u :: (l.take (runL l) ++ r)) (l := u :: l) rfl]; exact c
      rw [if_pos c', runL_stop l r hr]
    · have e : runL (u :: l) = 0 := by rw [runL, if_neg c]
      rw [e] at hr ⊢
      have hw := isWL_stop hr (by simpa using c : isWL (u :: l) = false)
      show runL r = 0
      cases r with
      | nil => rfl
      | cons x r => unfold runL; rw [hw, if_neg (by decide)]
theorem wordL_good {l : List UInt8} {kd n : Int} {w : ByteArray} {k : Nat} (hd : isL l 4 = true) (h : wordL l = .good kd n w k) : 0 < k ∧ k ≤ l.length ∧ ∀ r, Stop r (l.drop k) → wordL (l.take k ++ r) = .good kd n w k := by
  unfold wordL at h
  by_cases c : runL l ≤ 32
  · rw [if_pos c] at h
    injection h with h1 h2 h3 h4
    subst h4
    have hp : 0 < runL l := by
      cases l with
      | nil => cases hd
      | cons u l =>
        have : isWL (u :: l) = true := by unfold isWL; rw [hd]; rfl
        rw [runL, if_pos this]; omega
    refine ⟨hp, runL_le l, fun r hr => ?_⟩
    have hl := runL_le l
    unfold wordL
    rw [runL_stop l r hr, if_pos c, h2.symm]
    have e : (l.take (runL l) ++ r).take (runL l) = l.take (runL l) := by
      rw [List.take_append_of_le_length (by rw [List.length_take]; omega), List.take_take, Nat.min_self]
    rw [e, h1, h3]
  · rw [if_neg c] at h; cases h
end Go.Am
/- A lexeme is told by its own bytes; a wrong byte by what stands up to it; what stands ahead can be gone on with. -/
namespace Go.Am
inductive XT where
  | fin (r : XR)
  | go (o : List UInt8) (j : Nat)
def stepL : List UInt8 → XT
  | [] => .fin (.bad 0)
  | u :: r =>
    if u = 34 then .fin (.good [] 1)
    else if u = 92 then
      (match r with
      | [] => .fin (.bad 1)
      | v :: r =>
        if v = 110 then .go [10] 2
        else if v = 116 then .go [9] 2
        else if v = 34 then .go [34] 2
        else if v = 92 then .go [92] 2
        else if v = 120 then
          (match r with
          | [] => .fin (.bad 2)
          | x :: r =>
            if hexT x.toNat = 16 then .fin (.bad 2)
            else (match r with
              | [] => .fin (.bad 3)
              | y :: _ => if hexT y.toNat = 16 then .fin (.bad 3) else .go [UInt8.ofNat (hexN x * 16 + hexN y)] 4))
        else .fin (.bad 1))
    else if u.toNat < 32 ∨ 126 < u.toNat then .fin (.bad 0)
    else .go [u] 1
theorem textL_step (l : List UInt8) : textL l = match stepL l with | .fin r => r | .go o j => (textL (l.drop j)).up o j := by
  cases l with
  | nil => rfl
  | cons u r =>
    conv => lhs; unfold textL
    conv => rhs; rw [stepL.eq_def]
    dsimp only
    by_cases c1 : u = 34
    · rw [if_pos c1, if_pos c1]
    rw [if_neg c1, if_neg c1]
    by_cases c2 : u = 92
    · rw [if_pos c2, if_pos c2]
      cases r with
      | nil => rfl
      | cons v r =>
        simp only
        by_cases d1 : v = 110
        · rw [if_pos d1, if_pos d1]; rfl
        rw [if_neg d1, if_neg d1]
        by_cases d2 : v = 116
        · rw [if_pos d2, if_pos d2]; rfl
        rw [if_neg d2, if_neg d2]
        by_cases d3 : v = 34
        · rw [if_pos d3, if_pos d3]; rfl
        rw [if_neg d3, if_neg d3]
        by_cases d4 : v = 92
        · rw [if_pos d4, if_pos d4]; rfl
        rw [if_neg d4, if_neg d4]
        by_cases d5 : v = 120
        · rw [if_pos d5, if_pos d5]
          cases r with
          | nil => rfl
          | cons x r =>
            simp only
            by_cases f1 : hexT x.toNat = 16
            · rw [if_pos f1, if_pos f1]
            rw [if_neg f1, if_neg f1]
            cases r with
            | nil => rfl
            | cons y r =>
              simp only
              by_cases f2 : hexT y.toNat = 16
              · rw [if_pos f2, if_pos f2]
              · rw [if_neg f2, if_neg f2]; rfl
        · rw [if_neg d5, if_neg d5]
    · rw [if_neg c2, if_neg c2]
      by_cases c3 : u.toNat < 32 ∨ 126 < u.toNat
      · rw [if_pos c3, if_pos c3]
      · rw [if_neg c3, if_neg c3]; rfl
/-- What a text's next byte can be. -/
theorem stepL_case (l : List UInt8) :
    (l = [] ∧ stepL l = .fin (.bad 0)) ∨ (∃ r, l = 34 :: r ∧ stepL l = .fin (.good [] 1)) ∨
    (l = [92] ∧ stepL l = .fin (.bad 1)) ∨ (∃ v r, l = 92 :: v :: r ∧ (∀ r', stepL (92 :: v :: r') = .fin (.bad 1))) ∨
    (∃ v r o, l = 92 :: v :: r ∧ (∀ r', stepL (92 :: v :: r') = .go o 2)) ∨
    (l = [92, 120] ∧ stepL l = .fin (.bad 2)) ∨ (∃ x r, l = 92 :: 120 :: x :: r ∧ (∀ r', stepL (92 :: 120 :: x :: r') = .fin (.bad 2))) ∨
    (∃ x, hexT x.toNat ≠ 16 ∧ l = [92, 120, x] ∧ stepL l = .fin (.bad 3)) ∨ (∃ x y r, hexT x.toNat ≠ 16 ∧ l = 92 :: 120 :: x :: y :: r ∧ (∀ r', stepL (92 :: 120 :: x :: y :: r') = .fin (.bad 3))) ∨
    (∃ x y r o, l = 92 :: 120 :: x :: y :: r ∧ (∀ r', stepL (92 :: 120 :: x :: y :: r') = .go o 4)) ∨
    (∃ u r, l = u :: r ∧ (∀ r', stepL (u :: r') = .fin (.bad 0))) ∨ (∃ u r, l = u :: r ∧ (∀ r', stepL (u :: r') = .go [u] 1)) := by
  cases l with
  | nil => exact .inl ⟨rfl, rfl⟩
  | cons u r =>
    right
    by_cases c1 : u = 34
    · subst c1; exact .inl ⟨r, rfl, rfl⟩
    right
    by_cases c2 : u = 92
    · subst c2
      cases r with
      | nil => exact .inl ⟨rfl, rfl⟩
      | cons v r =>
        right
        by_cases d1 : v = 110
        · subst d1; exact .inr (.inl ⟨_, r, _, rfl, fun _ => rfl⟩)
        by_cases d2 : v = 116
        · subst d2; exact .inr (.inl ⟨_, r, _, rfl, fun _ => rfl⟩)
        by_cases d3 : v = 34
        · subst d3; exact .inr (.inl ⟨_, r, _, rfl, fun _ => rfl⟩)
        by_cases d4 : v = 92
        · subst d4; exact .inr (.inl ⟨_, r, _, rfl, fun _ => rfl⟩)
        by_cases d5 : v = 120
        · subst d5
          right; right
          cases r with
          | nil => exact .inl ⟨rfl, rfl⟩
          | cons x r =>
            right
            by_cases f1 : hexT x.toNat = 16
            · refine .inl ⟨x, r, rfl, fun r' => ?_⟩
              have e : stepL (92 :: 120 :: x :: r') = if hexT x.toNat = 16 then .fin (.bad 2) else (match r' with | [] => .fin (.bad 3) | y :: _ => if hexT y.toNat = 16 then .fin (.bad 3) else .go [UInt8.ofNat (hexN x * 16 + hexN y)] 4) := rfl
              rw [e, if_pos f1]
            right
            cases r with
            | nil =>
              refine .inl ⟨x, f1, rfl, ?_⟩
              have e : stepL [92, 120, x] = if hexT x.toNat = 16 then .fin (.bad 2) else .fin (.bad 3) := rfl
              rw [e, if_neg f1]
            | cons y r =>
              right
              have e : ∀ r', stepL (92 :: 120 :: x :: y :: r') = if hexT x.toNat = 16 then .fin (.bad 2) else if hexT y.toNat = 16 then .fin (.bad 3) else .go [UInt8.ofNat (hexN x * 16 + hexN y)] 4 := fun _ => rfl
              by_cases f2 : hexT y.toNat = 16
              · exact .inl ⟨x, y, r, f1, rfl, fun r' => by rw [e, if_neg f1, if_pos f2]⟩
              · exact .inr (.inl ⟨x, y, r, _, rfl, fun r' => by rw [e, if_neg f1, if_neg f2]⟩)
        · refine .inl ⟨v, r, rfl, fun r' => ?_⟩
          have e : stepL (92 :: v :: r') = if v = 110 then .go [10] 2 else if v = 116 then .go [9] 2 else if v = 34 then .go [34] 2 else if v = 92 then .go [92] 2 else if v = 120 then (match r' with | [] => .fin (.bad 2) | x :: r => if hexT x.toNat = 16 then .fin (.bad 2) else (match r with | [] => .fin (.bad 3) | y :: _ => if hexT y.toNat = 16 then .fin (.bad 3) else .go [UInt8.ofNat (hexN x * 16 + hexN y)] 4)) else .fin (.bad 1) := rfl
          rw [e, if_neg d1, if_neg d2, if_neg d3, if_neg d4, if_neg d5]
    · right; right; right; right; right; right; right; right
      have e : ∀ r', stepL (u :: r') = if u.toNat < 32 ∨ 126 < u.toNat then .fin (.bad 0) else .go [u] 1 := fun r' => by rw [stepL.eq_def]; dsimp only; rw [if_neg c1, if_neg c2]
      by_cases c3 : u.toNat < 32 ∨ 126 < u.toNat
      · exact .inl ⟨u, r, rfl, fun r' => by rw [e, if_pos c3]⟩
      · exact .inr ⟨u, r, rfl, fun r' => by rw [e, if_neg c3]⟩
theorem upx_good {r : XR} {o w : List UInt8} {j k : Nat} (h : r.up o j = .good w k) : ∃ w' k', w = o ++ w' ∧ k = j + k' ∧ r = .good w' k' := by
  cases r with
  | bad e => cases h
  | good n e => injection h with h1 h2; exact ⟨n, e, h1.symm, h2.symm, rfl⟩
theorem upx_bad {r : XR} {o : List UInt8} {j k : Nat} (h : r.up o j = .bad k) : ∃ k', k = j + k' ∧ r = .bad k' := by
  cases r with
  | good n e => cases h
  | bad e => injection h with h1; exact ⟨e, h1.symm, rfl⟩
def ends4 : List (List UInt8) := [[34], [110, 34], [48, 48, 34], [48, 34]]
/-- What a text's reading comes to is told by its bytes. -/
theorem textL_local : ∀ (m : Nat) (l : List UInt8), l.length ≤ m →
    (∀ w k, textL l = .good w k → 0 < k ∧ k ≤ l.length ∧ ∀ r, textL (l.take k ++ r) = .good w k) ∧
    (∀ k, textL l = .bad k → k ≤ l.length ∧ (k < l.length → ∀ r, textL (l.take (k + 1) ++ r) = .bad k) ∧ ∃ t ∈ ends4, ∃ w, textL (l.take k ++ t) = .good w (k + t.length)) := by
  intro m
  induction m with
  | zero =>
    intro l hl
    have : l = [] := List.length_eq_zero_iff.mp (by omega)
    subst this
    refine ⟨fun w k h => (by cases h), fun k h => ?_⟩
    have h : XR.bad 0 = .bad k := h
    injection h with h
    subst h
    exact ⟨Nat.le_refl _, fun h => absurd h (by simp), [34], by simp [ends4], [], rfl⟩
  | succ m ih =>
    intro l hl
    have fin_good : ∀ {l w k}, stepL l = .fin (.good w k) → textL l = .good w k := fun h => by rw [textL_step, h]
    have fin_bad : ∀ {l k}, stepL l = .fin (.bad k) → textL l = .bad k := fun h => by rw [textL_step, h]
    have go_ : ∀ {l o j}, stepL l = .go o j → textL l = (textL (l.drop j)).up o j := fun h => by rw [textL_step, h]
    have step : ∀ (j : Nat) (o : List UInt8), 0 < j → j ≤ l.length → (∀ r, stepL (l.take j ++ r) = .go o j) →
        (∀ w k, textL l = .good w k → 0 < k ∧ k ≤ l.length ∧ ∀ r, textL (l.take k ++ r) = .good w k) ∧
        (∀ k, textL l = .bad k → k ≤ l.length ∧ (k < l.length → ∀ r, textL (l.take (k + 1) ++ r) = .bad k) ∧ ∃ t ∈ ends4, ∃ w, textL (l.take k ++ t) = .good w (k + t.length)) := by
      intro j o hj hjl hs
      have hlj : (l.drop j).length = l.length - j := List.length_drop
      obtain ⟨i1, i2⟩ := ih (l.drop j) (by omega)
      have h0 : textL l = (textL (l.drop j)).up o j := by
        have := hs (l.drop j)
        rw [List.take_append_drop] at this
        exact go_ this
      have app : ∀ q, textL (l.take j ++ q) = (textL q).up o j := fun q => by
        rw [go_ (hs q)]
        congr 1
        rw [List.drop_append_of_le_length (by rw [List.length_take]; omega), List.drop_eq_nil_of_le (by rw [List.length_take]; omega), List.nil_append]
      have split_ : ∀ k', l.take (j + k') = l.take j ++ (l.drop j).take k' := fun k' => List.take_add
      refine ⟨fun w k h => ?_, fun k h => ?_⟩
      · rw [h0] at h
        replace h := upx_good h; obtain ⟨w', k', rfl, rfl, h⟩ := h
        obtain ⟨_, a2, a3⟩ := i1 w' k' h
        refine ⟨by omega, by omega, fun r => ?_⟩
        rw [split_, List.append_assoc, app, a3]; rfl
      · rw [h0] at h
        replace h := upx_bad h; obtain ⟨k', rfl, h⟩ := h
        obtain ⟨b1, b2, t, ht, w, b3⟩ := i2 k' h
        refine ⟨by omega, fun hk r => ?_, t, ht, o ++ w, ?_⟩
        · rw [Nat.add_assoc, split_, List.append_assoc, app, b2 (by omega)]; rfl
        · rw [split_, List.append_assoc, app, b3, Nat.add_assoc]; rfl
    have bad_ : ∀ (k : Nat) (t : List UInt8) (w : List UInt8), stepL l = .fin (.bad k) → k ≤ l.length → (k < l.length → ∀ r, stepL (l.take (k + 1) ++ r) = .fin (.bad k)) → t ∈ ends4 → textL (l.take k ++ t) = .good w (k + t.length) →
        (∀ w k, textL l = .good w k → 0 < k ∧ k ≤ l.length ∧ ∀ r, textL (l.take k ++ r) = .good w k) ∧
        (∀ k, textL l = .bad k → k ≤ l.length ∧ (k < l.length → ∀ r, textL (l.take (k + 1) ++ r) = .bad k) ∧ ∃ t ∈ ends4, ∃ w, textL (l.take k ++ t) = .good w (k + t.length)) := by
      intro k t w hs hk hr ht hw
      have h0 := fin_bad hs
      refine ⟨fun w k h => (by rw [h0] at h; cases h), fun k' h => ?_⟩
      rw [h0] at h
      injection h with h
      subst h
      exact ⟨hk, fun q r => fin_bad (hr q r), t, ht, w, hw⟩
    rcases stepL_case l with ⟨rfl, h⟩ | ⟨r, rfl, h⟩ | ⟨rfl, h⟩ | ⟨v, r, rfl, h⟩ | ⟨v, r, o, rfl, h⟩ | ⟨rfl, h⟩ | ⟨x, r, rfl, h⟩ | ⟨x, hx, rfl, h⟩ | ⟨x, y, r, hx, rfl, h⟩ | ⟨x, y, r, o, rfl, h⟩ | ⟨u, r, rfl, h⟩ | ⟨u, r, rfl, h⟩
    · exact bad_ 0 [34] [] h (Nat.zero_le _) (fun q => by simp at q) (by simp [ends4]) rfl
    · refine ⟨fun w k q => ?_, fun k q => (by rw [fin_good h] at q; cases q)⟩
      rw [fin_good h] at q
      injection q with q1 q2
      subst q1; subst q2
      exact ⟨by decide, by simp, fun r => fin_good rfl⟩
    · exact bad_ 1 [110, 34] [10] h (by simp) (fun q => by simp at q) (by simp [ends4]) rfl
    · exact bad_ 1 [110, 34] [10] (h r) (by simp) (fun q r' => h r') (by simp [ends4]) rfl
    · exact step 2 o (by decide) (by simp) (fun r' => h r')
    · exact bad_ 2 [48, 48, 34] [UInt8.ofNat (hexN 48 * 16 + hexN 48)] h (by simp) (fun q => by simp at q) (by simp [ends4]) rfl
    · exact bad_ 2 [48, 48, 34] [UInt8.ofNat (hexN 48 * 16 + hexN 48)] (h r) (by simp) (fun q r' => h r') (by simp [ends4]) rfl
    · refine bad_ 3 [48, 34] [UInt8.ofNat (hexN x * 16 + hexN 48)] h (by simp) (fun q => by simp at q) (by simp [ends4]) ?_
      show textL [92, 120, x, 48, 34] = _
      have e : stepL [92, 120, x, 48, 34] = .go [UInt8.ofNat (hexN x * 16 + hexN 48)] 4 := by
        have e : stepL [92, 120, x, 48, 34] = if hexT x.toNat = 16 then .fin (.bad 2) else .go [UInt8.ofNat (hexN x * 16 + hexN 48)] 4 := rfl
        rw [e, if_neg hx]
      rw [go_ e]; rfl
    · refine bad_ 3 [48, 34] [UInt8.ofNat (hexN x * 16 + hexN 48)] (h r) (by simp) (fun q r' => h r') (by simp [ends4]) ?_
      show textL [92, 120, x, 48, 34] = _
      have e : stepL [92, 120, x, 48, 34] = .go [UInt8.ofNat (hexN x * 16 + hexN 48)] 4 := by
        have e : stepL [92, 120, x, 48, 34] = if hexT x.toNat = 16 then .fin (.bad 2) else .go [UInt8.ofNat (hexN x * 16 + hexN 48)] 4 := rfl
        rw [e, if_neg hx]
      rw [go_ e]; rfl
    · exact step 4 o (by decide) (by simp) (fun r' => h r')
    · exact bad_ 0 [34] [] (h r) (Nat.zero_le _) (fun q r' => h r') (by simp [ends4]) rfl
    · exact step 1 [u] (by decide) (by simp) (fun r' => h r')
/-- Signs. -/
theorem sg_two (u v : Int) : (signR u v).2 = 1 ∨ ((signR u v).2 = 2 ∧ v ≠ 0) := by
  unfold signR
  repeat' split
  all_goals first | exact .inl rfl | (refine .inr ⟨rfl, ?_⟩; omega)
theorem sg_one {u v v' : Int} (h0 : (signR u v).1 ≠ 0) (h1 : (signR u v).2 = 1) (hv : v' = 0 ∨ v' = 32 ∨ v' = v) : signR u v' = signR u v := by
  rcases hv with rfl | rfl | rfl
  · revert h0 h1
    unfold signR
    repeat' split
    all_goals first | (exfalso; omega) | (intro _ _; rfl) | (intro a _; exact absurd rfl a) | (intro _ b; exact absurd b (by decide))
  · revert h0 h1
    unfold signR
    repeat' split
    all_goals first | (exfalso; omega) | (intro _ _; rfl) | (intro a _; exact absurd rfl a) | (intro _ b; exact absurd b (by decide))
  · rfl
theorem sg_bad {u v : Int} (h0 : (signR u v).1 = 0) : (signR u v).2 = 1 ∧ ((u = 46 ∧ signR u 46 = (12, 2)) ∨ (u = 33 ∧ signR u 61 = (15, 2))) := by
  by_cases c1 : u = 46
  · subst c1
    by_cases c : v = 46
    · subst c; exact absurd h0 (by decide +kernel)
    · have e : signR 46 v = (0, 1) := by unfold signR; rw [if_pos rfl, if_neg c]
      exact ⟨by rw [e], .inl ⟨rfl, by decide +kernel⟩⟩
  by_cases c2 : u = 33
  · subst c2
    by_cases c : v = 61
    · subst c; exact absurd h0 (by decide +kernel)
    · have e : signR 33 v = (0, 1) := by unfold signR; rw [if_neg (by decide), if_pos rfl, if_neg c]
      exact ⟨by rw [e], .inr ⟨rfl, by decide +kernel⟩⟩
  exfalso
  revert h0
  unfold signR
  rw [if_neg c1, if_neg c2]
  repeat' split
  all_goals first | (intro h; exact singleT_ne _ h) | (intro h; exact absurd h (by decide))
theorem signL_good {u : UInt8} {t : List UInt8} {kd n : Int} {w : ByteArray} {k : Nat} (h : signL (u :: t) = .good kd n w k) : 0 < k ∧ k ≤ (u :: t).length ∧ ∀ r, Stop r ((u :: t).drop k) → signL ((u :: t).take k ++ r) = .good kd n w k := by
  unfold signL at h
  rw [List.headD_cons] at h
  by_cases c : (signR (u.toNat : Int) (nextL (u :: t))).1 = 0
  · rw [if_pos c] at h; cases h
  rw [if_neg c] at h
  injection h with h1 h2 h3 h4
  rcases sg_two (u.toNat : Int) (nextL (u :: t)) with q | ⟨q, hv⟩
  · rw [q] at h4
    subst h4
    refine ⟨by decide, by simp, fun r hr => ?_⟩
    show signL (u :: r) = _
    have hn : nextL (u :: r) = 0 ∨ nextL (u :: r) = 32 ∨ nextL (u :: r) = nextL (u :: t) := by
      rcases hr with rfl | hr | hr
      · exact .inl rfl
      · cases r with
        | nil => cases hr
        | cons x r =>
          simp only [List.head?_cons, Option.some.injEq] at hr
          subst hr; exact .inr (.inl rfl)
      · have hr : r.head? = t.head? := hr
        cases r with
        | nil => exact .inl rfl
        | cons x r =>
          cases t with
          | nil => cases hr
          | cons y t =>
            simp only [List.head?_cons, Option.some.injEq] at hr
            subst hr; exact .inr (.inr rfl)
    have e := sg_one c q hn
    unfold signL
    rw [List.headD_cons, e, if_neg c, h1, h2, h3, q]
  · rw [q] at h4
    subst h4
    cases t with
    | nil => exact absurd rfl hv
    | cons v t =>
      refine ⟨by decide, by simp, fun r _ => ?_⟩
      show signL (u :: v :: r) = _
      have e : nextL (u :: v :: r) = nextL (u :: v :: t) := rfl
      unfold signL
      rw [List.headD_cons, e, if_neg c, h1, h2, h3, q]
theorem signL_bad {u : UInt8} {t : List UInt8} {k : Nat} (h : signL (u :: t) = .bad k) :
    k = 1 ∧ (1 < (u :: t).length → ∀ r, signL ((u :: t).take 2 ++ r) = .bad 1) ∧ ((∃ kd n w, signL [u, 46] = .good kd n w 2) ∨ (∃ kd n w, signL [u, 61] = .good kd n w 2)) := by
  unfold signL at h
  rw [List.headD_cons] at h
  by_cases c : (signR (u.toNat : Int) (nextL (u :: t))).1 = 0
  · rw [if_pos c] at h
    obtain ⟨q, hu⟩ := sg_bad c
    injection h with h
    rw [q] at h
    refine ⟨h.symm, fun hl r => ?_, ?_⟩
    · cases t with
      | nil => simp at hl
      | cons v t =>
        show signL (u :: v :: r) = _
        have e : nextL (u :: v :: r) = nextL (u :: v :: t) := rfl
        unfold signL
        rw [List.headD_cons, e, if_pos c, q]
    · rcases hu with ⟨_, e⟩ | ⟨_, e⟩
      · refine .inl ⟨12, 0, .empty, ?_⟩
        unfold signL
        have n : nextL [u, 46] = 46 := rfl
        rw [List.headD_cons, n, e, if_neg (by decide)]
      · refine .inr ⟨15, 0, .empty, ?_⟩
        unfold signL
        have n : nextL [u, 61] = 61 := rfl
        rw [List.headD_cons, n, e, if_neg (by decide)]
  · rw [if_neg c] at h; cases h
end Go.Am
/- A lexeme at a place: kept where its bytes are; a wrong byte: kept where the bytes up to it are; what stands ahead of it can be gone on with. -/
namespace Go.Am
theorem endL_bad {l : List UInt8} {n k : Nat} (h : endL l n = .bad k) : k = 0 ∧ isWL l = true := by
  unfold endL at h
  cases c : isWL l with
  | true => rw [c, if_pos rfl] at h; injection h with h; exact ⟨h.symm, rfl⟩
  | false => rw [c, if_neg (by decide)] at h; cases h
theorem isWL_ne {l : List UInt8} (h : isWL l = true) : l ≠ [] := fun e => by subst e; cases h
theorem endL_yes {l : List UInt8} {n : Nat} (h : isWL l = true) : endL l n = .bad 0 := by unfold endL; rw [h, if_pos rfl]
theorem isWL_take {l : List UInt8} (h : isWL l = true) (r : List UInt8) : isWL (l.take 1 ++ r) = true := by
  cases l with
  | nil => cases h
  | cons u l => exact h
theorem mulL_bad {u : UInt8} {l : List UInt8} {n f k : Nat} (h : mulL (u :: l) n f = .bad k) :
    k < (u :: l).length ∧ (∀ r, mulL ((u :: l).take (k + 1) ++ r) n f = .bad k) ∧ (k = 0 ∨ (k = 1 ∧ ∃ v, mulL [u] n f = .good v 1)) := by
  unfold mulL at h
  by_cases c : n * f < m64
  · rw [if_pos c] at h
    replace h := up_bad h; obtain ⟨k', rfl, h⟩ := h
    obtain ⟨rfl, hw⟩ := endL_bad h
    rw [List.tail_cons] at hw
    have hne := isWL_ne hw
    refine ⟨?_, fun r => ?_, .inr ⟨rfl, n * f, ?_⟩⟩
    · cases l with
      | nil => exact absurd rfl hne
      | cons _ _ => simp
    · show mulL (u :: (l.take 1 ++ r)) n f = _
      unfold mulL
      rw [if_pos c, List.tail_cons, endL_yes (isWL_take hw r)]; rfl
    · unfold mulL
      rw [if_pos c, List.tail_cons, endL_no rfl]; rfl
  · rw [if_neg c] at h
    injection h with h
    subst h
    refine ⟨by simp, fun r => ?_, .inl rfl⟩
    unfold mulL
    rw [if_neg c]
theorem sufL_bad {l : List UInt8} {n k : Nat} (h : sufL l n = .bad k) : k < l.length ∧ (∀ r, sufL (l.take (k + 1) ++ r) n = .bad k) ∧ ∃ v, sufL (l.take k) n = .good v k := by
  have z : sufL [] n = .good n 0 := rfl
  by_cases c : isL l 4 = true
  · cases l with
    | nil => cases c
    | cons u l =>
      have hm : ∀ r, isL (u :: r) 4 = true := fun _ => c
      unfold sufL at h
      rw [c, if_pos rfl, List.headD_cons] at h
      by_cases c1 : u = 77
      · rw [if_pos c1] at h
        have e : ∀ r, sufL (u :: r) n = mulL (u :: r) n 1048576 := fun r => by unfold sufL; rw [hm, if_pos rfl, List.headD_cons, if_pos c1]
        obtain ⟨h1, h2, h3⟩ := mulL_bad h
        refine ⟨h1, fun r => ?_, ?_⟩
        · have := h2 r
          rw [List.take_succ_cons, List.cons_append] at this ⊢
          rw [e, this]
        · rcases h3 with rfl | ⟨rfl, v, hv⟩
          · exact ⟨n, z⟩
          · exact ⟨v, (e []).trans hv⟩
      · rw [if_neg c1] at h
        by_cases c2 : u = 75
        · rw [if_pos c2] at h
          have e : ∀ r, sufL (u :: r) n = mulL (u :: r) n 1024 := fun r => by unfold sufL; rw [hm, if_pos rfl, List.headD_cons, if_neg c1, if_pos c2]
          obtain ⟨h1, h2, h3⟩ := mulL_bad h
          refine ⟨h1, fun r => ?_, ?_⟩
          · have := h2 r
            rw [List.take_succ_cons, List.cons_append] at this ⊢
            rw [e, this]
          · rcases h3 with rfl | ⟨rfl, v, hv⟩
            · exact ⟨n, z⟩
            · exact ⟨v, (e []).trans hv⟩
        · rw [if_neg c2] at h
          injection h with h
          subst h
          refine ⟨by simp, fun r => ?_, n, z⟩
          show sufL (u :: r) n = _
          unfold sufL
          rw [hm, if_pos rfl, List.headD_cons, if_neg c1, if_neg c2]
  · have h' := h
    unfold sufL at h
    rw [if_neg c] at h
    obtain ⟨rfl, hw⟩ := endL_bad h
    cases l with
    | nil => cases hw
    | cons u l =>
      refine ⟨by simp, fun r => ?_, n, z⟩
      show sufL (u :: r) n = _
      have c' : ¬ isL (u :: r) 4 = true := c
      unfold sufL
      rw [if_neg c']
      exact endL_yes hw
theorem decL_bad : ∀ {l : List UInt8} {n k : Nat}, decL l n = .bad k → k < l.length ∧ (∀ r, decL (l.take (k + 1) ++ r) n = .bad k) ∧ ∃ v, decL (l.take k) n = .good v k
  | [], n, k, h => by
    have h : sufL [] n = .bad k := h
    have z : sufL [] n = .good n 0 := rfl
    rw [z] at h; cases h
  | u :: l, n, k, h => by
    have z : decL [] n = .good n 0 := rfl
    unfold decL at h
    by_cases c : clsI u = 3
    · rw [if_pos c] at h
      by_cases o : n * 10 + dg u < m64
      · rw [if_pos o] at h
        replace h := up_bad h; obtain ⟨k', rfl, h⟩ := h
        obtain ⟨h1, h2, v, h3⟩ := decL_bad h
        refine ⟨by simp; omega, fun r => ?_, v, ?_⟩
        · rw [Nat.add_comm 1 k', List.take_succ_cons, List.cons_append, decL, if_pos c, if_pos o, h2, Nat.add_comm k' 1]; rfl
        · rw [Nat.add_comm 1 k', List.take_succ_cons, decL, if_pos c, if_pos o, h3, Nat.add_comm k' 1]; rfl
      · rw [if_neg o] at h
        injection h with h
        subst h
        refine ⟨by simp, fun r => ?_, n, z⟩
        show decL (u :: r) n = _
        rw [decL, if_pos c, if_neg o]
    · rw [if_neg c] at h
      obtain ⟨h1, h2, v, h3⟩ := sufL_bad h
      refine ⟨h1, fun r => ?_, v, ?_⟩
      · rw [← h2 r]
        refine decL_suf ?_ n
        rw [isL_take (by omega) r (by simp)]; simp [isL, c]
      · rw [← h3]
        refine decL_suf ?_ n
        cases k with
        | zero => rfl
        | succ k => rw [List.take_succ_cons]; simp [isL, c]
theorem hexL_bad : ∀ {fr : Bool} {l : List UInt8} {n k : Nat}, hexL fr l n = .bad k → k ≤ l.length ∧ (k < l.length → ∀ r, hexL fr (l.take (k + 1) ++ r) n = .bad k) ∧ ((fr = true ∧ k = 0) ∨ ∃ v, hexL fr (l.take k) n = .good v k)
  | true, [], n, k, h => by
    have h : SR.bad 0 = .bad k := h
    injection h with h
    subst h
    exact ⟨Nat.le_refl _, fun q => by simp at q, .inl ⟨rfl, rfl⟩⟩
  | false, [], n, k, h => by
    have h : sufL [] n = .bad k := h
    have z : sufL [] n = .good n 0 := rfl
    rw [z] at h; cases h
  | fr, u :: l, n, k, h => by
    have z : hexL false [] n = .good n 0 := rfl
    unfold hexL at h
    by_cases c : hexT u.toNat < 16
    · rw [if_pos c] at h
      by_cases o : n * 16 + (hexT u.toNat).toNat < m64
      · rw [if_pos o] at h
        replace h := up_bad h; obtain ⟨k', rfl, h⟩ := h
        obtain ⟨h1, h2, h3⟩ := hexL_bad h
        refine ⟨by simp; omega, fun q r => ?_, ?_⟩
        · rw [Nat.add_comm 1 k', List.take_succ_cons, List.cons_append, hexL, if_pos c, if_pos o, h2 (by simp at q; omega), Nat.add_comm k' 1]; rfl
        · rcases h3 with ⟨e, _⟩ | ⟨v, h3⟩
          · cases e
          · refine .inr ⟨v, ?_⟩
            rw [Nat.add_comm 1 k', List.take_succ_cons, hexL, if_pos c, if_pos o, h3, Nat.add_comm k' 1]; rfl
      · rw [if_neg o] at h
        injection h with h
        subst h
        refine ⟨Nat.zero_le _, fun q r => ?_, ?_⟩
        · show hexL fr (u :: r) n = _
          rw [hexL, if_pos c, if_neg o]
        · cases fr with
          | true => exact .inl ⟨rfl, rfl⟩
          | false => exact .inr ⟨n, z⟩
    · rw [if_neg c] at h
      cases fr with
      | true =>
        rw [if_pos rfl] at h
        injection h with h
        subst h
        refine ⟨Nat.zero_le _, fun q r => ?_, .inl ⟨rfl, rfl⟩⟩
        show hexL true (u :: r) n = _
        rw [hexL, if_neg c, if_pos rfl]
      | false =>
        rw [if_neg (by decide)] at h
        obtain ⟨h1, h2, v, h3⟩ := sufL_bad h
        refine ⟨by omega, fun q r => ?_, .inr ⟨v, ?_⟩⟩
        · rw [← h2 r, List.take_succ_cons, List.cons_append, hexL, if_neg c, if_neg (by decide)]
        · rw [← h3]
          cases k with
          | zero => rfl
          | succ k => rw [List.take_succ_cons, hexL, if_neg c, if_neg (by decide)]
theorem dg_small (u : UInt8) : dg u < m64 := by
  have := u.toNat_lt
  unfold dg m64
  omega
theorem intL_bad {l : List UInt8} {k : Nat} (hd : isL l 3 = true) (h : intL l = .bad k) :
    0 < k ∧ k ≤ l.length ∧ (k < l.length → ∀ r, intL (l.take (k + 1) ++ r) = .bad k) ∧ ∃ t, (t = [] ∨ t = [48]) ∧ ∃ v, intL (l.take k ++ t) = .good v (k + t.length) := by
  have pos : ∀ l, isL l 3 = true → decL l 0 = .bad k → 0 < k := fun l hd h => by
    cases l with
    | nil => cases hd
    | cons u l =>
      have c : clsI u = 3 := by simpa [isL] using hd
      have o : 0 * 10 + dg u < m64 := by have := dg_small u; omega
      unfold decL at h
      rw [if_pos c, if_pos o] at h
      obtain ⟨k', rfl, _⟩ := up_bad h; omega
  match l, hd, h with
  | [], hd, _ => cases hd
  | [u], hd, h =>
    have h : decL [u] 0 = .bad k := h
    have hk := pos _ hd h
    obtain ⟨h1, _⟩ := decL_bad h
    simp at h1; omega
  | u :: w :: l, hd, h =>
    rw [intL_two] at h
    by_cases c : u = 48 ∧ w = 120
    · rw [if_pos c] at h
      obtain ⟨k', rfl, hq⟩ := up_bad h
      obtain ⟨h1, h2, h3⟩ := hexL_bad hq
      have take2 : ∀ j, (u :: w :: l).take (2 + j) = u :: w :: l.take j := fun j => by rw [Nat.add_comm]; rfl
      refine ⟨by omega, by simp; omega, fun q r => ?_, ?_⟩
      · rw [Nat.add_assoc, take2, List.cons_append, List.cons_append, intL_two, if_pos c, h2 (by simp at q; omega)]; rfl
      · rcases h3 with ⟨_, rfl⟩ | ⟨v, h3⟩
        · refine ⟨[48], .inr rfl, 0, ?_⟩
          show intL (u :: w :: [48]) = _
          rw [intL_two, if_pos c]
          rfl
        · refine ⟨[], .inl rfl, v, ?_⟩
          rw [take2, List.append_nil, intL_two, if_pos c, h3]; rfl
    · rw [if_neg c] at h
      have hk := pos _ hd h
      obtain ⟨h1, h2, v, h3⟩ := decL_bad h
      refine ⟨hk, by omega, fun q r => ?_, [], .inl rfl, v, ?_⟩
      · rw [← h2 r]
        obtain ⟨k, rfl⟩ : ∃ j, k = j + 1 := ⟨k - 1, by omega⟩
        rw [show (u :: w :: l).take (k + 1 + 1) ++ r = u :: w :: (l.take k ++ r) from rfl, intL_two, if_neg c]
      · rw [List.append_nil, List.length_nil, Nat.add_zero, ← h3]
        by_cases k1 : k = 1
        · subst k1; rfl
        · obtain ⟨k, rfl⟩ : ∃ j, k = j + 2 := ⟨k - 2, by omega⟩
          rw [show (u :: w :: l).take (k + 2) = u :: w :: (l.take k) from rfl, intL_two, if_neg c]
theorem runL_ge : ∀ (k : Nat) (l r : List UInt8), k ≤ runL l → k ≤ runL (l.take k ++ r)
  | 0, l, r, _ => Nat.zero_le _
  | k + 1, [], r, h => by have h : k + 1 ≤ 0 := h; omega
  | k + 1, u :: l, r, h => by
    unfold runL at h
    by_cases c : isWL (u :: l) = true
    · rw [if_pos c] at h
      have c' : isWL (u :: (l.take k ++ r)) = true := by rw [isWL_head (r := u :: (l.take k ++ r)) (l := u :: l) rfl]; exact c
      rw [List.take_succ_cons, List.cons_append, runL, if_pos c']
      have := runL_ge k l r (by omega)
      omega
    · rw [if_neg c] at h; omega
theorem wordL_bad {l : List UInt8} {k : Nat} (h : wordL l = .bad k) : k = 32 ∧ 32 < l.length ∧ (∀ r, wordL (l.take 33 ++ r) = .bad 32) ∧ ∃ kd n w, wordL (l.take 32) = .good kd n w 32 := by
  unfold wordL at h
  by_cases c : runL l ≤ 32
  · rw [if_pos c] at h; cases h
  · rw [if_neg c] at h
    injection h with h
    have hl := runL_le l
    refine ⟨h.symm, by omega, fun r => ?_, ?_⟩
    · have := runL_ge 33 l r (by omega)
      unfold wordL
      rw [if_neg (by omega)]
    · have h1 := runL_ge 32 l [] (by omega)
      rw [List.append_nil] at h1
      have h2 := runL_le (l.take 32)
      rw [List.length_take] at h2
      have e : runL (l.take 32) = 32 := by omega
      unfold wordL
      rw [e, if_pos (Nat.le_refl _)]
      exact ⟨_, _, _, rfl⟩
theorem headD_take {l : List UInt8} {k : Nat} (h : 0 < k) (hl : l ≠ []) (r : List UInt8) : (l.take k ++ r).headD 0 = l.headD 0 := by
  obtain ⟨k, rfl⟩ : ∃ j, k = j + 1 := ⟨k - 1, by omega⟩
  cases l with
  | nil => exact absurd rfl hl
  | cons u l => rfl
theorem isL_of {l : List UInt8} {q : Int} (hl : l ≠ []) (h : clsI (l.headD 0) = q) : isL l q = true := by
  cases l with
  | nil => exact absurd rfl hl
  | cons u l =>
    rw [List.headD_cons] at h
    simp [isL, h]
def ends8 : List (List UInt8) := [[], [34], [110, 34], [48, 48, 34], [48, 34], [48], [46], [61]]
theorem ends4_8 {t : List UInt8} (h : t ∈ ends4) : t ∈ ends8 := by
  simp only [ends4, List.mem_cons, List.not_mem_nil, or_false] at h
  rcases h with rfl | rfl | rfl | rfl <;> simp [ends8]
theorem lexL_good {l : List UInt8} {kd n : Int} {w : ByteArray} {k : Nat} (hl : l ≠ []) (h : lexL l = .good kd n w k) : 0 < k ∧ k ≤ l.length ∧ ∀ r, Stop r (l.drop k) → lexL (l.take k ++ r) = .good kd n w k := by
  unfold lexL at h
  by_cases c3 : clsI (l.headD 0) = 3
  · rw [if_pos c3] at h
    cases e : intL l with
    | bad j => rw [e] at h; cases h
    | good v j =>
      rw [e] at h
      injection h with h1 h2 h3 h4
      subst h4
      obtain ⟨a1, a2, a3⟩ := intL_good (isL_of hl c3) e
      refine ⟨a1, a2, fun r hr => ?_⟩
      unfold lexL
      rw [headD_take a1 hl, if_pos c3, a3 r hr, ← h1, ← h2, ← h3]; rfl
  rw [if_neg c3] at h
  by_cases c4 : clsI (l.headD 0) = 4
  · rw [if_pos c4] at h
    obtain ⟨a1, a2, a3⟩ := wordL_good (isL_of hl c4) h
    refine ⟨a1, a2, fun r hr => ?_⟩
    unfold lexL
    rw [headD_take a1 hl, if_neg c3, if_pos c4, a3 r hr]
  rw [if_neg c4] at h
  by_cases c5 : clsI (l.headD 0) = 5
  · rw [if_pos c5] at h
    cases l with
    | nil => exact absurd rfl hl
    | cons u t =>
      rw [List.tail_cons] at h
      cases e : textL t with
      | bad j => rw [e] at h; cases h
      | good v j =>
        rw [e] at h
        injection h with h1 h2 h3 h4
        subst h4
        obtain ⟨a1, a2, a3⟩ := (textL_local t.length t (Nat.le_refl _)).1 v j e
        refine ⟨by omega, by simp; omega, fun r _ => ?_⟩
        rw [Nat.add_comm 1 j, List.take_succ_cons, List.cons_append]
        unfold lexL
        rw [List.headD_cons] at c3 c4 c5 ⊢
        rw [if_neg c3, if_neg c4, if_pos c5, List.tail_cons, a3, ← h1, ← h2, ← h3, Nat.add_comm j 1]; rfl
  rw [if_neg c5] at h
  by_cases c6 : clsI (l.headD 0) = 6
  · rw [if_pos c6] at h
    cases l with
    | nil => exact absurd rfl hl
    | cons u t =>
      obtain ⟨a1, a2, a3⟩ := signL_good h
      refine ⟨a1, a2, fun r hr => ?_⟩
      unfold lexL
      rw [headD_take a1 hl, if_neg c3, if_neg c4, if_neg c5, if_pos c6, a3 r hr]
  · rw [if_neg c6] at h; cases h
theorem lexL_bad {l : List UInt8} {k : Nat} (hl : l ≠ []) (h : lexL l = .bad k) :
    k ≤ l.length ∧ (k < l.length → ∀ r, lexL (l.take (k + 1) ++ r) = .bad k) ∧ (0 < k → ∃ t ∈ ends8, ∃ kd n w, lexL (l.take k ++ t) = .good kd n w (k + t.length)) := by
  unfold lexL at h
  by_cases c3 : clsI (l.headD 0) = 3
  · rw [if_pos c3] at h
    cases e : intL l with
    | good v j => rw [e] at h; cases h
    | bad j =>
      rw [e] at h
      injection h with h
      subst h
      obtain ⟨a1, a2, a3, t, ht, v, a4⟩ := intL_bad (isL_of hl c3) e
      refine ⟨a2, fun q r => ?_, fun _ => ⟨t, ?_, 2, v, .empty, ?_⟩⟩
      · unfold lexL
        rw [headD_take (by omega) hl, if_pos c3, a3 q r]; rfl
      · rcases ht with rfl | rfl <;> simp [ends8]
      · unfold lexL
        rw [headD_take a1 hl, if_pos c3, a4]; rfl
  rw [if_neg c3] at h
  by_cases c4 : clsI (l.headD 0) = 4
  · rw [if_pos c4] at h
    obtain ⟨rfl, a1, a2, kd, n, w, a3⟩ := wordL_bad h
    refine ⟨by omega, fun _ r => ?_, fun _ => ⟨[], by simp [ends8], kd, n, w, ?_⟩⟩
    · unfold lexL
      rw [headD_take (by omega) hl, if_neg c3, if_pos c4]; exact a2 r
    · unfold lexL
      rw [headD_take (by omega) hl, if_neg c3, if_pos c4, List.append_nil]; exact a3
  rw [if_neg c4] at h
  by_cases c5 : clsI (l.headD 0) = 5
  · rw [if_pos c5] at h
    cases l with
    | nil => exact absurd rfl hl
    | cons u t =>
      rw [List.tail_cons] at h
      have cu3 : ¬ clsI u = 3 := c3
      have cu4 : ¬ clsI u = 4 := c4
      have cu5 : clsI u = 5 := c5
      cases e : textL t with
      | good v j => rw [e] at h; cases h
      | bad j =>
        rw [e] at h
        injection h with h
        subst h
        obtain ⟨a1, a2, y, hy, w, a3⟩ := (textL_local t.length t (Nat.le_refl _)).2 j e
        refine ⟨by simp; omega, fun q r => ?_, fun _ => ⟨y, ends4_8 hy, 3, 0, ⟨⟨w⟩⟩, ?_⟩⟩
        · rw [show 1 + j + 1 = (j + 1) + 1 by omega, List.take_succ_cons, List.cons_append]
          unfold lexL
          rw [List.headD_cons, if_neg cu3, if_neg cu4, if_pos cu5, List.tail_cons, a2 (by simp at q; omega)]; rfl
        · rw [Nat.add_comm 1 j, List.take_succ_cons, List.cons_append]
          unfold lexL
          rw [List.headD_cons, if_neg cu3, if_neg cu4, if_pos cu5, List.tail_cons, a3]
          show LL.good 3 0 _ (1 + (j + y.length)) = _
          rw [show 1 + (j + y.length) = j + 1 + y.length by omega]
  rw [if_neg c5] at h
  by_cases c6 : clsI (l.headD 0) = 6
  · rw [if_pos c6] at h
    cases l with
    | nil => exact absurd rfl hl
    | cons u t =>
      have cu3 : ¬ clsI u = 3 := c3
      have cu4 : ¬ clsI u = 4 := c4
      have cu5 : ¬ clsI u = 5 := c5
      have cu6 : clsI u = 6 := c6
      obtain ⟨rfl, a1, a2⟩ := signL_bad h
      refine ⟨by simp, fun q r => ?_, fun _ => ?_⟩
      · unfold lexL
        rw [headD_take (by omega) hl, if_neg c3, if_neg c4, if_neg c5, if_pos c6]; exact a1 q r
      · rcases a2 with ⟨kd, n, w, a2⟩ | ⟨kd, n, w, a2⟩
        · refine ⟨[46], by simp [ends8], kd, n, w, ?_⟩
          show lexL [u, 46] = _
          unfold lexL
          rw [List.headD_cons, if_neg cu3, if_neg cu4, if_neg cu5, if_pos cu6]; exact a2
        · refine ⟨[61], by simp [ends8], kd, n, w, ?_⟩
          show lexL [u, 61] = _
          unfold lexL
          rw [List.headD_cons, if_neg cu3, if_neg cu4, if_neg cu5, if_pos cu6]; exact a2
  · rw [if_neg c6] at h
    injection h with h
    subst h
    refine ⟨Nat.zero_le _, fun q r => ?_, fun q => absurd q (by decide)⟩
    unfold lexL
    rw [headD_take (by omega) hl, if_neg c3, if_neg c4, if_neg c5, if_neg c6]
end Go.Am
/- The first wrong byte of a text: it stays where it is whatever stands behind it, and what stands ahead of it can be gone on with. -/
namespace Go.Am
theorem toksI_L (s : List UInt8) : ∀ (k i : Nat), i ≤ s.length → toksI s k i = toksL k i (s.drop i)
  | 0, i, _ => rfl
  | k + 1, i, hi => by
    have hs := skipTo_L s (s.length - i) i hi (by omega)
    have hle := skip_le false (s.drop i)
    rw [List.length_drop] at hle
    unfold toksI toksL
    rw [hs]
    by_cases h : i + skipL false (s.drop i) < s.length
    · rw [if_pos h, lexI_L h, List.drop_drop, List.drop_eq_getElem_cons h]
      dsimp only
      cases e : lexL (s[i + skipL false (s.drop i)] :: s.drop (i + skipL false (s.drop i) + 1)) with
      | bad x => rfl
      | good kd n w j =>
        have hg := (lexL_good (List.cons_ne_nil _ _) e).2.1
        have hj : i + skipL false (s.drop i) + j ≤ s.length := by
          simp only [List.length_cons, List.length_drop] at hg; omega
        dsimp only [LL.at_]
        rw [toksI_L s k _ hj, ← List.drop_eq_getElem_cons h, List.drop_drop]
    · rw [if_neg h, List.drop_drop, List.drop_eq_nil_of_le (by omega)]
theorem skip_ne {l : List UInt8} {c : Bool} {u : UInt8} {r : List UInt8} (h : l.drop (skipL c l) = u :: r) : ∀ q, skipL false (u :: q) = 0 := by
  have key : ∀ (l : List UInt8) (c : Bool), l.drop (skipL c l) = u :: r → ¬ clsI u = 1 ∧ ¬ clsI u = 2 := by
    intro l
    induction l with
    | nil => intro c h; cases c <;> cases h
    | cons v l ih =>
      intro c h
      cases c with
      | true =>
        by_cases d : v = 10
        · have e : skipL true (v :: l) = skipL false l + 1 := by rw [skipL, if_pos d]
          rw [e, List.drop_succ_cons] at h
          exact ih _ h
        · have e : skipL true (v :: l) = skipL true l + 1 := by rw [skipL, if_neg d]
          rw [e, List.drop_succ_cons] at h
          exact ih _ h
      | false =>
        by_cases d : clsI v = 1
        · have e : skipL false (v :: l) = skipL false l + 1 := by rw [skipL, if_pos d]
          rw [e, List.drop_succ_cons] at h
          exact ih _ h
        · by_cases d2 : clsI v = 2
          · have e : skipL false (v :: l) = skipL true l + 1 := by rw [skipL, if_neg d, if_pos d2]
            rw [e, List.drop_succ_cons] at h
            exact ih _ h
          · have e : skipL false (v :: l) = 0 := by rw [skipL, if_neg d, if_neg d2]
            rw [e, List.drop_zero] at h
            injection h with h1 h2
            subst h1
            exact ⟨d, d2⟩
  obtain ⟨d, d2⟩ := key l c h
  intro q
  rw [skipL, if_neg d, if_neg d2]
theorem skip_app : ∀ (l : List UInt8) (c : Bool) (r : List UInt8), l.drop (skipL c l) ≠ [] → skipL c (l.take (skipL c l) ++ r) = skipL c l + skipL false r
  | [], c, r, h => by cases c <;> exact absurd rfl h
  | v :: l, true, r, h => by
    by_cases d : v = 10
    · have e : skipL true (v :: l) = skipL false l + 1 := by rw [skipL, if_pos d]
      rw [e, List.drop_succ_cons] at h
      have := skip_app l false r h
      rw [e, List.take_succ_cons, List.cons_append, skipL, if_pos d, this]; omega
    · have e : skipL true (v :: l) = skipL true l + 1 := by rw [skipL, if_neg d]
      rw [e, List.drop_succ_cons] at h
      have := skip_app l true r h
      rw [e, List.take_succ_cons, List.cons_append, skipL, if_neg d, this]; omega
  | v :: l, false, r, h => by
    by_cases d : clsI v = 1
    · have e : skipL false (v :: l) = skipL false l + 1 := by rw [skipL, if_pos d]
      rw [e, List.drop_succ_cons] at h
      have := skip_app l false r h
      rw [e, List.take_succ_cons, List.cons_append, skipL, if_pos d, this]; omega
    · by_cases d2 : clsI v = 2
      · have e : skipL false (v :: l) = skipL true l + 1 := by rw [skipL, if_neg d, if_pos d2]
        rw [e, List.drop_succ_cons] at h
        have := skip_app l true r h
        rw [e, List.take_succ_cons, List.cons_append, skipL, if_neg d, if_pos d2, this]; omega
      · have e : skipL false (v :: l) = 0 := by rw [skipL, if_neg d, if_neg d2]
        rw [e]; simp
/-- What stands behind 'l' up to its first lexeme's end. -/
theorem toks_none {k i : Nat} {l : List UInt8} (h : l.drop (skipL false l) = []) : toksL k i l = ([], none) := by
  cases k with
  | zero => rfl
  | succ k => rw [toksL, h]
theorem toks_bad {k i e : Nat} {l r : List UInt8} {u : UInt8} (h : l.drop (skipL false l) = u :: r) (hx : lexL (u :: r) = .bad e) : toksL (k + 1) i l = ([], some (i + skipL false l + e)) := by
  rw [toksL, h]; dsimp only; rw [hx]
theorem toks_good {k i j : Nat} {l r : List UInt8} {u : UInt8} {kd n : Int} {w : ByteArray} (h : l.drop (skipL false l) = u :: r) (hx : lexL (u :: r) = .good kd n w j) :
    toksL (k + 1) i l = (⟨kd, n, w, i + skipL false l, i + skipL false l + j⟩ :: (toksL k (i + skipL false l + j) ((u :: r).drop j)).1, (toksL k (i + skipL false l + j) ((u :: r).drop j)).2) := by
  rw [toksL, h]; dsimp only; rw [hx]
theorem drop_app {l : List UInt8} {p : Nat} (h : p ≤ l.length) (r : List UInt8) : (l.take p ++ r).drop p = r := by
  rw [List.drop_append_of_le_length (by rw [List.length_take]; omega), List.drop_eq_nil_of_le (by rw [List.length_take]; omega), List.nil_append]
theorem cons_take {u : UInt8} {r : List UInt8} {k : Nat} (h : 0 < k) (q : List UInt8) : ∃ y, (u :: r).take k ++ q = u :: y := by
  obtain ⟨k, rfl⟩ : ∃ j, k = j + 1 := ⟨k - 1, by omega⟩
  exact ⟨r.take k ++ q, rfl⟩
/-- What stands behind blanks that are told by the text. -/
theorem blank_app {l r : List UInt8} {u : UInt8} (h : l.drop (skipL false l) = u :: r) (q : List UInt8) (y : List UInt8) (hy : q = u :: y) :
    skipL false (l.take (skipL false l) ++ q) = skipL false l ∧ (l.take (skipL false l) ++ q).drop (skipL false (l.take (skipL false l) ++ q)) = u :: y := by
  have h1 := skip_app l false q (by rw [h]; simp)
  subst hy
  rw [skip_ne h, Nat.add_zero] at h1
  exact ⟨h1, by rw [h1]; exact drop_app (skip_le false l) _⟩
theorem toks_first : ∀ (k i : Nat) (l : List UInt8) (e : Nat), l.length < k → (toksL k i l).2 = some e →
    ∃ j, e = i + j ∧ j ≤ l.length ∧ (j < l.length → ∀ r k', (l.take (j + 1) ++ r).length < k' → (toksL k' i (l.take (j + 1) ++ r)).2 = some e) ∧
      ∃ t ∈ ends8, (j = 0 → t = []) ∧ ∀ k', (l.take j ++ t).length < k' → (toksL k' i (l.take j ++ t)).2 = none
  | 0, i, l, e, hk, _ => by omega
  | k + 1, i, l, e, hk, h => by
    have hp := skip_le false l
    cases hd : l.drop (skipL false l) with
    | nil => rw [toks_none hd] at h; cases h
    | cons u r0 =>
      have hlen : (u :: r0).length = l.length - skipL false l := by rw [← hd, List.length_drop]
      have cut : ∀ j, l.take (skipL false l + j) = l.take (skipL false l) ++ (u :: r0).take j := fun j => by rw [List.take_add, hd]
      cases hx : lexL (u :: r0) with
      | bad e0 =>
        rw [toks_bad hd hx] at h
        obtain ⟨b1, b2, b3⟩ := lexL_bad (by simp) hx
        refine ⟨skipL false l + e0, by injection h with h; omega, by omega, fun hj r k' hk' => ?_, ?_⟩
        · have b2' := b2 (by omega) r
          obtain ⟨y, hy⟩ := cons_take (u := u) (r := r0) (k := e0 + 1) (by omega) r
          obtain ⟨k', rfl⟩ : ∃ z, k' = z + 1 := ⟨k' - 1, by omega⟩
          rw [Nat.add_assoc, cut, List.append_assoc]
          obtain ⟨s1, s2⟩ := blank_app hd _ y hy
          rw [hy] at b2'
          rw [toks_bad s2 b2', s1]; injection h with h; rw [h]
        · by_cases h0 : e0 = 0
          · subst h0
            refine ⟨[], by simp [ends8], fun _ => rfl, fun k' _ => ?_⟩
            rw [Nat.add_zero, toks_none ?_]
            have := skip_app l false [] (by rw [hd]; simp)
            rw [this]
            exact drop_app hp []
          · obtain ⟨t, ht, kd, n, w, b4⟩ := b3 (by omega)
            refine ⟨t, ht, fun q => by omega, fun k' hk' => ?_⟩
            obtain ⟨y, hy⟩ := cons_take (u := u) (r := r0) (k := e0) (by omega) t
            obtain ⟨k', rfl⟩ : ∃ z, k' = z + 1 := ⟨k' - 1, by omega⟩
            rw [cut, List.append_assoc]
            obtain ⟨s1, s2⟩ := blank_app hd _ y hy
            have hl : (u :: y).length = e0 + t.length := by rw [← hy, List.length_append, List.length_take]; omega
            rw [hy] at b4
            rw [toks_good s2 b4, List.drop_eq_nil_of_le (by omega), toks_none rfl]
      | good kd n w j0 =>
        rw [toks_good hd hx] at h
        obtain ⟨a1, a2, a3⟩ := lexL_good (by simp) hx
        have hl2 : ((u :: r0).drop j0).length = (u :: r0).length - j0 := List.length_drop
        obtain ⟨j, rfl, c1, c2, t, ht, c3, c4⟩ := toks_first k _ _ e (by omega) h
        have cut2 : ∀ z, (u :: r0).take (j0 + z) = (u :: r0).take j0 ++ ((u :: r0).drop j0).take z := fun z => List.take_add
        have go_ : ∀ (q : List UInt8) (k' : Nat), Stop q ((u :: r0).drop j0) → (l.take (skipL false l) ++ ((u :: r0).take j0 ++ q)).length < k' + 1 →
            (toksL (k' + 1) i (l.take (skipL false l) ++ ((u :: r0).take j0 ++ q))).2 = (toksL k' (i + skipL false l + j0) q).2 := fun q k' hq _ => by
          obtain ⟨y, hy⟩ := cons_take (u := u) (r := r0) (k := j0) a1 q
          obtain ⟨s1, s2⟩ := blank_app hd _ y hy
          have b := a3 q hq
          rw [hy] at b
          rw [toks_good s2 b, s1, ← hy, drop_app a2]
        refine ⟨skipL false l + j0 + j, by omega, by omega, fun hj r k' hk' => ?_, t, ht, fun q => by omega, fun k' hk' => ?_⟩
        · obtain ⟨k', rfl⟩ : ∃ z, k' = z + 1 := ⟨k' - 1, by omega⟩
          rw [Nat.add_assoc, Nat.add_assoc, cut, cut2, List.append_assoc, List.append_assoc] at hk' ⊢
          have hne : ((u :: r0).drop j0) ≠ [] := fun q => by
            have := congrArg List.length q
            rw [hl2, List.length_nil] at this
            omega
          rw [go_ _ k' ?_ hk']
          · refine (c2 (by omega) r k' ?_)
            rw [List.length_append, List.length_append] at hk'
            have q0 : ((u :: r0).take j0).length = j0 := by rw [List.length_take]; omega
            omega
          · refine .inr (.inr ?_)
            cases hz : (u :: r0).drop j0 with
            | nil => exact absurd hz hne
            | cons v z => rfl
        · obtain ⟨k', rfl⟩ : ∃ z, k' = z + 1 := ⟨k' - 1, by omega⟩
          rw [Nat.add_assoc, cut, cut2, List.append_assoc, List.append_assoc] at hk' ⊢
          rw [go_ _ k' ?_ hk']
          · refine c4 k' ?_
            rw [List.length_append, List.length_append] at hk'
            have q0 : ((u :: r0).take j0).length = j0 := by rw [List.length_take]; omega
            omega
          · by_cases hj : j = 0
            · rw [c3 hj, hj]; exact .inl rfl
            · refine .inr (.inr ?_)
              cases hz : (u :: r0).drop j0 with
              | nil => rw [hz] at c1; simp at c1; omega
              | cons v z =>
                obtain ⟨j, rfl⟩ : ∃ z, j = z + 1 := ⟨j - 1, by omega⟩
                rfl
end Go.Am
/- Numbers, texts and words as they are spelled are one lexeme. -/
namespace Go.Am
theorem each_byte {p : UInt8 → Bool} (h : (List.range 256).all (fun n => p (UInt8.ofNat n)) = true) (u : UInt8) : p u = true := by
  have := List.all_eq_true.mp h u.toNat (List.mem_range.mpr u.toNat_lt)
  have e : UInt8.ofNat u.toNat = u := by simp
  rw [e] at this
  exact this
theorem toks_one {s : List UInt8} {u : UInt8} {r : List UInt8} {kd n : Int} {w : ByteArray} (hs : s = u :: r) (h1 : ¬ clsI u = 1) (h2 : ¬ clsI u = 2) (h : lexL s = .good kd n w s.length) : toksI s (s.length + 1) 0 = ([⟨kd, n, w, 0, s.length⟩], none) := by
  have hk : skipL false s = 0 := by rw [hs, skipL, if_neg h1, if_neg h2]
  have hd : s.drop (skipL false s) = u :: r := by rw [hk, List.drop_zero, hs]
  rw [toksI_L s _ 0 (Nat.zero_le _), List.drop_zero, toks_good hd (by rw [← hs]; exact h), ← hs, hk, List.drop_length, toks_none rfl]
  simp
/-- What a lexeme alone tells. -/
theorem one_lex {s : List UInt8} {tk : Tk} (h : toksI s (s.length + 1) 0 = ([tk], none)) (h0 : tk.from_ = 0) (hl : tk.to_ = s.length) : s ≠ [] ∧ lexL s = .good tk.kind tk.n tk.w s.length := by
  rw [toksI_L s _ 0 (Nat.zero_le _), List.drop_zero] at h
  cases hd : s.drop (skipL false s) with
  | nil => rw [toks_none hd] at h; cases h
  | cons u r =>
    cases hx : lexL (u :: r) with
    | bad e => rw [toks_bad hd hx] at h; cases h
    | good kd n w j =>
      rw [toks_good hd hx] at h
      have e : (⟨kd, n, w, 0 + skipL false s, 0 + skipL false s + j⟩ : Tk) = tk := by
        have := congrArg Prod.fst h
        simp only [List.cons.injEq] at this
        exact this.1
      subst e
      have h0 : skipL false s = 0 := by simpa using h0
      have hl : j = s.length := by simpa [h0] using hl
      rw [h0, List.drop_zero] at hd
      rw [hd]
      exact ⟨by simp, by rw [hx, hl, hd]⟩
/-- Digits. -/
def accD (n : Nat) (l : List UInt8) : Nat := l.foldl (fun a d => a * 10 + dg d) n
theorem accD_ge : ∀ (l : List UInt8) (n : Nat), n ≤ accD n l
  | [], n => Nat.le_refl _
  | u :: l, n => by
    have := accD_ge l (n * 10 + dg u)
    show n ≤ accD (n * 10 + dg u) l
    omega
theorem decL_digits : ∀ (l : List UInt8) (n : Nat), (∀ d ∈ l, clsI d = 3) → accD n l < m64 → decL l n = .good (accD n l) l.length
  | [], n, _, _ => rfl
  | u :: l, n, hd, ha => by
    have h3 : clsI u = 3 := hd u (List.mem_cons_self ..)
    have ha' : accD (n * 10 + dg u) l < m64 := ha
    have := accD_ge l (n * 10 + dg u)
    rw [decL, if_pos h3, if_pos (by omega), decL_digits l _ (fun d h => hd d (List.mem_cons_of_mem _ h)) ha']
    show SR.good (accD (n * 10 + dg u) l) (1 + l.length) = SR.good (accD (n * 10 + dg u) l) (l.length + 1)
    rw [Nat.add_comm 1 l.length]
theorem digit_cls {d : Nat} (h : d < 10) : clsI (UInt8.ofNat (48 + d)) = 3 ∧ dg (UInt8.ofNat (48 + d)) = d ∧ UInt8.ofNat (48 + d) ≠ 120 := by
  have hall : (List.range 10).all (fun d => decide (clsI (UInt8.ofNat (48 + d)) = 3) && decide (dg (UInt8.ofNat (48 + d)) = d) && decide (UInt8.ofNat (48 + d) ≠ 120)) = true := by decide +kernel
  have := List.all_eq_true.mp hall d (List.mem_range.mpr h)
  simp only [Bool.and_eq_true, decide_eq_true_eq] at this
  exact ⟨this.1.1, this.1.2, this.2⟩
theorem dec_digits : ∀ (m u : Nat), u < m → (∀ d ∈ Lib.decDigits u, clsI d = 3 ∧ d ≠ 120) ∧ accD 0 (Lib.decDigits u) = u
  | 0, u, h => by omega
  | m + 1, u, h => by
    rw [Lib.decDigits]
    by_cases c : u < 10
    · rw [dif_pos c]
      obtain ⟨h1, h2, h3⟩ := digit_cls c
      refine ⟨fun d hd => ?_, ?_⟩
      · rw [List.mem_singleton] at hd; subst hd; exact ⟨h1, h3⟩
      · show 0 * 10 + dg _ = u
        rw [h2]; omega
    · rw [dif_neg c]
      obtain ⟨h1, h2, h3⟩ := digit_cls (show u % 10 < 10 by omega)
      obtain ⟨i1, i2⟩ := dec_digits m (u / 10) (by omega)
      refine ⟨fun d hd => ?_, ?_⟩
      · rcases List.mem_append.mp hd with hd | hd
        · exact i1 d hd
        · rw [List.mem_singleton] at hd; subst hd; exact ⟨h1, h3⟩
      · unfold accD at i2 ⊢
        rw [List.foldl_append, i2]
        show u / 10 * 10 + dg _ = u
        rw [h2]; omega
theorem decDigits_ne (u : Nat) : Lib.decDigits u ≠ [] := fun e => by
  have := congrArg List.length e
  rw [Lib.decDigits_length, List.length_nil] at this
  have := Lib.nDigits_pos u
  omega
theorem num_lex {u : Nat} (hu : u < m64) : toksI (Lib.decDigits u) ((Lib.decDigits u).length + 1) 0 = ([⟨2, (u : Int), .empty, 0, (Lib.decDigits u).length⟩], none) := by
  obtain ⟨h1, h2⟩ := dec_digits (u + 1) u (Nat.lt_succ_self _)
  have hne := decDigits_ne u
  generalize Lib.decDigits u = l at h1 h2 hne
  have hdec : decL l 0 = .good u l.length := by
    have := decL_digits l 0 (fun d hd => (h1 d hd).1) (by omega)
    rw [h2] at this; exact this
  have hint : intL l = .good u l.length := by
    match l, h1, hdec with
    | [], _, hdec => exact hdec
    | [a], _, hdec => exact hdec
    | a :: b :: r, h1, hdec =>
      have hb := (h1 b (by simp)).2
      rw [intL_two, if_neg (fun q => hb q.2)]; exact hdec
  cases l with
  | nil => exact absurd rfl hne
  | cons a r =>
    have ha := (h1 a (List.mem_cons_self ..)).1
    refine toks_one rfl (by rw [ha]; decide) (by rw [ha]; decide) ?_
    unfold lexL
    rw [List.headD_cons, if_pos ha, hint]; rfl
/-- A byte of a text as it is spelled. -/
def hexD (n : Nat) : UInt8 := if n < 10 then UInt8.ofNat (48 + n) else UInt8.ofNat (87 + n)
def escB (c : UInt8) : List UInt8 :=
  if c = 10 then [92, 110] else if c = 9 then [92, 116]
  else if c.toNat < 32 ∨ 126 < c.toNat then [92, 120, hexD (c.toNat / 16), hexD (c.toNat % 16)]
  else if c = 34 ∨ c = 92 then [92, c] else [c]
def bodyB (t : List UInt8) : List UInt8 := t.flatMap escB
def quoteB (t : List UInt8) : List UInt8 := 34 :: bodyB t ++ [34]
theorem hex_back (c : UInt8) : ¬ hexT (hexD (c.toNat / 16)).toNat = 16 ∧ ¬ hexT (hexD (c.toNat % 16)).toNat = 16 ∧ UInt8.ofNat (hexN (hexD (c.toNat / 16)) * 16 + hexN (hexD (c.toNat % 16))) = c := by
  have := each_byte (p := fun c => !decide (hexT (hexD (c.toNat / 16)).toNat = 16) && !decide (hexT (hexD (c.toNat % 16)).toNat = 16) && (UInt8.ofNat (hexN (hexD (c.toNat / 16)) * 16 + hexN (hexD (c.toNat % 16))) == c)) (by decide +kernel) c
  simp only [Bool.and_eq_true, Bool.not_eq_true', decide_eq_false_iff_not, beq_iff_eq] at this
  exact ⟨this.1.1, this.1.2, this.2⟩
theorem esc_step (c : UInt8) (r : List UInt8) : textL (escB c ++ r) = (textL r).up [c] (escB c).length := by
  have go_ : ∀ {l : List UInt8} {o : List UInt8} {j : Nat}, stepL l = .go o j → textL l = (textL (l.drop j)).up o j := fun h => by rw [textL_step, h]
  unfold escB
  by_cases c1 : c = 10
  · rw [if_pos c1]; subst c1; exact go_ (rfl : stepL (92 :: 110 :: r) = .go [10] 2)
  rw [if_neg c1]
  by_cases c2 : c = 9
  · rw [if_pos c2]; subst c2; exact go_ (rfl : stepL (92 :: 116 :: r) = .go [9] 2)
  rw [if_neg c2]
  by_cases c3 : c.toNat < 32 ∨ 126 < c.toNat
  · rw [if_pos c3]
    obtain ⟨b1, b2, b3⟩ := hex_back c
    have e : stepL (92 :: 120 :: hexD (c.toNat / 16) :: hexD (c.toNat % 16) :: r) = if hexT (hexD (c.toNat / 16)).toNat = 16 then .fin (.bad 2) else if hexT (hexD (c.toNat % 16)).toNat = 16 then .fin (.bad 3) else .go [UInt8.ofNat (hexN (hexD (c.toNat / 16)) * 16 + hexN (hexD (c.toNat % 16)))] 4 := rfl
    rw [if_neg b1, if_neg b2, b3] at e
    exact go_ e
  rw [if_neg c3]
  by_cases c4 : c = 34 ∨ c = 92
  · rw [if_pos c4]
    rcases c4 with rfl | rfl
    · exact go_ (rfl : stepL (92 :: 34 :: r) = .go [34] 2)
    · exact go_ (rfl : stepL (92 :: 92 :: r) = .go [92] 2)
  · rw [if_neg c4]
    have e : stepL (c :: r) = .go [c] 1 := by
      rw [stepL.eq_def]; dsimp only
      rw [if_neg (fun q => c4 (.inl q)), if_neg (fun q => c4 (.inr q)), if_neg c3]
    exact go_ e
theorem body_text : ∀ t : List UInt8, textL (bodyB t ++ [34]) = .good t ((bodyB t).length + 1)
  | [] => rfl
  | c :: t => by
    have e : bodyB (c :: t) = escB c ++ bodyB t := by simp [bodyB]
    rw [e, List.append_assoc, esc_step, body_text t, List.length_append]
    show XR.good ([c] ++ t) ((escB c).length + ((bodyB t).length + 1)) = _
    rw [Nat.add_assoc]; rfl
theorem quote_lex (t : List UInt8) : toksI (quoteB t) ((quoteB t).length + 1) 0 = ([⟨3, 0, ⟨⟨t⟩⟩, 0, (quoteB t).length⟩], none) := by
  have c34 : clsI 34 = 5 := by decide +kernel
  have hl : (quoteB t).length = 1 + ((bodyB t).length + 1) := by simp [quoteB]; omega
  refine toks_one (s := quoteB t) (u := 34) (r := bodyB t ++ [34]) rfl (by decide +kernel) (by decide +kernel) ?_
  unfold lexL
  show (if clsI 34 = 3 then _ else if clsI 34 = 4 then _ else if clsI 34 = 5 then (textL (bodyB t ++ [34])).ll else _) = _
  rw [if_neg (by rw [c34]; decide), if_neg (by rw [c34]; decide), if_pos c34, body_text, hl]; rfl
theorem esc_len (c : UInt8) : 1 ≤ (escB c).length ∧ (escB c).length ≤ 4 := by
  unfold escB
  repeat' split
  all_goals exact ⟨by simp, by simp⟩
theorem body_len : ∀ t : List UInt8, t.length ≤ (bodyB t).length ∧ (bodyB t).length ≤ 4 * t.length
  | [] => ⟨Nat.le_refl _, Nat.le_refl _⟩
  | c :: t => by
    have e : bodyB (c :: t) = escB c ++ bodyB t := by simp [bodyB]
    have h1 := esc_len c
    have h2 := body_len t
    rw [e, List.length_append, List.length_cons]
    omega
/-- Words. -/
def wbB (u : UInt8) : Bool := isWL [u]
theorem isWL_cons (u : UInt8) (r : List UInt8) : isWL (u :: r) = wbB u := isWL_head rfl
theorem runL_all : ∀ l : List UInt8, l.all wbB = true → runL l = l.length
  | [], _ => rfl
  | u :: r, h => by
    rw [List.all_cons, Bool.and_eq_true] at h
    rw [runL, isWL_cons, if_pos h.1, runL_all r h.2]; rfl
theorem all_runL : ∀ l : List UInt8, runL l = l.length → l.all wbB = true
  | [], _ => rfl
  | u :: r, h => by
    rw [runL, isWL_cons] at h
    by_cases c : wbB u = true
    · rw [if_pos c, List.length_cons] at h
      rw [List.all_cons, c, all_runL r (by omega)]; rfl
    · rw [if_neg c, List.length_cons] at h; omega
def legalI (w : List UInt8) : Bool := decide (1 ≤ w.length) && decide (w.length ≤ 32) && decide (clsI (w.headD 0) = 4) && decide (resI w = 0) && w.all wbB
theorem word_cls {w : List UInt8} (h4 : clsI (w.headD 0) = 4) : lexL w = wordL w := by
  unfold lexL
  rw [if_neg (by rw [h4]; decide), if_pos h4]
theorem wordL_all {w : List UInt8} (h : w.all wbB = true) (hl : w.length ≤ 32) : wordL w = .good (wordKT w).1 0 ⟨⟨(wordKT w).2⟩⟩ w.length := by
  unfold wordL
  rw [runL_all w h, if_pos hl, List.take_length]
theorem legal_lex {w : List UInt8} (h : legalI w = true) : toksI w (w.length + 1) 0 = ([⟨1, 0, ⟨⟨w⟩⟩, 0, w.length⟩], none) := by
  simp only [legalI, Bool.and_eq_true, decide_eq_true_eq] at h
  obtain ⟨⟨⟨⟨h1, h2⟩, h3⟩, h4⟩, h5⟩ := h
  cases w with
  | nil => simp at h1
  | cons u r =>
    have hu : clsI u = 4 := h3
    refine toks_one rfl (by rw [hu]; decide) (by rw [hu]; decide) ?_
    rw [word_cls h3, wordL_all h5 h2]
    have e : wordKT (u :: r) = (1, u :: r) := by unfold wordKT; rw [if_pos h4]
    rw [e]
theorem singleT_some (u : Nat) : 3 ≤ singleT u ∧ singleT u < 30 := by unfold singleT; split <;> decide
theorem signR_some (u v : Int) : (signR u v).1 = 0 ∨ (3 ≤ (signR u v).1 ∧ (signR u v).1 < 30) := by
  have := singleT_some u.toNat
  unfold signR
  repeat' split
  all_goals first | exact .inl rfl | exact .inr ⟨by decide, by decide⟩ | exact .inr this
/-- A lexeme that is the whole text, by its kind. -/
theorem whole_word {w : List UInt8} {kd n : Int} {b : ByteArray} (hw : w ≠ []) (h : lexL w = .good kd n b w.length) (hk : kd = 1 ∨ 30 ≤ kd) : clsI (w.headD 0) = 4 ∧ w.length ≤ 32 ∧ w.all wbB = true ∧ kd = (wordKT w).1 ∧ b = ⟨⟨(wordKT w).2⟩⟩ := by
  have h' := h
  unfold lexL at h
  by_cases c3 : clsI (w.headD 0) = 3
  · rw [if_pos c3] at h
    cases e : intL w with
    | bad j => rw [e] at h; cases h
    | good v j => rw [e] at h; injection h with h1; omega
  rw [if_neg c3] at h
  by_cases c4 : clsI (w.headD 0) = 4
  · rw [if_pos c4] at h
    unfold wordL at h
    by_cases c : runL w ≤ 32
    · rw [if_pos c] at h
      injection h with h1 h2 h3 h4
      rw [h4, List.take_length] at h1 h3
      exact ⟨c4, by omega, all_runL w h4, h1.symm, h3.symm⟩
    · rw [if_neg c] at h; cases h
  rw [if_neg c4] at h
  by_cases c5 : clsI (w.headD 0) = 5
  · rw [if_pos c5] at h
    cases e : textL w.tail with
    | bad j => rw [e] at h; cases h
    | good v j => rw [e] at h; injection h with h1; omega
  rw [if_neg c5] at h
  by_cases c6 : clsI (w.headD 0) = 6
  · rw [if_pos c6] at h
    unfold signL at h
    by_cases c : (signR ((w.headD 0).toNat : Int) (nextL w)).1 = 0
    · rw [if_pos c] at h; cases h
    · rw [if_neg c] at h
      injection h with h1
      have := signR_some ((w.headD 0).toNat : Int) (nextL w)
      omega
  · rw [if_neg c6] at h; cases h
theorem lex_legal {w : List UInt8} {tk : Tk} (h : toksI w (w.length + 1) 0 = ([tk], none)) (h0 : tk.from_ = 0) (hl : tk.to_ = w.length) (hk : tk.kind = 1) (hw : tk.w = ⟨⟨w⟩⟩) : legalI w = true := by
  obtain ⟨hne, hx⟩ := one_lex h h0 hl
  obtain ⟨p1, p2, p3, p4, p5⟩ := whole_word hne hx (.inl hk)
  have hr : resI w = 0 := by
    rw [hk] at p4
    unfold wordKT at p4
    by_cases c : resI w = 0
    · exact c
    · rw [if_neg c] at p4
      have p4 : 1 = resI w := p4
      unfold resI at p4
      split at p4
      · omega
      · omega
  have hlen : 1 ≤ w.length := by
    cases w with
    | nil => exact absurd rfl hne
    | cons _ _ => simp
  simp only [legalI, Bool.and_eq_true, decide_eq_true_eq]
  exact ⟨⟨⟨⟨hlen, p2⟩, p1⟩, hr⟩, p3⟩
theorem lex_res {w : List UInt8} {tk : Tk} (h : toksI w (w.length + 1) 0 = ([tk], none)) (h0 : tk.from_ = 0) (hl : tk.to_ = w.length) (hk : 30 ≤ tk.kind) : resI w = tk.kind := by
  obtain ⟨hne, hx⟩ := one_lex h h0 hl
  obtain ⟨p1, p2, p3, p4, p5⟩ := whole_word hne hx (.inr hk)
  unfold wordKT at p4
  by_cases c : resI w = 0
  · rw [if_pos c] at p4
    have p4 : tk.kind = 1 := p4
    omega
  · rw [if_neg c] at p4
    exact p4.symm
theorem find_mem (w : List UInt8) : ∀ (l : List (List UInt8)) (i : Nat), 0 ≤ findI w l i → w ∈ l
  | [], i, h => by simp [findI] at h
  | x :: r, i, h => by
    unfold findI at h
    by_cases c : w = x
    · rw [c]; exact List.mem_cons_self ..
    · rw [if_neg c] at h
      exact List.mem_cons_of_mem _ (find_mem w r (i + 1) h)
theorem res_lex {w : List UInt8} (h : resI w ≠ 0) : toksI w (w.length + 1) 0 = ([⟨resI w, 0, ⟨⟨[]⟩⟩, 0, w.length⟩], none) ∧ 30 ≤ resI w ∧ resI w ≤ 79 := by
  have hf : findI w wordsL 0 ≥ 0 := by
    unfold resI at h
    by_cases c : findI w wordsL 0 ≥ 0
    · exact c
    · rw [if_neg c] at h; exact absurd rfl h
  have hm := find_mem w wordsL 0 hf
  have hall : wordsL.all (fun w => decide (1 ≤ w.length) && decide (w.length ≤ 32) && decide (clsI (w.headD 0) = 4) && w.all wbB) = true := by decide +kernel
  have hw := List.all_eq_true.mp hall w hm
  simp only [Bool.and_eq_true, decide_eq_true_eq] at hw
  obtain ⟨⟨⟨h1, h2⟩, h3⟩, h5⟩ := hw
  have hb := findI_bound w wordsL 0
  rw [wordsL_len] at hb
  have hr : resI w = 30 + findI w wordsL 0 := by unfold resI; rw [if_pos hf]
  refine ⟨?_, by omega, by omega⟩
  cases w with
  | nil => simp at h1
  | cons u r =>
    have hu : clsI u = 4 := h3
    refine toks_one rfl (by rw [hu]; decide) (by rw [hu]; decide) ?_
    rw [word_cls h3, wordL_all h5 h2]
    have e : wordKT (u :: r) = (resI (u :: r), []) := by unfold wordKT; rw [if_neg h]
    rw [e]
end Go.Am
