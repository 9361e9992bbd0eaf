/- One operation over a frame that is a tree; whole numbers first. -/
import Derived.Test.YtpfpfpeockbbpaaGreatDoorFaU
namespace Go.Am

/-- A value in its type's form. -/
def typedF (d : Option TypeDesc) (v : Value) (k : Value → R) : R :=
  match d with
  | some (.int K) => match v with | .int K' n => cond (K' == K) (k (.int K n)) none | _ => none
  | some .bool => match v with | .bool b => k (.bool b) | _ => none
  | some .string => match v with | .string s => k (.string s) | _ => none
  | some (.slice _) => match v with | .slice a l c => k (.slice a l c) | _ => none
  | some (.pointer _) => match v with | .pointer a => k (.pointer a) | _ => none
  | some (.struct _) => match v with | .agg cs => k (.agg cs) | _ => none
  | some (.array _ _) => match v with | .agg cs => k (.agg cs) | _ => none
  | _ => k v

theorem typedF_some {d : Option TypeDesc} {v : Value} {k : Value → R} {r : End × Heap} (h : typedF d v k = some r) : k v = some r := by
  unfold typedF at h
  split at h
  · split at h
    · rename_i K' n
      cases e : (K' == _) with
      | false => rw [e] at h; simp at h
      | true => rw [e] at h; have := eq_of_beq e; subst this; exact h
    · simp at h
  all_goals first
    | (split at h; exact h; simp at h)
    | exact h


noncomputable def forceN (n : Nat) (k : Nat → R) : R := Nat.rec (motive := fun _ => R) (k 0) (fun j _ => k (Nat.succ j)) n
theorem forceN_eq (n : Nat) (k : Nat → R) : forceN n k = k n := by cases n <;> rfl
def tagK : IntKind → Nat
  | .i8 => 0 | .i16 => 1 | .i32 => 2 | .i64 => 3 | .u8 => 4 | .u16 => 5 | .u32 => 6 | .u64 => 7
theorem tagK_inj : ∀ {k k' : IntKind}, tagK k = tagK k' → k = k' := by
  intro k k'; cases k <;> cases k' <;> simp [tagK]
def limK : IntKind → Nat
  | .i8 | .u8 => 128
  | .i16 | .u16 => 32768
  | .i32 | .u32 => 2147483648
  | .i64 | .u64 => 9223372036854775808
theorem wrap_lim {k : IntKind} {n : Nat} (h : n < limK k) : k.wrap (.ofNat n) = .ofNat n := by
  cases k <;> simp only [limK] at h <;> simp only [IntKind.wrap, IntKind.bits, IntKind.signed] <;> simp <;> omega

noncomputable def fastI (op : BinOp) (k : IntKind) (a b : Nat) (kv : Value → R) (gen : R) : R :=
  match op with
  | .eql => cond (Nat.beq a b) (kv (.bool true)) (kv (.bool false))
  | .neq => cond (Nat.beq a b) (kv (.bool false)) (kv (.bool true))
  | .lss => cond (Nat.ble b a) (kv (.bool false)) (kv (.bool true))
  | .leq => cond (Nat.ble a b) (kv (.bool true)) (kv (.bool false))
  | .gtr => cond (Nat.ble a b) (kv (.bool false)) (kv (.bool true))
  | .geq => cond (Nat.ble b a) (kv (.bool true)) (kv (.bool false))
  | .add => cond (Nat.ble (limK k) (a + b)) gen (forceN (a + b) fun n => kv (.int k (.ofNat n)))
  | .sub => cond (Nat.ble b a) (cond (Nat.ble (limK k) a) gen (forceN (a - b) fun n => kv (.int k (.ofNat n)))) gen
  | _ => gen

theorem binA_cmp {P : Program} {op : BinOp} {t : TypeId} {x y : Operand} {k : IntKind} {a b : Int} {v : Value} (h1 : (op matches .eql | .neq | .lss | .leq | .gtr | .geq) = true) (h2 : Op.intCmp op a b = .pure v) :
    binA P op t x y (.int k a) (.int k b) = some v := by
  unfold binA
  cases op <;> simp at h1 <;> simp [ground, atomic, eqGuard, binOp, h2] <;> rfl

theorem fastI_some {P : Program} {op : BinOp} {t : TypeId} {x y : Operand} {k : IntKind} {a b : Nat} {kv : Value → R} {gen : R} {r : End × Heap} (h : fastI op k a b kv gen = some r)
    (hg : gen = some r → bindO (binA P op t x y (.int k (.ofNat a)) (.int k (.ofNat b))) (fun v => groundK v (kv v)) = some r) :
    bindO (binA P op t x y (.int k (.ofNat a)) (.int k (.ofNat b))) (fun v => groundK v (kv v)) = some r := by
  have fin : ∀ v, binA P op t x y (.int k (.ofNat a)) (.int k (.ofNat b)) = some v → ground v = true → kv v = some r → bindO (binA P op t x y (.int k (.ofNat a)) (.int k (.ofNat b))) (fun v => groundK v (kv v)) = some r := by
    intro v h1 h2 h3
    rw [h1]
    simp [bindO, groundK, h2, h3]
  unfold fastI at h
  split at h
  · cases e : Nat.beq a b with
    | true => rw [e] at h; exact fin _ (binA_cmp rfl (by simp [Op.intCmp, Nat.eq_of_beq_eq_true e]; rfl)) rfl h
    | false => rw [e] at h; exact fin _ (binA_cmp rfl (by have := Nat.ne_of_beq_eq_false e; simp [Op.intCmp]; rw [show ((a : Int) == (b : Int)) = false by simp; omega]; rfl)) rfl h
  · cases e : Nat.beq a b with
    | true => rw [e] at h; exact fin _ (binA_cmp rfl (by simp [Op.intCmp, Nat.eq_of_beq_eq_true e]; rfl)) rfl h
    | false => rw [e] at h; exact fin _ (binA_cmp rfl (by have := Nat.ne_of_beq_eq_false e; simp [Op.intCmp, bne]; rw [show ((a : Int) == (b : Int)) = false by simp; omega]; rfl)) rfl h
  · cases e : Nat.ble b a with
    | true => rw [e] at h; have := Nat.le_of_ble_eq_true e; exact fin _ (binA_cmp rfl (by simp [Op.intCmp]; rw [decide_eq_false (by omega)]; rfl)) rfl h
    | false => rw [e] at h; have : ¬ b ≤ a := fun c => by rw [Nat.ble_eq_true_of_le c] at e; cases e
               exact fin _ (binA_cmp rfl (by simp [Op.intCmp]; rw [decide_eq_true (by omega)]; rfl)) rfl h
  · cases e : Nat.ble a b with
    | true => rw [e] at h; have := Nat.le_of_ble_eq_true e; exact fin _ (binA_cmp rfl (by simp [Op.intCmp]; rw [decide_eq_true (by omega)]; rfl)) rfl h
    | false => rw [e] at h; have : ¬ a ≤ b := fun c => by rw [Nat.ble_eq_true_of_le c] at e; cases e
               exact fin _ (binA_cmp rfl (by simp [Op.intCmp]; rw [decide_eq_false (by omega)]; rfl)) rfl h
  · cases e : Nat.ble a b with
    | true => rw [e] at h; have := Nat.le_of_ble_eq_true e; exact fin _ (binA_cmp rfl (by simp [Op.intCmp]; rw [decide_eq_false (by omega)]; rfl)) rfl h
    | false => rw [e] at h; have : ¬ a ≤ b := fun c => by rw [Nat.ble_eq_true_of_le c] at e; cases e
               exact fin _ (binA_cmp rfl (by simp [Op.intCmp]; rw [decide_eq_true (by omega)]; rfl)) rfl h
  · cases e : Nat.ble b a with
    | true => rw [e] at h; have := Nat.le_of_ble_eq_true e; exact fin _ (binA_cmp rfl (by simp [Op.intCmp]; rw [decide_eq_true (by omega)]; rfl)) rfl h
    | false => rw [e] at h; have : ¬ b ≤ a := fun c => by rw [Nat.ble_eq_true_of_le c] at e; cases e
               exact fin _ (binA_cmp rfl (by simp [Op.intCmp]; rw [decide_eq_false (by omega)]; rfl)) rfl h
  · cases e : Nat.ble (limK k) (a + b) with
    | true => rw [e] at h; exact hg h
    | false =>
      rw [e] at h
      simp only [cond_false, forceN_eq] at h
      have : ¬ limK k ≤ a + b := fun c => by rw [Nat.ble_eq_true_of_le c] at e; cases e
      refine fin _ ?_ rfl h
      have w := wrap_lim (k := k) (n := a + b) (by omega)
      have e2 : (Int.ofNat a + Int.ofNat b) = Int.ofNat (a + b) := rfl
      unfold binA
      simp only [ground, atomic, Bool.and_self, if_true, eqGuard, binOp, Op.intArith]
      rw [e2, w]
      simp
      rfl
  · cases e : Nat.ble b a with
    | false => rw [e] at h; exact hg h
    | true =>
      rw [e] at h
      simp only [cond_true] at h
      have l1 := Nat.le_of_ble_eq_true e
      cases e1 : Nat.ble (limK k) a with
      | true => rw [e1] at h; exact hg h
      | false =>
        rw [e1] at h
        simp only [cond_false, forceN_eq] at h
        have : ¬ limK k ≤ a := fun c => by rw [Nat.ble_eq_true_of_le c] at e1; cases e1
        refine fin _ ?_ rfl h
        have w := wrap_lim (k := k) (n := a - b) (by omega)
        have e2 : (Int.ofNat a - Int.ofNat b) = Int.ofNat (a - b) := by show (a : Int) - b = ((a - b : Nat) : Int); omega
        unfold binA
        simp only [ground, atomic, Bool.and_self, if_true, eqGuard, binOp, Op.intArith]
        rw [e2, w]
        simp
        rfl
  · exact hg h
end Go.Am
