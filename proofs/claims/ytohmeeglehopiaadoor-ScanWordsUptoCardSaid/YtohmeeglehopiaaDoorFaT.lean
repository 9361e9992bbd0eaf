/- Frames as trees in normal form. -/
import Derived.Test.YtohmeeglehopiaaDoorAmB
namespace Go.Am
abbrev T := Tr Value

noncomputable def rdP (p : List Bool) : T → Option Value :=
  List.rec (motive := fun _ => T → Option Value) (fun t => Tr.rec (motive := fun _ => Option Value) none (fun v _ _ _ _ => v) t)
    (fun b _ ih t => Tr.rec (motive := fun _ => Option Value) none (fun _ l r _ _ => Bool.rec (motive := fun _ => Option Value) (ih r) (ih l) b) t) p
noncomputable def setP (v : Value) (p : List Bool) : T → (T → R) → R :=
  List.rec (motive := fun _ => T → (T → R) → R) (fun t => Tr.rec (motive := fun _ => (T → R) → R) (fun _ => none) (fun o l r _ _ => Option.rec (motive := fun _ => (T → R) → R) (fun _ => none) (fun _ k => k (.node (some v) l r)) o) t)
    (fun b _ ih t => Tr.rec (motive := fun _ => (T → R) → R) (fun _ => none) (fun o l r _ _ => Bool.rec (motive := fun _ => (T → R) → R) (fun k => ih r fun r' => k (.node o l r')) (fun k => ih l fun l' => k (.node o l' r)) b) t) p

def pathF : Nat → Nat → List Bool
  | 0, _ => []
  | f + 1, n => if n = 0 then [] else if n % 2 = 1 then true :: pathF f (n / 2) else false :: pathF f (n / 2 - 1)
def path (n : Nat) : List Bool := pathF (n + 1) n
def dec : List Bool → Nat
  | [] => 0
  | true :: p => 2 * dec p + 1
  | false :: p => 2 * dec p + 2
theorem dec_pathF : ∀ f n, n < f → dec (pathF f n) = n
  | 0, _, h => absurd h (Nat.not_lt_zero _)
  | f + 1, n, h => by
    unfold pathF
    split
    · rename_i e; simp [dec, e]
    · split
      · rw [dec, dec_pathF f _ (by omega)]; omega
      · rw [dec, dec_pathF f _ (by omega)]; omega
theorem dec_path (n : Nat) : dec (path n) = n := dec_pathF (n + 1) n (Nat.lt_succ_self n)

theorem get_odd (v : Option Value) (l r : T) (d : Nat) : (Tr.node v l r).get (2 * d + 1) = l.get d := by
  have h1 : (2 * d + 1) % 2 = 1 := by omega
  have h2 : (2 * d + 1) / 2 = d := by omega
  simp [Tr.get, h1, h2]
theorem get_even (v : Option Value) (l r : T) (d : Nat) : (Tr.node v l r).get (2 * d + 2) = r.get d := by
  simp [Tr.get]
theorem rdP_get : ∀ (p : List Bool) (t : T), rdP p t = t.get (dec p)
  | [], .nil => rfl
  | [], .node v l r => by simp [dec, Tr.get]; rfl
  | _ :: _, .nil => rfl
  | true :: p, .node v l r => by rw [dec, get_odd]; exact rdP_get p l
  | false :: p, .node v l r => by rw [dec, get_even]; exact rdP_get p r
theorem rd_path (i : Nat) (t : T) : rdP (path i) t = t.get i := by rw [rdP_get, dec_path]

theorem setP_some {v : Value} {r : End × Heap} : ∀ (p : List Bool) (t : T) (k : T → R), setP v p t k = some r →
    ∃ t', k t' = some r ∧ (∃ o, t.get (dec p) = some o) ∧ ∀ i, t'.get i = if i = dec p then some v else t.get i
  | [], .nil, k, h => by cases h
  | _ :: _, .nil, k, h => by cases h
  | [], .node none l r, k, h => by cases h
  | [], .node (some x) l r, k, h => by
    refine ⟨_, h, ⟨x, by simp [dec, Tr.get]⟩, fun i => ?_⟩
    by_cases e : i = 0
    · subst e; simp [dec, Tr.get]
    · simp [dec, Tr.get, e]
  | true :: p, .node o l r, k, h => by
    obtain ⟨l', h1, h2, h3⟩ := setP_some p l (fun l' => k (.node o l' r)) h
    refine ⟨_, h1, by rw [dec, get_odd]; exact h2, fun i => ?_⟩
    by_cases e : i = 0
    · subst e; simp [dec, Tr.get]
    · by_cases q : i % 2 = 1
      · obtain ⟨j, rfl⟩ : ∃ j, i = 2 * j + 1 := ⟨i / 2, by omega⟩
        rw [get_odd, get_odd, h3, dec]
        by_cases e2 : j = dec p
        · subst e2; simp
        · have : ¬ 2 * j + 1 = 2 * dec p + 1 := by omega
          rw [if_neg e2, if_neg this]
      · obtain ⟨j, rfl⟩ : ∃ j, i = 2 * j + 2 := ⟨i / 2 - 1, by omega⟩
        have : ¬ 2 * j + 2 = dec (true :: p) := by rw [dec]; omega
        rw [if_neg this, get_even, get_even]
  | false :: p, .node o l r, k, h => by
    obtain ⟨l', h1, h2, h3⟩ := setP_some p r (fun r' => k (.node o l r')) h
    refine ⟨_, h1, by rw [dec, get_even]; exact h2, fun i => ?_⟩
    by_cases e : i = 0
    · subst e; simp [dec, Tr.get]
    · by_cases q : i % 2 = 1
      · obtain ⟨j, rfl⟩ : ∃ j, i = 2 * j + 1 := ⟨i / 2, by omega⟩
        have : ¬ 2 * j + 1 = dec (false :: p) := by rw [dec]; omega
        rw [if_neg this, get_odd, get_odd]
      · obtain ⟨j, rfl⟩ : ∃ j, i = 2 * j + 2 := ⟨i / 2 - 1, by omega⟩
        rw [get_even, get_even, h3, dec]
        by_cases e2 : j = dec p
        · subst e2; simp
        · have : ¬ 2 * j + 2 = 2 * dec p + 2 := by omega
          rw [if_neg e2, if_neg this]

/-- The tree says what the row says. -/
def Rep (t : T) (ts : Array Value) : Prop := ∀ i : Nat, t.get i = ts[i]?

theorem Rep.set {t t' : T} {ts : Array Value} (h : Rep t ts) {i : Nat} {v : Value} (h2 : ∃ o, t.get (dec (path i)) = some o) (h3 : ∀ j, t'.get j = if j = dec (path i) then some v else t.get j) : Rep t' (ts.setIfInBounds i v) := by
  rw [dec_path] at h2 h3
  intro j
  rw [h3]
  obtain ⟨o, ho⟩ := h2
  rw [h i] at ho
  have hlt : i < ts.size := by
    rcases Nat.lt_or_ge i ts.size with h | h
    · exact h
    · rw [Array.getElem?_eq_none h] at ho; cases ho
  by_cases e : j = i
  · subst e; simp [hlt]
  · rw [if_neg e, h j, Array.getElem?_setIfInBounds]
    simp [Ne.symm e]

noncomputable def putT (d : Option Tmp) (t : T) (v : Value) (k : T → R) : R := match d with | none => k t | some i => setP v (path i) t k
theorem putT_some {d : Option Tmp} {t : T} {v : Value} {k : T → R} {r : End × Heap} (he : putT d t v k = some r) {a : Act} (h : Rep t a.tmps) : ∃ t', k t' = some r ∧ Rep t' (a.put d v).tmps ∧ (a.put d v).defers = a.defers := by
  unfold putT at he
  cases d with
  | none => exact ⟨t, he, h, rfl⟩
  | some i =>
    obtain ⟨t', h1, h2, h3⟩ := setP_some _ _ _ he
    exact ⟨t', h1, h.set h2 h3, rfl⟩

def forceV (v : Value) (k : Value → R) : R :=
  match v with
  | .iface t (.pointer p) => k (.iface t (.pointer p))
  | .iface t (.agg p) => k (.iface t (.agg p))
  | .iface t (.int i p) => k (.iface t (.int i p))
  | .iface t (.string p) => k (.iface t (.string p))
  | .nilIface => k .nilIface
  | .tuple xs => k (.tuple xs)
  | .func f xs ys => k (.func f xs ys)
  | .nilFunc => k .nilFunc
  | .map m => k (.map m)
  | .int i n => k (.int i n)
  | .bool b => k (.bool b)
  | .pointer p => k (.pointer p)
  | .slice a n c => k (.slice a n c)
  | .agg xs => k (.agg xs)
  | v => k v
theorem forceV_eq (v : Value) (k : Value → R) : forceV v k = k v := by unfold forceV; split <;> rfl

noncomputable def evalT (t : T) : Operand → Value
  | .tmp i => (rdP (path i) t).getD undef
  | .const v => v
  | .global g => .pointer (some ⟨g, 0, none⟩)
  | .func f => .func (.func f) #[] #[]
theorem evalT_eq {t : T} {a : Act} (h : Rep t a.tmps) : evalT t = a.eval := by
  funext x
  cases x with
  | tmp i => simp only [evalT, Act.eval]; rw [rd_path, h i]; simp
  | _ => rfl

def blankF : Nat → Nat → T
  | 0, _ => .nil
  | f + 1, n => match n with
    | 0 => .nil
    | j + 1 => .node (some undef) (blankF f ((j + 1) / 2)) (blankF f (j / 2))
theorem get_blank : ∀ f n i, n ≤ f → (blankF f n).get i = if i < n then some undef else none
  | 0, n, i, h => by
    have : n = 0 := by omega
    subst this; rfl
  | f + 1, 0, i, h => rfl
  | f + 1, j + 1, i, h => by
    unfold blankF
    by_cases e : i = 0
    · subst e; simp [Tr.get]
    · by_cases q : i % 2 = 1
      · obtain ⟨d, rfl⟩ : ∃ d, i = 2 * d + 1 := ⟨i / 2, by omega⟩
        rw [get_odd, get_blank f _ _ (by omega)]
        by_cases c : 2 * d + 1 < j + 1
        · rw [if_pos c, if_pos (by omega)]
        · rw [if_neg c, if_neg (by omega)]
      · obtain ⟨d, rfl⟩ : ∃ d, i = 2 * d + 2 := ⟨i / 2 - 1, by omega⟩
        rw [get_even, get_blank f _ _ (by omega)]
        by_cases c : 2 * d + 2 < j + 1
        · rw [if_pos c, if_pos (by omega)]
        · rw [if_neg c, if_neg (by omega)]

/-- The arguments laid into a blank frame. -/
noncomputable def layT : List Value → Nat → T → (T → R) → R
  | [], _, t, k => k t
  | v :: l, i, t, k => setP v (path i) t fun t => layT l (i + 1) t k
theorem layT_some {r : End × Heap} : ∀ (l : List Value) (i : Nat) (t : T) (k : T → R), layT l i t k = some r →
    ∃ t', k t' = some r ∧ (∀ j, t'.get j = if i ≤ j ∧ j < i + l.length then l[j - i]? else t.get j) ∧ (∀ j, i ≤ j → j < i + l.length → ∃ o, t.get j = some o)
  | [], i, t, k, h => ⟨t, h, fun j => by rw [if_neg (by simp only [List.length_nil]; omega)], fun j h1 h2 => by simp only [List.length_nil] at h2; omega⟩
  | v :: l, i, t, k, h => by
    obtain ⟨t1, h1, h2, h3⟩ := setP_some _ _ _ h
    rw [dec_path] at h2 h3
    obtain ⟨t2, k1, k2, k3⟩ := layT_some l (i + 1) t1 k h1
    refine ⟨t2, k1, fun j => ?_, fun j a b => ?_⟩
    · rw [k2]
      simp only [List.length_cons]
      by_cases c : i + 1 ≤ j ∧ j < i + 1 + l.length
      · rw [if_pos c, if_pos (by omega)]
        obtain ⟨d, hd⟩ : ∃ d, j - i = d + 1 := ⟨j - i - 1, by omega⟩
        have : j - (i + 1) = d := by omega
        rw [hd, this]; simp
      · rw [if_neg c, h3]
        by_cases e : j = i
        · subst e; simp
        · rw [if_neg e, if_neg (by omega)]
    · simp only [List.length_cons] at b
      by_cases e : j = i
      · subst e; exact h2
      · obtain ⟨o, ho⟩ := k3 j (by omega) (by omega)
        rw [h3, if_neg e] at ho
        exact ⟨o, ho⟩
noncomputable def startT (n : Nat) (args : Array Value) (k : T → R) : R := layT args.toList 0 (blankF n n) k
theorem startT_some {fn : Func} {args : Array Value} {k : T → R} {r : End × Heap} (he : startT fn.ntmps args k = some r) : ∃ t, k t = some r ∧ Rep t (act0 fn args).tmps := by
  obtain ⟨t, h1, h2, h3⟩ := layT_some _ _ _ _ he
  refine ⟨t, h1, fun j => ?_⟩
  rw [h2, get_blank _ _ _ (Nat.le_refl _)]
  simp only [act0, Nat.zero_le, true_and, Nat.zero_add, Nat.sub_zero, Array.length_toList]
  have hle : args.size ≤ fn.ntmps := by
    rcases Nat.eq_zero_or_pos args.size with e | e
    · omega
    · obtain ⟨o, ho⟩ := h3 (args.size - 1) (Nat.zero_le _) (by simp; omega)
      rw [get_blank _ _ _ (Nat.le_refl _)] at ho
      split at ho
      · omega
      · cases ho
  by_cases c : j < args.size
  · rw [if_pos c, Array.getElem?_append_left c]; simp
  · rw [if_neg c, Array.getElem?_append_right (by omega), Array.getElem?_replicate]
    by_cases c2 : j < fn.ntmps
    · rw [if_pos c2, if_pos (by omega)]
    · rw [if_neg c2, if_neg (by omega)]
end Go.Am
/- Operations continued: what goes on further with less goes on further with more. -/
namespace Go.Am

theorem bindV_mono {x : VH} {k k' : Value → Heap → R} {r : End × Heap} (hk : ∀ v H, k v H = some r → k' v H = some r) (h : bindV x k = some r) : bindV x k' = some r := by
  obtain ⟨v, H, e, h1⟩ := bindV_some h
  rw [e]; exact hk v H h1
theorem bindO_mono {x : Option Value} {k k' : Value → R} {r : End × Heap} (hk : ∀ v, k v = some r → k' v = some r) (h : bindO x k = some r) : bindO x k' = some r := by
  obtain ⟨v, e, h1⟩ := bindO_some h
  rw [e]; exact hk v h1
theorem groundK_mono {v : Value} {k k' : R} {r : End × Heap} (hk : k = some r → k' = some r) (h : groundK v k = some r) : groundK v k' = some r := by
  unfold groundK at h ⊢
  split at h
  · rename_i e; rw [if_pos e]; exact hk h
  · cases h
/-- What one answers the other answers. -/
def KLe (K K' : Kf) : Prop := ∀ f args H r, K f args H = some r → K' f args H = some r
theorem bindR_mono {x x' : R} {k k' : Value → Heap → R} {kp kp' : List PanicEntry → Heap → R} {r : End × Heap} (hx : ∀ q, x = some q → x' = some q) (hk : ∀ v H, k v H = some r → k' v H = some r) (hp : ∀ c H, kp c H = some r → kp' c H = some r)
    (h : bindR x k kp = some r) : bindR x' k' kp' = some r := by
  unfold bindR at h
  split at h
  · rw [hx _ rfl]; exact hk _ _ h
  · rw [hx _ rfl]; exact hp _ _ h
  · cases h
theorem callK_mono {P : Program} {X : Xf} {K K' : Kf} (hK : KLe K K') {f : FuncId} {args : Array Value} {H : Heap} {k k' : Value → Heap → R} {kp kp' : List PanicEntry → Heap → R} {r : End × Heap}
    (hk : ∀ v H, k v H = some r → k' v H = some r) (hp : ∀ c H, kp c H = some r → kp' c H = some r) (h : callK P X K f args H k kp = some r) : callK P X K' f args H k' kp' = some r := by
  unfold callK at h ⊢
  split at h
  · split at h
    · cases h
    · rename_i hn
      simp only [hn]
      split at h
      · rename_i hb; simp only [hb, if_true]; exact bindV_mono hk h
      · rename_i hb; simp only [hb]; exact bindR_mono (fun q => hK _ _ _ q) hk hp h
  · cases h
theorem builtinK_mono {P : Program} {b : Builtin} {ts : Array TypeId} {args : Array Value} {H : Heap} {k k' : Value → Heap → R} {r : End × Heap}
    (hk : ∀ v H, k v H = some r → k' v H = some r) (h : builtinK P b ts args H k = some r) : builtinK P b ts args H k' = some r := by
  unfold builtinK at h ⊢
  split at h
  · split at h
    · exact bindO_mono (fun v => hk v H) h
    · cases h
  · split at h
    · rename_i e; rw [if_pos e]; exact bindV_mono hk h
    · cases h
  · exact bindV_mono hk h
  · split at h
    · rename_i e; rw [if_pos e]; exact hk _ _ h
    · cases h
  · split at h
    · rename_i e; rw [if_pos e]; exact hk _ _ h
    · cases h
  · cases h
theorem mapK_mono {P : Program} {ρ : Operand → Value} {o : Op} {H : Heap} {k k' : Value → Heap → R} {r : End × Heap} (hk : ∀ v H, k v H = some r → k' v H = some r) (h : mapK P ρ o H k = some r) : mapK P ρ o H k' = some r := by
  unfold mapK at h ⊢
  split at h
  · exact bindV_mono hk h
  · exact bindO_mono (fun v => hk v _) h
  · exact bindV_mono hk h
  · cases h
theorem opK_mono {P : Program} {X : Xf} {K K' : Kf} (hK : KLe K K') {ρ : Operand → Value} {o : Oper} {H : Heap} {k k' : Value → Heap → R} {kp kp' : List PanicEntry → Heap → R} {r : End × Heap}
    (hk : ∀ v H, k v H = some r → k' v H = some r) (hp : ∀ c H, kp c H = some r → kp' c H = some r) (h : opK P X K ρ o H k kp = some r) : opK P X K' ρ o H k' kp' = some r := by
  unfold opK at h ⊢
  split at h
  all_goals first
    | exact hk _ _ h
    | exact bindV_mono hk h
    | exact mapK_mono hk h
    | exact bindO_mono (fun v => hk v H) h
    | exact bindO_mono (fun v => groundK_mono (hk v H)) h
    | (split at h
       all_goals first
         | exact hk _ _ h
         | exact hp _ _ h
         | exact builtinK_mono hk h
         | (cases h; done)
         | (split at h
            all_goals first
              | exact callK_mono hK hk hp h
              | (cases h; done)))
    | (cases h; done)
    | skip
end Go.Am
/- One operation over a frame that is a tree; whole numbers first. -/
namespace Go.Am

/-- A value in its type's form. -/
def typedF (d : Option TypeDesc) (v : Value) (k : Value → R) : R :=
  match d with
  | some (.int K) => match v with | .int K' n => cond (K' == K) (k (.int K n)) none | _ => none
  | some .bool => match v with | .bool b => k (.bool b) | _ => none
  | some .string => match v with | .string s => k (.string s) | _ => none
  | some (.slice _) => match v with | .slice a l c => k (.slice a l c) | _ => none
  | some (.pointer _) => match v with | .pointer a => k (.pointer a) | _ => none
  | some (.struct _) => match v with | .agg cs => k (.agg cs) | _ => none
  | some (.array _ _) => match v with | .agg cs => k (.agg cs) | _ => none
  | _ => k v

theorem typedF_some {d : Option TypeDesc} {v : Value} {k : Value → R} {r : End × Heap} (h : typedF d v k = some r) : k v = some r := by
  unfold typedF at h
  split at h
  · split at h
    · rename_i K' n
      cases e : (K' == _) with
      | false => rw [e] at h; simp at h
      | true => rw [e] at h; have := eq_of_beq e; subst this; exact h
    · simp at h
  all_goals first
    | (split at h; exact h; simp at h)
    | exact h


noncomputable def forceN (n : Nat) (k : Nat → R) : R := Nat.rec (motive := fun _ => R) (k 0) (fun j _ => k (Nat.succ j)) n
theorem forceN_eq (n : Nat) (k : Nat → R) : forceN n k = k n := by cases n <;> rfl
def tagK : IntKind → Nat
  | .i8 => 0 | .i16 => 1 | .i32 => 2 | .i64 => 3 | .u8 => 4 | .u16 => 5 | .u32 => 6 | .u64 => 7
theorem tagK_inj : ∀ {k k' : IntKind}, tagK k = tagK k' → k = k' := by
  intro k k'; cases k <;> cases k' <;> simp [tagK]
def limK : IntKind → Nat
  | .i8 | .u8 => 128
  | .i16 | .u16 => 32768
  | .i32 | .u32 => 2147483648
  | .i64 | .u64 => 9223372036854775808
theorem wrap_lim {k : IntKind} {n : Nat} (h : n < limK k) : k.wrap (.ofNat n) = .ofNat n := by
  cases k <;> simp only [limK] at h <;> simp only [IntKind.wrap, IntKind.bits, IntKind.signed] <;> simp <;> omega

noncomputable def fastI (op : BinOp) (k : IntKind) (a b : Nat) (kv : Value → R) (gen : R) : R :=
  match op with
  | .eql => cond (Nat.beq a b) (kv (.bool true)) (kv (.bool false))
  | .neq => cond (Nat.beq a b) (kv (.bool false)) (kv (.bool true))
  | .lss => cond (Nat.ble b a) (kv (.bool false)) (kv (.bool true))
  | .leq => cond (Nat.ble a b) (kv (.bool true)) (kv (.bool false))
  | .gtr => cond (Nat.ble a b) (kv (.bool false)) (kv (.bool true))
  | .geq => cond (Nat.ble b a) (kv (.bool true)) (kv (.bool false))
  | .add => cond (Nat.ble (limK k) (a + b)) gen (forceN (a + b) fun n => kv (.int k (.ofNat n)))
  | .sub => cond (Nat.ble b a) (cond (Nat.ble (limK k) a) gen (forceN (a - b) fun n => kv (.int k (.ofNat n)))) gen
  | _ => gen

theorem binA_cmp {P : Program} {op : BinOp} {t : TypeId} {x y : Operand} {k : IntKind} {a b : Int} {v : Value} (h1 : (op matches .eql | .neq | .lss | .leq | .gtr | .geq) = true) (h2 : Op.intCmp op a b = .pure v) :
    binA P op t x y (.int k a) (.int k b) = some v := by
  unfold binA
  cases op <;> simp at h1 <;> simp [ground, atomic, eqGuard, binOp, h2] <;> rfl

theorem fastI_some {P : Program} {op : BinOp} {t : TypeId} {x y : Operand} {k : IntKind} {a b : Nat} {kv : Value → R} {gen : R} {r : End × Heap} (h : fastI op k a b kv gen = some r)
    (hg : gen = some r → bindO (binA P op t x y (.int k (.ofNat a)) (.int k (.ofNat b))) (fun v => groundK v (kv v)) = some r) :
    bindO (binA P op t x y (.int k (.ofNat a)) (.int k (.ofNat b))) (fun v => groundK v (kv v)) = some r := by
  have fin : ∀ v, binA P op t x y (.int k (.ofNat a)) (.int k (.ofNat b)) = some v → ground v = true → kv v = some r → bindO (binA P op t x y (.int k (.ofNat a)) (.int k (.ofNat b))) (fun v => groundK v (kv v)) = some r := by
    intro v h1 h2 h3
    rw [h1]
    simp [bindO, groundK, h2, h3]
  unfold fastI at h
  split at h
  · cases e : Nat.beq a b with
    | true => rw [e] at h; exact fin _ (binA_cmp rfl (by simp [Op.intCmp, Nat.eq_of_beq_eq_true e]; rfl)) rfl h
    | false => rw [e] at h; exact fin _ (binA_cmp rfl (by have := Nat.ne_of_beq_eq_false e; simp [Op.intCmp]; rw [show ((a : Int) == (b : Int)) = false by simp; omega]; rfl)) rfl h
  · cases e : Nat.beq a b with
    | true => rw [e] at h; exact fin _ (binA_cmp rfl (by simp [Op.intCmp, Nat.eq_of_beq_eq_true e]; rfl)) rfl h
    | false => rw [e] at h; exact fin _ (binA_cmp rfl (by have := Nat.ne_of_beq_eq_false e; simp [Op.intCmp, bne]; rw [show ((a : Int) == (b : Int)) = false by simp; omega]; rfl)) rfl h
  · cases e : Nat.ble b a with
    | true => rw [e] at h; have := Nat.le_of_ble_eq_true e; exact fin _ (binA_cmp rfl (by simp [Op.intCmp]; rw [decide_eq_false (by omega)]; rfl)) rfl h
    | false => rw [e] at h; have : ¬ b ≤ a := fun c => by rw [Nat.ble_eq_true_of_le c] at e; cases e
               exact fin _ (binA_cmp rfl (by simp [Op.intCmp]; rw [decide_eq_true (by omega)]; rfl)) rfl h
  · cases e : Nat.ble a b with
    | true => rw [e] at h; have := Nat.le_of_ble_eq_true e; exact fin _ (binA_cmp rfl (by simp [Op.intCmp]; rw [decide_eq_true (by omega)]; rfl)) rfl h
    | false => rw [e] at h; have : ¬ a ≤ b := fun c => by rw [Nat.ble_eq_true_of_le c] at e; cases e
               exact fin _ (binA_cmp rfl (by simp [Op.intCmp]; rw [decide_eq_false (by omega)]; rfl)) rfl h
  · cases e : Nat.ble a b with
    | true => rw [e] at h; have := Nat.le_of_ble_eq_true e; exact fin _ (binA_cmp rfl (by simp [Op.intCmp]; rw [decide_eq_false (by omega)]; rfl)) rfl h
    | false => rw [e] at h; have : ¬ a ≤ b := fun c => by rw [Nat.ble_eq_true_of_le c] at e; cases e
               exact fin _ (binA_cmp rfl (by simp [Op.intCmp]; rw [decide_eq_true (by omega)]; rfl)) rfl h
  · cases e : Nat.ble b a with
    | true => rw [e] at h; have := Nat.le_of_ble_eq_true e; exact fin _ (binA_cmp rfl (by simp [Op.intCmp]; rw [decide_eq_true (by omega)]; rfl)) rfl h
    | false => rw [e] at h; have : ¬ b ≤ a := fun c => by rw [Nat.ble_eq_true_of_le c] at e; cases e
               exact fin _ (binA_cmp rfl (by simp [Op.intCmp]; rw [decide_eq_false (by omega)]; rfl)) rfl h
  · cases e : Nat.ble (limK k) (a + b) with
    | true => rw [e] at h; exact hg h
    | false =>
      rw [e] at h
      simp only [cond_false, forceN_eq] at h
      have : ¬ limK k ≤ a + b := fun c => by rw [Nat.ble_eq_true_of_le c] at e; cases e
      refine fin _ ?_ rfl h
      have w := wrap_lim (k := k) (n := a + b) (by omega)
      have e2 : (Int.ofNat a + Int.ofNat b) = Int.ofNat (a + b) := rfl
      unfold binA
      simp only [ground, atomic, Bool.and_self, if_true, eqGuard, binOp, Op.intArith]
      rw [e2, w]
      simp
      rfl
  · cases e : Nat.ble b a with
    | false => rw [e] at h; exact hg h
    | true =>
      rw [e] at h
      simp only [cond_true] at h
      have l1 := Nat.le_of_ble_eq_true e
      cases e1 : Nat.ble (limK k) a with
      | true => rw [e1] at h; exact hg h
      | false =>
        rw [e1] at h
        simp only [cond_false, forceN_eq] at h
        have : ¬ limK k ≤ a := fun c => by rw [Nat.ble_eq_true_of_le c] at e1; cases e1
        refine fin _ ?_ rfl h
        have w := wrap_lim (k := k) (n := a - b) (by omega)
        have e2 : (Int.ofNat a - Int.ofNat b) = Int.ofNat (a - b) := by show (a : Int) - b = ((a - b : Nat) : Int); omega
        unfold binA
        simp only [ground, atomic, Bool.and_self, if_true, eqGuard, binOp, Op.intArith]
        rw [e2, w]
        simp
        rfl
  · exact hg h
end Go.Am
