/- Frames as trees in normal form. -/
import Derived.Test.YtpfpfpeockbbpaaGreatDoorAmB
namespace Go.Am
abbrev T := Tr Value

noncomputable def rdP (p : List Bool) : T → Option Value :=
  List.rec (motive := fun _ => T → Option Value) (fun t => Tr.rec (motive := fun _ => Option Value) none (fun v _ _ _ _ => v) t)
    (fun b _ ih t => Tr.rec (motive := fun _ => Option Value) none (fun _ l r _ _ => Bool.rec (motive := fun _ => Option Value) (ih r) (ih l) b) t) p
noncomputable def setP (v : Value) (p : List Bool) : T → (T → R) → R :=
  List.rec (motive := fun _ => T → (T → R) → R) (fun t => Tr.rec (motive := fun _ => (T → R) → R) (fun _ => none) (fun o l r _ _ => Option.rec (motive := fun _ => (T → R) → R) (fun _ => none) (fun _ k => k (.node (some v) l r)) o) t)
    (fun b _ ih t => Tr.rec (motive := fun _ => (T → R) → R) (fun _ => none) (fun o l r _ _ => Bool.rec (motive := fun _ => (T → R) → R) (fun k => ih r fun r' => k (.node o l r')) (fun k => ih l fun l' => k (.node o l' r)) b) t) p

def pathF : Nat → Nat → List Bool
  | 0, _ => []
  | f + 1, n => if n = 0 then [] else if n % 2 = 1 then true :: pathF f (n / 2) else false :: pathF f (n / 2 - 1)
def path (n : Nat) : List Bool := pathF (n + 1) n
def dec : List Bool → Nat
  | [] => 0
  | true :: p => 2 * dec p + 1
  | false :: p => 2 * dec p + 2
theorem dec_pathF : ∀ f n, n < f → dec (pathF f n) = n
  | 0, _, h => absurd h (Nat.not_lt_zero _)
  | f + 1, n, h => by
    unfold pathF
    split
    · rename_i e; simp [dec, e]
    · split
      · rw [dec, dec_pathF f _ (by omega)]; omega
      · rw [dec, dec_pathF f _ (by omega)]; omega
theorem dec_path (n : Nat) : dec (path n) = n := dec_pathF (n + 1) n (Nat.lt_succ_self n)

theorem get_odd (v : Option Value) (l r : T) (d : Nat) : (Tr.node v l r).get (2 * d + 1) = l.get d := by
  have h1 : (2 * d + 1) % 2 = 1 := by omega
  have h2 : (2 * d + 1) / 2 = d := by omega
  simp [Tr.get, h1, h2]
theorem get_even (v : Option Value) (l r : T) (d : Nat) : (Tr.node v l r).get (2 * d + 2) = r.get d := by
  simp [Tr.get]
theorem rdP_get : ∀ (p : List Bool) (t : T), rdP p t = t.get (dec p)
  | [], .nil => rfl
  | [], .node v l r => by simp [dec, Tr.get]; rfl
  | _ :: _, .nil => rfl
  | true :: p, .node v l r => by rw [dec, get_odd]; exact rdP_get p l
  | false :: p, .node v l r => by rw [dec, get_even]; exact rdP_get p r
theorem rd_path (i : Nat) (t : T) : rdP (path i) t = t.get i := by rw [rdP_get, dec_path]

theorem setP_some {v : Value} {r : End × Heap} : ∀ (p : List Bool) (t : T) (k : T → R), setP v p t k = some r →
    ∃ t', k t' = some r ∧ (∃ o, t.get (dec p) = some o) ∧ ∀ i, t'.get i = if i = dec p then some v else t.get i
  | [], .nil, k, h => by cases h
  | _ :: _, .nil, k, h => by cases h
  | [], .node none l r, k, h => by cases h
  | [], .node (some x) l r, k, h => by
    refine ⟨_, h, ⟨x, by simp [dec, Tr.get]⟩, fun i => ?_⟩
    by_cases e : i = 0
    · subst e; simp [dec, Tr.get]
    · simp [dec, Tr.get, e]
  | true :: p, .node o l r, k, h => by
    obtain ⟨l', h1, h2, h3⟩ := setP_some p l (fun l' => k (.node o l' r)) h
    refine ⟨_, h1, by rw [dec, get_odd]; exact h2, fun i => ?_⟩
    by_cases e : i = 0
    · subst e; simp [dec, Tr.get]
    · by_cases q : i % 2 = 1
      · obtain ⟨j, rfl⟩ : ∃ j, i = 2 * j + 1 := ⟨i / 2, by omega⟩
        rw [get_odd, get_odd, h3, dec]
        by_cases e2 : j = dec p
        · subst e2; simp
        · have : ¬ 2 * j + 1 = 2 * dec p + 1 := by omega
          rw [if_neg e2, if_neg this]
      · obtain ⟨j, rfl⟩ : ∃ j, i = 2 * j + 2 := ⟨i / 2 - 1, by omega⟩
        have : ¬ 2 * j + 2 = dec (true :: p) := by rw [dec]; omega
        rw [if_neg this, get_even, get_even]
  | false :: p, .node o l r, k, h => by
    obtain ⟨l', h1, h2, h3⟩ := setP_some p r (fun r' => k (.node o l r')) h
    refine ⟨_, h1, by rw [dec, get_even]; exact h2, fun i => ?_⟩
    by_cases e : i = 0
    · subst e; simp [dec, Tr.get]
    · by_cases q : i % 2 = 1
      · obtain ⟨j, rfl⟩ : ∃ j, i = 2 * j + 1 := ⟨i / 2, by omega⟩
        have : ¬ 2 * j + 1 = dec (false :: p) := by rw [dec]; omega
        rw [if_neg this, get_odd, get_odd]
      · obtain ⟨j, rfl⟩ : ∃ j, i = 2 * j + 2 := ⟨i / 2 - 1, by omega⟩
        rw [get_even, get_even, h3, dec]
        by_cases e2 : j = dec p
        · subst e2; simp
        · have : ¬ 2 * j + 2 = 2 * dec p + 2 := by omega
          rw [if_neg e2, if_neg this]

/-- The tree says what the row says. -/
def Rep (t : T) (ts : Array Value) : Prop := ∀ i : Nat, t.get i = ts[i]?

theorem Rep.set {t t' : T} {ts : Array Value} (h : Rep t ts) {i : Nat} {v : Value} (h2 : ∃ o, t.get (dec (path i)) = some o) (h3 : ∀ j, t'.get j = if j = dec (path i) then some v else t.get j) : Rep t' (ts.setIfInBounds i v) := by
  rw [dec_path] at h2 h3
  intro j
  rw [h3]
  obtain ⟨o, ho⟩ := h2
  rw [h i] at ho
  have hlt : i < ts.size := by
    rcases Nat.lt_or_ge i ts.size with h | h
    · exact h
    · rw [Array.getElem?_eq_none h] at ho; cases ho
  by_cases e : j = i
  · subst e; simp [hlt]
  · rw [if_neg e, h j, Array.getElem?_setIfInBounds]
    simp [Ne.symm e]

noncomputable def putT (d : Option Tmp) (t : T) (v : Value) (k : T → R) : R := match d with | none => k t | some i => setP v (path i) t k
theorem putT_some {d : Option Tmp} {t : T} {v : Value} {k : T → R} {r : End × Heap} (he : putT d t v k = some r) {a : Act} (h : Rep t a.tmps) : ∃ t', k t' = some r ∧ Rep t' (a.put d v).tmps ∧ (a.put d v).defers = a.defers := by
  unfold putT at he
  cases d with
  | none => exact ⟨t, he, h, rfl⟩
  | some i =>
    obtain ⟨t', h1, h2, h3⟩ := setP_some _ _ _ he
    exact ⟨t', h1, h.set h2 h3, rfl⟩

def forceV (v : Value) (k : Value → R) : R :=
  match v with
  | .iface t (.pointer p) => k (.iface t (.pointer p))
  | .iface t (.agg p) => k (.iface t (.agg p))
  | .iface t (.int i p) => k (.iface t (.int i p))
  | .iface t (.string p) => k (.iface t (.string p))
  | .nilIface => k .nilIface
  | .tuple xs => k (.tuple xs)
  | .func f xs ys => k (.func f xs ys)
  | .nilFunc => k .nilFunc
  | .map m => k (.map m)
  | .int i n => k (.int i n)
  | .bool b => k (.bool b)
  | .pointer p => k (.pointer p)
  | .slice a n c => k (.slice a n c)
  | .agg xs => k (.agg xs)
  | v => k v
theorem forceV_eq (v : Value) (k : Value → R) : forceV v k = k v := by unfold forceV; split <;> rfl

noncomputable def evalT (t : T) : Operand → Value
  | .tmp i => (rdP (path i) t).getD undef
  | .const v => v
  | .global g => .pointer (some ⟨g, 0, none⟩)
  | .func f => .func (.func f) #[] #[]
theorem evalT_eq {t : T} {a : Act} (h : Rep t a.tmps) : evalT t = a.eval := by
  funext x
  cases x with
  | tmp i => simp only [evalT, Act.eval]; rw [rd_path, h i]; simp
  | _ => rfl

def blankF : Nat → Nat → T
  | 0, _ => .nil
  | f + 1, n => match n with
    | 0 => .nil
    | j + 1 => .node (some undef) (blankF f ((j + 1) / 2)) (blankF f (j / 2))
theorem get_blank : ∀ f n i, n ≤ f → (blankF f n).get i = if i < n then some undef else none
  | 0, n, i, h => by
    have : n = 0 := by omega
    subst this; rfl
  | f + 1, 0, i, h => rfl
  | f + 1, j + 1, i, h => by
    unfold blankF
    by_cases e : i = 0
    · subst e; simp [Tr.get]
    · by_cases q : i % 2 = 1
      · obtain ⟨d, rfl⟩ : ∃ d, i = 2 * d + 1 := ⟨i / 2, by omega⟩
        rw [get_odd, get_blank f _ _ (by omega)]
        by_cases c : 2 * d + 1 < j + 1
        · rw [if_pos c, if_pos (by omega)]
        · rw [if_neg c, if_neg (by omega)]
      · obtain ⟨d, rfl⟩ : ∃ d, i = 2 * d + 2 := ⟨i / 2 - 1, by omega⟩
        rw [get_even, get_blank f _ _ (by omega)]
        by_cases c : 2 * d + 2 < j + 1
        · rw [if_pos c, if_pos (by omega)]
        · rw [if_neg c, if_neg (by omega)]

/-- The arguments laid into a blank frame. -/
noncomputable def layT : List Value → Nat → T → (T → R) → R
  | [], _, t, k => k t
  | v :: l, i, t, k => setP v (path i) t fun t => layT l (i + 1) t k
theorem layT_some {r : End × Heap} : ∀ (l : List Value) (i : Nat) (t : T) (k : T → R), layT l i t k = some r →
    ∃ t', k t' = some r ∧ (∀ j, t'.get j = if i ≤ j ∧ j < i + l.length then l[j - i]? else t.get j) ∧ (∀ j, i ≤ j → j < i + l.length → ∃ o, t.get j = some o)
  | [], i, t, k, h => ⟨t, h, fun j => by rw [if_neg (by simp only [List.length_nil]; omega)], fun j h1 h2 => by simp only [List.length_nil] at h2; omega⟩
  | v :: l, i, t, k, h => by
    obtain ⟨t1, h1, h2, h3⟩ := setP_some _ _ _ h
    rw [dec_path] at h2 h3
    obtain ⟨t2, k1, k2, k3⟩ := layT_some l (i + 1) t1 k h1
    refine ⟨t2, k1, fun j => ?_, fun j a b => ?_⟩
    · rw [k2]
      simp only [List.length_cons]
      by_cases c : i + 1 ≤ j ∧ j < i + 1 + l.length
      · rw [if_pos c, if_pos (by omega)]
        obtain ⟨d, hd⟩ : ∃ d, j - i = d + 1 := ⟨j - i - 1, by omega⟩
        have : j - (i + 1) = d := by omega
        rw [hd, this]; simp
      · rw [if_neg c, h3]
        by_cases e : j = i
        · subst e; simp
        · rw [if_neg e, if_neg (by omega)]
    · simp only [List.length_cons] at b
      by_cases e : j = i
      · subst e; exact h2
      · obtain ⟨o, ho⟩ := k3 j (by omega) (by omega)
        rw [h3, if_neg e] at ho
        exact ⟨o, ho⟩
noncomputable def startT (n : Nat) (args : Array Value) (k : T → R) : R := layT args.toList 0 (blankF n n) k
theorem startT_some {fn : Func} {args : Array Value} {k : T → R} {r : End × Heap} (he : startT fn.ntmps args k = some r) : ∃ t, k t = some r ∧ Rep t (act0 fn args).tmps := by
  obtain ⟨t, h1, h2, h3⟩ := layT_some _ _ _ _ he
  refine ⟨t, h1, fun j => ?_⟩
  rw [h2, get_blank _ _ _ (Nat.le_refl _)]
  simp only [act0, Nat.zero_le, true_and, Nat.zero_add, Nat.sub_zero, Array.length_toList]
  have hle : args.size ≤ fn.ntmps := by
    rcases Nat.eq_zero_or_pos args.size with e | e
    · omega
    · obtain ⟨o, ho⟩ := h3 (args.size - 1) (Nat.zero_le _) (by simp; omega)
      rw [get_blank _ _ _ (Nat.le_refl _)] at ho
      split at ho
      · omega
      · cases ho
  by_cases c : j < args.size
  · rw [if_pos c, Array.getElem?_append_left c]; simp
  · rw [if_neg c, Array.getElem?_append_right (by omega), Array.getElem?_replicate]
    by_cases c2 : j < fn.ntmps
    · rw [if_pos c2, if_pos (by omega)]
    · rw [if_neg c2, if_neg (by omega)]
end Go.Am
