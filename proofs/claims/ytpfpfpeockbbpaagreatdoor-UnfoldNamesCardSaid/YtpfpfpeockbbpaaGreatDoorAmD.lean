/- Regions that draw their order: when every order comes to the same. -/
import Derived.Test.YtpfpfpeockbbpaaGreatDoorAmQ
namespace Go.Am

theorem veq0_eq {a b : Value} (h : veq0 a b = true) : a = b := by
  unfold veq0 at h
  split at h
  · rw [eq_of_beq h]
  · simp only [Bool.and_eq_true] at h; rw [eq_of_beq h.1, eq_of_beq h.2]
  · rename_i a b
    have := eq_of_beq h
    obtain ⟨⟨l⟩⟩ := a
    obtain ⟨⟨l'⟩⟩ := b
    simp only at this
    rw [this]
  · rw [eq_of_beq h]
  · simp only [Bool.and_eq_true] at h; rw [eq_of_beq h.1.1, eq_of_beq h.1.2, eq_of_beq h.2]
  · rw [eq_of_beq h]
  · rfl
  · rfl
  · simp at h

theorem veqs_eq : ∀ {a b : List Value}, veqs a b = true → a = b
  | [], [], _ => rfl
  | [], _ :: _, h => by simp [veqs] at h
  | _ :: _, [], h => by simp [veqs] at h
  | x :: r, y :: s, h => by
    simp only [veqs, Bool.and_eq_true] at h
    rw [veq0_eq h.1, veqs_eq h.2]

theorem veq_eq {a b : Value} (h : veq a b = true) : a = b := by
  unfold veq at h
  split at h
  · rename_i xs ys
    have := veqs_eq h
    obtain ⟨l⟩ := xs
    obtain ⟨l'⟩ := ys
    simp only at this
    rw [this]
  · simp only [Bool.and_eq_true] at h; rw [eq_of_beq h.1, veq0_eq h.2]
  · simp only [Bool.and_eq_true] at h; rw [eq_of_beq h.1, Array.toList_inj.mp (veqs_eq h.2.1), Array.toList_inj.mp (veqs_eq h.2.2)]
  · exact veq0_eq h

theorem set_same {a : Array Value} {d : Nat} {v : Value} (h : a[d]? = some v) : a.setIfInBounds d v = a := by
  apply Array.ext_getElem?
  intro i
  rw [Array.getElem?_setIfInBounds]
  by_cases e : d = i
  · subst e
    have hlt := (Array.getElem?_eq_some_iff.1 h).1
    rw [if_pos rfl, if_pos hlt, h]
  · rw [if_neg e]

theorem guardK_spec {ops : Array Oper} {o : Oper} {a : Act} {run skip : Act → R} {r : End × Heap} (he : guardK ops o a run skip = some r) :
    (guardB ops o a = some true ∧ run a = some r) ∨ (guardB ops o a = some false ∧ skip a = some r) := by
  unfold guardK at he
  unfold guardB
  split at he
  · rename_i hg; try rw [hg]
    exact .inl ⟨rfl, he⟩
  · rename_i j want hg
    try rw [hg]
    split at he
    · rename_i hd
      exact .inr ⟨by first | rfl | trivial, he⟩
    · rename_i d hd
      try simp only [hd]
      split at he
      · rename_i b hb
        try simp only [hb]
        rw [splitB_eq] at he
        rw [set_same hb] at he
        cases hw : (b == want) with
        | true => rw [hw] at he; exact .inl ⟨by first | rfl | trivial, he⟩
        | false => rw [hw] at he; exact .inr ⟨by first | rfl | trivial, he⟩
      · rename_i vs hb
        exact .inr ⟨by first | rfl | trivial, he⟩
      · simp at he

/-- One step of the run in the text's order. -/
def StepC (P : Program) (X : Xf) (K : Kf) (ops : Array Oper) (o : Oper) (a : Act) (H : Heap) (a' : Act) (H' : Heap) : Prop :=
  (guardB ops o a = some true ∧ opOk P o = true ∧ ∃ v, Yl P X K a.eval o H v H' ∧ a' = a.put o.dst v) ∨
  (guardB ops o a = some false ∧ a' = a.put o.dst undef ∧ H' = H)

def TrP (P : Program) (X : Xf) (K : Kf) (ops : Array Oper) (k : List (Act × Heap) → Act → Heap → R) (r : End × Heap) (l : List Oper) (a : Act) (H : Heap) (tr : List (Act × Heap)) : Prop :=
  ∃ ts : List (Act × Heap), ts.length = l.length + 1 ∧ ts[0]? = some (a, H) ∧
    (∀ i o x y, l[i]? = some o → ts[i]? = some x → ts[i + 1]? = some y → StepC P X K ops o x.1 x.2 y.1 y.2) ∧
    ∃ af Hf, ts[l.length]? = some (af, Hf) ∧ k (tr ++ ts) af Hf = some r

theorem TrP.cons {P : Program} {X : Xf} {K : Kf} {ops : Array Oper} {k : List (Act × Heap) → Act → Heap → R} {r : End × Heap} {o : Oper} {rest : List Oper} {a a' : Act} {H H' : Heap} {tr : List (Act × Heap)}
    (hs : StepC P X K ops o a H a' H') (hr : TrP P X K ops k r rest a' H' (tr ++ [(a, H)])) : TrP P X K ops k r (o :: rest) a H tr := by
  obtain ⟨ts, k1, k2, k3, af, Hf, k4, k5⟩ := hr
  refine ⟨(a, H) :: ts, by simp [k1], rfl, ?_, af, Hf, by simpa using k4, by simpa using k5⟩
  intro i o' x y h1 h2 h3
  cases i with
  | zero =>
    simp only [List.getElem?_cons_zero, Option.some.injEq, Nat.zero_add, List.getElem?_cons_succ] at h1 h2 h3
    subst h1; subst h2
    rw [k2] at h3
    simp only [Option.some.injEq] at h3
    subst h3
    exact hs
  | succ i =>
    simp only [List.getElem?_cons_succ] at h1 h2 h3
    exact k3 i o' x y h1 h2 h3

/-- A run in the text's order that ends in a panic. -/
def TrQ (P : Program) (X : Xf) (K : Kf) (ops : Array Oper) (kp : List (Act × Heap) → List PanicEntry → Act → Heap → R) (r : End × Heap) (l : List Oper) (a : Act) (H : Heap) (tr : List (Act × Heap)) : Prop :=
  ∃ (p : Nat) (op : Oper) (ts : List (Act × Heap)), l[p]? = some op ∧ ts.length = p + 1 ∧ ts[0]? = some (a, H) ∧
    (∀ i o x y, l[i]? = some o → ts[i]? = some x → ts[i + 1]? = some y → StepC P X K ops o x.1 x.2 y.1 y.2) ∧
    ∃ ap Hp, ts[p]? = some (ap, Hp) ∧ guardB ops op ap = some true ∧ opOk P op = true ∧ ∃ c H', Pn P X K ap.eval op Hp c H' ∧ kp (tr ++ ts) c ap H' = some r

theorem TrQ.cons {P : Program} {X : Xf} {K : Kf} {ops : Array Oper} {kp : List (Act × Heap) → List PanicEntry → Act → Heap → R} {r : End × Heap} {o : Oper} {rest : List Oper} {a a' : Act} {H H' : Heap} {tr : List (Act × Heap)}
    (hs : StepC P X K ops o a H a' H') (hr : TrQ P X K ops kp r rest a' H' (tr ++ [(a, H)])) : TrQ P X K ops kp r (o :: rest) a H tr := by
  obtain ⟨p, op, ts, k0, k1, k2, k3, ap, Hp, k4, g1, g2, c, H2, g3, k5⟩ := hr
  refine ⟨p + 1, op, (a, H) :: ts, by simpa using k0, by simp [k1], rfl, ?_, ap, Hp, by simpa using k4, g1, g2, c, H2, g3, by simpa using k5⟩
  intro i o' x y h1 h2 h3
  cases i with
  | zero =>
    simp only [List.getElem?_cons_zero, Option.some.injEq, Nat.zero_add, List.getElem?_cons_succ] at h1 h2 h3
    subst h1; subst h2
    rw [k2] at h3
    simp only [Option.some.injEq] at h3
    subst h3
    exact hs
  | succ i =>
    simp only [List.getElem?_cons_succ] at h1 h2 h3
    exact k3 i o' x y h1 h2 h3

theorem execTr_spec {P : Program} {X : Xf} {K : Kf} {ops : Array Oper} {k : List (Act × Heap) → Act → Heap → R} {kp : List (Act × Heap) → List PanicEntry → Act → Heap → R} {r : End × Heap} :
    ∀ (l : List Oper) {a : Act} {H : Heap} {tr : List (Act × Heap)}, (∀ o ∈ l, isDefer o = false) → execTr P X K ops l a H tr k kp = some r → TrP P X K ops k r l a H tr ∨ TrQ P X K ops kp r l a H tr
  | [], a, H, tr, _, he => .inl ⟨[(a, H)], rfl, rfl, fun i o x y h => by simp at h, a, H, rfl, he⟩
  | o :: rest, a, H, tr, hd, he => by
    simp only [execTr] at he
    rcases guardK_spec he with ⟨hg, hr⟩ | ⟨hg, hr⟩
    · unfold execOp1 at hr
      cases hok : opOk P o with
      | false => rw [hok] at hr; simp at hr
      | true =>
        rw [hok] at hr
        simp only [cond_true] at hr
        have hnd := hd o (by simp)
        split at hr
        · rename_i c hc; simp [isDefer, hc] at hnd
        · rcases opK_split hr with ⟨v, H', hy, hk⟩ | ⟨c, H', hy, hk⟩
          · rcases execTr_spec rest (fun x hx => hd x (by simp [hx])) (typed_some hk) with h | h
            · exact .inl (TrP.cons (.inl ⟨hg, hok, v, hy, rfl⟩) h)
            · exact .inr (TrQ.cons (.inl ⟨hg, hok, v, hy, rfl⟩) h)
          · exact .inr ⟨0, o, [(a, H)], rfl, rfl, rfl, fun i o' x y h1 h2 h3 => by simp at h3, a, H, rfl, hg, hok, c, H', hy, hk⟩
    · rcases execTr_spec rest (fun x hx => hd x (by simp [hx])) hr with h | h
      · exact .inl (TrP.cons (.inr ⟨hg, rfl, rfl⟩) h)
      · exact .inr (TrQ.cons (.inr ⟨hg, rfl, rfl⟩) h)

/-- One bit of a fold of ors. -/
theorem foldl_or_bit (acc : List Nat) (i : Nat) : ∀ (l : List Edge) (s : Nat), (l.foldl (fun s e => s ||| 2 ^ e.on ||| acc.getD e.on 0) s).testBit i = true →
    s.testBit i = true ∨ ∃ e ∈ l, e.on = i ∨ (acc.getD e.on 0).testBit i = true
  | [], s, h => .inl h
  | e :: r, s, h => by
    simp only [List.foldl_cons] at h
    rcases foldl_or_bit acc i r _ h with h1 | ⟨e', he', h2⟩
    · simp only [Nat.testBit_or, Bool.or_eq_true, Nat.testBit_two_pow, decide_eq_true_eq] at h1
      rcases h1 with (h1 | h1) | h1
      · exact .inl h1
      · exact .inr ⟨e, by simp, .inl h1⟩
      · exact .inr ⟨e, by simp, .inr h1⟩
    · exact .inr ⟨e', by simp [he'], h2⟩

theorem masks_acc : ∀ (l : List Oper) (acc : List Nat), ∃ t, masks l acc = acc ++ t
  | [], acc => ⟨[], by simp [masks]⟩
  | o :: r, acc => by
    obtain ⟨t, ht⟩ := masks_acc r (acc ++ [maskOf acc o])
    exact ⟨maskOf acc o :: t, by simp [masks, ht]⟩

theorem masks_get : ∀ (l : List Oper) (acc : List Nat) (i : Nat) (o : Oper), l[i]? = some o → ∃ t, t.length = i ∧ (masks l acc).getD (acc.length + i) 0 = maskOf (acc ++ t) o ∧ ∃ u, masks l acc = acc ++ t ++ u
  | [], acc, i, o, h => by simp at h
  | o' :: r, acc, 0, o, h => by
    simp only [List.getElem?_cons_zero, Option.some.injEq] at h
    subst h
    obtain ⟨t, ht⟩ := masks_acc r (acc ++ [maskOf acc o'])
    refine ⟨[], rfl, ?_, ⟨maskOf acc o' :: t, by simp [masks, ht]⟩⟩
    simp [masks, ht]
  | o' :: r, acc, i + 1, o, h => by
    simp only [List.getElem?_cons_succ] at h
    obtain ⟨t, h1, h2, u, h3⟩ := masks_get r (acc ++ [maskOf acc o']) i o h
    refine ⟨maskOf acc o' :: t, by simp [h1], ?_, u, ?_⟩
    · simp only [masks]
      have e : (acc ++ [maskOf acc o']).length + i = acc.length + (i + 1) := by simp; omega
      rw [← e, h2]
      simp
    · simp only [masks, h3]; simp

/-- What stands before an operation: an edge's end, or what stands before that. -/
theorem mask_spec {ops : List Oper} {i j : Nat} {o : Oper} (ho : ops[i]? = some o) (hon : ∀ e ∈ o.after, Region.binds .any e = true → e.on < i) (h : ((masks ops []).getD i 0).testBit j = true) :
    ∃ e ∈ o.after, Region.binds .any e = true ∧ (e.on = j ∨ ((masks ops []).getD e.on 0).testBit j = true) := by
  obtain ⟨t, h1, h2, u, h3⟩ := masks_get ops [] i o ho
  simp only [List.length_nil, Nat.zero_add, List.nil_append] at h2 h3
  rw [h2] at h
  unfold maskOf at h
  rcases foldl_or_bit t j _ 0 h with h4 | ⟨e, he, h4⟩
  · simp at h4
  · rw [List.mem_filter] at he
    have hea : e ∈ o.after := by simpa using he.1
    refine ⟨e, hea, he.2, ?_⟩
    rcases h4 with h4 | h4
    · exact .inl h4
    · right
      have hlt := hon e hea he.2
      rw [h3]
      rw [List.getD_eq_getElem?_getD, List.getElem?_append_left (by omega), ← List.getD_eq_getElem?_getD]
      exact h4


/-- What the static check says, opened. -/
structure Sta (P : Program) (ops : List Oper) : Prop where
  nd : ∀ o ∈ ops, isDefer o = false
  edge : ∀ (i : Nat) (o : Oper), ops[i]? = some o → ∀ e ∈ o.after, Region.binds .any e = true → e.on < i
  lt : ∀ (i : Nat) (o : Oper), ops[i]? = some o → (masks ops []).getD i 0 < 2 ^ i
  dst : ∀ (i j : Nat) (oi oj : Oper) (d : Tmp), ops[i]? = some oi → ops[j]? = some oj → oi.dst = some d → oj.dst = some d → i = j
  look : ∀ (i j : Nat) (oi oj : Oper) (d : Tmp), ops[i]? = some oi → ops[j]? = some oj → oj.dst = some d → d ∈ looks ops oi →
    i ≠ j ∧ (((masks ops []).getD i 0).testBit j = true ∨ ((masks ops []).getD j 0).testBit i = true)
  eff : ∀ (i j : Nat) (oi oj : Oper), ops[i]? = some oi → ops[j]? = some oj → i < j → cls P oi = 2 → cls P oj = 2 → ((masks ops []).getD j 0).testBit i = true

/-- What the static check says. -/
structure StaF (P : Program) (ops : List Oper) : Prop where
  nd : ∀ o ∈ ops, isDefer o = false
  edge : ∀ (i : Nat) (o : Oper), ops[i]? = some o → ∀ e ∈ o.after, Region.binds .any e = true → e.on < i
  lt : ∀ (i : Nat) (o : Oper), ops[i]? = some o → (masks ops []).getD i 0 < 2 ^ i
  dst : ∀ (i j : Nat) (oi oj : Oper) (d : Tmp), ops[i]? = some oi → ops[j]? = some oj → oi.dst = some d → oj.dst = some d → i = j
  look : ∀ (i j : Nat) (oi oj : Oper) (d : Tmp), ops[i]? = some oi → ops[j]? = some oj → oj.dst = some d → d ∈ looks ops oi →
    i ≠ j ∧ (((masks ops []).getD i 0).testBit j = true ∨ ((masks ops []).getD j 0).testBit i = true)
  eff : ∀ (i j : Nat) (oi oj : Oper), ops[i]? = some oi → ops[j]? = some oj → i < j → cls P oi = 2 → cls P oj = 2 → freeA oj = false → ((masks ops []).getD j 0).testBit i = true
  use : ∀ (i j : Nat) (oi oj : Oper) (d : Tmp), ops[i]? = some oi → ops[j]? = some oj → freeA oj = true → oj.dst = some d → d ∈ looks ops oi → cls P oi = 2 ∨ ∀ (e : Nat) (oe : Oper), e ≤ j → ops[e]? = some oe → cls P oe = 2 → ((masks ops []).getD i 0).testBit e = true
theorem drawOk_spec {P : Program} {ops : List Oper} (h : drawOk P ops = true) : StaF P ops := by
  unfold drawOk at h
  simp only [List.all_eq_true, List.mem_range] at h
  have hi : ∀ (i : Nat) (o : Oper), ops[i]? = some o → i < ops.length := fun i o ho => (List.getElem?_eq_some_iff.1 ho).1
  have key := fun (i : Nat) (oi : Oper) (ho : ops[i]? = some oi) => by
    have := h i (hi i oi ho)
    simp only [ho, Bool.and_eq_true, Bool.not_eq_true', decide_eq_true_eq, List.all_eq_true, List.mem_range] at this
    exact this
  refine ⟨?_, ?_, ?_, ?_, ?_, ?_, ?_⟩
  · intro o ho
    obtain ⟨i, hlt, rfl⟩ := List.getElem_of_mem ho
    exact (key i ops[i] (List.getElem?_eq_getElem hlt)).1.1.1
  · intro i o ho e he hb
    have := (key i o ho).1.2 e (by simpa using he)
    simpa [hb] using this
  · intro i o ho
    exact (key i o ho).1.1.2
  · intro i j oi oj d h1 h2 d1 d2
    have := (key i oi h1).2 j (hi j oj h2)
    simp only [h2, d2, Bool.and_eq_true, Bool.or_eq_true, beq_iff_eq] at this
    rcases this.1.1.1 with e | e
    · exact e
    · simp [dstIs, d1] at e
  · intro i j oi oj d h1 h2 d2 hl
    have := (key i oi h1).2 j (hi j oj h2)
    simp only [h2, d2, Bool.and_eq_true, List.all_eq_true] at this
    have := this.1.1.2 d hl
    simpa using this
  · intro i j oi oj h1 h2 hlt c1 c2 hf
    have := (key i oi h1).2 j (hi j oj h2)
    simp only [h2, Bool.and_eq_true] at this
    have := this.1.2
    simpa [hlt, c1, c2, hf] using this
  · intro i j oi oj d h1 h2 hf d2 hl
    have := (key i oi h1).2 j (hi j oj h2)
    simp only [h2, Bool.and_eq_true] at this
    have := this.2
    simp only [hf, d2, Bool.not_true, Bool.false_or, Bool.or_eq_true, Bool.not_eq_true', beq_iff_eq] at this
    rcases this with e | e | e
    · have : ((looks ops oi).any fun t => t == d) = true := List.any_eq_true.2 ⟨d, hl, by simp⟩
      rw [this] at e; cases e
    · exact .inl e
    · refine .inr fun e1 oe h3 h4 h5 => ?_
      have := List.all_eq_true.1 e e1 (by rw [List.mem_range]; omega)
      simpa [h4, h5] using this
theorem sta_of {P : Program} {ops : List Oper} (h : StaF P ops) (hs : strictB P ops = true) : Sta P ops := by
  refine ⟨h.nd, h.edge, h.lt, h.dst, h.look, fun i j oi oj h1 h2 hlt c1 c2 => ?_⟩
  unfold strictB at hs
  simp only [List.all_eq_true, List.mem_range] at hs
  have hi := (List.getElem?_eq_some_iff.1 h1).1
  have hj := (List.getElem?_eq_some_iff.1 h2).1
  have := hs i hi
  simp only [h1, List.all_eq_true, List.mem_range] at this
  have := this j hj
  simp only [h2] at this
  simpa [hlt, c1, c2] using this

theorem sta_bit_lt {P : Program} {ops : List Oper} (hs : Sta P ops) {i j : Nat} {o : Oper} (ho : ops[i]? = some o) (h : ((masks ops []).getD i 0).testBit j = true) : j < i := by
  have h1 := hs.lt i o ho
  rcases Nat.lt_or_ge j i with h2 | h2
  · exact h2
  · have : (masks ops []).getD i 0 < 2 ^ j := Nat.lt_of_lt_of_le h1 (Nat.pow_le_pow_right (by omega) h2)
    rw [Nat.testBit_lt_two_pow this] at h
    simp at h

/-- What has been done is closed towards what stands before. -/
def Down (ops : List Oper) (L : Nat → Bool) : Prop := ∀ (i : Nat) (o : Oper), ops[i]? = some o → L i = true → ∀ e ∈ o.after, Region.binds .any e = true → L e.on = true

theorem down_bit {P : Program} {ops : List Oper} (hs : Sta P ops) {L : Nat → Bool} (hd : Down ops L) : ∀ (i : Nat) (o : Oper) (j : Nat), ops[i]? = some o →
    (∀ e ∈ o.after, Region.binds .any e = true → L e.on = true) → ((masks ops []).getD i 0).testBit j = true → L j = true := by
  intro i
  induction i using Nat.strongRecOn with
  | _ i ih =>
    intro o j ho hp hb
    obtain ⟨e, he, hbi, h⟩ := mask_spec ho (hs.edge i o ho) hb
    have hlt := hs.edge i o ho e he hbi
    rcases h with h | h
    · rw [← h]; exact hp e he hbi
    · have hlt2 : e.on < ops.length := Nat.lt_trans hlt (List.getElem?_eq_some_iff.1 ho).1
      have ho2 : ops[e.on]? = some ops[e.on] := List.getElem?_eq_getElem hlt2
      exact ih e.on hlt ops[e.on] j ho2 (hd e.on _ ho2 (hp e he hbi)) h

end Go.Am
