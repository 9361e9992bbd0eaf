/- Regions that draw their order: when every order comes to the same. -/
import Derived.Test.YtohmeeglehopiaaGreatDoorM03
import Derived.Test.YtohmeeglehopiaaGreatDoorProg
namespace Go.Am
theorem j2p {a b : Value} (h : veq0 a b = true) : a = b := by
 unfold veq0 at h
 split at h
 · rw [eq_of_beq h]
 · simp only [Bool.and_eq_true] at h; rw [eq_of_beq h.1, eq_of_beq h.2]
 · rename_i a b
   have := eq_of_beq h
   obtain ⟨⟨l⟩⟩ := a
   obtain ⟨⟨l'⟩⟩ := b
   simp only at this
   rw [this]
 · rw [eq_of_beq h]
 · simp only [Bool.and_eq_true] at h; rw [eq_of_beq h.1.1, eq_of_beq h.1.2, eq_of_beq h.2]
 · rw [eq_of_beq h]
 · rfl
 · rfl
 · simp at h
theorem jr5 : ∀ {a b : List Value}, veqs a b = true → a = b
 | [], [], _ => rfl
 | [], _ :: _, h => by simp [veqs] at h
 | _ :: _, [], h => by simp [veqs] at h
 | x :: r, y :: s, h => by
   simp only [veqs, Bool.and_eq_true] at h
   rw [j2p h.1, jr5 h.2]
theorem j6u {a b : Value} (h : veq a b = true) : a = b := by
 unfold veq at h
 split at h
 · rename_i xs ys
   have := jr5 h
   obtain ⟨l⟩ := xs
   obtain ⟨l'⟩ := ys
   simp only at this
   rw [this]
 · simp only [Bool.and_eq_true] at h; rw [eq_of_beq h.1, j2p h.2]
 · simp only [Bool.and_eq_true] at h; rw [eq_of_beq h.1, Array.toList_inj.mp (jr5 h.2.1), Array.toList_inj.mp (jr5 h.2.2)]
 · exact j2p h
theorem yi9 {a : Array Value} {d : Nat} {v : Value} (h : a[d]? = some v) : a.setIfInBounds d v = a := by
 apply Array.ext_getElem?
 intro i
 rw [Array.getElem?_setIfInBounds]
 by_cases e : d = i
 · subst e
   have hlt := (Array.getElem?_eq_some_iff.1 h).1
   rw [if_pos rfl, if_pos hlt, h]
 · rw [if_neg e]
theorem j5h {ops : Array Oper} {o : Oper} {a : Act} {run skip : Act → R} {r : End × Heap} (he : guardK ops o a run skip = some r) :
   (guardB ops o a = some true ∧ run a = some r) ∨ (guardB ops o a = some false ∧ skip a = some r) := by
 unfold guardK at he
 unfold guardB
 split at he
 · rename_i hg; try rw [hg]
   exact .inl ⟨rfl, he⟩
 · rename_i j want hg
   try rw [hg]
   split at he
   · rename_i hd
     exact .inr ⟨by first | rfl | trivial, he⟩
   · rename_i d hd
     try simp only [hd]
     split at he
     · rename_i b hb
       try simp only [hb]
       rw [jn6] at he
       rw [yi9 hb] at he
       cases hw : (b == want) with
       | true => rw [hw] at he; exact .inl ⟨by first | rfl | trivial, he⟩
       | false => rw [hw] at he; exact .inr ⟨by first | rfl | trivial, he⟩
     · rename_i vs hb
       exact .inr ⟨by first | rfl | trivial, he⟩
     · simp at he
def StepC (P : Program) (X : Xf) (K : Kf) (ops : Array Oper) (o : Oper) (a : Act) (H : Heap) (a' : Act) (H' : Heap) : Prop :=
 (guardB ops o a = some true ∧ opOk P o = true ∧ ∃ v, Yl P X K a.eval o H v H' ∧ a' = a.put o.dst v) ∨
 (guardB ops o a = some false ∧ a' = a.put o.dst undef ∧ H' = H)
def TrP (P : Program) (X : Xf) (K : Kf) (ops : Array Oper) (k : List (Act × Heap) → Act → Heap → R) (r : End × Heap) (l : List Oper) (a : Act) (H : Heap) (tr : List (Act × Heap)) : Prop :=
 ∃ ts : List (Act × Heap), ts.length = l.length + 1 ∧ ts[0]? = some (a, H) ∧
   (∀ i o x y, l[i]? = some o → ts[i]? = some x → ts[i + 1]? = some y → StepC P X K ops o x.1 x.2 y.1 y.2) ∧
   ∃ af Hf, ts[l.length]? = some (af, Hf) ∧ k (tr ++ ts) af Hf = some r
theorem TrP.cons {P : Program} {X : Xf} {K : Kf} {ops : Array Oper} {k : List (Act × Heap) → Act → Heap → R} {r : End × Heap} {o : Oper} {rest : List Oper} {a a' : Act} {H H' : Heap} {tr : List (Act × Heap)}
   (hs : StepC P X K ops o a H a' H') (hr : TrP P X K ops k r rest a' H' (tr ++ [(a, H)])) : TrP P X K ops k r (o :: rest) a H tr := by
 obtain ⟨ts, k1, k2, k3, af, Hf, k4, k5⟩ := hr
 refine ⟨(a, H) :: ts, by simp [k1], rfl, ?_, af, Hf, by simpa using k4, by simpa using k5⟩
 intro i o' x y h1 h2 h3
 cases i with
 | zero =>
   simp only [List.getElem?_cons_zero, Option.some.injEq, Nat.zero_add, List.getElem?_cons_succ] at h1 h2 h3
   subst h1; subst h2
   rw [k2] at h3
   simp only [Option.some.injEq] at h3
   subst h3
   exact hs
 | succ i =>
   simp only [List.getElem?_cons_succ] at h1 h2 h3
   exact k3 i o' x y h1 h2 h3
def TrQ (P : Program) (X : Xf) (K : Kf) (ops : Array Oper) (kp : List PanicEntry → Act → Heap → R) (r : End × Heap) (l : List Oper) (a : Act) (H : Heap) : Prop :=
 ∃ (p : Nat) (op : Oper) (ts : List (Act × Heap)), l[p]? = some op ∧ ts.length = p + 1 ∧ ts[0]? = some (a, H) ∧
   (∀ i o x y, l[i]? = some o → ts[i]? = some x → ts[i + 1]? = some y → StepC P X K ops o x.1 x.2 y.1 y.2) ∧
   ∃ ap Hp, ts[p]? = some (ap, Hp) ∧ guardB ops op ap = some true ∧ opOk P op = true ∧ ∃ c H', Pn P X K ap.eval op Hp c H' ∧ kp c ap H' = some r
theorem TrQ.cons {P : Program} {X : Xf} {K : Kf} {ops : Array Oper} {kp : List PanicEntry → Act → Heap → R} {r : End × Heap} {o : Oper} {rest : List Oper} {a a' : Act} {H H' : Heap}
   (hs : StepC P X K ops o a H a' H') (hr : TrQ P X K ops kp r rest a' H') : TrQ P X K ops kp r (o :: rest) a H := by
 obtain ⟨p, op, ts, k0, k1, k2, k3, ap, Hp, k4, k5⟩ := hr
 refine ⟨p + 1, op, (a, H) :: ts, by simpa using k0, by simp [k1], rfl, ?_, ap, Hp, by simpa using k4, k5⟩
 intro i o' x y h1 h2 h3
 cases i with
 | zero =>
   simp only [List.getElem?_cons_zero, Option.some.injEq, Nat.zero_add, List.getElem?_cons_succ] at h1 h2 h3
   subst h1; subst h2
   rw [k2] at h3
   simp only [Option.some.injEq] at h3
   subst h3
   exact hs
 | succ i =>
   simp only [List.getElem?_cons_succ] at h1 h2 h3
   exact k3 i o' x y h1 h2 h3
theorem jr6 {P : Program} {X : Xf} {K : Kf} {ops : Array Oper} {k : List (Act × Heap) → Act → Heap → R} {kp : List PanicEntry → Act → Heap → R} {r : End × Heap} :
   ∀ (l : List Oper) {a : Act} {H : Heap} {tr : List (Act × Heap)}, (∀ o ∈ l, isDefer o = false) → execTr P X K ops l a H tr k kp = some r → TrP P X K ops k r l a H tr ∨ TrQ P X K ops kp r l a H
 | [], a, H, tr, _, he => .inl ⟨[(a, H)], rfl, rfl, fun i o x y h => by simp at h, a, H, rfl, he⟩
 | o :: rest, a, H, tr, hd, he => by
   simp only [execTr] at he
   rcases j5h he with ⟨hg, hr⟩ | ⟨hg, hr⟩
   · unfold execOp1 at hr
     cases hok : opOk P o with
     | false => rw [hok] at hr; simp at hr
     | true =>
       rw [hok] at hr
       simp only [cond_true] at hr
       have hnd := hd o (by simp)
       split at hr
       · rename_i c hc; simp [isDefer, hc] at hnd
       · rcases j90 hr with ⟨v, H', hy, hk⟩ | ⟨c, H', hy, hk⟩
         · rcases jr6 rest (fun x hx => hd x (by simp [hx])) (jv6 hk) with h | h
           · exact .inl (TrP.cons (.inl ⟨hg, hok, v, hy, rfl⟩) h)
           · exact .inr (TrQ.cons (.inl ⟨hg, hok, v, hy, rfl⟩) h)
         · exact .inr ⟨0, o, [(a, H)], rfl, rfl, rfl, fun i o' x y h1 h2 h3 => by simp at h3, a, H, rfl, hg, hok, c, H', hy, hk⟩
   · rcases jr6 rest (fun x hx => hd x (by simp [hx])) hr with h | h
     · exact .inl (TrP.cons (.inr ⟨hg, rfl, rfl⟩) h)
     · exact .inr (TrQ.cons (.inr ⟨hg, rfl, rfl⟩) h)
theorem jx4 (acc : List Nat) (i : Nat) : ∀ (l : List Edge) (s : Nat), (l.foldl (fun s e => s ||| 2 ^ e.on ||| acc.getD e.on 0) s).testBit i = true →
   s.testBit i = true ∨ ∃ e ∈ l, e.on = i ∨ (acc.getD e.on 0).testBit i = true
 | [], s, h => .inl h
 | e :: r, s, h => by
   simp only [List.foldl_cons] at h
   rcases jx4 acc i r _ h with h1 | ⟨e', he', h2⟩
   · simp only [Nat.testBit_or, Bool.or_eq_true, Nat.testBit_two_pow, decide_eq_true_eq] at h1
     rcases h1 with (h1 | h1) | h1
     · exact .inl h1
     · exact .inr ⟨e, by simp, .inl h1⟩
     · exact .inr ⟨e, by simp, .inr h1⟩
   · exact .inr ⟨e', by simp [he'], h2⟩
theorem j0f : ∀ (l : List Oper) (acc : List Nat), ∃ t, masks l acc = acc ++ t
 | [], acc => ⟨[], by simp [masks]⟩
 | o :: r, acc => by
   obtain ⟨t, ht⟩ := j0f r (acc ++ [maskOf acc o])
   exact ⟨maskOf acc o :: t, by simp [masks, ht]⟩
theorem j3y : ∀ (l : List Oper) (acc : List Nat) (i : Nat) (o : Oper), l[i]? = some o → ∃ t, t.length = i ∧ (masks l acc).getD (acc.length + i) 0 = maskOf (acc ++ t) o ∧ ∃ u, masks l acc = acc ++ t ++ u
 | [], acc, i, o, h => by simp at h
 | o' :: r, acc, 0, o, h => by
   simp only [List.getElem?_cons_zero, Option.some.injEq] at h
   subst h
   obtain ⟨t, ht⟩ := j0f r (acc ++ [maskOf acc o'])
   refine ⟨[], rfl, ?_, ⟨maskOf acc o' :: t, by simp [masks, ht]⟩⟩
   simp [masks, ht]
 | o' :: r, acc, i + 1, o, h => by
   simp only [List.getElem?_cons_succ] at h
   obtain ⟨t, h1, h2, u, h3⟩ := j3y r (acc ++ [maskOf acc o']) i o h
   refine ⟨maskOf acc o' :: t, by simp [h1], ?_, u, ?_⟩
   · simp only [masks]
     have e : (acc ++ [maskOf acc o']).length + i = acc.length + (i + 1) := by simp; omega
     rw [← e, h2]
     simp
   · simp only [masks, h3]; simp
theorem j3z {ops : List Oper} {i j : Nat} {o : Oper} (ho : ops[i]? = some o) (hon : ∀ e ∈ o.after, Region.binds .any e = true → e.on < i) (h : ((masks ops []).getD i 0).testBit j = true) :
   ∃ e ∈ o.after, Region.binds .any e = true ∧ (e.on = j ∨ ((masks ops []).getD e.on 0).testBit j = true) := by
 obtain ⟨t, h1, h2, u, h3⟩ := j3y ops [] i o ho
 simp only [List.length_nil, Nat.zero_add, List.nil_append] at h2 h3
 rw [h2] at h
 unfold maskOf at h
 rcases jx4 t j _ 0 h with h4 | ⟨e, he, h4⟩
 · simp at h4
 · rw [List.mem_filter] at he
   have hea : e ∈ o.after := by simpa using he.1
   refine ⟨e, hea, he.2, ?_⟩
   rcases h4 with h4 | h4
   · exact .inl h4
   · right
     have hlt := hon e hea he.2
     rw [h3]
     rw [List.getD_eq_getElem?_getD, List.getElem?_append_left (by omega), ← List.getD_eq_getElem?_getD]
     exact h4
structure Sta (P : Program) (ops : List Oper) : Prop where
 nd : ∀ o ∈ ops, isDefer o = false
 edge : ∀ (i : Nat) (o : Oper), ops[i]? = some o → ∀ e ∈ o.after, Region.binds .any e = true → e.on < i
 lt : ∀ (i : Nat) (o : Oper), ops[i]? = some o → (masks ops []).getD i 0 < 2 ^ i
 dst : ∀ (i j : Nat) (oi oj : Oper) (d : Tmp), ops[i]? = some oi → ops[j]? = some oj → oi.dst = some d → oj.dst = some d → i = j
 look : ∀ (i j : Nat) (oi oj : Oper) (d : Tmp), ops[i]? = some oi → ops[j]? = some oj → oj.dst = some d → d ∈ looks ops oi →
   i ≠ j ∧ (((masks ops []).getD i 0).testBit j = true ∨ ((masks ops []).getD j 0).testBit i = true)
 eff : ∀ (i j : Nat) (oi oj : Oper), ops[i]? = some oi → ops[j]? = some oj → i < j → cls P oi = 2 → cls P oj = 2 → ((masks ops []).getD j 0).testBit i = true
theorem j5i {P : Program} {ops : List Oper} (h : drawOk P ops = true) : Sta P ops := by
 unfold drawOk at h
 simp only [List.all_eq_true, List.mem_range] at h
 have hi : ∀ (i : Nat) (o : Oper), ops[i]? = some o → i < ops.length := fun i o ho => (List.getElem?_eq_some_iff.1 ho).1
 have key := fun (i : Nat) (oi : Oper) (ho : ops[i]? = some oi) => by
   have := h i (hi i oi ho)
   simp only [ho, Bool.and_eq_true, Bool.not_eq_true', decide_eq_true_eq, List.all_eq_true, List.mem_range] at this
   exact this
 refine ⟨?_, ?_, ?_, ?_, ?_, ?_⟩
 · intro o ho
   obtain ⟨i, hlt, rfl⟩ := List.getElem_of_mem ho
   exact (key i ops[i] (List.getElem?_eq_getElem hlt)).1.1.1
 · intro i o ho e he hb
   have := (key i o ho).1.2 e (by simpa using he)
   simpa [hb] using this
 · intro i o ho
   exact (key i o ho).1.1.2
 · intro i j oi oj d h1 h2 d1 d2
   have := (key i oi h1).2 j (hi j oj h2)
   simp only [h2, d2, Bool.and_eq_true, Bool.or_eq_true, beq_iff_eq] at this
   rcases this.1.1 with e | e
   · exact e
   · simp [dstIs, d1] at e
 · intro i j oi oj d h1 h2 d2 hl
   have := (key i oi h1).2 j (hi j oj h2)
   simp only [h2, d2, Bool.and_eq_true, List.all_eq_true] at this
   have := this.1.2 d hl
   simpa using this
 · intro i j oi oj h1 h2 hlt c1 c2
   have := (key i oi h1).2 j (hi j oj h2)
   simp only [h2, Bool.and_eq_true] at this
   have := this.2
   simpa [hlt, c1, c2] using this
theorem jl4 {P : Program} {ops : List Oper} (hs : Sta P ops) {i j : Nat} {o : Oper} (ho : ops[i]? = some o) (h : ((masks ops []).getD i 0).testBit j = true) : j < i := by
 have h1 := hs.lt i o ho
 rcases Nat.lt_or_ge j i with h2 | h2
 · exact h2
 · have : (masks ops []).getD i 0 < 2 ^ j := Nat.lt_of_lt_of_le h1 (Nat.pow_le_pow_right (by omega) h2)
   rw [Nat.testBit_lt_two_pow this] at h
   simp at h
def Down (ops : List Oper) (L : Nat → Bool) : Prop := ∀ (i : Nat) (o : Oper), ops[i]? = some o → L i = true → ∀ e ∈ o.after, Region.binds .any e = true → L e.on = true
theorem ji6 {P : Program} {ops : List Oper} (hs : Sta P ops) {L : Nat → Bool} (hd : Down ops L) : ∀ (i : Nat) (o : Oper) (j : Nat), ops[i]? = some o →
   (∀ e ∈ o.after, Region.binds .any e = true → L e.on = true) → ((masks ops []).getD i 0).testBit j = true → L j = true := by
 intro i
 induction i using Nat.strongRecOn with
 | _ i ih =>
   intro o j ho hp hb
   obtain ⟨e, he, hbi, h⟩ := j3z ho (hs.edge i o ho) hb
   have hlt := hs.edge i o ho e he hbi
   rcases h with h | h
   · rw [← h]; exact hp e he hbi
   · have hlt2 : e.on < ops.length := Nat.lt_trans hlt (List.getElem?_eq_some_iff.1 ho).1
     have ho2 : ops[e.on]? = some ops[e.on] := List.getElem?_eq_getElem hlt2
     exact ih e.on hlt ops[e.on] j ho2 (hd e.on _ ho2 (hp e he hbi)) h
theorem j2q {α : Type} {p q : α → Bool} : ∀ (l : List α), (∀ x ∈ l, q x = true → p x = true) → (∃ x ∈ l, p x = true ∧ q x = false) → l.countP q < l.countP p
 | [], _, ⟨x, hx, _⟩ => by simp at hx
 | y :: r, h, ⟨x, hx, h1, h2⟩ => by
   have hle : r.countP q ≤ r.countP p := List.countP_mono_left (fun z hz => h z (by simp [hz]))
   rw [List.countP_cons, List.countP_cons]
   rcases List.mem_cons.1 hx with rfl | hx
   · simp [h1, h2]; omega
   · have := j2q r (fun z hz => h z (by simp [hz])) ⟨x, hx, h1, h2⟩
     have h3 := h y (by simp)
     cases hq : q y with
     | true => simp [h3 hq]; omega
     | false => cases p y <;> simp <;> omega
structure Tra (P : Program) (X : Xf) (K : Kf) (ops : Array Oper) (A : Nat → Act) (Hs : Nat → Heap) : Prop where
 step : ∀ (i : Nat) (o : Oper), ops.toList[i]? = some o → StepC P X K ops o (A i) (Hs i) (A (i + 1)) (Hs (i + 1))
 chk : ∀ (i p : Nat) (oi op : Oper), ops.toList[i]? = some oi → ops.toList[p]? = some op → cls P oi = 1 → guardB ops oi (A i) = some true → cls P op = 2 →
   ((masks ops.toList []).getD i 0).testBit p = false → ((masks ops.toList []).getD p 0).testBit i = false →
   ∃ v, (∀ H v' H', Yl P X K (A i).eval oi H v' H' → A (i + 1) = (A i).put oi.dst v' → v' = v) ∧ qval P (A i).eval oi (Hs p) = some v ∧ qval P (A i).eval oi (Hs (p + 1)) = some v
theorem jy7 (a : Act) (dst : Option Tmp) (v : Value) : (a.put dst v).tmps.size = a.tmps.size := by
 cases dst <;> simp [Act.put]
theorem jp5 (a : Act) (dst : Option Tmp) (v : Value) : (a.put dst v).defers = a.defers := by cases dst <;> rfl
theorem jn7 (a : Act) (dst : Option Tmp) (v : Value) (t : Nat) (h : dst ≠ some t) : (a.put dst v).tmps[t]? = a.tmps[t]? := by
 cases dst with
 | none => rfl
 | some d =>
   have : d ≠ t := fun e => h (by rw [e])
   simp [Act.put, this]
theorem StepC.put {P : Program} {X : Xf} {K : Kf} {ops : Array Oper} {o : Oper} {a a' : Act} {H H' : Heap} (h : StepC P X K ops o a H a' H') : ∃ v, a' = a.put o.dst v := by
 rcases h with ⟨_, _, v, _, h⟩ | ⟨_, h, _⟩
 · exact ⟨v, h⟩
 · exact ⟨undef, h⟩
section
variable {P : Program} {X : Xf} {K : Kf} {ops : Array Oper} {A : Nat → Act} {Hs : Nat → Heap}
theorem Tra.size (h : Tra P X K ops A Hs) : ∀ i, i ≤ ops.toList.length → (A i).tmps.size = (A 0).tmps.size
 | 0, _ => rfl
 | i + 1, hi => by
   obtain ⟨v, hv⟩ := (h.step i ops.toList[i] (List.getElem?_eq_getElem (by omega))).put
   rw [hv, jy7, h.size i (by omega)]
theorem Tra.defers (h : Tra P X K ops A Hs) : ∀ i, i ≤ ops.toList.length → (A i).defers = (A 0).defers
 | 0, _ => rfl
 | i + 1, hi => by
   obtain ⟨v, hv⟩ := (h.step i ops.toList[i] (List.getElem?_eq_getElem (by omega))).put
   rw [hv, jp5, h.defers i (by omega)]
theorem Tra.slot (h : Tra P X K ops A Hs) (t : Nat) (i : Nat) : ∀ k, i + k ≤ ops.toList.length → (∀ j o, i ≤ j → j < i + k → ops.toList[j]? = some o → o.dst ≠ some t) → (A (i + k)).tmps[t]? = (A i).tmps[t]?
 | 0, _, _ => rfl
 | k + 1, hk, hn => by
   have hlt : i + k < ops.toList.length := by omega
   obtain ⟨v, hv⟩ := (h.step (i + k) ops.toList[i + k] (List.getElem?_eq_getElem hlt)).put
   rw [show i + (k + 1) = i + k + 1 by omega, hv, jn7 _ _ _ _ (hn (i + k) _ (by omega) (by omega) (List.getElem?_eq_getElem hlt))]
   exact h.slot t i k (by omega) (fun j o h1 h2 h3 => hn j o h1 (by omega) h3)
theorem Tra.heap (h : Tra P X K ops A Hs) (i : Nat) : ∀ k, i + k ≤ ops.toList.length → (∀ j o, i ≤ j → j < i + k → ops.toList[j]? = some o → cls P o ≠ 2) → Hs (i + k) = Hs i
 | 0, _, _ => rfl
 | k + 1, hk, hn => by
   have hlt : i + k < ops.toList.length := by omega
   have hc := hn (i + k) _ (by omega) (by omega) (List.getElem?_eq_getElem hlt)
   have hc2 : cls P ops.toList[i + k] < 2 := by
     have : ∀ o, cls P o ≤ 2 := by
       intro o
       unfold cls
       split
       all_goals first
         | omega
         | (split <;> omega)
     have := this ops.toList[i + k]
     omega
   have : Hs (i + k + 1) = Hs (i + k) := by
     rcases h.step (i + k) ops.toList[i + k] (List.getElem?_eq_getElem hlt) with ⟨_, _, v, hy, _⟩ | ⟨_, _, hh⟩
     · exact j5g hc2 hy
     · exact hh
   rw [show i + (k + 1) = i + k + 1 by omega, this]
   exact h.heap i k (by omega) (fun j o h1 h2 h3 => hn j o h1 (by omega) h3)
end
theorem j6v (P : Program) (o : Oper) : cls P o ≤ 2 := by
 unfold cls
 split
 all_goals first
   | omega
   | (split <;> omega)
theorem j2r (P : Program) (l : List Oper) : ∀ (k i : Nat), i + k = l.length → ∃ q, i ≤ q ∧ q ≤ l.length ∧ (∀ j o, i ≤ j → j < q → l[j]? = some o → cls P o ≠ 2) ∧ (∀ o, l[q]? = some o → cls P o = 2)
 | 0, i, h => ⟨i, Nat.le_refl _, by omega, fun j o h1 h2 => by omega, fun o ho => by rw [List.getElem?_eq_none (by omega)] at ho; simp at ho⟩
 | k + 1, i, h => by
   have hlt : i < l.length := by omega
   by_cases hc : cls P l[i] = 2
   · exact ⟨i, Nat.le_refl _, by omega, fun j o h1 h2 => by omega, fun o ho => by rw [List.getElem?_eq_getElem hlt] at ho; simp only [Option.some.injEq] at ho; rw [← ho]; exact hc⟩
   · obtain ⟨q, h1, h2, h3, h4⟩ := j2r P l k (i + 1) (by omega)
     refine ⟨q, by omega, h2, fun j o a b c => ?_, h4⟩
     rcases Nat.eq_or_lt_of_le a with e | e
     · subst e; rw [List.getElem?_eq_getElem hlt] at c; simp only [Option.some.injEq] at c; rw [← c]; exact hc
     · exact h3 j o e b c
theorem j2s (P : Program) (l : List Oper) (i : Nat) : ∀ (k : Nat), i + k ≤ l.length → (∀ j o, i ≤ j → j < i + k → l[j]? = some o → cls P o ≠ 2) ∨
   ∃ e o, i ≤ e ∧ e < i + k ∧ l[e]? = some o ∧ cls P o = 2 ∧ ∀ j o, e < j → j < i + k → l[j]? = some o → cls P o ≠ 2
 | 0, _ => .inl fun j o h1 h2 => by omega
 | k + 1, h => by
   have hlt : i + k < l.length := by omega
   by_cases hc : cls P l[i + k] = 2
   · exact .inr ⟨i + k, l[i + k], by omega, by omega, List.getElem?_eq_getElem hlt, hc, fun j o h1 h2 => by omega⟩
   · rcases j2s P l i k (by omega) with hn | ⟨e, o, h1, h2, h3, h4, h5⟩
     · refine .inl fun j o a b c => ?_
       rcases Nat.lt_or_ge j (i + k) with d | d
       · exact hn j o a d c
       · have : j = i + k := by omega
         subst this; rw [List.getElem?_eq_getElem hlt] at c; simp only [Option.some.injEq] at c; rw [← c]; exact hc
     · refine .inr ⟨e, o, h1, by omega, h3, h4, fun j o a b c => ?_⟩
       rcases Nat.lt_or_ge j (i + k) with d | d
       · exact h5 j o a d c
       · have : j = i + k := by omega
         subst this; rw [List.getElem?_eq_getElem hlt] at c; simp only [Option.some.injEq] at c; rw [← c]; exact hc
section
variable {P : Program} {X : Xf} {K : Kf} {ops : Array Oper} {A : Nat → Act} {Hs : Nat → Heap}
structure Inv (P : Program) (ops : Array Oper) (A : Nat → Act) (Hs : Nat → Heap) (m0 : Mp) (w0 : World) (L : Nat → Bool) (q : Nat) (m : Mp) (a' : Act) (w' : World) : Prop where
 rel : Rel m (Hs q) w'
 gl : Gl P m
 step : Step m0 (Hs 0) w0 m (Hs q) w'
 defers : DRs m (A 0).defers a'.defers
 size : (A 0).tmps.size = a'.tmps.size
 done : ∀ (j : Nat) (o : Oper) (t : Nat) (v v' : Value), ops.toList[j]? = some o → o.dst = some t → L j = true → (A ops.toList.length).tmps[t]? = some v → a'.tmps[t]? = some v' → VR m v v'
 kept : ∀ (t : Nat) (v v' : Value), (∀ (j : Nat) (o : Oper), ops.toList[j]? = some o → L j = true → o.dst ≠ some t) → (A 0).tmps[t]? = some v → a'.tmps[t]? = some v' → VR m v v'
 qle : q ≤ ops.toList.length
 qeff : ∀ o, ops.toList[q]? = some o → cls P o = 2 ∧ L q = false
 qlow : ∀ (j : Nat) (o : Oper), j < q → ops.toList[j]? = some o → cls P o = 2 → L j = true
theorem Inv.sees (hs : Sta P ops.toList) (ht : Tra P X K ops A Hs) {m0 : Mp} {w0 : World} {L : Nat → Bool} {q : Nat} {m : Mp} {a' : Act} {w' : World} (h : Inv P ops A Hs m0 w0 L q m a' w') (hd : Down ops.toList L)
   {i : Nat} {o : Oper} (ho : ops.toList[i]? = some o) (hp : ∀ e ∈ o.after, Region.binds .any e = true → L e.on = true) (hL : L i = false) {t : Nat} (hl : t ∈ looks ops.toList o) {v v' : Value}
   (hv : (A i).tmps[t]? = some v) (hv' : a'.tmps[t]? = some v') : VR m v v' := by
 have hi := (List.getElem?_eq_some_iff.1 ho).1
 by_cases hw : ∃ (j : Nat) (oj : Oper), ops.toList[j]? = some oj ∧ oj.dst = some t
 · obtain ⟨j, oj, hj, hjd⟩ := hw
   have hj2 := (List.getElem?_eq_some_iff.1 hj).1
   have uniq : ∀ k ok, ops.toList[k]? = some ok → ok.dst = some t → k = j := fun k ok h1 h2 => hs.dst k j ok oj t h1 hj h2 hjd
   obtain ⟨hne, hb⟩ := hs.look i j o oj t ho hj hjd hl
   rcases hb with hb | hb
   · have hLj := ji6 hs hd i o j ho hp hb
     have hji := jl4 hs ho hb
     refine h.done j oj t v v' hj hjd hLj ?_ hv'
     have := ht.slot t i (ops.toList.length - i) (by omega) (fun k ok a b c d => by have := uniq k ok c d; omega)
     rw [show i + (ops.toList.length - i) = ops.toList.length by omega] at this
     rw [this, hv]
   · have hij := jl4 hs hj hb
     have hLj : L j = false := by
       cases e : L j with
       | false => rfl
       | true =>
         have := ji6 hs hd j oj i hj (fun x hx hbx => hd j oj hj e x hx hbx) hb
         rw [this] at hL; simp at hL
     refine h.kept t v v' (fun k ok a b c => ?_) ?_ hv'
     · have := uniq k ok a c; subst this; rw [hLj] at b; simp at b
     · have := ht.slot t 0 i (by omega) (fun k ok a b c d => by have := uniq k ok c d; omega)
       rw [Nat.zero_add] at this
       rw [← this, hv]
 · refine h.kept t v v' (fun k ok a _ c => hw ⟨k, ok, a, c⟩) ?_ hv'
   have := ht.slot t 0 i (by omega) (fun k ok a b c d => hw ⟨k, ok, c, d⟩)
   rw [Nat.zero_add] at this
   rw [← this, hv]
theorem j0g {m : Mp} {a a' : Act} (hg : Gl P m) (hsz : a.tmps.size = a'.tmps.size) {x : Operand} (hx : operandOk P x = true) (h : ∀ t, x = .tmp t → ∀ v v', a.tmps[t]? = some v → a'.tmps[t]? = some v' → VR m v v') :
   VR m (a.eval x) (a'.eval x) := by
 cases x with
 | tmp t =>
   simp only [Act.eval]
   by_cases hlt : t < a.tmps.size
   · have hlt' : t < a'.tmps.size := hsz ▸ hlt
     have := h t rfl a.tmps[t] a'.tmps[t] (Array.getElem?_eq_getElem hlt) (Array.getElem?_eq_getElem hlt')
     simpa [Array.getD, hlt, hlt'] using this
   · have hlt' : ¬ t < a'.tmps.size := hsz ▸ hlt
     simpa [Array.getD, hlt, hlt'] using VR.undef m
 | const v => exact .of_ground hx
 | global g =>
   have hlt : g < P.globals.size := by simpa [operandOk] using hx
   obtain ⟨L, h1, h2, h3, _⟩ := hg g hlt
   have := VR.ptr (m := m) g 0 L h1
   rw [h2, h3] at this
   exact this
 | func f => exact .func (.func f) #[] #[] #[] #[] rfl rfl (fun i h => absurd h (by simp)) (fun i h => absurd h (by simp))
theorem jr7 {m : Mp} {o : Oper} {a a' : Act} (hsz : a.tmps.size = a'.tmps.size) {b : Bool} (hb : guardB ops o a = some b)
   (h : ∀ j want d, o.guard = some (j, want) → (ops[j]?).bind (·.dst) = some d → ∀ v v', a.tmps[d]? = some v → a'.tmps[d]? = some v' → VR m v v') : Region.wanted o (yielded ops a'.tmps) = b := by
 unfold guardB at hb
 split at hb
 · rename_i hg; simp only [Option.some.injEq] at hb; subst hb; simp [Region.wanted, hg]
 · rename_i j want hg
   split at hb
   · rename_i hd; simp only [Option.some.injEq] at hb; subst hb; simp [Region.wanted, hg, yielded, hd]
   · rename_i d hd
     split at hb
     · rename_i x hx
       simp only [Option.some.injEq] at hb; subst hb
       have hlt := (Array.getElem?_eq_some_iff.1 hx).1
       have hlt' : d < a'.tmps.size := hsz ▸ hlt
       have := (h j want d hg hd _ _ hx (Array.getElem?_eq_getElem hlt')).bool_inv
       simp only [Region.wanted, hg, yielded, hd, Option.bind_some, Array.getElem?_eq_getElem hlt', this]
       cases x <;> cases want <;> rfl
     · rename_i vs hx
       simp only [Option.some.injEq] at hb; subst hb
       have hlt := (Array.getElem?_eq_some_iff.1 hx).1
       have hlt' : d < a'.tmps.size := hsz ▸ hlt
       obtain ⟨vs', e, _⟩ := (h j want d hg hd _ _ hx (Array.getElem?_eq_getElem hlt')).tuple_inv
       simp [Region.wanted, hg, yielded, hd, hlt', e]
     · simp at hb
theorem Inv.quiet (hs : Sta P ops.toList) (ht : Tra P X K ops A Hs) {m0 : Mp} {w0 : World} {L : Nat → Bool} {q : Nat} {m : Mp} {a' : Act} {w' : World} (h : Inv P ops A Hs m0 w0 L q m a' w') (hd : Down ops.toList L)
   {i : Nat} {o : Oper} (ho : ops.toList[i]? = some o) (hp : ∀ e ∈ o.after, Region.binds .any e = true → L e.on = true) (hL : L i = false) (hg : guardB ops o (A i) = some true) (hc : cls P o < 2)
   {v : Value} {H' : Heap} (hy : Yl P X K (A i).eval o (Hs i) v H') (hA : A (i + 1) = (A i).put o.dst v) : Yl P X K (A i).eval o (Hs q) v (Hs q) := by
 have hi := (List.getElem?_eq_some_iff.1 ho).1
 rcases Nat.eq_zero_or_pos (cls P o) with h0 | hpos
 · exact yp8 h0 hy (Hs q)
 · have h1 : cls P o = 1 := by omega
   have hH' := j5g hc hy
   subst hH'
   have unord : ∀ p op, ops.toList[p]? = some op → L p = true → ((masks ops.toList []).getD p 0).testBit i = false := by
     intro p op hop hLp
     cases e : ((masks ops.toList []).getD p 0).testBit i with
     | false => rfl
     | true =>
       have := ji6 hs hd p op i hop (fun x hx hbx => hd p op hop hLp x hx hbx) e
       rw [this] at hL; simp at hL
   rcases Nat.lt_or_ge i q with hiq | hiq
   · rcases j2s P ops.toList i (q - i) (by have := h.qle; omega) with hn | ⟨e, oe, e1, e2, e3, e4, e5⟩
     · have := ht.heap i (q - i) (by have := h.qle; omega) hn
       rw [show i + (q - i) = q by omega] at this
       rw [this]; exact hy
     · have hei : e ≠ i := by
         intro e'; subst e'; rw [ho] at e3; simp only [Option.some.injEq] at e3; subst e3; omega
       have hLe := h.qlow e oe (by omega) e3 e4
       have u1 := unord e oe e3 hLe
       have u2 : ((masks ops.toList []).getD i 0).testBit e = false := by
         cases b : ((masks ops.toList []).getD i 0).testBit e with
         | false => rfl
         | true => have := jl4 hs ho b; omega
       obtain ⟨u, k0, k1, k2⟩ := ht.chk i e o oe ho e3 h1 hg e4 u2 u1
       have hvu := k0 _ _ _ hy hA
       subst hvu
       have hh := ht.heap (e + 1) (q - (e + 1)) (by have := h.qle; omega) (fun j oj a b c => e5 j oj (by omega) (by omega) c)
       rw [show e + 1 + (q - (e + 1)) = q by omega] at hh
       rw [hh]
       exact j2n hc k2 X K
   · rcases Nat.eq_or_lt_of_le hiq with e | e
     · subst e; exact hy
     · have hq2 : q < ops.toList.length := by omega
       have hq3 := List.getElem?_eq_getElem hq2
       obtain ⟨c2, Lq⟩ := h.qeff _ hq3
       have u2 : ((masks ops.toList []).getD i 0).testBit q = false := by
         cases b : ((masks ops.toList []).getD i 0).testBit q with
         | false => rfl
         | true => have := ji6 hs hd i o q ho hp b; rw [this] at Lq; simp at Lq
       have u1 : ((masks ops.toList []).getD q 0).testBit i = false := by
         cases b : ((masks ops.toList []).getD q 0).testBit i with
         | false => rfl
         | true => have := jl4 hs hq3 b; omega
       obtain ⟨u, k0, k1, k2⟩ := ht.chk i q o _ ho hq3 h1 hg c2 u2 u1
       have hvu := k0 _ _ _ hy hA
       subst hvu
       exact j2n hc k1 X K
theorem Inv.next (hs : Sta P ops.toList) {m0 : Mp} {w0 : World} {L : Nat → Bool} {q : Nat} {m : Mp} {a' : Act} {w' : World} (h : Inv P ops A Hs m0 w0 L q m a' w') (hd : Down ops.toList L)
   {i : Nat} {o : Oper} (ho : ops.toList[i]? = some o) (hp : ∀ e ∈ o.after, Region.binds .any e = true → L e.on = true) (hL : L i = false) (hc : cls P o = 2) : i = q := by
 rcases Nat.lt_trichotomy i q with e | e | e
 · have := h.qlow i o e ho hc; rw [this] at hL; simp at hL
 · exact e
 · have hi := (List.getElem?_eq_some_iff.1 ho).1
   have hq2 : q < ops.toList.length := by omega
   have hq3 := List.getElem?_eq_getElem hq2
   obtain ⟨c2, Lq⟩ := h.qeff _ hq3
   have hb := hs.eff q i _ o hq3 ho e c2 hc
   have := ji6 hs hd i o q ho hp hb
   rw [this] at Lq; simp at Lq
theorem Inv.put (hs : Sta P ops.toList) (ht : Tra P X K ops A Hs) {m0 : Mp} {w0 : World} {L : Nat → Bool} {q : Nat} {m m2 : Mp} {a' : Act} {w' w2 : World} (h : Inv P ops A Hs m0 w0 L q m a' w')
   {i : Nat} {o : Oper} (ho : ops.toList[i]? = some o) (hL : L i = false) {v v' : Value} (hA : A (i + 1) = (A i).put o.dst v) {q2 : Nat} (hst : Step m (Hs q) w' m2 (Hs q2) w2) (hv : VR m2 v v')
   (q2le : q2 ≤ ops.toList.length) (q2eff : ∀ oq, ops.toList[q2]? = some oq → cls P oq = 2 ∧ L q2 = false ∧ q2 ≠ i) (q2low : ∀ (j : Nat) (oj : Oper), j < q2 → ops.toList[j]? = some oj → cls P oj = 2 → L j = true ∨ j = i) :
   Inv P ops A Hs m0 w0 (fun j => if j = i then true else L j) q2 m2 (a'.put o.dst v') w2 := by
 have hi := (List.getElem?_eq_some_iff.1 ho).1
 have hm := hst.later.1
 refine ⟨hst.rel, h.gl.mono hm, h.step.trans hst, ?_, ?_, ?_, ?_, q2le, ?_, ?_⟩
 · rw [jp5]; exact h.defers.mono hm
 · rw [jy7]; exact h.size
 · intro j oj t u u' hj hjd hLj hu hu'
   by_cases e : j = i
   · subst e
     rw [ho] at hj; simp only [Option.some.injEq] at hj; subst hj
     have hsl := ht.slot t (j + 1) (ops.toList.length - (j + 1)) (by omega) (fun k ok a b c d => by have := hs.dst k j ok o t c ho d hjd; omega)
     rw [show j + 1 + (ops.toList.length - (j + 1)) = ops.toList.length by omega, hA] at hsl
     have hszs := ht.size ops.toList.length (Nat.le_refl _)
     have hlt : t < (A ops.toList.length).tmps.size := (Array.getElem?_eq_some_iff.1 hu).1
     have hlt2 : t < (A j).tmps.size := by rw [ht.size j (by omega), ← hszs]; exact hlt
     have hlt3 : t < a'.tmps.size := by rw [← h.size, ← hszs]; exact hlt
     rw [hsl] at hu
     simp only [Act.put, hjd, Array.getElem?_setIfInBounds, if_true, hlt2, hlt3, Option.some.injEq] at hu hu'
     subst hu; subst hu'
     exact hv
   · simp only [e, if_false] at hLj
     have hne : o.dst ≠ some t := by
       intro hd; exact e (hs.dst j i oj o t hj ho hjd hd)
     rw [jn7 _ _ _ _ hne] at hu'
     exact (h.done j oj t u u' hj hjd hLj hu hu').mono hm
 · intro t u u' hn hu hu'
   have hne : o.dst ≠ some t := hn i o ho (by simp)
   rw [jn7 _ _ _ _ hne] at hu'
   refine (h.kept t u u' (fun j oj hj hLj => ?_) hu hu').mono hm
   refine hn j oj hj ?_
   by_cases e : j = i <;> simp [e, hLj]
 · intro oq hq
   obtain ⟨a1, a2, a3⟩ := q2eff oq hq
   exact ⟨a1, by simp [a3, a2]⟩
 · intro j oj hj1 hj2 hj3
   rcases q2low j oj hj1 hj2 hj3 with e | e
   · by_cases e' : j = i <;> simp [e', e]
   · simp [e]
end
theorem jm8 {ops : List Oper} {o : Oper} {t : Tmp} (h : Operand.tmp t ∈ o.op.operands.toList) : t ∈ looks ops o := by
 unfold looks
 rw [List.mem_append]
 left
 exact List.mem_filterMap.2 ⟨_, h, rfl⟩
theorem jr8 {ops : Array Oper} {o : Oper} {j : Nat} {want : Bool} {d : Tmp} (hg : o.guard = some (j, want)) (hd : (ops[j]?).bind (·.dst) = some d) : d ∈ looks ops.toList o := by
 unfold looks
 rw [List.mem_append]
 right
 rw [hg]
 cases hj : ops[j]? with
 | none => rw [hj] at hd; simp at hd
 | some oj =>
   rw [hj] at hd
   simp only [Option.bind_some] at hd
   have : ops.toList[j]? = some oj := by simpa using hj
   simp [this, hd]
theorem jl5 {P : Program} {X : Xf} {K : Kf} (hX : XSnd P X) (hK : KSnd P K) {ops : Array Oper} {A : Nat → Act} {Hs : Nat → Heap} (hs : Sta P ops.toList) (ht : Tra P X K ops A Hs)
   {m0 : Mp} {w0 : World} {Q : Exit → Act → World → Prop} (hQ : ∀ m a' w', Rel m (Hs ops.toList.length) w' → Gl P m → ActR m (A ops.toList.length) a' → Step m0 (Hs 0) w0 m (Hs ops.toList.length) w' → Q .normal a' w') :
   ∀ (fuel : Nat) (L : Array Bool) (q : Nat) (m : Mp) (a' : Act) (w' : World), L.size = ops.size → Down ops.toList (fun i => L.getD i false) → (List.range ops.size).countP (fun i => !L.getD i false) ≤ fuel →
     Inv P ops A Hs m0 w0 (fun i => L.getD i false) q m a' w' → wpAny P .any ops Q fuel L a' w' := by
 have final : ∀ (L : Array Bool) (q : Nat) (m : Mp) (a' : Act) (w' : World), L.size = ops.size → Inv P ops A Hs m0 w0 (fun i => L.getD i false) q m a' w' → Region.ready .any ops L = [] → Q .normal a' w' := by
   intro L q m a' w' hsz hi hr
   have all : ∀ i, i < ops.size → L.getD i false = true := by
     intro i
     induction i using Nat.strongRecOn with
     | _ i ih =>
       intro hlt
       cases e : L.getD i false with
       | true => rfl
       | false =>
         have hmem : i ∈ Region.ready .any ops L := by
           rw [mem_ready]
           refine ⟨?_, ops[i], Array.getElem?_eq_getElem hlt, ?_⟩
           · have hlt2 : i < L.size := by omega
             simp only [Array.getD, hlt2, dif_pos] at e ⊢
             exact e
           · intro x hx hb
             have hlt3 := hs.edge i ops[i] (by simp) x hx hb
             exact ih x.on hlt3 (by omega)
         rw [hr] at hmem; simp at hmem
   have hlen : ops.toList.length = ops.size := by simp
   have hq : q = ops.toList.length := by
     rcases Nat.eq_or_lt_of_le hi.qle with e | e
     · exact e
     · have := (hi.qeff _ (List.getElem?_eq_getElem e)).2
       rw [all q (by omega)] at this; simp at this
   subst hq
   refine hQ m a' w' hi.rel hi.gl ⟨?_, ?_⟩ hi.step
   · have hsz2 := ht.size ops.toList.length (Nat.le_refl _)
     refine ⟨by rw [hsz2]; exact hi.size, fun t h1 h2 => ?_⟩
     by_cases hw : ∃ (j : Nat) (oj : Oper), ops.toList[j]? = some oj ∧ oj.dst = some t
     · obtain ⟨j, oj, hj, hjd⟩ := hw
       have hj2 := (List.getElem?_eq_some_iff.1 hj).1
       exact hi.done j oj t _ _ hj hjd (all j (by omega)) (Array.getElem?_eq_getElem h1) (Array.getElem?_eq_getElem h2)
     · have hsl := ht.slot t 0 ops.toList.length (by omega) (fun k ok _ _ c d => hw ⟨k, ok, c, d⟩)
       rw [Nat.zero_add] at hsl
       refine hi.kept t _ _ (fun j oj a _ c => hw ⟨j, oj, a, c⟩) ?_ (Array.getElem?_eq_getElem h2)
       rw [← hsl]; exact Array.getElem?_eq_getElem h1
   · rw [ht.defers _ (Nat.le_refl _)]; exact hi.defers
 intro fuel
 induction fuel with
 | zero =>
   intro L q m a' w' hsz hd hc hi
   have hr : Region.ready .any ops L = [] := by
     rw [List.eq_nil_iff_forall_not_mem]
     intro i hmem
     rw [mem_ready] at hmem
     obtain ⟨h0, o, ho, _⟩ := hmem
     have hlt := (Array.getElem?_eq_some_iff.1 ho).1
     have : 0 < (List.range ops.size).countP (fun i => !L.getD i false) := by
       rw [List.countP_pos_iff]
       refine ⟨i, List.mem_range.2 hlt, ?_⟩
       have hlt2 : i < L.size := by omega
       have hL' : L.getD i false = false := by
         simp only [Array.getD, hlt2, dif_pos] at h0 ⊢
         exact h0
       simp only [hL']; rfl
     omega
   exact ⟨hr, final L q m a' w' hsz hi hr⟩
 | succ fuel ih =>
   intro L q m a' w' hsz hd hc hi
   refine ⟨final L q m a' w' hsz hi, fun i hmem => ?_⟩
   rw [mem_ready] at hmem
   obtain ⟨h0, o, ho, hp⟩ := hmem
   have hlt := (Array.getElem?_eq_some_iff.1 ho).1
   have hlt2 : i < L.size := by omega
   have hL : L.getD i false = false := by
     simp only [Array.getD, hlt2, dif_pos] at h0 ⊢; exact h0
   have ho' : ops.toList[i]? = some o := by simpa using ho
   have hset : ∀ j, (L.setIfInBounds i true).getD j false = if j = i then true else L.getD j false := by
     intro j
     by_cases e : j = i
     · subst e; simp [hlt2]
     · have : i ≠ j := Ne.symm e
       rw [getD_set_ne false this]; simp [e]
   have hfun : (fun j => (L.setIfInBounds i true).getD j false) = fun j => if j = i then true else L.getD j false := funext hset
   have hd2 : Down ops.toList (fun j => (L.setIfInBounds i true).getD j false) := by
     intro j oj hj hLj e he hb
     simp only [hset] at hLj ⊢
     by_cases ej : j = i
     · subst ej
       rw [ho'] at hj; simp only [Option.some.injEq] at hj; subst hj
       have := hp e he hb
       by_cases ee : e.on = j <;> simp [ee, this]
     · simp only [ej, if_false] at hLj
       have := hd j oj hj hLj e he hb
       by_cases ee : e.on = i <;> simp [ee, this]
   have hc2 : (List.range ops.size).countP (fun j => !(L.setIfInBounds i true).getD j false) ≤ fuel := by
     have := j2q (p := fun j => !L.getD j false) (q := fun j => !(L.setIfInBounds i true).getD j false) (List.range ops.size)
       (fun x _ hx => by
         simp only [hset] at hx
         by_cases e : x = i
         · simp [e] at hx
         · simpa [e] using hx) ⟨i, List.mem_range.2 hlt, by simp [hL], by simp [hset]⟩
     omega
   have sees := fun (t : Nat) (hl : t ∈ looks ops.toList o) (v v' : Value) => hi.sees hs ht hd ho' hp hL hl (v := v) (v' := v')
   have hszA : (A i).tmps.size = a'.tmps.size := by rw [ht.size i (by simp; omega)]; exact hi.size
   have hguard : ∀ b, guardB ops o (A i) = some b → Region.wanted o (yielded ops a'.tmps) = b := fun b hb =>
     jr7 hszA hb (fun j want d hg hdd v v' => sees d (jr8 hg hdd) v v')
   unfold wpOp
   simp only [ho]
   have goOn : ∀ (m2 : Mp) (q2 : Nat) (v v' : Value) (w2 : World), A (i + 1) = (A i).put o.dst v → Step m (Hs q) w' m2 (Hs q2) w2 → VR m2 v v' → q2 ≤ ops.toList.length →
       (∀ oq, ops.toList[q2]? = some oq → cls P oq = 2 ∧ L.getD q2 false = false ∧ q2 ≠ i) → (∀ (j : Nat) (oj : Oper), j < q2 → ops.toList[j]? = some oj → cls P oj = 2 → L.getD j false = true ∨ j = i) →
       wpAny P .any ops Q fuel (L.setIfInBounds i true) (a'.put o.dst v') w2 := by
     intro m2 q2 v v' w2 hA hst hv k1 k2 k3
     refine ih (L.setIfInBounds i true) q2 m2 _ w2 (by simpa using hsz) hd2 hc2 ?_
     rw [hfun]
     exact hi.put hs ht ho' hL hA hst hv k1 k2 k3
   have same : cls P o < 2 ∨ Hs (i + 1) = Hs i → ∀ (v v' : Value) (m2 : Mp) (w2 : World), A (i + 1) = (A i).put o.dst v → Step m (Hs q) w' m2 (Hs q) w2 → VR m2 v v' → (cls P o = 2 → False) → wpAny P .any ops Q fuel (L.setIfInBounds i true) (a'.put o.dst v') w2 := by
     intro _ v v' m2 w2 hA hst hv hne
     refine goOn m2 q v v' w2 hA hst hv hi.qle (fun oq hq => ?_) (fun j oj h1 h2 h3 => .inl (hi.qlow j oj h1 h2 h3))
     obtain ⟨a1, a2⟩ := hi.qeff oq hq
     refine ⟨a1, a2, fun e => ?_⟩
     subst e
     rw [ho'] at hq; simp only [Option.some.injEq] at hq; subst hq
     exact hne a1
   -- behind an effect: the next one
   have nextq : cls P o = 2 → i = q ∧ ∃ q2, q2 ≤ ops.toList.length ∧ Hs q2 = Hs (i + 1) ∧ (∀ oq, ops.toList[q2]? = some oq → cls P oq = 2 ∧ L.getD q2 false = false ∧ q2 ≠ i) ∧
       (∀ (j : Nat) (oj : Oper), j < q2 → ops.toList[j]? = some oj → cls P oj = 2 → L.getD j false = true ∨ j = i) := by
     intro hc
     have hiq := hi.next hs hd ho' hp hL hc
     refine ⟨hiq, ?_⟩
     have hlen : ops.toList.length = ops.size := by simp
     obtain ⟨q2, n1, n2, n3, n4⟩ := j2r P ops.toList (ops.toList.length - (i + 1)) (i + 1) (by omega)
     refine ⟨q2, n2, ?_, ?_, ?_⟩
     · have := ht.heap (i + 1) (q2 - (i + 1)) (by omega) (fun j oj a b c => n3 j oj a (by omega) c)
       rw [show i + 1 + (q2 - (i + 1)) = q2 by omega] at this
       exact this
     · intro oq hq
       refine ⟨n4 oq hq, ?_, by omega⟩
       cases e : L.getD q2 false with
       | false => rfl
       | true =>
         have hb := hs.eff i q2 o oq ho' hq (by omega) hc (n4 oq hq)
         have this : L.getD i false = true := ji6 hs hd q2 oq i hq (fun x hx hbx => hd q2 oq hq e x hx hbx) hb
         rw [this] at hL; simp at hL
     · intro j oj h1 h2 h3
       rcases Nat.lt_trichotomy j i with e | e | e
       · exact .inl (hi.qlow j oj (by omega) h2 h3)
       · exact .inr e
       · exact absurd h3 (n3 j oj (by omega) h1 h2)
   rcases ht.step i o ho' with ⟨hg, hok, v, hy, hA⟩ | ⟨hg, hA, hH⟩
   · rw [if_pos (hguard true hg)]
     left
     have hρ : ∀ x ∈ o.op.operands.toList, VR m ((A i).eval x) (a'.eval x) := by
       intro x hx
       refine j0g hi.gl hszA (List.all_eq_true.1 hok x hx) (fun t e v v' => sees t ?_ v v')
       subst e
       exact jm8 hx
     unfold Oper.wp
     by_cases hc : cls P o = 2
     · obtain ⟨hiq, q2, k1, k2, k3, k4⟩ := nextq hc
       subst hiq
       refine jj7 hX hK hi.rel hi.gl hρ (k := fun v H' => some (.ret v, H')) (kp := fun _ _ => none) (r := (.ret v, Hs (i + 1))) ⟨?_, ?_⟩ (hy _ _)
       · intro m2 u u' H2 w2 hv hst hk
         simp only [Option.some.injEq, Prod.mk.injEq, End.ret.injEq] at hk
         obtain ⟨rfl, rfl⟩ := hk
         exact goOn m2 q2 u u' w2 hA (by rw [k2]; exact hst) hv k1 k3 k4
       · intro m2 c c' H2 w2 hv hst hk
         simp at hk
     · have hc2' : cls P o < 2 := by have := j6v P o; omega
       have hyq := hi.quiet hs ht hd ho' hp hL hg hc2' hy hA
       refine jj7 hX hK hi.rel hi.gl hρ (k := fun v H' => some (.ret v, H')) (kp := fun _ _ => none) (r := (.ret v, Hs q)) ⟨?_, ?_⟩ (hyq _ _)
       · intro m2 u u' H2 w2 hv hst hk
         simp only [Option.some.injEq, Prod.mk.injEq, End.ret.injEq] at hk
         obtain ⟨rfl, rfl⟩ := hk
         exact same (.inl hc2') u u' m2 w2 hA hst hv hc
       · intro m2 c c' H2 w2 hv hst hk
         simp at hk
   · rw [if_neg (by rw [hguard false hg]; simp)]
     by_cases hc : cls P o = 2
     · obtain ⟨hiq, q2, k1, k2, k3, k4⟩ := nextq hc
       subst hiq
       exact goOn m q2 undef undef w' hA (by rw [k2, hH]; exact .refl hi.rel) (.undef m) k1 k3 k4
     · exact same (.inr hH) undef undef m w' hA (.refl hi.rel) (.undef m) hc
/-! Regions that end in a panic. -/
theorem j1q : ∀ (l : List Oper) (p : Nat) (acc : List Nat), masks (l.take p) acc = (masks l acc).take (acc.length + p)
 | [], p, acc => by
   rw [List.take_nil, masks, List.take_of_length_le (by omega)]
 | o :: r, 0, acc => by
   obtain ⟨t, ht⟩ := j0f (o :: r) acc
   rw [ht, List.take_zero, masks]
   simp
 | o :: r, p + 1, acc => by
   simp only [List.take_succ_cons, masks]
   rw [j1q r p]
   congr 1
   simp; omega
theorem jp6 (l : List Oper) {p i : Nat} (h : i < p) : (masks (l.take p) []).getD i 0 = (masks l []).getD i 0 := by
 rw [j1q]
 simp [List.getD, h]
theorem je3 {l : List Oper} {p i : Nat} {o : Oper} (h : (l.take p)[i]? = some o) : i < p ∧ l[i]? = some o := by
 rw [List.getElem?_take] at h
 by_cases c : i < p
 · rw [if_pos c] at h; exact ⟨c, h⟩
 · rw [if_neg c] at h; cases h
theorem j8j {l : List Oper} {p : Nat} {o : Oper} {t : Tmp} (h : t ∈ looks (l.take p) o) : t ∈ looks l o := by
 unfold looks at h ⊢
 rw [List.mem_append] at h ⊢
 rcases h with h | h
 · exact .inl h
 · right
   cases hgd : o.guard with
   | none => rw [hgd] at h; simp at h
   | some x =>
     obtain ⟨j, w⟩ := x
     rw [hgd] at h
     simp only at h ⊢
     cases hj : (l.take p)[j]? with
     | none => rw [hj] at h; simp at h
     | some oj =>
       rw [hj] at h
       rw [(je3 hj).2]
       exact h
theorem Sta.take {P : Program} {l : List Oper} (h : Sta P l) (p : Nat) : Sta P (l.take p) := by
 refine ⟨fun o ho => h.nd o (List.mem_of_mem_take ho), fun i o ho e he hb => h.edge i o (je3 ho).2 e he hb, fun i o ho => ?_, fun i j oi oj d h1 h2 d1 d2 => h.dst i j oi oj d (je3 h1).2 (je3 h2).2 d1 d2, fun i j oi oj d h1 h2 d2 hl => ?_, fun i j oi oj h1 h2 hlt c1 c2 => ?_⟩
 · rw [jp6 l (je3 ho).1]; exact h.lt i o (je3 ho).2
 · rw [jp6 l (je3 h1).1, jp6 l (je3 h2).1]; exact h.look i j oi oj d (je3 h1).2 (je3 h2).2 d2 (j8j hl)
 · rw [jp6 l (je3 h2).1]; exact h.eff i j oi oj (je3 h1).2 (je3 h2).2 hlt c1 c2
theorem j0h {ops : Array Oper} {p : Nat} {o : Oper} {a : Act} (h : ∀ j w, o.guard = some (j, w) → j < p) : guardB (ops.toList.take p).toArray o a = guardB ops o a := by
 unfold guardB
 cases hg : o.guard with
 | none => rfl
 | some x =>
   obtain ⟨j, w⟩ := x
   simp only
   have e : (ops.toList.take p).toArray[j]? = ops[j]? := by simp [h j w hg]
   rw [e]
section pan
variable {P : Program} {X : Xf} {K : Kf} {ops : Array Oper} {A : Nat → Act} {Hs : Nat → Heap} {p : Nat} {op : Oper}
theorem yj0 (hX : XSnd P X) (hK : KSnd P K) (hop : ops.toList[p]? = some op) (hs : Sta P ops.toList) (ht : Tra P X K (ops.toList.take p).toArray A Hs) (hcl : cls P op = 2) (hlater : ∀ j, p < j → j < ops.size → ((masks ops.toList []).getD j 0).testBit p = true)
   (hgd : ∀ (i : Nat) (o : Oper), ops.toList[i]? = some o → ∀ (j : Nat) (w : Bool), o.guard = some (j, w) → j < i) {c : List PanicEntry} {H' : Heap} (hpn : Pn P X K (A p).eval op (Hs p) c H') (hg : guardB ops op (A p) = some true) (hok : opOk P op = true)
   {m0 : Mp} {w0 : World} {Q : Exit → Act → World → Prop} (hQ : ∀ m c' a' w' q m1 w1 (L : Nat → Bool), Inv P (ops.toList.take p).toArray A Hs m0 w0 L q m1 a' w1 → PanR m c c' → Step m1 (Hs p) w1 m H' w' → Step m0 (Hs 0) w0 m H' w' → (∀ j, p ≤ j → L j = false) → Q (.panic c') a' w') :
   ∀ (fuel : Nat) (L : Array Bool) (q : Nat) (m : Mp) (a' : Act) (w' : World), L.size = ops.size → (∀ j, p ≤ j → L.getD j false = false) → Down ops.toList (fun i => L.getD i false) → (List.range ops.size).countP (fun i => !L.getD i false) ≤ fuel →
     Inv P (ops.toList.take p).toArray A Hs m0 w0 (fun i => L.getD i false) q m a' w' → wpAny P .any ops Q fuel L a' w' := by
 have hpl := (List.getElem?_eq_some_iff.1 hop).1
 have hpl' : p < ops.size := by simpa using hpl
 have hlenP : (ops.toList.take p).length = p := by simp; omega
 have hsP := hs.take p
 have hsP' : Sta P (ops.toList.take p).toArray.toList := hsP
 have notall : ∀ (L : Array Bool), L.size = ops.size → (∀ j, p ≤ j → L.getD j false = false) → Region.ready .any ops L ≠ [] := by
   intro L hsz hlow hr
   have all : ∀ i, i < ops.size → L.getD i false = true := by
     intro i
     induction i using Nat.strongRecOn with
     | _ i ih =>
       intro hlt
       cases e : L.getD i false with
       | true => rfl
       | false =>
         have hmem : i ∈ Region.ready .any ops L := by
           rw [mem_ready]
           refine ⟨?_, ops[i], Array.getElem?_eq_getElem hlt, ?_⟩
           · have hlt2 : i < L.size := by omega
             simp only [Array.getD, hlt2, dif_pos] at e ⊢
             exact e
           · intro x hx hb
             have hlt3 := hs.edge i ops[i] (by simp) x hx hb
             exact ih x.on hlt3 (by omega)
         rw [hr] at hmem; simp at hmem
   have := all p hpl'
   rw [hlow p (Nat.le_refl _)] at this
   cases this
 intro fuel
 induction fuel with
 | zero =>
   intro L q m a' w' hsz hlow hd hc hi
   exfalso
   have : 0 < (List.range ops.size).countP (fun i => !L.getD i false) := by
     rw [List.countP_pos_iff]
     exact ⟨p, List.mem_range.2 hpl', by rw [hlow p (Nat.le_refl _)]; rfl⟩
   omega
 | succ fuel ih =>
   intro L q m a' w' hsz hlow hd hc hi
   refine ⟨fun hr => absurd hr (notall L hsz hlow), fun i hmem => ?_⟩
   rw [mem_ready] at hmem
   obtain ⟨h0, o, ho, hp⟩ := hmem
   have hlt := (Array.getElem?_eq_some_iff.1 ho).1
   have hlt2 : i < L.size := by omega
   have hL : L.getD i false = false := by
     simp only [Array.getD, hlt2, dif_pos] at h0 ⊢; exact h0
   have ho' : ops.toList[i]? = some o := by simpa using ho
   have hip : i ≤ p := by
     rcases Nat.lt_or_ge p i with h | h
     · have := ji6 hs hd i o p ho' hp (hlater i h hlt)
       simp only [hlow p (Nat.le_refl _)] at this
       cases this
     · exact h
   have hdP : Down (ops.toList.take p).toArray.toList (fun i => L.getD i false) := fun k ok hk hLk e he hb => hd k ok (je3 hk).2 hLk e he hb
   unfold wpOp
   simp only [ho]
   rcases Nat.lt_or_ge i p with hi_p | hi_p
   · -- an operation ahead of the one that panics
     have hoP : (ops.toList.take p).toArray.toList[i]? = some o := by
       show (ops.toList.take p)[i]? = some o
       rw [List.getElem?_take, if_pos hi_p]; exact ho'
     have hset : ∀ j, (L.setIfInBounds i true).getD j false = if j = i then true else L.getD j false := by
       intro j
       by_cases e : j = i
       · subst e; simp [hlt2]
       · have : i ≠ j := Ne.symm e
         rw [getD_set_ne false this]; simp [e]
     have hfun : (fun j => (L.setIfInBounds i true).getD j false) = fun j => if j = i then true else L.getD j false := funext hset
     have hlow2 : ∀ j, p ≤ j → (L.setIfInBounds i true).getD j false = false := fun j hj => by
       rw [hset j, if_neg (by omega)]; exact hlow j hj
     have hd2 : Down ops.toList (fun j => (L.setIfInBounds i true).getD j false) := by
       intro j oj hj hLj e he hb
       simp only [hset] at hLj ⊢
       by_cases ej : j = i
       · subst ej
         rw [ho'] at hj; simp only [Option.some.injEq] at hj; subst hj
         have := hp e he hb
         by_cases ee : e.on = j <;> simp [ee, this]
       · simp only [ej, if_false] at hLj
         have := hd j oj hj hLj e he hb
         by_cases ee : e.on = i <;> simp [ee, this]
     have hc2 : (List.range ops.size).countP (fun j => !(L.setIfInBounds i true).getD j false) ≤ fuel := by
       have := j2q (p := fun j => !L.getD j false) (q := fun j => !(L.setIfInBounds i true).getD j false) (List.range ops.size)
         (fun x _ hx => by
           simp only [hset] at hx
           by_cases e : x = i
           · simp [e] at hx
           · simpa [e] using hx) ⟨i, List.mem_range.2 hlt, by simp [hL], by simp [hset]⟩
       omega
     have sees := fun (t : Nat) (hl : t ∈ looks (ops.toList.take p).toArray.toList o) (v v' : Value) => hi.sees hsP' ht hdP hoP hp hL hl (v := v) (v' := v')
     have hszA : (A i).tmps.size = a'.tmps.size := by rw [ht.size i (by show i ≤ (ops.toList.take p).length; omega)]; exact hi.size
     have hgo : ∀ j w, o.guard = some (j, w) → j < p := fun j w h => Nat.lt_trans (hgd i o ho' j w h) hi_p
     have hguard : ∀ b, guardB (ops.toList.take p).toArray o (A i) = some b → Region.wanted o (yielded ops a'.tmps) = b := fun b hb => by
       rw [j0h hgo] at hb
       refine jr7 hszA hb (fun j want d hg hdd v v' => sees d (jr8 (ops := (ops.toList.take p).toArray) hg ?_) v v')
       have e : (ops.toList.take p).toArray[j]? = ops[j]? := by simp [hgo j want hg]
       rw [e]; exact hdd
     have goOn : ∀ (m2 : Mp) (q2 : Nat) (v v' : Value) (w2 : World), A (i + 1) = (A i).put o.dst v → Step m (Hs q) w' m2 (Hs q2) w2 → VR m2 v v' → q2 ≤ (ops.toList.take p).toArray.toList.length →
         (∀ oq, (ops.toList.take p).toArray.toList[q2]? = some oq → cls P oq = 2 ∧ L.getD q2 false = false ∧ q2 ≠ i) → (∀ (j : Nat) (oj : Oper), j < q2 → (ops.toList.take p).toArray.toList[j]? = some oj → cls P oj = 2 → L.getD j false = true ∨ j = i) →
         wpAny P .any ops Q fuel (L.setIfInBounds i true) (a'.put o.dst v') w2 := by
       intro m2 q2 v v' w2 hA hst hv k1 k2 k3
       refine ih (L.setIfInBounds i true) q2 m2 _ w2 (by simpa using hsz) hlow2 hd2 hc2 ?_
       rw [hfun]
       exact hi.put hsP' ht hoP hL hA hst hv k1 k2 k3
     have same : cls P o < 2 ∨ Hs (i + 1) = Hs i → ∀ (v v' : Value) (m2 : Mp) (w2 : World), A (i + 1) = (A i).put o.dst v → Step m (Hs q) w' m2 (Hs q) w2 → VR m2 v v' → (cls P o = 2 → False) → wpAny P .any ops Q fuel (L.setIfInBounds i true) (a'.put o.dst v') w2 := by
       intro _ v v' m2 w2 hA hst hv hne
       refine goOn m2 q v v' w2 hA hst hv hi.qle (fun oq hq => ?_) (fun j oj h1 h2 h3 => .inl (hi.qlow j oj h1 h2 h3))
       obtain ⟨a1, a2⟩ := hi.qeff oq hq
       refine ⟨a1, a2, fun e => ?_⟩
       subst e
       rw [hoP] at hq; simp only [Option.some.injEq] at hq; subst hq
       exact hne a1
     have nextq : cls P o = 2 → i = q ∧ ∃ q2, q2 ≤ (ops.toList.take p).toArray.toList.length ∧ Hs q2 = Hs (i + 1) ∧ (∀ oq, (ops.toList.take p).toArray.toList[q2]? = some oq → cls P oq = 2 ∧ L.getD q2 false = false ∧ q2 ≠ i) ∧
         (∀ (j : Nat) (oj : Oper), j < q2 → (ops.toList.take p).toArray.toList[j]? = some oj → cls P oj = 2 → L.getD j false = true ∨ j = i) := by
       intro hc
       have hiq := hi.next hsP' hdP hoP hp hL hc
       refine ⟨hiq, ?_⟩
       have hlen : (ops.toList.take p).toArray.toList.length = p := hlenP
       obtain ⟨q2, n1, n2, n3, n4⟩ := j2r P (ops.toList.take p).toArray.toList (p - (i + 1)) (i + 1) (by omega)
       refine ⟨q2, n2, ?_, ?_, ?_⟩
       · have := ht.heap (i + 1) (q2 - (i + 1)) (by omega) (fun j oj a b c => n3 j oj a (by omega) c)
         rw [show i + 1 + (q2 - (i + 1)) = q2 by omega] at this
         exact this
       · intro oq hq
         refine ⟨n4 oq hq, ?_, by omega⟩
         cases e : L.getD q2 false with
         | false => rfl
         | true =>
           have hb := hsP'.eff i q2 o oq hoP hq (by omega) hc (n4 oq hq)
           have this : L.getD i false = true := ji6 hsP' hdP q2 oq i hq (fun x hx hbx => hdP q2 oq hq e x hx hbx) hb
           rw [this] at hL; simp at hL
       · intro j oj h1 h2 h3
         rcases Nat.lt_trichotomy j i with e | e | e
         · exact .inl (hi.qlow j oj (by omega) h2 h3)
         · exact .inr e
         · exact absurd h3 (n3 j oj (by omega) h1 h2)
     rcases ht.step i o hoP with ⟨hg, hok, v, hy, hA⟩ | ⟨hg, hA, hH⟩
     · rw [if_pos (hguard true hg)]
       left
       have hρ : ∀ x ∈ o.op.operands.toList, VR m ((A i).eval x) (a'.eval x) := by
         intro x hx
         refine j0g hi.gl hszA (List.all_eq_true.1 hok x hx) (fun t e v v' => sees t ?_ v v')
         subst e
         exact jm8 hx
       unfold Oper.wp
       by_cases hc : cls P o = 2
       · obtain ⟨hiq, q2, k1, k2, k3, k4⟩ := nextq hc
         subst hiq
         refine jj7 hX hK hi.rel hi.gl hρ (k := fun v H' => some (.ret v, H')) (kp := fun _ _ => none) (r := (.ret v, Hs (i + 1))) ⟨?_, ?_⟩ (hy _ _)
         · intro m2 u u' H2 w2 hv hst hk
           simp only [Option.some.injEq, Prod.mk.injEq, End.ret.injEq] at hk
           obtain ⟨rfl, rfl⟩ := hk
           exact goOn m2 q2 u u' w2 hA (by rw [k2]; exact hst) hv k1 k3 k4
         · intro m2 c c' H2 w2 hv hst hk
           simp at hk
       · have hc2' : cls P o < 2 := by have := j6v P o; omega
         have hyq := hi.quiet hsP' ht hdP hoP hp hL hg hc2' hy hA
         refine jj7 hX hK hi.rel hi.gl hρ (k := fun v H' => some (.ret v, H')) (kp := fun _ _ => none) (r := (.ret v, Hs q)) ⟨?_, ?_⟩ (hyq _ _)
         · intro m2 u u' H2 w2 hv hst hk
           simp only [Option.some.injEq, Prod.mk.injEq, End.ret.injEq] at hk
           obtain ⟨rfl, rfl⟩ := hk
           exact same (.inl hc2') u u' m2 w2 hA hst hv hc
         · intro m2 c c' H2 w2 hv hst hk
           simp at hk
     · rw [if_neg (by rw [hguard false hg]; simp)]
       by_cases hc : cls P o = 2
       · obtain ⟨hiq, q2, k1, k2, k3, k4⟩ := nextq hc
         subst hiq
         exact goOn m q2 undef undef w' hA (by rw [k2, hH]; exact .refl hi.rel) (.undef m) k1 k3 k4
       · exact same (.inr hH) undef undef m w' hA (.refl hi.rel) (.undef m) hc
   · -- the one that panics
     have e : i = p := by omega
     subst e
     rw [hop] at ho'
     obtain rfl := Option.some.inj ho'
     have hszA : (A i).tmps.size = a'.tmps.size := by rw [ht.size i (by show i ≤ (ops.toList.take i).length; omega)]; exact hi.size
     have hlenA : (ops.toList.take i).toArray.toList.length = i := hlenP
     have sees : ∀ (t : Nat), t ∈ looks ops.toList op → ∀ v v', (A i).tmps[t]? = some v → a'.tmps[t]? = some v' → VR m v v' := fun t hl v v' hv hv' => by
       by_cases hw : ∃ (j : Nat) (oj : Oper), (ops.toList.take i).toArray.toList[j]? = some oj ∧ oj.dst = some t
       · obtain ⟨j, oj, hj, hjd⟩ := hw
         obtain ⟨hji, hj'⟩ := je3 (l := ops.toList) hj
         obtain ⟨_, hb⟩ := hs.look i j op oj t hop hj' hjd hl
         rcases hb with hb | hb
         · have hLj := ji6 hs hd i op j hop hp hb
           exact hi.done j oj t v v' hj hjd hLj (by rw [hlenA]; exact hv) hv'
         · have := jl4 hs hj' hb; omega
       · refine hi.kept t v v' (fun k ok a _ c => hw ⟨k, ok, a, c⟩) ?_ hv'
         have := ht.slot t 0 i (by rw [hlenA]; omega) (fun k ok a b c d => hw ⟨k, ok, c, d⟩)
         rw [Nat.zero_add] at this
         rw [← this, hv]
     have hwant : Region.wanted op (yielded ops a'.tmps) = true := jr7 hszA hg (fun j want d hg hdd v v' => sees d (jr8 hg hdd) v v')
     rw [if_pos hwant]
     left
     have hq : q = i := by
       rcases Nat.lt_or_ge q i with h | h
       · have hq2 : q < (ops.toList.take i).toArray.toList.length := by rw [hlenA]; exact h
         have hq3 := List.getElem?_eq_getElem hq2
         obtain ⟨c2, Lq⟩ := hi.qeff _ hq3
         have hb := hs.eff q i _ op (je3 (l := ops.toList) hq3).2 hop h c2 hcl
         have := ji6 hs hd i op q hop hp hb
         simp only [Lq] at this
         cases this
       · have := hi.qle; rw [hlenA] at this; omega
     subst hq
     have hρ : ∀ x ∈ op.op.operands.toList, VR m ((A q).eval x) (a'.eval x) := by
       intro x hx
       refine j0g hi.gl hszA (List.all_eq_true.1 hok x hx) (fun t e v v' => sees t ?_ v v')
       subst e
       exact jm8 hx
     unfold Oper.wp
     refine jj7 hX hK hi.rel hi.gl hρ (k := fun _ _ => none) (kp := fun c H' => some (.pan c, H')) (r := (.pan c, H')) ⟨?_, ?_⟩ (hpn _ _)
     · intro m2 u u' H2 w2 hv hst hk
       simp at hk
     · intro m2 c1 c' H2 w2 hv hst hk
       simp only [Option.some.injEq, Prod.mk.injEq, End.pan.injEq] at hk
       obtain ⟨rfl, rfl⟩ := hk
       exact hQ m2 c' a' w2 q m w' _ hi hv hst (hi.step.trans hst) hlow
end pan
theorem yj1 {P : Program} {ops : Array Oper} {ts : List (Act × Heap)} {a0 : Act × Heap} (hlen : ts.length = ops.toList.length + 1) (h : drawChk P ops ts = true) :
   ∀ (i p : Nat) (oi op : Oper), ops.toList[i]? = some oi → ops.toList[p]? = some op → cls P oi = 1 → guardB ops oi ((ts[i]?.getD a0).1) = some true → cls P op = 2 →
   ((masks ops.toList []).getD i 0).testBit p = false → ((masks ops.toList []).getD p 0).testBit i = false →
   ∃ v, (∀ v', ((ts[i + 1]?.getD a0).1) = ((ts[i]?.getD a0).1).put oi.dst v' → v' = v) ∧ qval P ((ts[i]?.getD a0).1).eval oi ((ts[p]?.getD a0).2) = some v ∧ qval P ((ts[i]?.getD a0).1).eval oi ((ts[p + 1]?.getD a0).2) = some v := by
 intro i p oi op ho hp h1 hg h2 u1 u2
 have hi := (List.getElem?_eq_some_iff.1 ho).1
 have hpl := (List.getElem?_eq_some_iff.1 hp).1
 have t1 : ts[i]? = some ts[i] := List.getElem?_eq_getElem (by omega)
 have t2 : ts[i + 1]? = some ts[i + 1] := List.getElem?_eq_getElem (by omega)
 have t3 : ts[p]? = some ts[p] := List.getElem?_eq_getElem (by omega)
 have t4 : ts[p + 1]? = some ts[p + 1] := List.getElem?_eq_getElem (by omega)
 unfold drawChk at h
 simp only [List.all_eq_true, List.mem_range] at h
 have hh := h i hi
 rw [t1] at hg
 simp only [Option.getD_some] at hg
 simp only [ho, t1, t2, h1, hg, and_self, if_true, List.all_eq_true, List.mem_range] at hh
 have hh2 := hh p hpl
 simp only [hp, h2, u1, u2, and_self, if_true, t3, t4] at hh2
 cases hd : oi.dst with
 | none => rw [hd] at hh2; simp at hh2
 | some d =>
   rw [hd] at hh2
   simp only [Bool.and_eq_true] at hh2
   obtain ⟨c1, c2⟩ := hh2
   rw [t1, t2, t3, t4]
   simp only [Option.getD_some]
   cases q1 : qval P ts[i].1.eval oi ts[p].2 with
   | none => rw [q1] at c1; simp at c1
   | some v =>
     rw [q1] at c1
     cases q2 : qval P ts[i].1.eval oi ts[p + 1].2 with
     | none => rw [q2] at c2; simp at c2
     | some v2 =>
       rw [q2] at c2
       have e1 := j6u c1
       have e2 := j6u c2
       refine ⟨v, fun v' hv' => ?_, rfl, by rw [e2, ← e1]⟩
       rw [e1, hv']
       simp only [Act.put]
       by_cases hlt : d < ts[i].1.tmps.size
       · simp [hlt]
       · exfalso
         have hu : (ts[i + 1].1.tmps.getD d undef) = undef := by
           rw [hv']
           simp [Act.put, hlt]
         rw [hu] at e1
         rw [e1, hu] at c1
         simp [undef, veq, veq0] at c1
theorem j92 (ops : Array Oper) (a : Act) (t : Nat) : (eraseA ops a).tmps[t]? = a.tmps[t]?.map fun v => cond (writes ops t) undef v := by
 simp [eraseA]
theorem j30 {ops : Array Oper} {t : Nat} (h : writes ops t = false) {j : Nat} {o : Oper} (ho : ops.toList[j]? = some o) : o.dst ≠ some t := by
 intro e
 have : writes ops t = true := by
   unfold writes
   rw [List.any_eq_true]
   exact ⟨o, List.mem_of_getElem? ho, by simp [dstIs, e]⟩
 rw [this] at h; cases h
structure PanOk (P : Program) (ops : List Oper) (p : Nat) : Prop where
 guards : ∀ (i : Nat) (o : Oper), ops[i]? = some o → ∀ (j : Nat) (w : Bool), o.guard = some (j, w) → j < i
 later : ∀ j, p < j → j < ops.length → ((masks ops []).getD j 0).testBit p = true
 chk : ∀ (i e : Nat) (oi oe : Oper), i < p → e < p → ops[i]? = some oi → ops[e]? = some oe → cls P oi = 1 → cls P oe = 2 → ((masks ops []).getD i 0).testBit e = true ∨ ((masks ops []).getD e 0).testBit i = true
theorem j5j {P : Program} {ops : List Oper} (h : panAll P ops = true) {p : Nat} {op : Oper} (hop : ops[p]? = some op) (hm : mayPan op = true) : PanOk P ops p := by
 unfold panAll at h
 simp only [Bool.and_eq_true, List.all_eq_true, List.mem_range] at h
 have hlt : ∀ (i : Nat) (o : Oper), ops[i]? = some o → i < ops.length := fun i o ho => (List.getElem?_eq_some_iff.1 ho).1
 have h2 := h.2 p (hlt p op hop)
 simp only [hop, hm, Bool.not_true, Bool.false_or, Bool.and_eq_true, List.all_eq_true, List.mem_range] at h2
 refine ⟨fun i o ho j w hg => ?_, fun j h1 h3 => ?_, fun i e oi oe h1 h3 h4 h5 c1 c2 => ?_⟩
 · have := h.1 i (hlt i o ho)
   simpa [ho, hg] using this
 · have := h2.1 j h3
   simpa [h1] using this
 · have := h2.2 i h1
   simp only [h4, c1, BEq.rfl, Bool.not_true, Bool.false_or, List.all_eq_true, List.mem_range] at this
   have := this e h3
   simpa [h5, c2] using this
theorem yt1 {P : Program} {X : Xf} {K : Kf} {ρ : Operand → Value} {o : Oper} {H : Heap} {c : List PanicEntry} {H' : Heap} (h : Pn P X K ρ o H c H') : mayPan o = true ∧ cls P o = 2 := by
 have hc : cls P o = 2 := by
   rcases Nat.lt_or_ge (cls P o) 2 with h2 | h2
   · exfalso
     rcases j0e h2 ρ H with ⟨v, hv⟩ | hv
     · have h1 := h (fun v H => some (.ret v, H)) (fun c H => some (.pan c, H))
       rw [hv] at h1
       simp at h1
     · have h1 := h (fun v H => some (.ret v, H)) (fun c H => some (.pan c, H))
       rw [hv] at h1
       simp at h1
   · have := j6v P o; omega
 refine ⟨?_, hc⟩
 have h1 := h (fun v H => some (.ret v, H)) (fun c H => some (.pan c, H))
 have h2 := h (fun _ _ => none) (fun c H => some (.pan c, H))
 obtain ⟨dst, op, type, pos, after, guard⟩ := o
 cases op with
 | panic x => rfl
 | call c =>
   obtain ⟨callee, args, ts⟩ := c
   cases callee with
   | value f => rfl
   | builtin b =>
     exfalso
     simp only [opK] at h2
     have := Lin.builtin P b ts (args.map ρ) H
     rcases this with ⟨v, H1, hv⟩ | ⟨c1, H1, hv⟩ | hv
     · have e := hv (fun _ _ => none) (fun c H => some (.pan c, H))
       simp only at e
       rw [e] at h2; cases h2
     · have e1 := hv (fun _ _ => none) (fun c H => some (.pan c, H))
       have e2 := hv (fun _ _ => none) (fun _ _ => none)
       simp only at e1 e2
       rw [e1] at e2
       cases e2
     · have e := hv (fun _ _ => none) (fun c H => some (.pan c, H))
       simp only at e
       rw [e] at h2; cases h2
   | invoke x y => simp only [opK] at h2; cases h2
 | _ =>
   exfalso
   simp only [opK, mapK] at h2
   first
     | (cases h2; done)
     | (unfold bindV at h2; split at h2 <;> cases h2; done)
     | (unfold bindO at h2; split at h2 <;> cases h2; done)
     | (simp only [bindO, groundK, ite_self] at h2; split at h2 <;> cases h2; done)
     | (split at h2 <;> cases h2; done)
theorem j93 {P : Program} {X : Xf} {K : Kf} (hX : XSnd P X) (hK : KSnd P K) (hm : P.follows .mixedOrders = true) {ops : Array Oper} {r : End × Heap} {kp : List PanicEntry → Act → Heap → R} {Q : Exit → Act → World → Prop} (hs : Sta P ops.toList)
   {a a' : Act} {m : Mp} {H : Heap} {w : World} (h : StR P m a H a' w) (he : TrQ P X K ops (fun c af Hf => cond (panAll P ops.toList) (kp c (eraseA ops af) Hf) none) r ops.toList a H)
   (hP : ∀ c' b' w', AfterP P m H w c' (fun c b H' => kp c b H' = some r) b' w' → Q (.panic c') b' w') (id : Nat) : (Code.region id ops true).wp P Q a' w := by
 obtain ⟨p, op, ts, k0, k1, k2, k3, ap, Hp, k4, hg, hok, c, H', hpn, hk⟩ := he
 cases hpa : panAll P ops.toList with
 | false => rw [hpa] at hk; cases hk
 | true =>
   rw [hpa] at hk
   simp only [cond_true] at hk
   obtain ⟨hmp, hcl⟩ := yt1 hpn
   have ok := j5j hpa k0 hmp
   have hpl := (List.getElem?_eq_some_iff.1 k0).1
   have hlenP : (ops.toList.take p).length = p := by simp; simp at hpl; omega
   let A : Nat → Act := fun i => (ts[i]?.getD (a, H)).1
   let Hs : Nat → Heap := fun i => (ts[i]?.getD (a, H)).2
   have A0 : A 0 = a := by simp only [A, k2, Option.getD_some]
   have H0 : Hs 0 = H := by simp only [Hs, k2, Option.getD_some]
   have Ap : A p = ap := by simp only [A, k4, Option.getD_some]
   have Hpe : Hs p = Hp := by simp only [Hs, k4, Option.getD_some]
   have ht : Tra P X K (ops.toList.take p).toArray A Hs := by
     refine ⟨fun i o ho => ?_, fun i e oi oe ho hoe c1 hg c2 u1 u2 => ?_⟩
     · obtain ⟨hip, ho'⟩ := je3 (l := ops.toList) ho
       have t1 : ts[i]? = some ts[i] := List.getElem?_eq_getElem (by omega)
       have t2 : ts[i + 1]? = some ts[i + 1] := List.getElem?_eq_getElem (by omega)
       have := k3 i o _ _ ho' t1 t2
       have hgt : guardB (ops.toList.take p).toArray o (A i) = guardB ops o (A i) := j0h fun j w hgj => Nat.lt_trans (ok.guards i o ho' j w hgj) hip
       unfold StepC at this ⊢
       rw [hgt]
       simpa only [A, Hs, t1, t2, Option.getD_some] using this
     · obtain ⟨hip, ho'⟩ := je3 (l := ops.toList) ho
       obtain ⟨hep, hoe'⟩ := je3 (l := ops.toList) hoe
       have e1 : (masks (ops.toList.take p).toArray.toList []).getD i 0 = (masks ops.toList []).getD i 0 := jp6 ops.toList hip
       have e2 : (masks (ops.toList.take p).toArray.toList []).getD e 0 = (masks ops.toList []).getD e 0 := jp6 ops.toList hep
       rw [e1] at u1
       rw [e2] at u2
       rcases ok.chk i e oi oe hip hep ho' hoe' c1 c2 with h | h
       · rw [h] at u1; cases u1
       · rw [h] at u2; cases u2
   refine wp_region_any hm ?_
   have hst0 := jh3 h.rel
   have hlen : ops.toList.length = ops.size := by simp
   obtain ⟨q, n1, n2, n3, n4⟩ := j2r P (ops.toList.take p).toArray.toList p 0 (by rw [Nat.zero_add]; exact hlenP.symm)
   have hHq : Hs q = Hs 0 := by
     have := ht.heap 0 q (by omega) (fun j o a b c => n3 j o a (by omega) c)
     rwa [Nat.zero_add] at this
   have nl : ∀ j, (Array.replicate ops.size false).getD j false = false := by
     intro j; simp [Array.getD]
   refine yj0 hX hK k0 hs ht hcl (fun j h1 h2 => ok.later j h1 (by simpa using h2)) ok.guards (c := c) (H' := H') (by rw [Ap, Hpe]; exact hpn) (by rw [Ap]; exact hg) hok (m0 := m) (w0 := w) (Q := Q) ?_ ops.size (Array.replicate ops.size false) q m a' _ (by simp) (fun j _ => nl j) ?_ ?_ ?_
   · intro m2 c' b' w2 q1 m1 w1 L hi hc hst hall hlow
     rw [H0] at hall
     refine hP c' b' w2 ⟨m2, c, eraseA ops ap, H', hc, ⟨⟨?_, fun t h1 h2 => ?_, ?_⟩, hst.rel, hi.gl.mono hst.later.1⟩, hall, hk⟩
     · have : (eraseA ops ap).tmps.size = ap.tmps.size := by simp [eraseA]
       rw [this, ← Ap, ht.size p (by show p ≤ (ops.toList.take p).length; omega)]
       exact hi.size
     · have e1 := j92 ops ap t
       rw [Array.getElem?_eq_getElem h1] at e1
       have hs1 : t < ap.tmps.size := by simpa [eraseA] using h1
       rw [Array.getElem?_eq_getElem hs1] at e1
       simp only [Option.map_some, Option.some.injEq] at e1
       cases hw : writes ops t with
       | true => rw [hw] at e1; exact .inl (by rw [e1]; rfl)
       | false =>
         rw [hw] at e1
         simp only [cond_false] at e1
         right
         rw [e1]
         have hsl := ht.slot t 0 p (by show 0 + p ≤ (ops.toList.take p).length; omega) (fun k ok _ _ c => j30 hw (je3 (l := ops.toList) c).2)
         rw [Nat.zero_add, Ap, Array.getElem?_eq_getElem hs1] at hsl
         exact (hi.kept t _ _ (fun j oj hj _ => j30 hw (je3 (l := ops.toList) hj).2) hsl.symm (Array.getElem?_eq_getElem h2)).mono hst.later.1
     · have : (eraseA ops ap).defers = ap.defers := rfl
       rw [this, ← Ap, ht.defers p (by show p ≤ (ops.toList.take p).length; omega)]
       exact hi.defers.mono hst.later.1
   · intro i o ho hL
     simp [Array.getD] at hL
   · exact Nat.le_trans List.countP_le_length (by simp)
   · refine ⟨?_, h.gl, ?_, ?_, ?_, ?_, ?_, n2, ?_, ?_⟩
     · rw [hHq, H0]; exact hst0.rel
     · rw [hHq, H0]; exact hst0
     · rw [A0]; exact h.act.defers
     · rw [A0]; exact h.act.tmps.1
     · intro j o t v v' _ _ hL
       simp only [nl] at hL; simp at hL
     · intro t v v' _ hv hv'
       rw [A0] at hv
       obtain ⟨x1, e1⟩ := Array.getElem?_eq_some_iff.1 hv
       obtain ⟨x2, e2⟩ := Array.getElem?_eq_some_iff.1 hv'
       rw [← e1, ← e2]
       exact h.act.tmps.2 t x1 x2
     · intro o ho
       exact ⟨n4 o ho, nl q⟩
     · intro j o hj ho hc
       exact absurd hc (n3 j o (by omega) hj ho)
theorem j8l {P : Program} {X : Xf} {K : Kf} (hX : XSnd P X) (hK : KSnd P K) (hm : P.follows .mixedOrders = true) {ops : Array Oper} {r : End × Heap} {k : Act → Heap → R} {kp : List PanicEntry → Act → Heap → R} {Q : Exit → Act → World → Prop} (hD : drawOk P ops.toList = true)
   {a a' : Act} {m : Mp} {H : Heap} {w : World} (h : StR P m a H a' w) (he : execTr P X K ops ops.toList a H [] (fun tr af Hf => cond (drawChk P ops tr) (k af Hf) none) (fun c af Hf => cond (panAll P ops.toList) (kp c (eraseA ops af) Hf) none) = some r)
   (hQ : ∀ b' w', After P m H w (fun b H' => k b H' = some r) b' w' → Q .normal b' w') (hP : ∀ c' b' w', AfterP P m H w c' (fun c b H' => kp c b H' = some r) b' w' → Q (.panic c') b' w') (id : Nat) : (Code.region id ops true).wp P Q a' w := by
 have hs := j5i hD
 rcases jr6 ops.toList hs.nd he with ⟨ts, k1, k2, k3, af, Hf, k4, k5⟩ | hpan
 case inr => exact j93 hX hK hm hs h hpan hP id
 simp only [List.nil_append] at k5
 cases hc : drawChk P ops ts with
 | false => rw [hc] at k5; simp at k5
 | true =>
   rw [hc] at k5
   simp only [cond_true] at k5
   have hchk := yj1 (a0 := (a, H)) k1 hc
   let A : Nat → Act := fun i => (ts[i]?.getD (a, H)).1
   let Hs : Nat → Heap := fun i => (ts[i]?.getD (a, H)).2
   have A0 : A 0 = a := by simp only [A, k2, Option.getD_some]
   have H0 : Hs 0 = H := by simp only [Hs, k2, Option.getD_some]
   have An : A ops.toList.length = af := by simp only [A, k4, Option.getD_some]
   have Hn : Hs ops.toList.length = Hf := by simp only [Hs, k4, Option.getD_some]
   have ht : Tra P X K ops A Hs := by
     refine ⟨fun i o ho => ?_, fun i p oi op ho hp c1 hg c2 u1 u2 => ?_⟩
     · have hi := (List.getElem?_eq_some_iff.1 ho).1
       have t1 : ts[i]? = some ts[i] := List.getElem?_eq_getElem (by omega)
       have t2 : ts[i + 1]? = some ts[i + 1] := List.getElem?_eq_getElem (by omega)
       have := k3 i o _ _ ho t1 t2
       simpa only [A, Hs, t1, t2, Option.getD_some] using this
     · obtain ⟨v, q0, q1, q2⟩ := hchk i p oi op ho hp c1 hg c2 u1 u2
       exact ⟨v, fun _ v' _ _ hA => q0 v' hA, q1, q2⟩
   refine wp_region_any hm ?_
   have hst0 := jh3 h.rel
   have hlen : ops.toList.length = ops.size := by simp
   obtain ⟨q, n1, n2, n3, n4⟩ := j2r P ops.toList ops.toList.length 0 (by omega)
   have hHq : Hs q = Hs 0 := by
     have := ht.heap 0 q (by omega) (fun j o a b c => n3 j o a (by omega) c)
     rwa [Nat.zero_add] at this
   refine jl5 hX hK hs ht (m0 := m) (w0 := w) (Q := Q) ?_ ops.size (Array.replicate ops.size false) q m a' _ (by simp) ?_ ?_ ?_
   · intro m2 b' w2 r1 r2 r3 r4
     rw [An, Hn] at *
     rw [H0] at r4
     exact hQ b' w2 ⟨m2, af, Hf, ⟨r3, r1, r2⟩, r4, k5⟩
   · intro i o ho hL
     have hi := (List.getElem?_eq_some_iff.1 ho).1
     simp [Array.getD] at hL
   · exact Nat.le_trans List.countP_le_length (by simp)
   · have nl : ∀ j, (Array.replicate ops.size false).getD j false = false := by
       intro j; simp [Array.getD]
     refine ⟨?_, h.gl, ?_, ?_, ?_, ?_, ?_, n2, ?_, ?_⟩
     · rw [hHq, H0]; exact hst0.rel
     · rw [hHq, H0]; exact hst0
     · rw [A0]; exact h.act.defers
     · rw [A0]; exact h.act.tmps.1
     · intro j o t v v' _ _ hL
       simp only [nl] at hL; simp at hL
     · intro t v v' _ hv hv'
       rw [A0] at hv
       obtain ⟨x1, e1⟩ := Array.getElem?_eq_some_iff.1 hv
       obtain ⟨x2, e2⟩ := Array.getElem?_eq_some_iff.1 hv'
       rw [← e1, ← e2]
       exact h.act.tmps.2 t x1 x2
     · intro o ho
       exact ⟨n4 o ho, nl q⟩
     · intro j o hj ho hc
       exact absurd hc (n3 j o (by omega) hj ho)
def resL (P : Program) (tmps : Array Value) (H : Heap) : List ResultVar → Option (List Value)
 | [] => some []
 | .tmp t :: r => match resL P tmps H r with | some l => some (tmps.getD t undef :: l) | none => none
 | .cell a t :: r => match loadA P t (tmps.getD a undef) H with
   | some (v, _) => match resL P tmps H r with | some l => some (v :: l) | none => none
   | none => none
def oneOf : List Value → Value
 | [v] => v
 | l => .tuple l.toArray
def finish (P : Program) (fn : Func) (o : Out) (a : Act) (H : Heap) : R :=
 match o with
 | .norm | .ret => match a.defers with
   | [] => match resL P a.tmps H fn.results.toList with | some l => some (.ret (oneOf l), H) | none => none
   | _ => none
 | .pan c => match a.defers with | [] => some (.pan c, H) | _ => none
 | _ => none
abbrev Hook := FuncId → Array Value → Heap → Option R
def call (P : Program) (X : Xf) (N : Nat) (hk : Hook) : Nat → Kf
 | 0 => fun _ _ _ => none
 | d + 1 => fun f args H =>
   match hk f args H with
   | some r => r
   | none =>
     match P.funcs[f]? with
     | some fn => match fn.body with
       | some c => exec P X (call P X N hk d) N c none { tmps := args ++ Array.replicate (fn.ntmps - args.size) undef, defers := [] } H (finish P fn)
       | none => none
     | none => none
theorem jv9 {P : Program} {m : Mp} {H : Heap} {w : World} (h : Rel m H w) {ts ts' : Array Value} (hts : VRa m ts ts') : ∀ (l : List ResultVar) (vs : List Value), resL P ts H l = some vs →
   ∃ vs', (List.mapM (fun | .tmp t => Pure.pure (ts'.getD t undef) | .cell a t => (do loadVar t (← asAddr (ts'.getD a undef)) : Sem Value)) l : Sem (List Value)).run P w = .ok vs' w ∧ VRs m vs vs'
 | [], vs, he => by simp only [resL, Option.some.injEq] at he; subst he; exact ⟨[], by simp, VRs.nil m⟩
 | .tmp t :: r, vs, he => by
   simp only [resL] at he
   split at he
   · rename_i l hl
     simp only [Option.some.injEq] at he; subst he
     obtain ⟨vs', k1, k2⟩ := jv9 h hts r l hl
     exact ⟨ts'.getD t undef :: vs', by simp only [List.mapM_cons, Sem.run_bind, Sem.run_pure, Result.andThen_ok, k1], VRs.cons (hts.getD t (.undef m)) k2⟩
   · simp at he
 | .cell a t :: r, vs, he => by
   simp only [resL] at he
   split at he
   · rename_i v H' hv
     split at he
     · rename_i l hl
       simp only [Option.some.injEq] at he; subst he
       obtain ⟨vs', k1, k2⟩ := jv9 h hts r l hl
       have hx := hts.getD a (VR.undef m)
       obtain ⟨v', q1, q2, q3⟩ := jv4 h hx hv
       have hp : ∃ b, ts.getD a undef = .pointer (some b) := by
         unfold loadA at hv
         split at hv
         · rename_i b hb; exact ⟨b, hb⟩
         · simp at hv
       obtain ⟨b, hb⟩ := hp
       rw [hb] at hx
       obtain ⟨L, _, _, e⟩ := hx.ptr_inv
       rw [e] at q1
       have q1' : (loadVar t ⟨L.c, L.base + b.off, none⟩).run P w = .ok v' w := by
         simpa [Instr.loadAt, Instr.sureAddr] using q1
       refine ⟨v' :: vs', ?_, VRs.cons q2 k2⟩
       have hA : (asAddr (ts'.getD a undef)).run P w = .ok ⟨L.c, L.base + b.off, none⟩ w := by rw [e]; rfl
       simp only [List.mapM_cons, Sem.run_bind, hA, Result.andThen_ok, q1', k1, Sem.run_pure]
     · simp at he
   · simp at he
theorem j0i {m : Mp} {l l' : List Value} (h : VRs m l l') : VR m (oneOf l) (if hs : l'.toArray.size = 1 then l'.toArray[0] else .tuple l'.toArray) := by
 match l, l', h with
 | [], [], h => exact .tuple _ _ rfl (fun i a => absurd a (by simp))
 | [x], [y], h => exact h.head
 | x :: y :: r, x' :: y' :: r', h =>
   have : ¬ (x' :: y' :: r').toArray.size = 1 := by simp
   rw [dif_neg this]
   exact .tuple _ _ (h.toArray).1 (h.toArray).2
 | [], _ :: _, h => have := h.1; simp at this
 | _ :: _, [], h => have := h.1; simp at this
 | [_], _ :: _ :: _, h => have := h.1; simp at this
 | _ :: _ :: _, [_], h => have := h.1; simp at this
theorem jt4 {P : Program} {m : Mp} {H : Heap} {w : World} (h : Rel m H w) {fn : Func} {ts ts' : Array Value} (hts : VRa m ts ts') {vs : List Value} (he : resL P ts H fn.results.toList = some vs) :
   ∃ v', (results fn ts').run P w = .ok v' w ∧ VR m (oneOf vs) v' := by
 obtain ⟨vs', k1, k2⟩ := jv9 h hts fn.results.toList vs he
 refine ⟨_, ?_, j0i k2⟩
 unfold results
 have : (fn.results.mapM (fun | .tmp t => Pure.pure (ts'.getD t undef) | .cell a t => (do loadVar t (← asAddr (ts'.getD a undef)) : Sem Value)) : Sem (Array Value)).run P w = .ok vs'.toArray w := by
   rw [Array.mapM_eq_mapM_toList, Sem.run_map, k1]; rfl
 rw [Sem.run_bind]
 refine (congrArg (fun z => Result.andThen z _) this).trans ?_
 rfl
def HookSnd (P : Program) (hk : Hook) : Prop := ∀ f args H r H', hk f args H = some (some (r, H')) → ∀ m w args', Rel m H w → Gl P m → VRa m args args' →
 Calls P f args' w fun e w' => ∃ m', EndR m' r e ∧ Step m H w m' H' w'
def groundT : Value → Bool
 | .tuple vs => vs.toList.all atomic
 | v => ground v
theorem VR.of_groundT {m : Mp} {v : Value} (hg : groundT v = true) : VR m v v := by
 cases v with
 | tuple cs => exact .tuple _ _ rfl (fun i a _ => .atom _ (List.all_eq_true.1 hg _ (by simp)))
 | _ => exact .of_ground hg
def extX (P : Program) : Xf := fun f args H =>
 match P.funcs[f]? with
 | some fn =>
   if fn.name == "runtime.NumGoroutine" then none
   else if fn.body.isNone && args.toList.all atomic then
     match Extern.findNext fn with
     | some _ => none
     | none => match Extern.find fn with
       | some e => match pureRun P (e args) with | some v => if groundT v then some (v, H) else none | none => none
       | none => none
   else none
 | none => none
theorem VRs.eq_of_atomic {m : Mp} : ∀ {l l' : List Value}, VRs m l l' → l.all atomic = true → l' = l
 | [], [], _, _ => rfl
 | [], _ :: _, h, _ => by have := h.1; simp at this
 | _ :: _, [], h, _ => by have := h.1; simp at this
 | x :: r, y :: s, h, ha => by
   simp only [List.all_cons, Bool.and_eq_true] at ha
   rw [h.head.eq_of_atomic ha.1, VRs.eq_of_atomic h.tail ha.2]
theorem VRa.eq_of_atomic {m : Mp} {a a' : Array Value} (h : VRa m a a') (ha : a.toList.all atomic = true) : a' = a := by
 have := VRs.eq_of_atomic h.toList ha
 exact Array.toList_inj.mp this
theorem VRs.of_atomic (m : Mp) : ∀ {l : List Value}, l.all atomic = true → VRs m l l
 | [], _ => VRs.nil m
 | x :: r, ha => by
   simp only [List.all_cons, Bool.and_eq_true] at ha
   exact VRs.cons (.atom x ha.1) (VRs.of_atomic m ha.2)
theorem j8m (P : Program) : XSnd P (extX P) := by
 intro f args H v H' he m w args' h hg ha
 unfold extX at he
 split at he
 · rename_i fn hf
   split at he
   · simp at he
   · rename_i hn
     split at he
     · rename_i hb
       simp only [Bool.and_eq_true] at hb
       split at he
       · simp at he
       · rename_i hfn
         split at he
         · rename_i e hfe
           split at he
           · rename_i v0 hv
             split at he
             · rename_i hgr
               simp only [Option.some.injEq, Prod.mk.injEq] at he
               obtain ⟨rfl, rfl⟩ := he
               have hargs := VRa.eq_of_atomic ha hb.2
               subst hargs
               refine ⟨m, v0, w, ?_, .of_groundT hgr, .refl h⟩
               have hr := jr4 hv w
               have hn' : ¬ fn.name = "runtime.NumGoroutine" := by simpa using hn
               have hb' : fn.body = none := by simpa using hb.1
               simp [callFunc, hf, hn', hb', hfn, hfe, hr]
             · simp at he
           · simp at he
         · simp at he
     · simp at he
 · simp at he
def within (n : Nat) : Value → Bool
 | .pointer (some a) => decide (a.block < n)
 | .iface _ v => within n v
 | .agg xs => match xs.toList with | [.pointer (some a)] => decide (a.block < n) | _ => false
 | v => atomic v
theorem VR.within {m m' : Mp} {n : Nat} (hm : ∀ b L, b < n → m b = some L → m' b = some L) {v v' : Value} (h : VR m v v') (hw : within n v = true) : VR m' v v' := by
 induction h with
 | atom v h => exact .atom v h
 | ptr b off L h => exact .ptr b off L (hm b L (by simpa [Am.within] using hw) h)
 | slice b off L a' len cap cap' h => simp [Am.within, atomic] at hw
 | map b L h => simp [Am.within, atomic] at hw
 | func => simp [Am.within, atomic] at hw
 | iface t v v' _ ih => exact .iface t v v' (ih (by simpa [Am.within] using hw))
 | agg xs xs' hx kx ih =>
   unfold Am.within at hw
   split at hw
   · rename_i a he
     have hs : xs.size = 1 := by rw [← Array.length_toList, he]; rfl
     refine .agg xs xs' hx fun i a1 a2 => ih i a1 a2 ?_
     have : xs[i] = .pointer (some a) := by
       have h0 : i = 0 := by omega
       subst h0
       have e2 := congrArg (fun l => l[0]?) he
       have e3 : xs[0]? = some (.pointer (some a)) := by simpa using e2
       exact (Array.getElem?_eq_some_iff.mp e3).2
     rw [this]
     simpa [Am.within] using hw
   · simp at hw
 | tuple => simp [Am.within, atomic] at hw
structure Tabs (P : Program) (G : Heap) : Prop where
 ro : ∀ b x, G.get b = some x → x.rw = false ∧ x.o = none ∧ x.cells.all (within G.next) = true ∧ x.ex = false
 next : P.globals.size ≤ G.next
 fresh : ∀ b, G.next ≤ b → G.get b = none
structure Over (G H : Heap) : Prop where
 next : G.next ≤ H.next
 blk : ∀ b x, G.get b = some x → ∃ y, H.get b = some y ∧ y.cells = x.cells ∧ y.es = x.es ∧ y.o = none
def cut (G : Heap) (m : Mp) : Mp := fun b => if b < G.next then m b else none
theorem Tabs.rel {P : Program} {G H : Heap} (ht : Tabs P G) (ho : Over G H) {m : Mp} {w : World} (h : Rel m H w) : Rel (cut G m) G w := by
 have hlt : ∀ b x, G.get b = some x → b < G.next := fun b x hb => by
   rcases Nat.lt_or_ge b G.next with h1 | h1
   · exact h1
   · rw [ht.fresh b h1] at hb; simp at hb
 refine ⟨fun b x hb => ?_, fun b x hb hrw => ?_, fun b L hm => ?_, fun b hb => ⟨?_, ht.fresh b hb⟩⟩
 · obtain ⟨y, h1, h2, h3, h4⟩ := ho.blk b x hb
   obtain ⟨hro, hxo, hat, hxe⟩ := ht.ro b x hb
   obtain ⟨L, k1, k2⟩ := h.blk b y h1
   refine ⟨L, by simp [cut, hlt b x hb, k1], k2.es.trans h3, by have := k2.fits; rwa [h2] at this, fun _ => ?_, fun o ho => by simp [hxo] at ho, fun h1 => (by rw [hro] at h1; cases h1), fun h => (by rw [hxe] at h; cases h)⟩
   obtain ⟨cs, elem, fz, q1, q2, q3, q4⟩ := k2.ex h4
   refine ⟨cs, elem, fz, q1, q2, fun i a c => ?_, fun hr => by simp [hro] at hr⟩
   have a' : i < y.cells.length := by rw [h2]; exact a
   have q := q3 i a' c
   have e : y.cells[i] = x.cells[i] := by simp only [h2]
   rw [e] at q
   have hati : within G.next x.cells[i] = true := List.all_eq_true.mp hat _ (List.getElem_mem a)
   exact q.within (fun b L hb hm => by simp [cut, hb, hm]) hati
 · simp [(ht.ro b x hb).1] at hrw
 · unfold cut at hm
   split at hm
   · exact h.bound b L hm
   · simp at hm
 · simp [cut, Nat.not_lt.mpr hb]
theorem Tabs.owns {P : Program} {G : Heap} (ht : Tabs P G) (m : Mp) (c : Nat) : ¬ Owns m G c := fun ⟨b, x, _, hb, hrw, _⟩ => by simp [(ht.ro b x hb).1] at hrw
theorem Step.still {m : Mp} {H : Heap} {w w' : World} (h : Rel m H w) (ho : w'.os = w.os) (ht : w'.tape = w.tape) (hp : w'.output = w.output) (hs : w.heap.size ≤ w'.heap.size)
   (hb : ∀ c, c < w.heap.size → w'.heap[c]? = w.heap[c]?) : Step m H w m H w' := by
 refine ⟨⟨fun b x hx => ?_, h.apart, fun b L hm => Nat.lt_of_lt_of_le (h.bound b L hm) hs, h.fresh⟩, .refl .., ⟨ho, ht, hp, hs, fun c hc _ => hb c hc⟩⟩
 obtain ⟨L, h1, h2⟩ := h.blk b x hx
 exact ⟨L, h1, h2.mono (Mp.le_refl m) (hb _ (h.bound b L h1))⟩
theorem j8n {P : Program} {K : Kf} (hK : KSnd P K) {G : Heap} (ht : Tabs P G) {f : FuncId} {args : Array Value} {v : Value} {Hs : Heap} (he : K f args G = some (.ret v, Hs))
   (ha : args.toList.all atomic = true) (hv : atomic v = true) {H : Heap} (ho : Over G H) {m : Mp} {w : World} {args' : Array Value} (h : Rel m H w) (hg : Gl P m) (hargs : VRa m args args') :
   Calls P f args' w fun e w' => ∃ m', EndR m' (.ret v) e ∧ Step m H w m' H w' := by
 have hrel := ht.rel ho h
 have hgl : Gl P (cut G m) := fun g hgs => by
   obtain ⟨L, a, b⟩ := hg g hgs
   exact ⟨L, by simp [cut, Nat.lt_of_lt_of_le hgs ht.next, a], b⟩
 have e := hargs.eq_of_atomic ha
 subst e
 refine (hK f args' G (.ret v) Hs he (cut G m) w args' hrel hgl (VRs.of_atomic _ ha).toArray).mono fun e w' ⟨m', h1, h2⟩ => ?_
 refine ⟨m, ?_, Step.still h h2.keep.os h2.keep.tape h2.keep.output h2.keep.size fun c hc => h2.keep.block c hc (ht.owns _ c)⟩
 cases e with
 | returned v' =>
   have := VR.eq_of_atomic (show VR m' v v' from h1) hv
   subst this
   exact VR.atom v' hv
 | panicked c => exact h1.elim
 | _ => exact h1.elim
def veqC : Value → Value → Bool
 | .iface t v, .iface u w => t == u && veq v w
 | a, b => veq a b
theorem yt2 {a b : Value} (h : veqC a b = true) : a = b := by
 unfold veqC at h
 split at h
 · simp only [Bool.and_eq_true] at h; rw [eq_of_beq h.1, j6u h.2]
 · exact j6u h
def veqL : List Value → List Value → Bool
 | [], [] => true
 | a :: r, b :: s => veqC a b && veqL r s
 | _, _ => false
theorem j95 : ∀ {a b : List Value}, veqL a b = true → a = b
 | [], [], _ => rfl
 | [], _ :: _, h => by simp [veqL] at h
 | _ :: _, [], h => by simp [veqL] at h
 | x :: r, y :: s, h => by
   simp only [veqL, Bool.and_eq_true] at h
   rw [yt2 h.1, j95 h.2]
def sameB (x y : Blk) : Bool := veqL y.cells x.cells && decide (y.es = x.es) && y.o.isNone
def overB (G : Heap) (gs : List Nat) (H : Heap) : Bool :=
 decide (G.next ≤ H.next) && gs.all fun g => match G.get g, H.get g with | some x, some y => sameB x y | _, _ => false
theorem j8o {G H : Heap} {gs : List Nat} (hd : ∀ b x, G.get b = some x → b ∈ gs) (h : overB G gs H = true) : Over G H := by
 simp only [overB, Bool.and_eq_true, decide_eq_true_eq] at h
 refine ⟨h.1, fun b x hb => ?_⟩
 have := List.all_eq_true.mp h.2 b (hd b x hb)
 rw [hb] at this
 revert this
 cases hy : H.get b with
 | none => simp
 | some y =>
   simp only [sameB, Bool.and_eq_true, decide_eq_true_eq, Option.isNone_iff_eq_none]
   intro ⟨⟨a, b⟩, c⟩
   exact ⟨y, rfl, j95 a, b, c⟩
noncomputable abbrev PP := Go.Proofs.Tryz.prog
def wordsL : List (List UInt8) := [[115, 121, 115, 116, 101, 109], [99, 111, 110, 115, 116], [101, 97, 99, 104], [105, 110], [105, 102], [101, 108, 115, 101], [97, 115, 115, 101, 114, 116], [103, 114, 111, 117, 112], [117, 115, 101], [114, 97, 109], [115, 105, 122, 101], [100, 101, 118, 105, 99, 101], [97, 116], [100, 109, 97], [114, 101, 103, 105, 111, 110], [98, 105, 103], [119, 120], [102, 105, 108, 108], [115, 117, 98, 106, 101, 99, 116], [99, 112, 117], [115, 116, 111, 112, 112, 101, 100], [109, 97, 112], [119, 114, 105, 116, 101], [101, 120, 101, 99], [102, 97, 117, 108, 116], [115, 116, 111, 112], [114, 101, 115, 101, 116], [116, 101, 108, 108], [118, 101, 99, 116, 111, 114], [99, 104, 97, 110, 110, 101, 108], [102, 114, 111, 109], [116, 111], [111, 118, 101, 114], [115, 116, 97, 114, 116], [105, 114, 113], [109, 97, 115, 107, 101, 100], [112, 108, 97, 110], [109, 97, 106, 111, 114], [114, 117, 110], [105, 100, 108, 101], [110, 101, 101, 100, 115], [110, 101, 101, 100], [101, 118, 101, 114, 121], [109, 97, 115, 116, 101, 114], [113, 117, 101, 117, 101], [115, 97, 109, 112, 108, 101], [100, 101, 112, 116, 104], [112, 117, 115, 104], [109, 111, 110, 105, 116, 111, 114], [102, 111, 114, 98, 105, 100]]
def classesL : List Int := [0, 0, 0, 0, 0, 0, 0, 0, 0, 1, 1, 0, 0, 1, 0, 0, 0, 0, 0, 0, 0, 0, 0, 0, 0, 0, 0, 0, 0, 0, 0, 0, 1, 6, 5, 2, 0, 6, 6, 0, 6, 6, 6, 6, 6, 6, 6, 6, 3, 3, 3, 3, 3, 3, 3, 3, 3, 3, 0, 6, 6, 6, 6, 0, 0, 4, 4, 4, 4, 4, 4, 4, 4, 4, 4, 4, 4, 4, 4, 4, 4, 4, 4, 4, 4, 4, 4, 4, 4, 4, 4, 6, 0, 6, 6, 4, 0, 4, 4, 4, 4, 4, 4, 4, 4, 4, 4, 4, 4, 4, 4, 4, 4, 4, 4, 4, 4, 4, 4, 4, 4, 4, 4, 6, 6, 6, 0, 0]
def asciiL : List Int := [0, 0, 0, 0, 0, 0, 0, 0, 0, 1, 1, 1, 1, 1, 0, 0, 0, 0, 0, 0, 0, 0, 0, 0, 0, 0, 0, 0, 0, 0, 0, 0, 1, 0, 0, 0, 0, 0, 0, 0, 0, 0, 0, 0, 0, 0, 0, 0, 0, 0, 0, 0, 0, 0, 0, 0, 0, 0, 0, 0, 0, 0, 0, 0, 0, 0, 0, 0, 0, 0, 0, 0, 0, 0, 0, 0, 0, 0, 0, 0, 0, 0, 0, 0, 0, 0, 0, 0, 0, 0, 0, 0, 0, 0, 0, 0, 0, 0, 0, 0, 0, 0, 0, 0, 0, 0, 0, 0, 0, 0, 0, 0, 0, 0, 0, 0, 0, 0, 0, 0, 0, 0, 0, 0, 0, 0, 0, 0, 0, 0, 0, 0, 0, 0, 0, 0, 0, 0, 0, 0, 0, 0, 0, 0, 0, 0, 0, 0, 0, 0, 0, 0, 0, 0, 0, 0, 0, 0, 0, 0, 0, 0, 0, 0, 0, 0, 0, 0, 0, 0, 0, 0, 0, 0, 0, 0, 0, 0, 0, 0, 0, 0, 0, 0, 0, 0, 0, 0, 0, 0, 0, 0, 0, 0, 0, 0, 0, 0, 0, 0, 0, 0, 0, 0, 0, 0, 0, 0, 0, 0, 0, 0, 0, 0, 0, 0, 0, 0, 0, 0, 0, 0, 0, 0, 0, 0, 0, 0, 0, 0, 0, 0, 0, 0, 0, 0, 0, 0, 0, 0, 0, 0, 0, 0, 0, 0, 0, 0, 0, 0, 0, 0, 0, 0, 0, 0]
def joinL : List (List UInt8) → List UInt8
 | [] => []
 | [w] => w
 | w :: r => w ++ 32 :: joinL r
def wordsB : List UInt8 := joinL wordsL
def strV (l : List UInt8) : Value := .string ⟨⟨l⟩⟩
def GG : Heap := (⟨.nil, 14⟩ : Heap).set 1 ⟨classesL.map fun z => .int .u8 z, false, 1, none, false⟩ |>.set 0 ⟨asciiL.map fun z => .int .u8 z, false, 1, none, false⟩
theorem ji4 : PP.globals.size = 14 := by decide +kernel
end Go.Am
