/- Regions that draw their order are sound. -/
import Derived.Test.YtmliebodadgpbaaGreatDoorM16
import Derived.Recover
import Derived.Test.YtmliebodadgpbaaGreatDoorM05
import Derived.Test.YtmliebodadgpbaaGreatDoorProg
namespace Go.Aw
variable {P : Program}
theorem looks_operand {ops : List Oper} {o : Oper} {t : Tmp} (h : Operand.tmp t ∈ o.op.operands.toList) : t ∈ looks ops o := by
 unfold looks
 rw [List.mem_append]
 left
 exact List.mem_filterMap.2 ⟨_, h, rfl⟩
theorem looks_guard {ops : Array Oper} {o : Oper} {j : Nat} {want : Bool} {d : Tmp} (hg : o.guard = some (j, want)) (hd : (ops[j]?).bind (·.dst) = some d) : d ∈ looks ops.toList o := by
 unfold looks
 rw [List.mem_append]
 right
 rw [hg]
 cases hj : ops[j]? with
 | none => rw [hj] at hd; simp at hd
 | some oj =>
   rw [hj] at hd
   simp only [Option.bind_some] at hd
   have : ops.toList[j]? = some oj := by simpa using hj
   simp [this, hd]
theorem j7t {X : Xf} {K : Kf} (hX : XSnd P X) (hK : KSnd P K) {ops : Array Oper} {A : Nat → Act} {Hs : Nat → Heap} (hs : Sta P ops.toList) (ht : Tra P X K ops A Hs)
   {m0 : Mp} {w0 : World} {Q : Exit → Act → World → Prop} (hQ : ∀ m a' w', Rel m (Hs ops.toList.length) w' → Gl P m → ActR m (A ops.toList.length) a' → Step m0 (Hs 0) w0 m (Hs ops.toList.length) w' → Q .normal a' w') :
   ∀ (fuel : Nat) (L : Array Bool) (q : Nat) (m : Mp) (a' : Act) (w' : World), L.size = ops.size → Down ops.toList (fun i => L.getD i false) → (List.range ops.size).countP (fun i => !L.getD i false) ≤ fuel →
     Inv P ops A Hs m0 w0 (fun i => L.getD i false) q m a' w' → wpAny P .any ops Q fuel L a' w' := by
 have final : ∀ (L : Array Bool) (q : Nat) (m : Mp) (a' : Act) (w' : World), L.size = ops.size → Inv P ops A Hs m0 w0 (fun i => L.getD i false) q m a' w' → Region.ready .any ops L = [] → Q .normal a' w' := by
   intro L q m a' w' hsz hi hr
   have all : ∀ i, i < ops.size → L.getD i false = true := by
     intro i
     induction i using Nat.strongRecOn with
     | _ i ih =>
       intro hlt
       cases e : L.getD i false with
       | true => rfl
       | false =>
         have hmem : i ∈ Region.ready .any ops L := by
           rw [mem_ready]
           refine ⟨?_, ops[i], Array.getElem?_eq_getElem hlt, ?_⟩
           · have hlt2 : i < L.size := by omega
             simp only [Array.getD, hlt2, dif_pos] at e ⊢
             exact e
           · intro x hx hb
             have hlt3 := hs.edge i ops[i] (by simp) x hx hb
             exact ih x.on hlt3 (by omega)
         rw [hr] at hmem; simp at hmem
   have hlen : ops.toList.length = ops.size := by simp
   have hq : q = ops.toList.length := by
     rcases Nat.eq_or_lt_of_le hi.qle with e | e
     · exact e
     · have := (hi.qeff _ (List.getElem?_eq_getElem e)).2
       rw [all q (by omega)] at this; simp at this
   subst hq
   refine hQ m a' w' hi.rel hi.gl ⟨?_, ?_⟩ hi.step
   · have hsz2 := ht.size ops.toList.length (Nat.le_refl _)
     refine ⟨by rw [hsz2]; exact hi.size, fun t h1 h2 => ?_⟩
     by_cases hw : ∃ (j : Nat) (oj : Oper), ops.toList[j]? = some oj ∧ oj.dst = some t
     · obtain ⟨j, oj, hj, hjd⟩ := hw
       have hj2 := (List.getElem?_eq_some_iff.1 hj).1
       exact hi.done j oj t _ _ hj hjd (all j (by omega)) (Array.getElem?_eq_getElem h1) (Array.getElem?_eq_getElem h2)
     · have hsl := ht.slot t 0 ops.toList.length (by omega) (fun k ok _ _ c d => hw ⟨k, ok, c, d⟩)
       rw [Nat.zero_add] at hsl
       refine hi.kept t _ _ (fun j oj a _ c => hw ⟨j, oj, a, c⟩) ?_ (Array.getElem?_eq_getElem h2)
       rw [← hsl]; exact Array.getElem?_eq_getElem h1
   · rw [ht.defers _ (Nat.le_refl _)]; exact hi.defers
 intro fuel
 induction fuel with
 | zero =>
   intro L q m a' w' hsz hd hc hi
   have hr : Region.ready .any ops L = [] := by
     rw [List.eq_nil_iff_forall_not_mem]
     intro i hmem
     rw [mem_ready] at hmem
     obtain ⟨h0, o, ho, _⟩ := hmem
     have hlt := (Array.getElem?_eq_some_iff.1 ho).1
     have : 0 < (List.range ops.size).countP (fun i => !L.getD i false) := by
       rw [List.countP_pos_iff]
       refine ⟨i, List.mem_range.2 hlt, ?_⟩
       have hlt2 : i < L.size := by omega
       have hL' : L.getD i false = false := by
         simp only [Array.getD, hlt2, dif_pos] at h0 ⊢
         exact h0
       simp only [hL']; rfl
     omega
   exact ⟨hr, final L q m a' w' hsz hi hr⟩
 | succ fuel ih =>
   intro L q m a' w' hsz hd hc hi
   refine ⟨final L q m a' w' hsz hi, fun i hmem => ?_⟩
   rw [mem_ready] at hmem
   obtain ⟨h0, o, ho, hp⟩ := hmem
   have hlt := (Array.getElem?_eq_some_iff.1 ho).1
   have hlt2 : i < L.size := by omega
   have hL : L.getD i false = false := by
     simp only [Array.getD, hlt2, dif_pos] at h0 ⊢; exact h0
   have ho' : ops.toList[i]? = some o := by simpa using ho
   have hset : ∀ j, (L.setIfInBounds i true).getD j false = if j = i then true else L.getD j false := by
     intro j
     by_cases e : j = i
     · subst e; simp [hlt2]
     · have : i ≠ j := Ne.symm e
       rw [getD_set_ne false this]; simp [e]
   have hfun : (fun j => (L.setIfInBounds i true).getD j false) = fun j => if j = i then true else L.getD j false := funext hset
   have hd2 : Down ops.toList (fun j => (L.setIfInBounds i true).getD j false) := by
     intro j oj hj hLj e he hb
     simp only [hset] at hLj ⊢
     by_cases ej : j = i
     · subst ej
       rw [ho'] at hj; simp only [Option.some.injEq] at hj; subst hj
       have := hp e he hb
       by_cases ee : e.on = j <;> simp [ee, this]
     · simp only [ej, if_false] at hLj
       have := hd j oj hj hLj e he hb
       by_cases ee : e.on = i <;> simp [ee, this]
   have hc2 : (List.range ops.size).countP (fun j => !(L.setIfInBounds i true).getD j false) ≤ fuel := by
     have := count_lt (p := fun j => !L.getD j false) (q := fun j => !(L.setIfInBounds i true).getD j false) (List.range ops.size)
       (fun x _ hx => by
         simp only [hset] at hx
         by_cases e : x = i
         · simp [e] at hx
         · simpa [e] using hx) ⟨i, List.mem_range.2 hlt, by simp [hL], by simp [hset]⟩
     omega
   have sees := fun (t : Nat) (hl : t ∈ looks ops.toList o) (v v' : Value) => hi.sees hs ht hd ho' hp hL hl (v := v) (v' := v')
   have hszA : (A i).tmps.size = a'.tmps.size := by rw [ht.size i (by simp; omega)]; exact hi.size
   have hguard : ∀ b, guardB ops o (A i) = some b → Region.wanted o (yielded ops a'.tmps) = b := fun b hb =>
     j0u hszA hb (fun j want d hg hdd v v' => sees d (looks_guard hg hdd) v v')
   unfold wpOp
   simp only [ho]
   have goOn : ∀ (m2 : Mp) (q2 : Nat) (v v' : Value) (w2 : World), A (i + 1) = (A i).put o.dst v → Step m (Hs q) w' m2 (Hs q2) w2 → VR m2 v v' → q2 ≤ ops.toList.length →
       (∀ oq, ops.toList[q2]? = some oq → cls P oq = 2 ∧ L.getD q2 false = false ∧ q2 ≠ i) → (∀ (j : Nat) (oj : Oper), j < q2 → ops.toList[j]? = some oj → cls P oj = 2 → L.getD j false = true ∨ j = i) →
       wpAny P .any ops Q fuel (L.setIfInBounds i true) (a'.put o.dst v') w2 := by
     intro m2 q2 v v' w2 hA hst hv k1 k2 k3
     refine ih (L.setIfInBounds i true) q2 m2 _ w2 (by simpa using hsz) hd2 hc2 ?_
     rw [hfun]
     exact hi.put hs ht ho' hL hA hst hv k1 k2 k3
   have same : cls P o < 2 ∨ Hs (i + 1) = Hs i → ∀ (v v' : Value) (m2 : Mp) (w2 : World), A (i + 1) = (A i).put o.dst v → Step m (Hs q) w' m2 (Hs q) w2 → VR m2 v v' → (cls P o = 2 → False) → wpAny P .any ops Q fuel (L.setIfInBounds i true) (a'.put o.dst v') w2 := by
     intro _ v v' m2 w2 hA hst hv hne
     refine goOn m2 q v v' w2 hA hst hv hi.qle (fun oq hq => ?_) (fun j oj h1 h2 h3 => .inl (hi.qlow j oj h1 h2 h3))
     obtain ⟨a1, a2⟩ := hi.qeff oq hq
     refine ⟨a1, a2, fun e => ?_⟩
     subst e
     rw [ho'] at hq; simp only [Option.some.injEq] at hq; subst hq
     exact hne a1
   -- behind an effect: the next one
   have nextq : cls P o = 2 → i = q ∧ ∃ q2, q2 ≤ ops.toList.length ∧ Hs q2 = Hs (i + 1) ∧ (∀ oq, ops.toList[q2]? = some oq → cls P oq = 2 ∧ L.getD q2 false = false ∧ q2 ≠ i) ∧
       (∀ (j : Nat) (oj : Oper), j < q2 → ops.toList[j]? = some oj → cls P oj = 2 → L.getD j false = true ∨ j = i) := by
     intro hc
     have hiq := hi.next hs hd ho' hp hL hc
     refine ⟨hiq, ?_⟩
     have hlen : ops.toList.length = ops.size := by simp
     obtain ⟨q2, n1, n2, n3, n4⟩ := next_eff P ops.toList (ops.toList.length - (i + 1)) (i + 1) (by omega)
     refine ⟨q2, n2, ?_, ?_, ?_⟩
     · have := ht.heap (i + 1) (q2 - (i + 1)) (by omega) (fun j oj a b c => n3 j oj a (by omega) c)
       rw [show i + 1 + (q2 - (i + 1)) = q2 by omega] at this
       exact this
     · intro oq hq
       refine ⟨n4 oq hq, ?_, by omega⟩
       cases e : L.getD q2 false with
       | false => rfl
       | true =>
         have hb := hs.eff i q2 o oq ho' hq (by omega) hc (n4 oq hq)
         have this : L.getD i false = true := down_bit hs hd q2 oq i hq (fun x hx hbx => hd q2 oq hq e x hx hbx) hb
         rw [this] at hL; simp at hL
     · intro j oj h1 h2 h3
       rcases Nat.lt_trichotomy j i with e | e | e
       · exact .inl (hi.qlow j oj (by omega) h2 h3)
       · exact .inr e
       · exact absurd h3 (n3 j oj (by omega) h1 h2)
   rcases ht.step i o ho' with ⟨hg, hok, v, hy, hA⟩ | ⟨hg, hA, hH⟩
   · rw [if_pos (hguard true hg)]
     left
     have hρ : ∀ x ∈ o.op.operands.toList, VR m ((A i).eval x) (a'.eval x) := by
       intro x hx
       refine eval_sees hi.gl hszA (List.all_eq_true.1 hok x hx) (fun t e v v' => sees t ?_ v v')
       subst e
       exact looks_operand hx
     unfold Oper.wp
     by_cases hc : cls P o = 2
     · obtain ⟨hiq, q2, k1, k2, k3, k4⟩ := nextq hc
       subst hiq
       refine jp8 hX hK hi.rel hi.gl hρ (k := fun v H' => some (.ret v, H')) (kp := fun _ _ => none) (r := (.ret v, Hs (i + 1))) ⟨?_, ?_⟩ (hy _ _)
       · intro m2 u u' H2 w2 hv hst hk
         simp only [Option.some.injEq, Prod.mk.injEq, End.ret.injEq] at hk
         obtain ⟨rfl, rfl⟩ := hk
         exact goOn m2 q2 u u' w2 hA (by rw [k2]; exact hst) hv k1 k3 k4
       · intro m2 c c' H2 w2 hv hst hk
         simp at hk
     · have hc2' : cls P o < 2 := by have := cls_le P o; omega
       have hyq := hi.quiet hs ht hd ho' hp hL hg hc2' hy hA
       refine jp8 hX hK hi.rel hi.gl hρ (k := fun v H' => some (.ret v, H')) (kp := fun _ _ => none) (r := (.ret v, Hs q)) ⟨?_, ?_⟩ (hyq _ _)
       · intro m2 u u' H2 w2 hv hst hk
         simp only [Option.some.injEq, Prod.mk.injEq, End.ret.injEq] at hk
         obtain ⟨rfl, rfl⟩ := hk
         exact same (.inl hc2') u u' m2 w2 hA hst hv hc
       · intro m2 c c' H2 w2 hv hst hk
         simp at hk
   · rw [if_neg (by rw [hguard false hg]; simp)]
     by_cases hc : cls P o = 2
     · obtain ⟨hiq, q2, k1, k2, k3, k4⟩ := nextq hc
       subst hiq
       exact goOn m q2 undef undef w' hA (by rw [k2, hH]; exact .refl hi.rel) (.undef m) k1 k3 k4
     · exact same (.inr hH) undef undef m w' hA (.refl hi.rel) (.undef m) hc
theorem j7u {ops : Array Oper} {ts : List (Act × Heap)} {a0 : Act × Heap} (hlen : ts.length = ops.toList.length + 1) (h : drawChk P ops ts = true) :
   ∀ (i p : Nat) (oi op : Oper), ops.toList[i]? = some oi → ops.toList[p]? = some op → cls P oi = 1 → guardB ops oi ((ts[i]?.getD a0).1) = some true → cls P op = 2 →
   ((masks ops.toList []).getD i 0).testBit p = false → ((masks ops.toList []).getD p 0).testBit i = false →
   ∃ v, (∀ v', ((ts[i + 1]?.getD a0).1) = ((ts[i]?.getD a0).1).put oi.dst v' → v' = v) ∧ qval P ((ts[i]?.getD a0).1).eval oi ((ts[p]?.getD a0).2) = some v ∧ qval P ((ts[i]?.getD a0).1).eval oi ((ts[p + 1]?.getD a0).2) = some v := by
 intro i p oi op ho hp h1 hg h2 u1 u2
 have hi := (List.getElem?_eq_some_iff.1 ho).1
 have hpl := (List.getElem?_eq_some_iff.1 hp).1
 have t1 : ts[i]? = some ts[i] := List.getElem?_eq_getElem (by omega)
 have t2 : ts[i + 1]? = some ts[i + 1] := List.getElem?_eq_getElem (by omega)
 have t3 : ts[p]? = some ts[p] := List.getElem?_eq_getElem (by omega)
 have t4 : ts[p + 1]? = some ts[p + 1] := List.getElem?_eq_getElem (by omega)
 unfold drawChk at h
 simp only [List.all_eq_true, List.mem_range] at h
 have hh := h i hi
 rw [t1] at hg
 simp only [Option.getD_some] at hg
 simp only [ho, t1, t2, h1, hg, and_self, if_true, List.all_eq_true, List.mem_range] at hh
 have hh2 := hh p hpl
 simp only [hp, h2, u1, u2, and_self, if_true, t3, t4] at hh2
 cases hd : oi.dst with
 | none => rw [hd] at hh2; simp at hh2
 | some d =>
   rw [hd] at hh2
   simp only [Bool.and_eq_true] at hh2
   obtain ⟨c1, c2⟩ := hh2
   rw [t1, t2, t3, t4]
   simp only [Option.getD_some]
   cases q1 : qval P ts[i].1.eval oi ts[p].2 with
   | none => rw [q1] at c1; simp at c1
   | some v =>
     rw [q1] at c1
     cases q2 : qval P ts[i].1.eval oi ts[p + 1].2 with
     | none => rw [q2] at c2; simp at c2
     | some v2 =>
       rw [q2] at c2
       have e1 := j12 c1
       have e2 := j12 c2
       refine ⟨v, fun v' hv' => ?_, rfl, by rw [e2, ← e1]⟩
       rw [e1, hv']
       simp only [Act.put]
       by_cases hlt : d < ts[i].1.tmps.size
       · simp [hlt]
       · exfalso
         have hu : (ts[i + 1].1.tmps.getD d undef) = undef := by
           rw [hv']
           simp [Act.put, hlt]
         rw [hu] at e1
         rw [e1, hu] at c1
         simp [undef, veq, veq0] at c1
theorem draw_sound {X : Xf} {K : Kf} (hX : XSnd P X) (hK : KSnd P K) (hm : P.follows .mixedOrders = true) {ops : Array Oper} {r : End × Heap} {k : Act → Heap → R} {Q : Exit → Act → World → Prop} (hD : drawOk P ops.toList = true)
   {a a' : Act} {m : Mp} {H : Heap} {w : World} (h : StR P m a H a' w) (he : execTr P X K ops ops.toList a H [] (fun tr af Hf => cond (drawChk P ops tr) (k af Hf) none) = some r)
   (hQ : ∀ b' w', After P m H w (fun b H' => k b H' = some r) b' w' → Q .normal b' w') (id : Nat) : (Code.region id ops true).wp P Q a' w := by
 have hs := drawOk_spec hD
 obtain ⟨ts, k1, k2, k3, af, Hf, k4, k5⟩ := jh7 ops.toList hs.nd he
 simp only [List.nil_append] at k5
 cases hc : drawChk P ops ts with
 | false => rw [hc] at k5; simp at k5
 | true =>
   rw [hc] at k5
   simp only [cond_true] at k5
   have hchk := j7u (a0 := (a, H)) k1 hc
   let A : Nat → Act := fun i => (ts[i]?.getD (a, H)).1
   let Hs : Nat → Heap := fun i => (ts[i]?.getD (a, H)).2
   have A0 : A 0 = a := by simp only [A, k2, Option.getD_some]
   have H0 : Hs 0 = H := by simp only [Hs, k2, Option.getD_some]
   have An : A ops.toList.length = af := by simp only [A, k4, Option.getD_some]
   have Hn : Hs ops.toList.length = Hf := by simp only [Hs, k4, Option.getD_some]
   have ht : Tra P X K ops A Hs := by
     refine ⟨fun i o ho => ?_, fun i p oi op ho hp c1 hg c2 u1 u2 => ?_⟩
     · have hi := (List.getElem?_eq_some_iff.1 ho).1
       have t1 : ts[i]? = some ts[i] := List.getElem?_eq_getElem (by omega)
       have t2 : ts[i + 1]? = some ts[i + 1] := List.getElem?_eq_getElem (by omega)
       have := k3 i o _ _ ho t1 t2
       simpa only [A, Hs, t1, t2, Option.getD_some] using this
     · obtain ⟨v, q0, q1, q2⟩ := hchk i p oi op ho hp c1 hg c2 u1 u2
       exact ⟨v, fun _ v' _ _ hA => q0 v' hA, q1, q2⟩
   refine wp_region_any hm ?_
   have hst0 := step_drawn_heap h.rel
   have hlen : ops.toList.length = ops.size := by simp
   obtain ⟨q, n1, n2, n3, n4⟩ := next_eff P ops.toList ops.toList.length 0 (by omega)
   have hHq : Hs q = Hs 0 := by
     have := ht.heap 0 q (by omega) (fun j o a b c => n3 j o a (by omega) c)
     rwa [Nat.zero_add] at this
   refine j7t hX hK hs ht (m0 := m) (w0 := w) (Q := Q) ?_ ops.size (Array.replicate ops.size false) q m a' _ (by simp) ?_ ?_ ?_
   · intro m2 b' w2 r1 r2 r3 r4
     rw [An, Hn] at *
     rw [H0] at r4
     exact hQ b' w2 ⟨m2, af, Hf, ⟨r3, r1, r2⟩, r4, k5⟩
   · intro i o ho hL
     have hi := (List.getElem?_eq_some_iff.1 ho).1
     simp [Array.getD] at hL
   · exact Nat.le_trans List.countP_le_length (by simp)
   · have nl : ∀ j, (Array.replicate ops.size false).getD j false = false := by
       intro j; simp [Array.getD]
     refine ⟨?_, h.gl, ?_, ?_, ?_, ?_, ?_, n2, ?_, ?_⟩
     · rw [hHq, H0]; exact hst0.rel
     · rw [hHq, H0]; exact hst0
     · rw [A0]; exact h.act.defers
     · rw [A0]; exact h.act.tmps.1
     · intro j o t v v' _ _ hL
       simp only [nl] at hL; simp at hL
     · intro t v v' _ hv hv'
       rw [A0] at hv
       obtain ⟨x1, e1⟩ := Array.getElem?_eq_some_iff.1 hv
       obtain ⟨x2, e2⟩ := Array.getElem?_eq_some_iff.1 hv'
       rw [← e1, ← e2]
       exact h.act.tmps.2 t x1 x2
     · intro o ho
       exact ⟨n4 o ho, nl q⟩
     · intro j o hj ho hc
       exact absurd hc (n3 j o (by omega) hj ho)
end Go.Aw
namespace Go.Aw
variable {m : Mp}
def resL (P : Program) (tmps : Array Value) (H : Heap) : List ResultVar → Option (List Value)
 | [] => some []
 | .tmp t :: r => match resL P tmps H r with | some l => some (tmps.getD t undef :: l) | none => none
 | .cell a t :: r => match loadA P t (tmps.getD a undef) H with
   | some (v, _) => match resL P tmps H r with | some l => some (v :: l) | none => none
   | none => none
def oneOf : List Value → Value
 | [v] => v
 | l => .tuple l.toArray
def finish (P : Program) (fn : Func) (o : Out) (a : Act) (H : Heap) : R :=
 match o with
 | .norm | .ret => match a.defers with
   | [] => match resL P a.tmps H fn.results.toList with | some l => some (.ret (oneOf l), H) | none => none
   | _ => none
 | .pan c => match a.defers with | [] => some (.pan c, H) | _ => none
 | _ => none
abbrev Hook := FuncId → Array Value → Heap → Option R
def call (P : Program) (X : Xf) (N : Nat) (hk : Hook) : Nat → Kf
 | 0 => fun _ _ _ => none
 | d + 1 => fun f args H =>
   match hk f args H with
   | some r => r
   | none =>
     match P.funcs[f]? with
     | some fn => match fn.body with
       | some c => exec P X (call P X N hk d) N c none { tmps := args ++ Array.replicate (fn.ntmps - args.size) undef, defers := [] } H (finish P fn)
       | none => none
     | none => none
theorem jk7 {P : Program} {H : Heap} {w : World} (h : Rel m H w) {ts ts' : Array Value} (hts : VRa m ts ts') : ∀ (l : List ResultVar) (vs : List Value), resL P ts H l = some vs →
   ∃ vs', (List.mapM (fun | .tmp t => Pure.pure (ts'.getD t undef) | .cell a t => (do loadVar t (← asAddr (ts'.getD a undef)) : Sem Value)) l : Sem (List Value)).run P w = .ok vs' w ∧ VRs m vs vs'
 | [], vs, he => by simp only [resL, Option.some.injEq] at he; subst he; exact ⟨[], by simp, VRs.nil m⟩
 | .tmp t :: r, vs, he => by
   simp only [resL] at he
   split at he
   · rename_i l hl
     simp only [Option.some.injEq] at he; subst he
     obtain ⟨vs', k1, k2⟩ := jk7 h hts r l hl
     exact ⟨ts'.getD t undef :: vs', by simp only [List.mapM_cons, Sem.run_bind, Sem.run_pure, Result.andThen_ok, k1], VRs.cons (hts.getD t (.undef m)) k2⟩
   · simp at he
 | .cell a t :: r, vs, he => by
   simp only [resL] at he
   split at he
   · rename_i v H' hv
     split at he
     · rename_i l hl
       simp only [Option.some.injEq] at he; subst he
       obtain ⟨vs', k1, k2⟩ := jk7 h hts r l hl
       have hx := hts.getD a (VR.undef m)
       obtain ⟨v', q1, q2, q3⟩ := loadA_read h hx hv
       have hp : ∃ b, ts.getD a undef = .pointer (some b) := by
         unfold loadA at hv
         split at hv
         · rename_i b hb; exact ⟨b, hb⟩
         · simp at hv
       obtain ⟨b, hb⟩ := hp
       rw [hb] at hx
       obtain ⟨L, _, _, e⟩ := hx.ptr_inv
       rw [e] at q1
       have q1' : (loadVar t ⟨L.c, L.base + b.off, none⟩).run P w = .ok v' w := by
         simpa [Instr.loadAt, Instr.sureAddr] using q1
       refine ⟨v' :: vs', ?_, VRs.cons q2 k2⟩
       have hA : (asAddr (ts'.getD a undef)).run P w = .ok ⟨L.c, L.base + b.off, none⟩ w := by rw [e]; rfl
       simp only [List.mapM_cons, Sem.run_bind, hA, Result.andThen_ok, q1', k1, Sem.run_pure]
     · simp at he
   · simp at he
theorem oneOf_sound {l l' : List Value} (h : VRs m l l') : VR m (oneOf l) (if hs : l'.toArray.size = 1 then l'.toArray[0] else .tuple l'.toArray) := by
 match l, l', h with
 | [], [], h => exact .tuple _ _ rfl (fun i a => absurd a (by simp))
 | [x], [y], h => exact h.head
 | x :: y :: r, x' :: y' :: r', h =>
   have : ¬ (x' :: y' :: r').toArray.size = 1 := by simp
   rw [dif_neg this]
   exact .tuple _ _ (h.toArray).1 (h.toArray).2
 | [], _ :: _, h => have := h.1; simp at this
 | _ :: _, [], h => have := h.1; simp at this
 | [_], _ :: _ :: _, h => have := h.1; simp at this
 | _ :: _ :: _, [_], h => have := h.1; simp at this
theorem results_sound {P : Program} {H : Heap} {w : World} (h : Rel m H w) {fn : Func} {ts ts' : Array Value} (hts : VRa m ts ts') {vs : List Value} (he : resL P ts H fn.results.toList = some vs) :
   ∃ v', (results fn ts').run P w = .ok v' w ∧ VR m (oneOf vs) v' := by
 obtain ⟨vs', k1, k2⟩ := jk7 h hts fn.results.toList vs he
 refine ⟨_, ?_, oneOf_sound k2⟩
 unfold results
 have : (fn.results.mapM (fun | .tmp t => Pure.pure (ts'.getD t undef) | .cell a t => (do loadVar t (← asAddr (ts'.getD a undef)) : Sem Value)) : Sem (Array Value)).run P w = .ok vs'.toArray w := by
   rw [Array.mapM_eq_mapM_toList, Sem.run_map, k1]; rfl
 rw [Sem.run_bind]
 refine (congrArg (fun z => Result.andThen z _) this).trans ?_
 rfl
def HookSnd (P : Program) (hk : Hook) : Prop := ∀ f args H r H', hk f args H = some (some (r, H')) → ∀ m w args', Rel m H w → Gl P m → VRa m args args' →
 Calls P f args' w fun e w' => ∃ m', EndR m' r e ∧ Step m H w m' H' w'
end Go.Aw
namespace Go.Aw
variable {m : Mp}
def recM : FrameMode → Value × FrameMode
 | .panicking (p :: older) => if p.recovered = false ∧ p.goexit = false then (p.v, .panicking ({ v := p.v, recovered := true } :: older)) else (.nilIface, .panicking (p :: older))
 | u => (.nilIface, u)
def isRec (o : Oper) : Bool :=
 match o.op with
 | .call c => match c.callee with | .builtin .recover => o.guard.isNone && c.args.isEmpty | _ => false
 | _ => false
def finD (P : Program) (fn : Func) (u : FrameMode) (kd : End → FrameMode → Heap → R) (o : Out) (a : Act) (H : Heap) : R :=
 match o with
 | .norm | .ret => match a.defers with
   | [] => match resL P a.tmps H fn.results.toList with | some l => kd (.ret (oneOf l)) u H | none => none
   | _ => none
 | .pan c => match a.defers with | [] => kd (.pan c) u H | _ => none
 | _ => none
def act0 (fn : Func) (args : Array Value) : Act := { tmps := args ++ Array.replicate (fn.ntmps - args.size) undef, defers := [] }
def bodyD (P : Program) (X : Xf) (K : Kf) (N : Nat) (fn : Func) (c : Code) (args : Array Value) (u : FrameMode) (H : Heap) (kd : End → FrameMode → Heap → R) : R :=
 match c with
 | .seq (.region _ ops false) rest => match ops.toList with
   | o :: os => cond (isRec o)
     (execOps P X K ops os ((act0 fn args).put o.dst (recM u).1) H (fun a H => exec P X K N rest none a H (finD P fn (recM u).2 kd)) (fun c a H => finD P fn (recM u).2 kd (.pan c) a H))
     (exec P X K N c none (act0 fn args) H (finD P fn u kd))
   | [] => exec P X K N c none (act0 fn args) H (finD P fn u kd)
 | c => exec P X K N c none (act0 fn args) H (finD P fn u kd)
def settleA : FrameMode → Option FrameMode
 | .panicking (p :: older) => if p.recovered = true then (match older with | [] => some .returning | _ => none) else some (.panicking (p :: older))
 | u => some u
def leave (P : Program) (X : Xf) (K : Kf) (N : Nat) (fn : Func) (tmps : Array Value) : List Deferred → FrameMode → Heap → R
 | [], .returning, H => match resL P tmps H fn.results.toList with | some l => some (.ret (oneOf l), H) | none => none
 | [], .panicking c, H => some (.pan c, H)
 | [], .run, _ => none
 | _ :: _, .run, _ => none
 | d :: ds, u, H => match d.target with
   | .fn (.func g) cap => match P.funcs[g]? with
     | some gn => if gn.name == "runtime.NumGoroutine" then none else match gn.body with
       | some c => bodyD P X K N gn c (d.args ++ cap) u H fun e u' H' => match e with
         | .ret _ => match settleA u' with | some u2 => leave P X K N fn tmps ds u2 H' | none => none
         | .pan ch => leave P X K N fn tmps ds (raised u' ch) H'
       | none => none
     | none => none
   | _ => none
def finishR (P : Program) (X : Xf) (K : Kf) (N : Nat) (fn : Func) (o : Out) (a : Act) (H : Heap) : R :=
 match o with
 | .norm | .ret => leave P X K N fn a.tmps a.defers .returning H
 | .pan c => leave P X K N fn a.tmps a.defers (.panicking c) H
 | _ => none
def callR (P : Program) (X : Xf) (N : Nat) (hk : Hook) : Nat → Kf
 | 0 => fun _ _ _ => none
 | d + 1 => fun f args H =>
   match hk f args H with
   | some r => r
   | none =>
     match P.funcs[f]? with
     | some fn => match fn.body with
       | some c => exec P X (callR P X N hk d) N c none (act0 fn args) H (finishR P X (callR P X N hk d) N fn)
       | none => none
     | none => none
inductive ModeR (m : Mp) : FrameMode → FrameMode → Prop where
 | returning : ModeR m .returning .returning
 | panicking (c c' : List PanicEntry) (h : PanR m c c') : ModeR m (.panicking c) (.panicking c')
theorem ModeR.mono {m' : Mp} (hm : m.le m') {u u' : FrameMode} (h : ModeR m u u') : ModeR m' u u' := by
 cases h with
 | returning => exact .returning
 | panicking c c' h => exact .panicking _ _ (h.mono hm)
theorem PanR.append {a a' b b' : List PanicEntry} (h : PanR m a a') (k : PanR m b b') : PanR m (a ++ b) (a' ++ b') := by
 refine ⟨by simp [h.1, k.1], fun i hi hi' => ?_⟩
 by_cases e : i < a.length
 · have e' : i < a'.length := h.1 ▸ e
   simp only [List.getElem_append, e, e', dif_pos]
   exact h.2 i e e'
 · have e' : ¬ i < a'.length := h.1 ▸ e
   simp only [List.getElem_append, e, e', dif_neg, not_false_eq_true]
   have hs := h.1
   simp only [List.length_append] at hi hi'
   simp only [← hs]
   exact k.2 _ (by omega) (by have := k.1; omega)
theorem PanR.cons_inv {p : PanicEntry} {r : List PanicEntry} {c' : List PanicEntry} (h : PanR m (p :: r) c') :
   ∃ p' r', c' = p' :: r' ∧ VR m p.v p'.v ∧ p.recovered = p'.recovered ∧ p.goexit = p'.goexit ∧ PanR m r r' := by
 cases c' with
 | nil => have := h.1; simp at this
 | cons p' r' =>
   have h0 := h.2 0 (by simp) (by simp)
   refine ⟨p', r', rfl, h0.1, h0.2.1, h0.2.2, by simpa using h.1, fun i a b => ?_⟩
   have := h.2 (i + 1) (by simpa using a) (by simpa using b)
   simpa using this
theorem PanR.cons {p p' : PanicEntry} {r r' : List PanicEntry} (hv : VR m p.v p'.v) (h1 : p.recovered = p'.recovered) (h2 : p.goexit = p'.goexit) (h : PanR m r r') : PanR m (p :: r) (p' :: r') := by
 refine ⟨by simp [h.1], fun i a b => ?_⟩
 cases i with
 | zero => exact ⟨hv, h1, h2⟩
 | succ i => simpa using h.2 i (by simpa using a) (by simpa using b)
theorem ModeR.raised {u u' : FrameMode} {c c' : List PanicEntry} (h : ModeR m u u') (hc : PanR m c c') : ModeR m (raised u c) (raised u' c') := by
 cases h with
 | returning => exact .panicking _ _ hc
 | panicking o o' ho => exact .panicking _ _ (hc.append ho)
theorem ModeR.settle {u u' u2 : FrameMode} (h : ModeR m u u') (he : settleA u = some u2) : ModeR m u2 (settle u') := by
 cases h with
 | returning => simp only [settleA, Option.some.injEq] at he; subst he; exact .returning
 | panicking o o' ho =>
   cases o with
   | nil =>
     simp only [settleA, Option.some.injEq] at he
     subst he
     have : o' = [] := by have := ho.1; simpa using this.symm
     subst this
     exact .panicking _ _ ho
   | cons p r =>
     obtain ⟨p', r', rfl, hv, h1, h2, hr⟩ := ho.cons_inv
     simp only [settleA] at he
     by_cases e : p.recovered = true
     · rw [if_pos e] at he
       cases r with
       | cons => simp at he
       | nil =>
         simp only [Option.some.injEq] at he
         subst he
         have : r' = [] := by have := hr.1; simpa using this.symm
         subst this
         have e' : p'.recovered = true := h1 ▸ e
         obtain ⟨v', rec', ge'⟩ := p'
         simp only at e'
         subst e'
         simp only [Go.settle, List.dropWhile_nil]
         exact .returning
     · rw [if_neg e] at he
       simp only [Option.some.injEq] at he
       subst he
       have e' : p'.recovered = false := by rw [← h1]; simpa using e
       obtain ⟨v', rec', ge'⟩ := p'
       simp only at e'
       subst e'
       exact .panicking _ _ ho
end Go.Aw
namespace Go.Aw
theorem recM_sound {m : Mp} {u : FrameMode} {c₀ : Frame} (cs : List Frame) (h : ModeR m u c₀.mode) :
   ∃ v' u2, VR m (recM u).1 v' ∧ ModeR m (recM u).2 u2 ∧ (match recoverD (c₀ :: cs) with | some (v, cs') => v = v' ∧ cs' = { c₀ with mode := u2 } :: cs | none => v' = .nilIface ∧ u2 = c₀.mode) := by
 obtain ⟨fnx, tmpsx, todox, defx, modex, kindx, rx⟩ := c₀
 simp only at h
 cases h with
 | returning => exact ⟨.nilIface, .returning, .atom _ rfl, .returning, by simp [recoverD]⟩
 | panicking o o' ho =>
   cases o with
   | nil =>
     have : o' = [] := by have := ho.1; simpa using this.symm
     subst this
     exact ⟨.nilIface, _, .atom _ rfl, .panicking _ _ ho, by simp [recoverD]⟩
   | cons p r =>
     obtain ⟨p', r', rfl, hv, h1, h2, hr⟩ := ho.cons_inv
     obtain ⟨v, rc, ge⟩ := p
     obtain ⟨v', rc', ge'⟩ := p'
     simp only at hv h1 h2
     subst h1 h2
     by_cases e : rc = false ∧ ge = false
     · obtain ⟨rfl, rfl⟩ := e
       refine ⟨v', .panicking ({ v := v', recovered := true } :: r'), by simpa [recM] using hv, ?_, by simp [recoverD]⟩
       simp only [recM, and_self, if_true]
       exact .panicking _ _ (PanR.cons hv rfl rfl hr)
     · refine ⟨.nilIface, _, by simp only [recM, if_neg e]; exact .atom _ rfl, by simp only [recM, if_neg e]; exact .panicking _ _ ho, ?_⟩
       cases rc <;> cases ge <;> first | (exact absurd ⟨rfl, rfl⟩ e) | simp [recoverD]
theorem wpOpsS_cons {P : Program} {ops : Array Oper} {Q : Exit → Act → List Frame → World → Prop} {cs : List Frame} {n : Nat} {rest : List Nat} {o : Oper} {a : Act} {w : World} (ho : ops[n]? = some o)
   (hw : Region.wanted o (yielded ops a.tmps) = true) (h : o.wp P a w (fun a' w' => wpOpsS P ops Q rest a' cs w') (fun e a' w' => Q e a' cs w')) : wpOpsS P ops Q (n :: rest) a cs w := by
 simp only [wpOpsS, ho, hw, if_true]
 unfold Oper.wp at h
 split
 · rename_i w' hr
   rw [hr] at h
   exact h.elim
 · exact h
theorem jq9 {P : Program} {X : Xf} {K : Kf} (hX : XSnd P X) (hK : KSnd P K) {ops : Array Oper} {r : End × Heap} {k : Act → Heap → R} {kp : List PanicEntry → Act → Heap → R} {Q : Exit → Act → List Frame → World → Prop} {cs : List Frame} :
   ∀ (l : List Oper) (n : Nat) (_ : l = ops.toList.drop n) {a a' : Act} {m : Mp} {H : Heap} {w : World}, StR P m a H a' w → execOps P X K ops l a H k kp = some r →
   (∀ b' w', After P m H w (fun b H' => k b H' = some r) b' w' → Q .normal b' cs w') →
   (∀ c' b' w', AfterP P m H w c' (fun c b H' => kp c b H' = some r) b' w' → Q (.panic c') b' cs w') →
   wpOpsS P ops Q ((List.range ops.size).drop n) a' cs w := by
 intro l
 induction l with
 | nil =>
   intro n hl a a' m H w h he hn hp
   have hlen : ops.size ≤ n := by
     have := congrArg List.length hl
     simp at this; omega
   rw [List.drop_of_length_le (by simpa using hlen)]
   exact hn _ _ ⟨m, a, H, h, .refl h.rel, he⟩
 | cons o rest ih =>
   intro n hl a a' m H w h he hn hp
   have hlt : n < ops.size := by
     have := congrArg List.length hl
     simp at this; omega
   have hd : (List.range ops.size).drop n = n :: (List.range ops.size).drop (n + 1) := by
     rw [List.drop_eq_getElem_cons (by simpa using hlt)]
     simp
   have hl2 : ops.toList.drop n = ops[n] :: ops.toList.drop (n + 1) := by
     rw [List.drop_eq_getElem_cons (by simpa using hlt)]
     simp
   rw [hl2] at hl
   simp only [List.cons.injEq] at hl
   obtain ⟨rfl, hrest⟩ := hl
   rw [hd]
   simp only [execOps] at he
   obtain ⟨b, hb, hc⟩ := jl6 h he
   rcases hc with ⟨hw, hr⟩ | ⟨hw, hr⟩
   · refine wpOpsS_cons (Array.getElem?_eq_getElem hlt) hw ?_
     refine jj2 hX hK hb hr (fun b2 w2 ha => ?_) (fun c2 b2 w2 ha => hp c2 b2 w2 ha)
     obtain ⟨m2, b3, H3, s1, s2, s3⟩ := ha
     exact ih (n + 1) hrest s1 s3 (fun b4 w4 ha4 => hn b4 w4 (ha4.mono s2 (fun _ _ x => x))) (fun c4 b4 w4 ha4 => hp c4 b4 w4 (ha4.mono s2 (fun _ _ _ x => x)))
   · simp only [wpOpsS, Array.getElem?_eq_getElem hlt]
     rw [if_neg (by simp [hw])]
     exact ih (n + 1) hrest (hb.put _ (.undef m)) hr hn hp
def DEnd (m : Mp) (H : Heap) (w : World) (kd : End → FrameMode → Heap → R) (r : End × Heap) (e : Ending) (u' : FrameMode) (w' : World) : Prop :=
 ∃ m1 en uu H1, EndR m1 en e ∧ ModeR m1 uu u' ∧ Step m H w m1 H1 w' ∧ kd en uu H1 = some r
theorem js9 {m : Mp} {l l' : List Deferred} (h : DRs m l l') (e : l = []) : l' = [] := by
 cases h with
 | nil => rfl
 | cons => cases e
theorem jk8 {P : Program} {fn : Func} {u : FrameMode} {kd : End → FrameMode → Heap → R} {r : End × Heap} {m : Mp} {H : Heap} {w : World} {m0 : Mp} {u' : FrameMode} (hu : ModeR m0 u u') (hle : m0.le m)
   {e : Exit} {a : Act} {w1 : World} (hq : OutQ P m H w (finD P fn u kd) r e a w1) :
   (match e with
     | .normal | .ret => a.defers = [] ∧ ∃ v, (results fn a.tmps).run P w1 = .ok v w1 ∧ DEnd m H w kd r (.returned v) u' w1
     | .panic c => a.defers = [] ∧ DEnd m H w kd r (.panicked c) u' w1
     | _ => False) := by
 have fin : ∀ (m1 : Mp) (a1 : Act) (H1 : Heap), StR P m1 a1 H1 a w1 → Step m H w m1 H1 w1 → finD P fn u kd .norm a1 H1 = some r → a.defers = [] ∧ ∃ v, (results fn a.tmps).run P w1 = .ok v w1 ∧ DEnd m H w kd r (.returned v) u' w1 := by
   intro m1 a1 H1 s1 s2 s3
   simp only [finD] at s3
   split at s3
   · rename_i hd
     split at s3
     · rename_i l hl
       obtain ⟨v', q1, q2⟩ := results_sound s1.rel s1.act.tmps hl
       exact ⟨js9 s1.act.defers hd, v', q1, m1, .ret (oneOf l), u, H1, q2, hu.mono (Mp.le_trans hle s2.later.1), s2, s3⟩
     · simp at s3
   · simp at s3
 cases e with
 | normal => obtain ⟨m1, a1, H1, s1, s2, s3⟩ := hq; exact fin m1 a1 H1 s1 s2 s3
 | ret => obtain ⟨m1, a1, H1, s1, s2, s3⟩ := hq; exact fin m1 a1 H1 s1 s2 s3
 | exit id => obtain ⟨m1, a1, H1, s1, s2, s3⟩ := hq; simp [finD] at s3
 | goto l => obtain ⟨m1, a1, H1, s1, s2, s3⟩ := hq; simp [finD] at s3
 | panic c' =>
   obtain ⟨m1, c1, a1, H1, s0, s1, s2, s3⟩ := hq
   simp only [finD] at s3
   split at s3
   · rename_i hd
     exact ⟨js9 s1.act.defers hd, m1, .pan c1, u, H1, s0, hu.mono (Mp.le_trans hle s2.later.1), s2, s3⟩
   · simp at s3
 | outgrown => exact hq.elim
theorem j14 {P : Program} {m : Mp} {H : Heap} {w : World} (hrel : Rel m H w) (hgl : Gl P m) (fn : Func) {args args' : Array Value} (ha : VRa m args args') : StR P m (act0 fn args) H (act0 fn args') w := by
 refine ⟨⟨?_, .nil⟩, hrel, hgl⟩
 simp only [act0, ← ha.1]
 exact ha.append (VRa.replicate _ (.undef m))
theorem isRec_exec {o : Oper} (h : isRec o = true) : o.guard = none ∧ ∀ (P : Program) (ρ : Operand → Value) (w : World), (execOp ρ o).run P w = .ok .recover w := by
 unfold isRec at h
 split at h
 · rename_i c hc
   split at h
   · rename_i hcl
     simp only [Bool.and_eq_true, Option.isNone_iff_eq_none] at h
     refine ⟨h.1, fun P ρ w => ?_⟩
     simp [execOp, hc, hcl, resolve, invoke, builtin]
   · simp at h
 · simp at h
theorem j0v {P : Program} {X : Xf} {K : Kf} {N : Nat} (hX : XSnd P X) (hK : KSnd P K) (hD : DSnd P X K) {g : FuncId} {fn : Func} {c : Code} (hf : P.funcs[g]? = some fn) (hb : fn.body = some c)
   {args args' : Array Value} {u u' : FrameMode} {m : Mp} {H : Heap} {w : World} (hrel : Rel m H w) (hgl : Gl P m) (ha : VRa m args args') (hu : ModeR m u u') {kd : End → FrameMode → Heap → R} {r : End × Heap}
   (he : bodyD P X K N fn c args u H kd = some r) : CallsD P g args' u' w (DEnd m H w kd r) := by
 have hst := j14 hrel hgl fn ha
 have plain : exec P X K N c none (act0 fn args) H (finD P fn u kd) = some r → CallsD P g args' u' w (DEnd m H w kd r) := by
   intro hp
   refine (callsD_of_wp hf hb (R := fun e w1 => DEnd m H w kd r e u' w1) (OutQ.wp_mono (jk5 hX hK hD r c none c rfl hst hp) ?_)).mono fun e u2 w1 ⟨h1, h2⟩ => h1 ▸ h2
   intro e a w1 hq
   have := jk8 hu (Mp.le_refl m) hq
   cases e <;> first | exact this | exact this.elim
 unfold bodyD at he
 split at he
 · rename_i id ops rest
   split at he
   · rename_i o os hos
     cases hr : isRec o with
     | false => rw [hr] at he; exact plain he
     | true =>
     rw [hr] at he
     simp only [cond_true] at he
     obtain ⟨hgu, hex⟩ := isRec_exec hr
     refine callsD_of_wpS hf hb fun c₀ cs hc₀ => ?_
     subst hc₀
     obtain ⟨v', u2, hv', hu2, hrec⟩ := recM_sound cs hu
     have ho : ops[0]? = some o := by rw [← Array.getElem?_toList, hos]; rfl
     have hsz : 0 < ops.size := by rw [← Array.length_toList, hos]; simp
     have hdr : List.range ops.size = 0 :: (List.range ops.size).drop 1 := by
       have := List.drop_eq_getElem_cons (l := List.range ops.size) (i := 0) (by simpa using hsz)
       simpa using this
     have hw : Region.wanted o (yielded ops (act0 fn args').tmps) = true := by simp [Region.wanted, hgu]
     have hput := hst.put o.dst hv'
     have main : wpOpsS P ops (Exit.thenS (rest.wpS P (bodyPostS P fn c₀ cs (DEnd m H w kd r))) (bodyPostS P fn c₀ cs (DEnd m H w kd r))) ((List.range ops.size).drop 1) ((act0 fn args').put o.dst v') ({ c₀ with mode := u2 } :: cs) w := by
       refine jq9 hX hK os 1 (by rw [hos]; rfl) hput he ?_ ?_
       · intro b1 w1 hA
         obtain ⟨m1, a1, H1, s1, s2, s3⟩ := hA
         show rest.wpS P _ b1 _ w1
         refine wpS_of_wp (OutQ.wp_mono (jk5 hX hK hD r rest none rest rfl s1 s3) ?_)
         intro e a w2 hq
         have := jk8 hu2 (Mp.le_refl m) (OutQ.of s2 hq)
         cases e with
         | normal => obtain ⟨hd, v, q1, q2⟩ := this; exact ⟨hd, u2, rfl, v, q1, q2⟩
         | ret => obtain ⟨hd, v, q1, q2⟩ := this; exact ⟨hd, u2, rfl, v, q1, q2⟩
         | panic c2 => obtain ⟨hd, q2⟩ := this; exact ⟨hd, u2, rfl, q2⟩
         | exit id => exact this.elim
         | goto l => exact this.elim
         | outgrown => exact this.elim
       · intro c' b1 w1 hA
         have hq : OutQ P m H w (finD P fn (recM u).2 kd) r (.panic c') b1 w1 := hA
         obtain ⟨hd, q2⟩ := jk8 hu2 (Mp.le_refl m) hq
         exact ⟨hd, u2, rfl, q2⟩
     refine wpS_seq (wpS_region ?_)
     rw [hdr]
     show wpOpsS P ops _ (0 :: (List.range ops.size).drop 1) (act0 fn args') (c₀ :: cs) w
     simp only [wpOpsS, ho, hw, if_true]
     rw [hex]
     simp only
     cases hrd : recoverD (c₀ :: cs) with
     | some x =>
       obtain ⟨v, cs'⟩ := x
       rw [hrd] at hrec
       simp only at hrec
       obtain ⟨rfl, rfl⟩ := hrec
       exact main
     | none =>
       rw [hrd] at hrec
       simp only at hrec
       obtain ⟨rfl, rfl⟩ := hrec
       exact main
   · exact plain he
 · exact plain he
theorem jp9 {P : Program} {X : Xf} {K : Kf} {N : Nat} (hX : XSnd P X) (hK : KSnd P K) (hD : DSnd P X K) {fn : Func} {m0 : Mp} {H0 : Heap} {w0 : World} {r : End × Heap} :
   ∀ (ds ds' : List Deferred) (u u' : FrameMode) {tmps tmps' : Array Value} {m : Mp} {H : Heap} {w : World}, Rel m H w → Gl P m → DRs m ds ds' → ModeR m u u' → VRa m tmps tmps' → Step m0 H0 w0 m H w → leave P X K N fn tmps ds u H = some r →
     Leaves P fn tmps' (fun e w' => ∃ m', EndR m' r.1 e ∧ Step m0 H0 w0 m' r.2 w') ds' u' w := by
 intro ds
 induction ds with
 | nil =>
   intro ds' u u' tmps tmps' m H w hrel hgl hds hu ht hs he
   cases hds
   cases hu with
   | returning =>
     simp only [leave] at he
     split at he
     · rename_i l hl
       simp only [Option.some.injEq] at he
       subst he
       obtain ⟨v', q1, q2⟩ := results_sound hrel ht hl
       exact ⟨v', q1, m, q2, hs⟩
     · simp at he
   | panicking c c' h =>
     simp only [leave, Option.some.injEq] at he
     subst he
     exact ⟨m, h, hs⟩
 | cons d ds ih =>
   intro ds' u u' tmps tmps' m H w hrel hgl hds hu ht hs he
   cases hds with
   | cons hd htl =>
   rename_i d' l'
   obtain ⟨fv, cap, cap', e1, e2, hcap, hda⟩ := hd
   have hur : u' ≠ .run := by cases hu <;> simp
   have he' : ∃ g gn c, fv = .func g ∧ P.funcs[g]? = some gn ∧ (gn.name == "runtime.NumGoroutine") = false ∧ gn.body = some c ∧ bodyD P X K N gn c (d.args ++ cap) u H (fun e u' H' => match e with
         | .ret _ => match settleA u' with | some u2 => leave P X K N fn tmps ds u2 H' | none => none
         | .pan ch => leave P X K N fn tmps ds (raised u' ch) H') = some r := by
     have key : (match d.target with
         | .fn (.func g) cap => match P.funcs[g]? with
           | some gn => if gn.name == "runtime.NumGoroutine" then none else match gn.body with
             | some c => bodyD P X K N gn c (d.args ++ cap) u H (fun e u' H' => match e with
               | .ret _ => match settleA u' with | some u2 => leave P X K N fn tmps ds u2 H' | none => none
               | .pan ch => leave P X K N fn tmps ds (raised u' ch) H')
             | none => none
           | none => none
         | _ => none) = some r := by
       cases hu <;> (simp only [leave] at he; exact he)
     rw [e1] at key
     cases fv with
     | func g =>
       simp only at key
       split at key
       · rename_i gn hg
         split at key
         · simp at key
         · rename_i hn
           split at key
           · rename_i c hc
             exact ⟨g, gn, c, rfl, hg, by simpa using hn, hc, key⟩
           · simp at key
       · simp at key
     | _ => simp at key
   obtain ⟨g, gn, c, rfl, hg, hn, hc, hbd⟩ := he'
   have hbs := j0v hX hK hD hg hc hrel hgl (hda.append hcap) hu hbd
   obtain ⟨dt, da⟩ := d'
   simp only at e2 hda hbs
   subst e2
   refine ⟨hur, .func g, cap', g, da ++ cap', rfl, ?_, hbs.mono ?_⟩
   · have hn' : ¬ gn.name = "runtime.NumGoroutine" := by simpa using hn
     simp [invoke, callFunc, hg, hn', hc]
   · intro e u2 w1 hde
     obtain ⟨m1, en, uu, H1, q1, q2, q3, q4⟩ := hde
     have hle := q3.later.1
     cases en with
     | ret v =>
       simp only at q4
       cases e with
       | returned v' =>
         split at q4
         · rename_i u3 hu3
           exact ih l' u3 _ q3.rel (hgl.mono hle) (htl.mono hle) (q2.settle hu3) (ht.mono hle) (hs.trans q3) q4
         · simp at q4
       | panicked c => exact q1.elim
       | outgrown => exact q1.elim
     | pan ch =>
       simp only at q4
       cases e with
       | panicked c => exact ih l' _ _ q3.rel (hgl.mono hle) (htl.mono hle) (q2.raised q1) (ht.mono hle) (hs.trans q3) q4
       | returned v' => exact q1.elim
       | outgrown => exact q1.elim
theorem jh8 {P : Program} {X : Xf} {N : Nat} {hk : Hook} (hX : XSnd P X) (hH : HookSnd P hk) (hm : P.follows .mixedOrders = true) : ∀ d, KSnd P (callR P X N hk d)
 | 0 => fun f args H r H' he => by simp [callR] at he
 | d + 1 => by
   have hK := jh8 (X := X) (N := N) hX hH hm d
   intro f args H r H' he m w args' hrel hgl hargs
   simp only [callR] at he
   split at he
   · rename_i r' hr
     rw [he] at hr
     exact hH f args H r H' hr m w args' hrel hgl hargs
   · split at he
     · rename_i fn hf
       split at he
       · rename_i c hb
         have hD : DSnd P X (callR P X N hk d) := fun ops r k Q hd _ _ _ _ _ h he hQ id => draw_sound hX hK hm hd h he hQ id
         refine calls_of_wp_defers hf hb (OutQ.wp_mono (jk5 hX hK hD (r, H') c none c rfl (j14 hrel hgl fn hargs) he) ?_)
         have fin : ∀ (a : Act) (m1 : Mp) (a1 : Act) (H1 : Heap) (w1 : World), StR P m1 a1 H1 a w1 → Step m H w m1 H1 w1 → leave P X (callR P X N hk d) N fn a1.tmps a1.defers .returning H1 = some (r, H') →
             Leaves P fn a.tmps (fun e w' => ∃ m', EndR m' r e ∧ Step m H w m' H' w') a.defers .returning w1 :=
           fun a m1 a1 H1 w1 s1 s2 s3 => jp9 hX hK hD _ _ _ _ s1.rel s1.gl s1.act.defers .returning s1.act.tmps s2 s3
         intro e a w1 hq
         cases e with
         | normal => obtain ⟨m1, a1, H1, s1, s2, s3⟩ := hq; exact fin a m1 a1 H1 w1 s1 s2 s3
         | ret => obtain ⟨m1, a1, H1, s1, s2, s3⟩ := hq; exact fin a m1 a1 H1 w1 s1 s2 s3
         | exit id => obtain ⟨m1, a1, H1, s1, s2, s3⟩ := hq; simp [finishR] at s3
         | goto l => obtain ⟨m1, a1, H1, s1, s2, s3⟩ := hq; simp [finishR] at s3
         | panic c' =>
           obtain ⟨m1, c1, a1, H1, s0, s1, s2, s3⟩ := hq
           exact jp9 hX hK hD _ _ _ _ s1.rel s1.gl s1.act.defers (.panicking _ _ s0) s1.act.tmps s2 s3
         | outgrown => exact hq.elim
       · simp at he
     · simp at he
end Go.Aw
namespace Go.Aw
variable {m : Mp} {P : Program} {G H : Heap}
def groundT : Value → Bool
 | .tuple vs => vs.toList.all atomic
 | v => ground v
theorem VR.of_groundT {v : Value} (hg : groundT v = true) : VR m v v := by
 cases v with
 | tuple cs => exact .tuple _ _ rfl (fun i a _ => .atom _ (List.all_eq_true.1 hg _ (by simp)))
 | _ => exact .of_ground hg
def extX (P : Program) : Xf := fun f args H =>
 match P.funcs[f]? with
 | some fn =>
   if fn.name == "runtime.NumGoroutine" then none
   else if fn.body.isNone && args.toList.all atomic then
     match Extern.findNext fn with
     | some _ => none
     | none => match Extern.find fn with
       | some e => match pureRun P (e args) with | some v => if groundT v then some (v, H) else none | none => none
       | none => none
   else none
 | none => none
theorem VRs.eq_of_atomic : ∀ {l l' : List Value}, VRs m l l' → l.all atomic = true → l' = l
 | [], [], _, _ => rfl
 | [], _ :: _, h, _ => by have := h.1; simp at this
 | _ :: _, [], h, _ => by have := h.1; simp at this
 | x :: r, y :: s, h, ha => by
   simp only [List.all_cons, Bool.and_eq_true] at ha
   rw [h.head.eq_of_atomic ha.1, VRs.eq_of_atomic h.tail ha.2]
theorem VRa.eq_of_atomic {a a' : Array Value} (h : VRa m a a') (ha : a.toList.all atomic = true) : a' = a := by
 have := VRs.eq_of_atomic h.toList ha
 exact Array.toList_inj.mp this
theorem VRs.of_atomic (m : Mp) : ∀ {l : List Value}, l.all atomic = true → VRs m l l
 | [], _ => VRs.nil m
 | x :: r, ha => by
   simp only [List.all_cons, Bool.and_eq_true] at ha
   exact VRs.cons (.atom x ha.1) (VRs.of_atomic m ha.2)
theorem j2w (P : Program) : XSnd P (extX P) := by
 intro f args H v H' he m w args' h hg ha
 unfold extX at he
 split at he
 · rename_i fn hf
   split at he
   · simp at he
   · rename_i hn
     split at he
     · rename_i hb
       simp only [Bool.and_eq_true] at hb
       split at he
       · simp at he
       · rename_i hfn
         split at he
         · rename_i e hfe
           split at he
           · rename_i v0 hv
             split at he
             · rename_i hgr
               simp only [Option.some.injEq, Prod.mk.injEq] at he
               obtain ⟨rfl, rfl⟩ := he
               have hargs := VRa.eq_of_atomic ha hb.2
               subst hargs
               refine ⟨m, v0, w, ?_, .of_groundT hgr, .refl h⟩
               have hr := pureRun_run hv w
               have hn' : ¬ fn.name = "runtime.NumGoroutine" := by simpa using hn
               have hb' : fn.body = none := by simpa using hb.1
               simp [callFunc, hf, hn', hb', hfn, hfe, hr]
             · simp at he
           · simp at he
         · simp at he
     · simp at he
 · simp at he
def within (n : Nat) : Value → Bool
 | .pointer (some a) => decide (a.block < n)
 | .iface _ v => within n v
 | .agg xs => match xs.toList with | [.pointer (some a)] => decide (a.block < n) | _ => false
 | v => atomic v
theorem VR.within {m' : Mp} {n : Nat} (hm : ∀ b L, b < n → m b = some L → m' b = some L) {v v' : Value} (h : VR m v v') (hw : within n v = true) : VR m' v v' := by
 induction h with
 | atom v h => exact .atom v h
 | ptr b off L h => exact .ptr b off L (hm b L (by simpa [Aw.within] using hw) h)
 | slice b off L a' len cap cap' h => simp [Aw.within, atomic] at hw
 | map b L h => simp [Aw.within, atomic] at hw
 | func => simp [Aw.within, atomic] at hw
 | iface t v v' _ ih => exact .iface t v v' (ih (by simpa [Aw.within] using hw))
 | agg xs xs' hx kx ih =>
   unfold Aw.within at hw
   split at hw
   · rename_i a he
     have hs : xs.size = 1 := by rw [← Array.length_toList, he]; rfl
     refine .agg xs xs' hx fun i a1 a2 => ih i a1 a2 ?_
     have : xs[i] = .pointer (some a) := by
       have h0 : i = 0 := by omega
       subst h0
       have e2 := congrArg (fun l => l[0]?) he
       have e3 : xs[0]? = some (.pointer (some a)) := by simpa using e2
       exact (Array.getElem?_eq_some_iff.mp e3).2
     rw [this]
     simpa [Aw.within] using hw
   · simp at hw
 | tuple => simp [Aw.within, atomic] at hw
structure Tabs (P : Program) (G : Heap) : Prop where
 ro : ∀ b x, G.get b = some x → x.rw = false ∧ x.o = none ∧ x.cells.all (within G.next) = true
 next : P.globals.size ≤ G.next
 fresh : ∀ b, G.next ≤ b → G.get b = none
structure Over (G H : Heap) : Prop where
 next : G.next ≤ H.next
 blk : ∀ b x, G.get b = some x → ∃ y, H.get b = some y ∧ y.cells = x.cells ∧ y.es = x.es ∧ y.o = none
def cut (G : Heap) (m : Mp) : Mp := fun b => if b < G.next then m b else none
theorem Tabs.rel (ht : Tabs P G) (ho : Over G H) {m : Mp} {w : World} (h : Rel m H w) : Rel (cut G m) G w := by
 have hlt : ∀ b x, G.get b = some x → b < G.next := fun b x hb => by
   rcases Nat.lt_or_ge b G.next with h1 | h1
   · exact h1
   · rw [ht.fresh b h1] at hb; simp at hb
 refine ⟨fun b x hb => ?_, fun b x hb hrw => ?_, fun b L hm => ?_, fun b hb => ⟨?_, ht.fresh b hb⟩⟩
 · obtain ⟨y, h1, h2, h3, h4⟩ := ho.blk b x hb
   obtain ⟨hro, hxo, hat⟩ := ht.ro b x hb
   obtain ⟨L, k1, k2⟩ := h.blk b y h1
   refine ⟨L, by simp [cut, hlt b x hb, k1], k2.es.trans h3, by have := k2.fits; rwa [h2] at this, fun _ => ?_, fun o ho => by simp [hxo] at ho⟩
   obtain ⟨cs, elem, fz, q1, q2, q3, q4⟩ := k2.ex h4
   refine ⟨cs, elem, fz, q1, q2, fun i a c => ?_, fun hr => by simp [hro] at hr⟩
   have a' : i < y.cells.length := by rw [h2]; exact a
   have q := q3 i a' c
   have e : y.cells[i] = x.cells[i] := by simp only [h2]
   rw [e] at q
   have hati : within G.next x.cells[i] = true := List.all_eq_true.mp hat _ (List.getElem_mem a)
   exact q.within (fun b L hb hm => by simp [cut, hb, hm]) hati
 · simp [(ht.ro b x hb).1] at hrw
 · unfold cut at hm
   split at hm
   · exact h.bound b L hm
   · simp at hm
 · simp [cut, Nat.not_lt.mpr hb]
theorem Tabs.owns (ht : Tabs P G) (m : Mp) (c : Nat) : ¬ Owns m G c := fun ⟨b, x, _, hb, hrw, _⟩ => by simp [(ht.ro b x hb).1] at hrw
theorem Step.still {w w' : World} (h : Rel m H w) (ho : w'.os = w.os) (ht : w'.tape = w.tape) (hp : w'.output = w.output) (hs : w.heap.size ≤ w'.heap.size)
   (hb : ∀ c, c < w.heap.size → w'.heap[c]? = w.heap[c]?) : Step m H w m H w' := by
 refine ⟨⟨fun b x hx => ?_, h.apart, fun b L hm => Nat.lt_of_lt_of_le (h.bound b L hm) hs, h.fresh⟩, .refl .., ⟨ho, ht, hp, hs, fun c hc _ => hb c hc⟩⟩
 obtain ⟨L, h1, h2⟩ := h.blk b x hx
 exact ⟨L, h1, h2.mono (Mp.le_refl m) (hb _ (h.bound b L h1))⟩
theorem j2x {K : Kf} (hK : KSnd P K) {G : Heap} (ht : Tabs P G) {f : FuncId} {args : Array Value} {v : Value} {Hs : Heap} (he : K f args G = some (.ret v, Hs))
   (ha : args.toList.all atomic = true) (hv : atomic v = true) {H : Heap} (ho : Over G H) {m : Mp} {w : World} {args' : Array Value} (h : Rel m H w) (hg : Gl P m) (hargs : VRa m args args') :
   Calls P f args' w fun e w' => ∃ m', EndR m' (.ret v) e ∧ Step m H w m' H w' := by
 have hrel := ht.rel ho h
 have hgl : Gl P (cut G m) := fun g hgs => by
   obtain ⟨L, a, b⟩ := hg g hgs
   exact ⟨L, by simp [cut, Nat.lt_of_lt_of_le hgs ht.next, a], b⟩
 have e := hargs.eq_of_atomic ha
 subst e
 refine (hK f args' G (.ret v) Hs he (cut G m) w args' hrel hgl (VRs.of_atomic _ ha).toArray).mono fun e w' ⟨m', h1, h2⟩ => ?_
 refine ⟨m, ?_, Step.still h h2.keep.os h2.keep.tape h2.keep.output h2.keep.size fun c hc => h2.keep.block c hc (ht.owns _ c)⟩
 cases e with
 | returned v' =>
   have := VR.eq_of_atomic (show VR m' v v' from h1) hv
   subst this
   exact VR.atom v' hv
 | panicked c => exact h1.elim
 | _ => exact h1.elim
def veqC : Value → Value → Bool
 | .iface t v, .iface u w => t == u && veq v w
 | a, b => veq a b
theorem yc8 {a b : Value} (h : veqC a b = true) : a = b := by
 unfold veqC at h
 split at h
 · simp only [Bool.and_eq_true] at h; rw [eq_of_beq h.1, j12 h.2]
 · exact j12 h
def veqL : List Value → List Value → Bool
 | [], [] => true
 | a :: r, b :: s => veqC a b && veqL r s
 | _, _ => false
theorem j5g : ∀ {a b : List Value}, veqL a b = true → a = b
 | [], [], _ => rfl
 | [], _ :: _, h => by simp [veqL] at h
 | _ :: _, [], h => by simp [veqL] at h
 | x :: r, y :: s, h => by
   simp only [veqL, Bool.and_eq_true] at h
   rw [yc8 h.1, j5g h.2]
def sameB (x y : Blk) : Bool := veqL y.cells x.cells && decide (y.es = x.es) && y.o.isNone
def overB (G : Heap) (gs : List Nat) (H : Heap) : Bool :=
 decide (G.next ≤ H.next) && gs.all fun g => match G.get g, H.get g with | some x, some y => sameB x y | _, _ => false
theorem j2y {gs : List Nat} (hd : ∀ b x, G.get b = some x → b ∈ gs) (h : overB G gs H = true) : Over G H := by
 simp only [overB, Bool.and_eq_true, decide_eq_true_eq] at h
 refine ⟨h.1, fun b x hb => ?_⟩
 have := List.all_eq_true.mp h.2 b (hd b x hb)
 rw [hb] at this
 revert this
 cases hy : H.get b with
 | none => simp
 | some y =>
   simp only [sameB, Bool.and_eq_true, decide_eq_true_eq, Option.isNone_iff_eq_none]
   intro ⟨⟨a, b⟩, c⟩
   exact ⟨y, rfl, j5g a, b, c⟩
end Go.Aw
namespace Go.Aw
theorem run_loadB {P : Program} {w : World} : ∀ (ns : List Int) (a : Addr) (acc : ByteArray), (∀ j x, ns[j]? = some x → w.cell? (a.add j) = some (.int .u8 x)) →
   (Extern.Bytes.loadBytes a ns.length acc).run P w = .ok ⟨acc.data ++ (ns.map fun n => UInt8.ofNat n.toNat).toArray⟩ w
 | [], a, acc, _ => by simp [Extern.Bytes.loadBytes]
 | x :: l, a, acc, h => by
   have h0 : w.cell? a = some (.int .u8 x) := by
     have := h 0 x rfl
     simpa [Addr.add] using this
   have ih := run_loadB (P := P) l (a.add 1) (acc.push x.toNat.toUInt8) (fun j y hy => by
     have := h (j + 1) y (by simpa using hy)
     have e : (a.add 1).add j = a.add (j + 1) := by
       unfold Addr.add
       by_cases hj : j = 0
       · subst hj; simp
       · simp [hj]; omega
     rw [e]; exact this)
   simp only [List.length_cons, Extern.Bytes.loadBytes, Sem.run_bind, run_load, h0, Result.andThen]
   rw [ih]
   congr 1
   apply ByteArray.ext
   simp [ByteArray.push]
theorem bytesOf_run {P : Program} {m : Mp} {H : Heap} {w : World} (h : Rel m H w) {a : Option Addr} {n c : Nat} {x' : Value} {s : ByteArray} (hx : VR m (.slice a n c) x') (he : strOf H a n = some s) :
   (Extern.Bytes.bytesOf x').run P w = .ok s w := by
 unfold strOf at he
 split at he
 · simp only [Option.some.injEq] at he; subst he
   cases hx with
   | atom _ h => simp [Extern.Bytes.bytesOf]
 · rename_i a
   obtain ⟨L, a', c', hsp, hm, hl, hc, hb', hs', ha, rfl⟩ := hx.slice_inv
   by_cases h0 : n = 0
   · rw [if_pos h0] at he
     simp only [Option.some.injEq] at he; subst he; subst h0
     simp [Extern.Bytes.bytesOf, Extern.Bytes.loadBytes]
   · rw [if_neg h0] at he
     cases hlk : look H a with
     | none => simp [hlk] at he
     | some y =>
       simp only [hlk] at he
       by_cases hin : a.off + n ≤ y.cells.length
       · rw [if_pos hin] at he
         split at he
         · rename_i l hl'
           simp only [Option.some.injEq] at he; subst he
           obtain ⟨_, hg, ho, hes, hfit, cs, elem, fz, h1, h2, h3, h4⟩ := h.look' hm hlk
           have ha' := slice_addr hb' hs' ha (by omega)
           subst ha'
           obtain ⟨ys, k1, k2, k3⟩ := cells_at h1 h2 hfit h3 a.off n hin
           obtain ⟨ns, b1, b2⟩ := bytesOf_spec hl'
           rw [b1] at k2
           have := k2.ints; subst this
           have hlen : ns.length = n := by simpa using k1
           have hr := run_loadB (P := P) (w := w) ns ⟨L.c, L.base + a.off, none⟩ .empty (fun j x hj => k3 j _ (by simp [hj]))
           rw [hlen] at hr
           simp only [Extern.Bytes.bytesOf]
           rw [hr, b2]
           congr 1
           apply ByteArray.ext
           simp
         · simp at he
       · rw [if_neg hin] at he; simp at he
def ByteRow (P : Program) (f : FuncId) (e : Array Value → Sem Value) : Prop := ∀ (args : Array Value) (w : World) (v : Value), (e args).run P w = .ok v w → (callFunc f args).run P w = .ok (.value v) w
def countV (s : ByteArray) (c : Int) : Value := goInt (s.foldl (fun n x => if x == c.toNat.toUInt8 then n + 1 else n) (0 : Nat))
def indexV (s : ByteArray) (c : Int) : Value := match (List.range s.size).find? fun i => s[i]! == c.toNat.toUInt8 with | some i => goInt i | none => goInt (-1)
def byteX (P : Program) (fc fi : FuncId) : Xf := fun f args H =>
 match args.toList with
 | [.slice a n _, .int .u8 c] =>
   match strOf H a n with
   | some s => cond (Nat.beq f fc) (some (countV s c, H)) (cond (Nat.beq f fi) (some (indexV s c, H)) none)
   | none => none
 | _ => extX P f args H
theorem j0w {P : Program} {fc fi : FuncId} (hc : ByteRow P fc Extern.BytealgCount.count) (hi : ByteRow P fi Extern.BytealgIndexByte.indexByte) : XSnd P (byteX P fc fi) := by
 intro f args H v H' he m w args' h hg ha
 unfold byteX at he
 split at he
 · rename_i a n cp c hl
   split at he
   · rename_i s hs
     have hal := ha.toList
     rw [hl] at hal
     obtain ⟨x', y', e'⟩ : ∃ x' y', args' = #[x', y'] := by
       have hz := hal.1
       obtain ⟨l⟩ := args'
       match l, hz with
       | [x, y], _ => exact ⟨x, y, rfl⟩
     subst e'
     have hx : VR m (.slice a n cp) x' := hal.head
     have hy : VR m (.int .u8 c) y' := hal.tail.head
     have ey := hy.eq_of_atomic rfl
     subst ey
     have hb := bytesOf_run (P := P) h hx hs
     cases hfc : Nat.beq f fc with
     | true =>
       rw [hfc] at he
       simp only [cond_true, Option.some.injEq, Prod.mk.injEq] at he
       obtain ⟨rfl, rfl⟩ := he
       obtain rfl := Nat.eq_of_beq_eq_true hfc
       refine ⟨m, _, w, hc _ w (countV s c) ?_, .atom _ rfl, .refl h⟩
       have e0 : Extern.BytealgCount.count #[x', .int .u8 c] = (do
         let b ← Extern.Bytes.bytesOf x'
         let d ← Extern.Bytes.asByte (.int .u8 c)
         Pure.pure (goInt (b.foldl (fun n x => if x == d then n + 1 else n) (0 : Nat)))) := rfl
       rw [e0]
       simp [hb, Extern.Bytes.asByte, countV]
     | false =>
       rw [hfc] at he
       simp only [cond_false] at he
       cases hfi : Nat.beq f fi with
       | false => rw [hfi] at he; simp at he
       | true =>
         rw [hfi] at he
         simp only [cond_true, Option.some.injEq, Prod.mk.injEq] at he
         obtain ⟨rfl, rfl⟩ := he
         obtain rfl := Nat.eq_of_beq_eq_true hfi
         have hat : atomic (indexV s c) = true := by unfold indexV; split <;> rfl
         refine ⟨m, _, w, hi _ w (indexV s c) ?_, .atom _ hat, .refl h⟩
         have e0 : Extern.BytealgIndexByte.indexByte #[x', .int .u8 c] = (do
           let b ← Extern.Bytes.bytesOf x'
           let d ← Extern.Bytes.asByte (.int .u8 c)
           match (List.range b.size).find? fun i => b[i]! == d with
           | some i => Pure.pure (goInt i)
           | none => Pure.pure (goInt (-1))) := rfl
         rw [e0]
         simp only [Sem.run_bind, hb, Result.andThen_ok, Extern.Bytes.asByte, Sem.run_pure]
         unfold indexV
         split <;> simp_all
   · simp at he
 · exact j2w P f args H v H' he m w args' h hg ha
theorem jt0 {P : Program} {f : FuncId} {fn : Func} {e : Array Value → Sem Value} (hf : P.funcs[f]? = some fn) (hn : fn.name ≠ "runtime.NumGoroutine") (hb : fn.body = none) (h1 : Extern.findNext fn = none) (h2 : Extern.find fn = some e) : ByteRow P f e := by
 intro args w v hr
 simp [callFunc, hf, hn, hb, h1, h2, hr]
end Go.Aw
namespace Go.Aw
structure PureRow where
 f : FuncId
 args : List Value
 v : Value
def chkPure (r : R) (v : Value) : Bool := match r with | some (.ret v', _) => veq0 v' v | _ => false
def hookP (G : Heap) (gs : List Nat) (tab : List PureRow) : Hook := fun f args H =>
 match tab.find? (fun e => Nat.beq e.f f && veqs args.toList e.args) with
 | some e => cond (overB G gs H) (some (some (.ret e.v, H))) none
 | none => none
def hookOr (a b : Hook) : Hook := fun f args H => match a f args H with | some r => some r | none => b f args H
theorem jg3 {P : Program} {a b : Hook} (ha : HookSnd P a) (hb : HookSnd P b) : HookSnd P (hookOr a b) := by
 intro f args H r H' he
 unfold hookOr at he
 split at he
 · rename_i q hq
   rw [Option.some.injEq] at he
   subst he
   exact ha f args H r H' hq
 · exact hb f args H r H' he
theorem j0x {r : R} {v : Value} (h : chkPure r v = true) : ∃ Hs, r = some (.ret v, Hs) := by
 unfold chkPure at h
 split at h
 · rename_i v' Hs
   rw [jw2 h]
   exact ⟨Hs, rfl⟩
 · simp at h
theorem jq0 {P : Program} {K : Kf} (hK : KSnd P K) {G : Heap} (ht : Tabs P G) {gs : List Nat} (hd : ∀ b x, G.get b = some x → b ∈ gs) {tab : List PureRow}
   (hall : ∀ e ∈ tab, (e.args.all atomic && atomic e.v) = true ∧ chkPure (K e.f e.args.toArray G) e.v = true) : HookSnd P (hookP G gs tab) := by
 intro f args H r H' he m w args' h hg hargs
 unfold hookP at he
 split at he
 · rename_i e hf
   cases ho : overB G gs H with
   | false => rw [ho] at he; simp at he
   | true =>
   rw [ho] at he
   simp only [cond_true, Option.some.injEq, Prod.mk.injEq] at he
   obtain ⟨rfl, rfl⟩ := he
   have hp := List.find?_some hf
   simp only [Bool.and_eq_true] at hp
   obtain rfl := Nat.eq_of_beq_eq_true hp.1
   have ha := jk6 hp.2
   obtain ⟨h1, h2⟩ := hall e (List.mem_of_find?_eq_some hf)
   simp only [Bool.and_eq_true] at h1
   obtain ⟨Hs, hr⟩ := j0x h2
   have ea : e.args.toArray = args := by rw [← ha]
   rw [ea] at hr
   exact j2x hK ht hr (by rw [ha]; exact h1.1) h1.2 (j2y hd ho) h hg hargs
 · simp at he
end Go.Aw
namespace Go.Aw
noncomputable abbrev PP := Go.Proofs.Tryz.prog
abbrev wordsL := Go.Am.wordsL
abbrev classesL := Go.Am.classesL
abbrev asciiL := Go.Am.asciiL
abbrev wordsB := Go.Am.wordsB
def strV (l : List UInt8) : Value := .string ⟨⟨l⟩⟩
def GG : Heap := (⟨.nil, 10⟩ : Heap).set 1 ⟨classesL.map fun z => .int .u8 z, false, 1, none⟩ |>.set 2 ⟨asciiL.map fun z => .int .u8 z, false, 1, none⟩
theorem globals_size : PP.globals.size = 10 := by decide +kernel
end Go.Aw
namespace Go.Aw
def asciiV : List Value := asciiL.map fun z => .int .u8 z
def asciiOk (H : Heap) : Bool := match H.get 2 with | some y => veqs y.cells asciiV && y.o.isNone | none => false
abbrev signsL := Go.Am.signsL
abbrev signsB := Go.Am.signsB
def cutV (L : List (List UInt8)) : List Value := L.map strV
def cutRow (B : List UInt8) (L : List (List UInt8)) : Hook := fun f args H =>
 cond (Nat.beq f 90) (match args.toList with
   | [.string s] => cond (decide (s.data.toList = B)) (cond (asciiOk H) (some (some (.ret (.slice (some ⟨H.next, 0, none⟩) L.length L.length), H.alloc 1 (cutV L)))) none) none
   | _ => none) none
theorem asciiL_at : ∀ c : Nat, c < 256 → asciiV[c]? = some (.int .u8 (if Lib.isSp (UInt8.ofNat c) then 1 else 0)) := by
 have h : (List.range 256).all (fun c => match asciiV[c]? with | some (.int .u8 n) => decide (n = if Lib.isSp (UInt8.ofNat c) then 1 else 0) | _ => false) = true := by decide +kernel
 intro c hc
 have := List.all_eq_true.mp h c (List.mem_range.mpr hc)
 revert this
 generalize asciiV[c]? = z
 intro hz
 split at hz
 · simp only [decide_eq_true_eq] at hz; rw [hz]
 · simp at hz
structure CutOk (B : List UInt8) (L : List (List UInt8)) : Prop where
 low : B.all (fun b => decide (b.toNat < 128)) = true
 cut : Lib.fields B = L
 short : B.length < 4294967281
 plain : (cutV L).all atomic = true
theorem CutOk.ascii {B : List UInt8} {L : List (List UInt8)} (h : CutOk B L) : ∀ (j : Nat) b, B[j]? = some b → b.toNat < 128 := by
 intro j b hb
 simpa using List.all_eq_true.mp h.low b (List.mem_of_getElem? hb)
theorem words_ok : CutOk wordsB wordsL := ⟨by decide +kernel, by decide +kernel, by decide +kernel, by decide +kernel⟩
theorem signs_ok : CutOk signsB signsL := ⟨by decide +kernel, by decide +kernel, by decide +kernel, by decide +kernel⟩
theorem tab_cell {m : Mp} {H : Heap} {w : World} (h : Rel m H w) (hg : Gl PP m) {g : Nat} (hgl : g < PP.globals.size) {y : Blk} (hy : H.get g = some y) (ho : y.o = none) {c : Nat} {v : Value} (hc : y.cells[c]? = some v) (hv : atomic v = true) :
   w.cell? ⟨g, c, none⟩ = some v := by
 obtain ⟨L, k1, k2⟩ := h.blk g y hy
 obtain ⟨L', q1, q2, q3⟩ := hg g hgl
 rw [k1] at q1
 obtain rfl := Option.some.inj q1
 obtain ⟨cs, elem, fz, p1, p2, p3, _⟩ := k2.ex ho
 obtain ⟨hlt, he⟩ := List.getElem?_eq_some_iff.mp hc
 have hfit := k2.fits
 have hlt' : L.base + c < cs.size := by omega
 have := p3 c hlt hlt'
 rw [he] at this
 have e := this.eq_of_atomic hv
 simp only [q3, Nat.zero_add] at e hlt'
 rw [q2] at p1
 simp [World.cell?, p1, hlt', e]
theorem jl7 {B : List UInt8} {L : List (List UInt8)} (ok : CutOk B L) : HookSnd PP (cutRow B L) := by
 intro f args H r H' he m w args' hrel hgl hargs
 unfold cutRow at he
 cases hf : Nat.beq f 90 with
 | false => rw [hf] at he; simp at he
 | true =>
 rw [hf] at he
 obtain rfl := Nat.eq_of_beq_eq_true hf
 simp only [cond_true] at he
 split at he
 · rename_i s hs
   cases h1 : decide (s.data.toList = B) with
   | false => rw [h1] at he; simp at he
   | true =>
   cases h2 : asciiOk H with
   | false => rw [h1, h2] at he; simp at he
   | true =>
   rw [h1, h2] at he
   simp only [cond_true, Option.some.injEq, Prod.mk.injEq] at he
   obtain ⟨rfl, rfl⟩ := he
   simp only [decide_eq_true_eq] at h1
   have hat : args.toList.all atomic = true := by rw [hs]; rfl
   have e := hargs.eq_of_atomic hat
   subst e
   have ea : args' = #[.string s] := by cases args'; simp_all
   subst ea
   unfold asciiOk at h2
   split at h2
   · rename_i y hy
     simp only [Bool.and_eq_true, Option.isNone_iff_eq_none] at h2
     have hcells := jk6 h2.1
     have hT : ∀ c : Nat, c < 256 → w.cell? ⟨2, c, none⟩ = some (.int .u8 (if Lib.isSp (UInt8.ofNat c) then 1 else 0)) := fun c hc =>
       tab_cell hrel hgl (by rw [globals_size]; decide) hy h2.2 (by rw [hcells]; exact asciiL_at c hc) rfl
     have hsz : s.size < 4294967281 := by
       have : s.size = B.length := by rw [← h1]; rfl
       rw [this]; exact ok.short
     refine (Go.Proofs.Tryz.fieldsCore s w hsz (by rw [h1]; exact ok.ascii) hT).mono fun e w' ⟨he, hw⟩ => ?_
     rw [h1, ok.cut] at he hw
     subst he
     have hcells : ((L.map fun l => Value.string ⟨l.toArray⟩).toArray) = (cutV L).toArray := rfl
     rw [hcells] at hw
     have hst := Step.alloc (w' := w') hrel 1 (cutV L) (cutV L).toArray 9 (by simp) (fun i a b => by
       have hati : atomic (cutV L)[i] = true := List.all_eq_true.mp ok.plain _ (List.getElem_mem a)
       simpa using VR.atom (m := m) _ hati) (by rw [hw]; rfl) (by rw [hw]; rfl) (by rw [hw]; rfl) (by rw [hw]; rfl)
     refine ⟨_, ?_, hst⟩
     refine VR.slice H.next 0 ⟨w.heap.size, 0, 1, (cutV L).toArray.size⟩ _ L.length L.length L.length (by simp [Mp.add]) (Nat.le_refl _) (Nat.le_refl _) rfl rfl (.inr ⟨rfl, ?_⟩)
     show 0 + L.length * 1 ≤ (cutV L).toArray.size
     simp [cutV]
   · simp at h2
 · simp at he
def hookF : Hook := hookOr (cutRow wordsB wordsL) (cutRow signsB signsL)
theorem j0y : HookSnd PP hookF := jg3 (jl7 words_ok) (jl7 signs_ok)
def hookC : Hook := fun f args H =>
 cond (Nat.beq f 131) (match args.toList with
   | [.string s] => cond (decide (s.size ≤ 281474976710656)) (some (some (.ret (.string s), H))) none
   | _ => none) none
theorem j0z : HookSnd PP hookC := by
 intro f args H r H' he m w args' hrel hgl hargs
 unfold hookC at he
 cases hf : Nat.beq f 131 with
 | false => rw [hf] at he; simp at he
 | true =>
 rw [hf] at he
 obtain rfl := Nat.eq_of_beq_eq_true hf
 simp only [cond_true] at he
 split at he
 · rename_i s hs
   cases h1 : decide (s.size ≤ 281474976710656) with
   | false => rw [h1] at he; simp at he
   | true =>
   rw [h1] at he
   simp only [cond_true, Option.some.injEq, Prod.mk.injEq] at he
   obtain ⟨rfl, rfl⟩ := he
   simp only [decide_eq_true_eq] at h1
   have e := hargs.eq_of_atomic (by rw [hs]; rfl)
   subst e
   have ea : args' = #[.string s] := by cases args'; simp_all
   subst ea
   refine (Go.Proofs.Tryz.stringslite_Clone s w h1).mono fun e w' ⟨he, hw⟩ => ?_
   subst he
   exact ⟨m, VR.atom _ rfl, Step.still hrel hw.os hw.tape hw.output hw.size hw.block⟩
 · simp at he
end Go.Aw
namespace Go.Aw
theorem j5h : Tabs PP GG := by
 have h1 : ∀ b x, GG.get b = some x → (b = 1 ∧ x = ⟨classesL.map fun z => .int .u8 z, false, 1, none⟩) ∨ (b = 2 ∧ x = ⟨asciiV, false, 1, none⟩) := by
   intro b x hb
   unfold GG at hb
   rw [Heap.get_set] at hb
   by_cases e2 : b = 2
   · rw [if_pos e2] at hb; exact .inr ⟨e2, (Option.some.inj hb).symm⟩
   · rw [if_neg e2, Heap.get_set] at hb
     by_cases e1 : b = 1
     · rw [if_pos e1] at hb; exact .inl ⟨e1, (Option.some.inj hb).symm⟩
     · rw [if_neg e1] at hb
       have : (⟨.nil, 10⟩ : Heap).get b = none := rfl
       rw [this] at hb; simp at hb
 refine ⟨fun b x hb => ?_, by rw [globals_size]; decide, fun b hb => ?_⟩
 · rcases h1 b x hb with ⟨_, rfl⟩ | ⟨_, rfl⟩
   · exact ⟨rfl, rfl, by decide +kernel⟩
   · exact ⟨rfl, rfl, by decide +kernel⟩
 · have hn : 10 ≤ b := hb
   cases hg : GG.get b with
   | none => rfl
   | some x => rcases h1 b x hg with ⟨rfl, _⟩ | ⟨rfl, _⟩ <;> omega
theorem yo5 : ∀ b x, GG.get b = some x → b ∈ [1, 2] := by
 intro b x hb
 unfold GG at hb
 rw [Heap.get_set] at hb
 by_cases e2 : b = 2
 · simp [e2]
 · rw [if_neg e2, Heap.get_set] at hb
   by_cases e1 : b = 1
   · simp [e1]
   · rw [if_neg e1] at hb
     have : (⟨.nil, 10⟩ : Heap).get b = none := rfl
     rw [this] at hb; simp at hb
theorem mixed : PP.follows .mixedOrders = true := by kernel_rfl
theorem row44 : ByteRow PP 44 Extern.BytealgCount.count := jt0 Go.Proofs.Tryz.func44 (by decide) (by kernel_rfl) (by kernel_rfl) (by kernel_rfl)
theorem row92 : ByteRow PP 92 Extern.BytealgIndexByte.indexByte := jt0 Go.Proofs.Tryz.func92 (by decide) (by kernel_rfl) (by kernel_rfl) (by kernel_rfl)
noncomputable def XX : Xf := byteX PP 44 92
theorem j15 : XSnd PP XX := j0w row44 row92
noncomputable def run (h : Hook) : Kf := callR PP XX 100000 h 60
theorem j5i {h : Hook} (hh : HookSnd PP h) : KSnd PP (run h) := jh8 j15 hh mixed 60
noncomputable def okRow (K : Kf) (G : Heap) (e : PureRow) : Bool := (e.args.all atomic && atomic e.v) && chkPure (K e.f e.args.toArray G) e.v
def hook0 : Hook := hookOr hookC hookF
theorem jq1 : HookSnd PP hook0 := jg3 j0z j0y
def rS : PureRow := ⟨60, [strV [115]], .int .i64 0⟩
def rRx : PureRow := ⟨60, [strV [114, 120]], .int .i64 0⟩
def rA : PureRow := ⟨60, [strV [97]], .int .i64 0⟩
def rB : PureRow := ⟨60, [strV [98]], .int .i64 0⟩
def rSystem : PureRow := ⟨60, [strV [115, 121, 115, 116, 101, 109]], .int .i64 30⟩
def rConst : PureRow := ⟨60, [strV [99, 111, 110, 115, 116]], .int .i64 31⟩
theorem okS : okRow (run hook0) GG rS = true := by decide +kernel
theorem okRx : okRow (run hook0) GG rRx = true := by decide +kernel
theorem okA : okRow (run hook0) GG rA = true := by decide +kernel
theorem okB : okRow (run hook0) GG rB = true := by decide +kernel
theorem okSystem : okRow (run hook0) GG rSystem = true := by decide +kernel
theorem okConst : okRow (run hook0) GG rConst = true := by decide +kernel
def rows1 : List PureRow := [rS, rRx, rA, rB, rSystem, rConst]
theorem j00 : HookSnd PP (hookP GG [1, 2] rows1) := by
 refine jq0 (j5i jq1) j5h yo5 fun e he => ?_
 have : okRow (run hook0) GG e = true := by
   simp only [rows1, List.mem_cons, List.not_mem_nil, or_false] at he
   rcases he with rfl | rfl | rfl | rfl | rfl | rfl
   · exact okS
   · exact okRx
   · exact okA
   · exact okB
   · exact okSystem
   · exact okConst
 simp only [okRow, Bool.and_eq_true] at this
 simpa using this
def hook2 : Hook := hookOr (hookP GG [1, 2] rows1) hook0
theorem j01 : HookSnd PP hook2 := jg3 j00 jq1
end Go.Aw
namespace Go.Aw
variable {r : End × Heap}
abbrev T := Tr Value
noncomputable def rdP (p : List Bool) : T → Option Value :=
 List.rec (motive := fun _ => T → Option Value) (fun t => Tr.rec (motive := fun _ => Option Value) none (fun v _ _ _ _ => v) t)
   (fun b _ ih t => Tr.rec (motive := fun _ => Option Value) none (fun _ l r _ _ => Bool.rec (motive := fun _ => Option Value) (ih r) (ih l) b) t) p
noncomputable def setP (v : Value) (p : List Bool) : T → (T → R) → R :=
 List.rec (motive := fun _ => T → (T → R) → R) (fun t => Tr.rec (motive := fun _ => (T → R) → R) (fun _ => none) (fun o l r _ _ => Option.rec (motive := fun _ => (T → R) → R) (fun _ => none) (fun _ k => k (.node (some v) l r)) o) t)
   (fun b _ ih t => Tr.rec (motive := fun _ => (T → R) → R) (fun _ => none) (fun o l r _ _ => Bool.rec (motive := fun _ => (T → R) → R) (fun k => ih r fun r' => k (.node o l r')) (fun k => ih l fun l' => k (.node o l' r)) b) t) p
def pathF : Nat → Nat → List Bool
 | 0, _ => []
 | f + 1, n => if n = 0 then [] else if n % 2 = 1 then true :: pathF f (n / 2) else false :: pathF f (n / 2 - 1)
def path (n : Nat) : List Bool := pathF (n + 1) n
def dec : List Bool → Nat
 | [] => 0
 | true :: p => 2 * dec p + 1
 | false :: p => 2 * dec p + 2
theorem jq2 : ∀ f n, n < f → dec (pathF f n) = n
 | 0, _, h => absurd h (Nat.not_lt_zero _)
 | f + 1, n, h => by
   unfold pathF
   split
   · rename_i e; simp [dec, e]
   · split
     · rw [dec, jq2 f _ (by omega)]; omega
     · rw [dec, jq2 f _ (by omega)]; omega
theorem jw3 (n : Nat) : dec (path n) = n := jq2 (n + 1) n (Nat.lt_succ_self n)
theorem jh9 (v : Option Value) (l r : T) (d : Nat) : (Tr.node v l r).get (2 * d + 1) = l.get d := by
 have h1 : (2 * d + 1) % 2 = 1 := by omega
 have h2 : (2 * d + 1) / 2 = d := by omega
 simp [Tr.get, h1, h2]
theorem jf7 (v : Option Value) (l r : T) (d : Nat) : (Tr.node v l r).get (2 * d + 2) = r.get d := by
 simp [Tr.get]
theorem j02 : ∀ (p : List Bool) (t : T), rdP p t = t.get (dec p)
 | [], .nil => rfl
 | [], .node v l r => by simp [dec, Tr.get]; rfl
 | _ :: _, .nil => rfl
 | true :: p, .node v l r => by rw [dec, jh9]; exact j02 p l
 | false :: p, .node v l r => by rw [dec, jf7]; exact j02 p r
theorem jk9 (i : Nat) (t : T) : rdP (path i) t = t.get i := by rw [j02, jw3]
theorem jj3 {v : Value} : ∀ (p : List Bool) (t : T) (k : T → R), setP v p t k = some r →
   ∃ t', k t' = some r ∧ (∃ o, t.get (dec p) = some o) ∧ ∀ i, t'.get i = if i = dec p then some v else t.get i
 | [], .nil, k, h => by cases h
 | _ :: _, .nil, k, h => by cases h
 | [], .node none l r, k, h => by cases h
 | [], .node (some x) l r, k, h => by
   refine ⟨_, h, ⟨x, by simp [dec, Tr.get]⟩, fun i => ?_⟩
   by_cases e : i = 0
   · subst e; simp [dec, Tr.get]
   · simp [dec, Tr.get, e]
 | true :: p, .node o l r, k, h => by
   obtain ⟨l', h1, h2, h3⟩ := jj3 p l (fun l' => k (.node o l' r)) h
   refine ⟨_, h1, by rw [dec, jh9]; exact h2, fun i => ?_⟩
   by_cases e : i = 0
   · subst e; simp [dec, Tr.get]
   · by_cases q : i % 2 = 1
     · obtain ⟨j, rfl⟩ : ∃ j, i = 2 * j + 1 := ⟨i / 2, by omega⟩
       rw [jh9, jh9, h3, dec]
       by_cases e2 : j = dec p
       · subst e2; simp
       · have : ¬ 2 * j + 1 = 2 * dec p + 1 := by omega
         rw [if_neg e2, if_neg this]
     · obtain ⟨j, rfl⟩ : ∃ j, i = 2 * j + 2 := ⟨i / 2 - 1, by omega⟩
       have : ¬ 2 * j + 2 = dec (true :: p) := by rw [dec]; omega
       rw [if_neg this, jf7, jf7]
 | false :: p, .node o l r, k, h => by
   obtain ⟨l', h1, h2, h3⟩ := jj3 p r (fun r' => k (.node o l r')) h
   refine ⟨_, h1, by rw [dec, jf7]; exact h2, fun i => ?_⟩
   by_cases e : i = 0
   · subst e; simp [dec, Tr.get]
   · by_cases q : i % 2 = 1
     · obtain ⟨j, rfl⟩ : ∃ j, i = 2 * j + 1 := ⟨i / 2, by omega⟩
       have : ¬ 2 * j + 1 = dec (false :: p) := by rw [dec]; omega
       rw [if_neg this, jh9, jh9]
     · obtain ⟨j, rfl⟩ : ∃ j, i = 2 * j + 2 := ⟨i / 2 - 1, by omega⟩
       rw [jf7, jf7, h3, dec]
       by_cases e2 : j = dec p
       · subst e2; simp
       · have : ¬ 2 * j + 2 = 2 * dec p + 2 := by omega
         rw [if_neg e2, if_neg this]
def Rep (t : T) (ts : Array Value) : Prop := ∀ i : Nat, t.get i = ts[i]?
theorem Rep.set {t t' : T} {ts : Array Value} (h : Rep t ts) {i : Nat} {v : Value} (h2 : ∃ o, t.get (dec (path i)) = some o) (h3 : ∀ j, t'.get j = if j = dec (path i) then some v else t.get j) : Rep t' (ts.setIfInBounds i v) := by
 rw [jw3] at h2 h3
 intro j
 rw [h3]
 obtain ⟨o, ho⟩ := h2
 rw [h i] at ho
 have hlt : i < ts.size := by
   rcases Nat.lt_or_ge i ts.size with h | h
   · exact h
   · rw [Array.getElem?_eq_none h] at ho; cases ho
 by_cases e : j = i
 · subst e; simp [hlt]
 · rw [if_neg e, h j, Array.getElem?_setIfInBounds]
   simp [Ne.symm e]
noncomputable def putT (d : Option Tmp) (t : T) (v : Value) (k : T → R) : R := match d with | none => k t | some i => setP v (path i) t k
theorem jg4 {d : Option Tmp} {t : T} {v : Value} {k : T → R} (he : putT d t v k = some r) {a : Act} (h : Rep t a.tmps) : ∃ t', k t' = some r ∧ Rep t' (a.put d v).tmps ∧ (a.put d v).defers = a.defers := by
 unfold putT at he
 cases d with
 | none => exact ⟨t, he, h, rfl⟩
 | some i =>
   obtain ⟨t', h1, h2, h3⟩ := jj3 _ _ _ he
   exact ⟨t', h1, h.set h2 h3, rfl⟩
def forceV (v : Value) (k : Value → R) : R :=
 match v with
 | .iface t (.pointer p) => k (.iface t (.pointer p))
 | .iface t (.agg p) => k (.iface t (.agg p))
 | .iface t (.int i p) => k (.iface t (.int i p))
 | .iface t (.string p) => k (.iface t (.string p))
 | .nilIface => k .nilIface
 | .tuple xs => k (.tuple xs)
 | .func f xs ys => k (.func f xs ys)
 | .nilFunc => k .nilFunc
 | .map m => k (.map m)
 | .int i n => k (.int i n)
 | .bool b => k (.bool b)
 | .pointer p => k (.pointer p)
 | .slice a n c => k (.slice a n c)
 | .agg xs => k (.agg xs)
 | v => k v
theorem j5j (v : Value) (k : Value → R) : forceV v k = k v := by unfold forceV; split <;> rfl
noncomputable def evalT (t : T) : Operand → Value
 | .tmp i => (rdP (path i) t).getD undef
 | .const v => v
 | .global g => .pointer (some ⟨g, 0, none⟩)
 | .func f => .func (.func f) #[] #[]
theorem je2 {t : T} {a : Act} (h : Rep t a.tmps) : evalT t = a.eval := by
 funext x
 cases x with
 | tmp i => simp only [evalT, Act.eval]; rw [jk9, h i]; simp
 | _ => rfl
def blankF : Nat → Nat → T
 | 0, _ => .nil
 | f + 1, n => match n with
   | 0 => .nil
   | j + 1 => .node (some undef) (blankF f ((j + 1) / 2)) (blankF f (j / 2))
theorem jj4 : ∀ f n i, n ≤ f → (blankF f n).get i = if i < n then some undef else none
 | 0, n, i, h => by
   have : n = 0 := by omega
   subst this; rfl
 | f + 1, 0, i, h => rfl
 | f + 1, j + 1, i, h => by
   unfold blankF
   by_cases e : i = 0
   · subst e; simp [Tr.get]
   · by_cases q : i % 2 = 1
     · obtain ⟨d, rfl⟩ : ∃ d, i = 2 * d + 1 := ⟨i / 2, by omega⟩
       rw [jh9, jj4 f _ _ (by omega)]
       by_cases c : 2 * d + 1 < j + 1
       · rw [if_pos c, if_pos (by omega)]
       · rw [if_neg c, if_neg (by omega)]
     · obtain ⟨d, rfl⟩ : ∃ d, i = 2 * d + 2 := ⟨i / 2 - 1, by omega⟩
       rw [jf7, jj4 f _ _ (by omega)]
       by_cases c : 2 * d + 2 < j + 1
       · rw [if_pos c, if_pos (by omega)]
       · rw [if_neg c, if_neg (by omega)]
noncomputable def layT : List Value → Nat → T → (T → R) → R
 | [], _, t, k => k t
 | v :: l, i, t, k => setP v (path i) t fun t => layT l (i + 1) t k
theorem jz3 : ∀ (l : List Value) (i : Nat) (t : T) (k : T → R), layT l i t k = some r →
   ∃ t', k t' = some r ∧ (∀ j, t'.get j = if i ≤ j ∧ j < i + l.length then l[j - i]? else t.get j) ∧ (∀ j, i ≤ j → j < i + l.length → ∃ o, t.get j = some o)
 | [], i, t, k, h => ⟨t, h, fun j => by rw [if_neg (by simp only [List.length_nil]; omega)], fun j h1 h2 => by simp only [List.length_nil] at h2; omega⟩
 | v :: l, i, t, k, h => by
   obtain ⟨t1, h1, h2, h3⟩ := jj3 _ _ _ h
   rw [jw3] at h2 h3
   obtain ⟨t2, k1, k2, k3⟩ := jz3 l (i + 1) t1 k h1
   refine ⟨t2, k1, fun j => ?_, fun j a b => ?_⟩
   · rw [k2]
     simp only [List.length_cons]
     by_cases c : i + 1 ≤ j ∧ j < i + 1 + l.length
     · rw [if_pos c, if_pos (by omega)]
       obtain ⟨d, hd⟩ : ∃ d, j - i = d + 1 := ⟨j - i - 1, by omega⟩
       have : j - (i + 1) = d := by omega
       rw [hd, this]; simp
     · rw [if_neg c, h3]
       by_cases e : j = i
       · subst e; simp
       · rw [if_neg e, if_neg (by omega)]
   · simp only [List.length_cons] at b
     by_cases e : j = i
     · subst e; exact h2
     · obtain ⟨o, ho⟩ := k3 j (by omega) (by omega)
       rw [h3, if_neg e] at ho
       exact ⟨o, ho⟩
noncomputable def startT (n : Nat) (args : Array Value) (k : T → R) : R := layT args.toList 0 (blankF n n) k
theorem jq3 {fn : Func} {args : Array Value} {k : T → R} (he : startT fn.ntmps args k = some r) : ∃ t, k t = some r ∧ Rep t (act0 fn args).tmps := by
 obtain ⟨t, h1, h2, h3⟩ := jz3 _ _ _ _ he
 refine ⟨t, h1, fun j => ?_⟩
 rw [h2, jj4 _ _ _ (Nat.le_refl _)]
 simp only [act0, Nat.zero_le, true_and, Nat.zero_add, Nat.sub_zero, Array.length_toList]
 have hle : args.size ≤ fn.ntmps := by
   rcases Nat.eq_zero_or_pos args.size with e | e
   · omega
   · obtain ⟨o, ho⟩ := h3 (args.size - 1) (Nat.zero_le _) (by simp; omega)
     rw [jj4 _ _ _ (Nat.le_refl _)] at ho
     split at ho
     · omega
     · cases ho
 by_cases c : j < args.size
 · rw [if_pos c, Array.getElem?_append_left c]; simp
 · rw [if_neg c, Array.getElem?_append_right (by omega), Array.getElem?_replicate]
   by_cases c2 : j < fn.ntmps
   · rw [if_pos c2, if_pos (by omega)]
   · rw [if_neg c2, if_neg (by omega)]
end Go.Aw
namespace Go.Aw
variable {k k' : Value → Heap → R} {r : End × Heap} {P : Program}
theorem jd7 {x : VH} (hk : ∀ v H, k v H = some r → k' v H = some r) (h : bindV x k = some r) : bindV x k' = some r := by
 obtain ⟨v, H, e, h1⟩ := jb0 h
 rw [e]; exact hk v H h1
theorem jf1 {x : Option Value} {k k' : Value → R} (hk : ∀ v, k v = some r → k' v = some r) (h : bindO x k = some r) : bindO x k' = some r := by
 obtain ⟨v, e, h1⟩ := jb1 h
 rw [e]; exact hk v h1
theorem jl8 {v : Value} {k k' : R} (hk : k = some r → k' = some r) (h : groundK v k = some r) : groundK v k' = some r := by
 unfold groundK at h ⊢
 split at h
 · rename_i e; rw [if_pos e]; exact hk h
 · cases h
def KLe (K K' : Kf) : Prop := ∀ f args H r, K f args H = some r → K' f args H = some r
theorem j2z {x x' : R} {kp kp' : List PanicEntry → Heap → R} (hx : ∀ q, x = some q → x' = some q) (hk : ∀ v H, k v H = some r → k' v H = some r) (hp : ∀ c H, kp c H = some r → kp' c H = some r)
   (h : bindR x k kp = some r) : bindR x' k' kp' = some r := by
 unfold bindR at h
 split at h
 · rw [hx _ rfl]; exact hk _ _ h
 · rw [hx _ rfl]; exact hp _ _ h
 · cases h
theorem j20 {X : Xf} {K K' : Kf} (hK : KLe K K') {f : FuncId} {args : Array Value} {H : Heap} {k k' : Value → Heap → R} {kp kp' : List PanicEntry → Heap → R} {r : End × Heap}
   (hk : ∀ v H, k v H = some r → k' v H = some r) (hp : ∀ c H, kp c H = some r → kp' c H = some r) (h : callK P X K f args H k kp = some r) : callK P X K' f args H k' kp' = some r := by
 unfold callK at h ⊢
 split at h
 · split at h
   · cases h
   · rename_i hn
     simp only [hn]
     split at h
     · rename_i hb; simp only [hb, if_true]; exact jd7 hk h
     · rename_i hb; simp only [hb]; exact j2z (fun q => hK _ _ _ q) hk hp h
 · cases h
theorem jw4 {b : Builtin} {ts : Array TypeId} {args : Array Value} {H : Heap}
   (hk : ∀ v H, k v H = some r → k' v H = some r) (h : builtinK P b ts args H k = some r) : builtinK P b ts args H k' = some r := by
 unfold builtinK at h ⊢
 split at h
 · split at h
   · exact jf1 (fun v => hk v H) h
   · cases h
 · split at h
   · rename_i e; rw [if_pos e]; exact jd7 hk h
   · cases h
 · exact jd7 hk h
 · split at h
   · rename_i e; rw [if_pos e]; exact hk _ _ h
   · cases h
 · split at h
   · rename_i e; rw [if_pos e]; exact hk _ _ h
   · cases h
 · cases h
theorem j5k {ρ : Operand → Value} {o : Op} {H : Heap} (hk : ∀ v H, k v H = some r → k' v H = some r) (h : mapK P ρ o H k = some r) : mapK P ρ o H k' = some r := by
 unfold mapK at h ⊢
 split at h
 · exact jd7 hk h
 · exact jf1 (fun v => hk v _) h
 · exact jd7 hk h
 · cases h
theorem j7v {X : Xf} {K K' : Kf} (hK : KLe K K') {ρ : Operand → Value} {o : Oper} {H : Heap} {k k' : Value → Heap → R} {kp kp' : List PanicEntry → Heap → R} {r : End × Heap}
   (hk : ∀ v H, k v H = some r → k' v H = some r) (hp : ∀ c H, kp c H = some r → kp' c H = some r) (h : opK P X K ρ o H k kp = some r) : opK P X K' ρ o H k' kp' = some r := by
 unfold opK at h ⊢
 split at h
 all_goals first
   | exact hk _ _ h
   | exact jd7 hk h
   | exact j5k hk h
   | exact jf1 (fun v => hk v H) h
   | exact jf1 (fun v => jl8 (hk v H)) h
   | (split at h
      all_goals first
        | exact hk _ _ h
        | exact hp _ _ h
        | exact jw4 hk h
        | (cases h; done)
        | (split at h
           all_goals first
             | exact j20 hK hk hp h
             | (cases h; done)))
   | (cases h; done)
   | skip
end Go.Aw
