/- Regions that draw their order are sound. -/
import Derived.Test.YtmliebodadgpbaaGreatDoorM03
namespace Go.Am
section
variable {P : Program} {ops : Array Oper} {p n : Nat} {A : Nat → Env} {Hs : Nat → Heap} {ds : List Deferred} {m0 : Mp} {w0 : World}
structure Ends (P : Program) (ops : Array Oper) (p n : Nat) (A : Nat → Env) (Hs : Nat → Heap) (ds : List Deferred) (m0 : Mp) (w0 : World) (Q : Exit → Act → World → Prop) (op : Oper) : Prop where
 at_ : ops.toList[p]? = some op
 ok : opsOk P n op = true
 guard : guardBE ops op (A p) = some true
 later : ∀ j, p < j → j < ops.toList.length → ((masks ops.toList []).getD j 0).testBit p = true
 pan : ∃ c H', Pn P (evalE (A p)) op.op (Hs p) c H' ∧ ∀ m c' a' w', PanR m c c' → StR P n true m (eraseE ops (A p)) ds H' a' w' → Step m0 (Hs 0) w0 m H' w' → Q (.panic c') a' w'
theorem jw9 {t : Nat} (h : writes ops t = false) {j : Nat} {o : Oper} (ho : ops.toList[j]? = some o) : o.dst ≠ some t := by
 intro e
 have : writes ops t = true := by
   unfold writes
   rw [List.any_eq_true]
   exact ⟨o, List.mem_of_getElem? ho, by simp [dstIs, e]⟩
 rw [this] at h; cases h
theorem j5t (hs : Sta P ops.toList) (ht : Tra P ops p A Hs) (hall : ∀ o ∈ ops.toList, opsOk P n o = true) {Q : Exit → Act → World → Prop}
   (hQ : (p = ops.toList.length ∧ ∀ m a' w', StR P n false m (A p) ds (Hs p) a' w' → Step m0 (Hs 0) w0 m (Hs p) w' → Q .normal a' w') ∨ ∃ op, Ends P ops p n A Hs ds m0 w0 Q op) :
   ∀ (fuel : Nat) (L : Array Bool) (q : Nat) (m : Mp) (a' : Act) (w' : World), L.size = ops.size → Down ops.toList (fun i => L.getD i false) → (List.range ops.size).countP (fun i => !L.getD i false) ≤ fuel →
     Inv P ops p A Hs n ds m0 w0 (fun i => L.getD i false) q m a' w' → wpAny P .any ops Q fuel L a' w' := by
 have hlen : ops.toList.length = ops.size := by simp
 have final : ∀ (L : Array Bool) (q : Nat) (m : Mp) (a' : Act) (w' : World), L.size = ops.size → Inv P ops p A Hs n ds m0 w0 (fun i => L.getD i false) q m a' w' → Region.ready .any ops L = [] → Q .normal a' w' := by
   intro L q m a' w' hsz hi hr
   have all : ∀ i, i < ops.size → L.getD i false = true := by
     intro i
     induction i using Nat.strongRecOn with
     | _ i ih =>
       intro hlt
       cases e : L.getD i false with
       | true => rfl
       | false =>
         have hmem : i ∈ Region.ready .any ops L := by
           rw [mem_ready]
           refine ⟨?_, ops[i], Array.getElem?_eq_getElem hlt, ?_⟩
           · have hlt2 : i < L.size := by omega
             simp only [Array.getD, hlt2, dif_pos] at e ⊢
             exact e
           · intro x hx hb
             have hlt3 := hs.edge i ops[i] (by simp) x hx hb
             exact ih x.on hlt3 (by omega)
         rw [hr] at hmem; simp at hmem
   rcases hQ with ⟨hp, hQ⟩ | ⟨op, ho⟩
   · have hq : q = p := by
       rcases Nat.eq_or_lt_of_le hi.qle with e | e
       · exact e
       · have := (hi.qeff e).2
         rw [all q (by omega)] at this; cases this
     subst hq
     refine hQ m a' w' ⟨fun t => .inr ?_, hi.size, hi.defers, hi.rel, hi.gl⟩ hi.step
     by_cases hw : ∃ (j : Nat) (oj : Oper), ops.toList[j]? = some oj ∧ oj.dst = some t
     · obtain ⟨j, oj, hj, hjd⟩ := hw
       have hj2 := (List.getElem?_eq_some_iff.1 hj).1
       exact hi.done j oj t hj hjd (all j (by omega))
     · have hsl := ht.slot t 0 q (by omega) (fun k ok _ _ c d => hw ⟨k, ok, c, d⟩)
       rw [Nat.zero_add] at hsl
       rw [hsl]
       exact hi.kept t fun j oj a _ c => hw ⟨j, oj, a, c⟩
   · have h1 := (List.getElem?_eq_some_iff.1 ho.at_).1
     have := hi.low p (Nat.le_refl _)
     rw [all p (by omega)] at this; cases this
 intro fuel
 induction fuel with
 | zero =>
   intro L q m a' w' hsz hd hc hi
   have hr : Region.ready .any ops L = [] := by
     rw [List.eq_nil_iff_forall_not_mem]
     intro i hmem
     rw [mem_ready] at hmem
     obtain ⟨h0, o, ho, _⟩ := hmem
     have hlt := (Array.getElem?_eq_some_iff.1 ho).1
     have : 0 < (List.range ops.size).countP (fun i => !L.getD i false) := by
       rw [List.countP_pos_iff]
       refine ⟨i, List.mem_range.2 hlt, ?_⟩
       have hlt2 : i < L.size := by omega
       have hL' : L.getD i false = false := by
         simp only [Array.getD, hlt2, dif_pos] at h0 ⊢
         exact h0
       simp only [hL']; rfl
     omega
   exact ⟨hr, final L q m a' w' hsz hi hr⟩
 | succ fuel ih =>
   intro L q m a' w' hsz hd hc hi
   refine ⟨final L q m a' w' hsz hi, fun i hmem => ?_⟩
   rw [mem_ready] at hmem
   obtain ⟨h0, o, ho, hp⟩ := hmem
   have hlt := (Array.getElem?_eq_some_iff.1 ho).1
   have hlt2 : i < L.size := by omega
   have hL : L.getD i false = false := by
     simp only [Array.getD, hlt2, dif_pos] at h0 ⊢; exact h0
   have ho' : ops.toList[i]? = some o := by simpa using ho
   have hok := hall o (List.mem_of_getElem? ho')
   simp only [opsOk, Bool.and_eq_true] at hok
   have hip : i ≤ p := by
     rcases hQ with ⟨e, _⟩ | ⟨op, he⟩
     · omega
     · refine Nat.le_of_not_lt fun e => ?_
       have := down_bit hs hd i o p ho' hp (he.later i e (by omega))
       simp only [hi.low p (Nat.le_refl _)] at this; cases this
   have sees := fun (t : Nat) (hl : t ∈ looks ops.toList o) => hi.sees hs ht hd ho' hip hp hL hl
   have hguard : ∀ b, guardBE ops o (A i) = some b → Region.wanted o (yielded ops a'.tmps) = b := fun b hb =>
     jr1 hb fun j want d hg hdd => sees d (looks_guard hg hdd)
   have hρ : ∀ x ∈ o.op.operands.toList, VR m (evalE (A i) x) (a'.eval x) := fun x hx =>
     eval_sees hi.gl (List.all_eq_true.1 hok.1 x hx) fun t e => sees t (looks_operand (e ▸ hx))
   unfold wpOp
   simp only [ho]
   rcases Nat.eq_or_lt_of_le hip with e | hlp
   · -- the operation that panics
     rcases hQ with ⟨e', _⟩ | ⟨op, he⟩
     · omega
     · have h1 := he.at_
       rw [← e, ho'] at h1
       cases h1
       obtain ⟨c, H', hpn, hk⟩ := he.pan
       have hcl := (j72 hpn).2
       have hiq := hi.next hs hd ho' hip hp hL hcl
       subst e
       subst hiq
       rw [if_pos (hguard true he.guard)]
       left
       refine j1a hi.rel hi.gl hρ (fun m' c' w2 hc hst => hk m' c' a' w2 hc ⟨fun t => ?_, hi.size, hi.defers.mono hst.later.le, hst.rel, hi.gl.mono hst.later.le⟩ (hi.step.trans hst)) hpn
       simp only [eraseE]
       cases hw : writes ops t with
       | true => exact .inl (by simp [undef, isUndef])
       | false =>
         right
         have hsl := ht.slot t 0 i (by omega) (fun k ok _ _ c => jw9 hw c)
         rw [Nat.zero_add] at hsl
         simp only [cond_false]
         rw [hsl]
         exact (hi.kept t fun j oj hj _ => jw9 hw hj).mono hst.later.le
   have hset : ∀ j, (L.setIfInBounds i true).getD j false = if j = i then true else L.getD j false := by
     intro j
     by_cases e : j = i
     · subst e; simp [hlt2]
     · have : i ≠ j := Ne.symm e
       rw [getD_set_ne false this]; simp [e]
   have hfun : (fun j => (L.setIfInBounds i true).getD j false) = fun j => if j = i then true else L.getD j false := funext hset
   have hd2 : Down ops.toList (fun j => (L.setIfInBounds i true).getD j false) := by
     intro j oj hj hLj e he hb
     simp only [hset] at hLj ⊢
     by_cases ej : j = i
     · subst ej
       rw [ho'] at hj; cases hj
       have := hp e he hb
       by_cases ee : e.on = j <;> simp [ee, this]
     · simp only [ej, if_false] at hLj
       have := hd j oj hj hLj e he hb
       by_cases ee : e.on = i <;> simp [ee, this]
   have hc2 : (List.range ops.size).countP (fun j => !(L.setIfInBounds i true).getD j false) ≤ fuel := by
     have := count_lt (p := fun j => !L.getD j false) (q := fun j => !(L.setIfInBounds i true).getD j false) (List.range ops.size)
       (fun x _ hx => by
         simp only [hset] at hx
         by_cases e : x = i
         · simp [e] at hx
         · simpa [e] using hx) ⟨i, List.mem_range.2 hlt, by simp [hL], by simp [hset]⟩
     omega
   have goOn : ∀ (m2 : Mp) (q2 : Nat) (v v' : Value) (w2 : World), A (i + 1) = upd (A i) o.dst v → Step m (Hs q) w' m2 (Hs q2) w2 → VR m2 v v' → q2 ≤ p →
       (q2 < p → Eff P ops.toList q2 ∧ L.getD q2 false = false ∧ q2 ≠ i) → (∀ j, j < q2 → Eff P ops.toList j → L.getD j false = true ∨ j = i) →
       wpAny P .any ops Q fuel (L.setIfInBounds i true) (a'.put o.dst v') w2 := by
     intro m2 q2 v v' w2 hA hst hv k1 k2 k3
     refine ih (L.setIfInBounds i true) q2 m2 _ w2 (by simpa using hsz) hd2 hc2 ?_
     rw [hfun]
     exact hi.put hs ht ho' hlp hok.2 hA hst hv k1 k2 k3
   have same : cls P o ≠ 2 → ∀ (v v' : Value) (m2 : Mp) (w2 : World), A (i + 1) = upd (A i) o.dst v → Step m (Hs q) w' m2 (Hs q) w2 → VR m2 v v' → wpAny P .any ops Q fuel (L.setIfInBounds i true) (a'.put o.dst v') w2 := by
     intro hne v v' m2 w2 hA hst hv
     refine goOn m2 q v v' w2 hA hst hv hi.qle (fun hq => ?_) (fun j h1 h2 => .inl (hi.qlow j h1 h2))
     obtain ⟨⟨oq, a0, a1⟩, a2⟩ := hi.qeff hq
     refine ⟨⟨oq, a0, a1⟩, a2, fun e => ?_⟩
     subst e
     rw [ho'] at a0; cases a0
     exact hne a1
   -- behind an effect: the next one
   have nextq : cls P o = 2 → i = q ∧ ∃ q2, q2 ≤ p ∧ Hs q2 = Hs (i + 1) ∧ (q2 < p → Eff P ops.toList q2 ∧ L.getD q2 false = false ∧ q2 ≠ i) ∧ (∀ j, j < q2 → Eff P ops.toList j → L.getD j false = true ∨ j = i) := by
     intro hc
     have hiq := hi.next hs hd ho' hip hp hL hc
     refine ⟨hiq, ?_⟩
     obtain ⟨q2, n1, n2, n3, n4⟩ := next_eff (Eff P ops.toList) (p - (i + 1)) (i + 1)
     refine ⟨q2, by omega, ?_, fun hq => ?_, fun j h1 h2 => ?_⟩
     · have := ht.heap (i + 1) (q2 - (i + 1)) (by omega) (fun j a b => n3 j a (by omega))
       rw [show i + 1 + (q2 - (i + 1)) = q2 by omega] at this
       exact this
     · obtain ⟨oq, g1, g2⟩ := n4 (by omega)
       refine ⟨⟨oq, g1, g2⟩, ?_, by omega⟩
       cases e : L.getD q2 false with
       | false => rfl
       | true =>
         have hb := hs.eff i q2 o oq ho' g1 (by omega) hc g2
         have this : L.getD i false = true := down_bit hs hd q2 oq i g1 (fun x hx hbx => hd q2 oq g1 e x hx hbx) hb
         rw [this] at hL; cases hL
     · rcases Nat.lt_trichotomy j i with e | e | e
       · exact .inl (hi.qlow j (by omega) h2)
       · exact .inr e
       · exact absurd h2 (n3 j (by omega) h1)
   rcases ht.step i o hlp ho' with ⟨hg, v, hy, hA⟩ | ⟨hg, hA, hH⟩
   · rw [if_pos (hguard true hg)]
     left
     by_cases hc : cls P o = 2
     · obtain ⟨hiq, q2, k1, k2, k3, k4⟩ := nextq hc
       subst hiq
       exact j09 hi.rel hi.gl hρ (fun m2 u' w2 hv hst => goOn m2 q2 v u' w2 hA (by rw [k2]; exact hst) hv k1 k3 k4) hy
     · have hc2' : cls P o < 2 := by have := cls_le P o; omega
       have hyq := hi.quiet hs ht hd ho' hlp hp hL hg hc2' (by have h2 := j1c hc2' hy; exact h2.1) hA
       exact jw8 hi.rel hρ (fun m2 u' w2 hv hst => same hc v u' m2 w2 hA hst hv) hyq
   · rw [if_neg (by rw [hguard false hg]; simp)]
     by_cases hc : cls P o = 2
     · obtain ⟨hiq, q2, k1, k2, k3, k4⟩ := nextq hc
       subst hiq
       exact goOn m q2 undef undef w' hA (by rw [k2, hH]; exact .refl hi.rel) (.undef m) k1 k3 k4
     · exact same hc undef undef m w' hA (.refl hi.rel) (.undef m)
end
theorem jz8 {P : Program} {ops : List Oper} (h : panAll P ops = true) {p : Nat} {op : Oper} (hop : ops[p]? = some op) (hm : mayPan op = true) :
   (∀ j, p < j → j < ops.length → ((masks ops []).getD j 0).testBit p = true) ∧
   ∀ (i e : Nat) (oi oe : Oper), i < p → e < p → ops[i]? = some oi → ops[e]? = some oe → cls P oi = 1 → cls P oe = 2 → ((masks ops []).getD i 0).testBit e = true ∨ ((masks ops []).getD e 0).testBit i = true := by
 unfold panAll at h
 simp only [Bool.and_eq_true, List.all_eq_true, List.mem_range] at h
 have hlt : ∀ (i : Nat) (o : Oper), ops[i]? = some o → i < ops.length := fun i o ho => (List.getElem?_eq_some_iff.1 ho).1
 have h2 := h.2 p (hlt p op hop)
 simp only [hop, hm, Bool.not_true, Bool.false_or, Bool.and_eq_true, List.all_eq_true, List.mem_range] at h2
 refine ⟨fun j h1 h3 => ?_, fun i e oi oe h1 h3 h4 h5 c1 c2 => ?_⟩
 · have := h2.1 j h3
   simpa [h1] using this
 · have := h2.2 i h1
   simp only [h4, c1, BEq.rfl, Bool.not_true, Bool.false_or, List.all_eq_true, List.mem_range] at this
   have := this e h3
   simpa [h5, c2] using this
theorem draw_sound {P : Program} (hm : P.follows .mixedOrders = true) {ops : Array Oper} {n : Nat} {prs : List (Nat × Nat)} (hD : drawOk P ops.toList = true) (hall : ∀ o ∈ ops.toList, opsOk P n o = true) (hpr : ∀ x ∈ drawPairs P ops.toList, x ∈ prs)
   {E : Env} {ds : List Deferred} {H : Heap} {k : KE} {kp : List PanicEntry → KE}
   (he : trW P ops ops.toList E ds H [] (fun tr E ds H => (∀ x ∈ prs, pairChk P ops tr x.1 x.2) ∧ k E ds H) (fun c E ds H => panAll P ops.toList = true ∧ kp c (eraseE ops E) ds H)) :
   ∃ o E' ds' H', ((o = .norm ∧ k E' ds' H') ∨ ∃ c, o = .pan c ∧ kp c E' ds' H') ∧ ∀ id m a' w, StR P n false m E ds H a' w → (Code.region id ops true).wp P (OutR P n m H w o E' ds' H') a' w := by
 have hs := drawOk_spec hD
 have hlen : ops.toList.length = ops.size := by simp
 obtain ⟨p, A, Hs, h0, rfl, rfl, h3, h4⟩ := j1d _ _ _ _ hs.nd he
 have start : ∀ {m a' w} (Q : Exit → Act → World → Prop), Tra P ops p A Hs → StR P n false m (A 0) ds (Hs 0) a' w →
     ((p = ops.toList.length ∧ ∀ m2 a2 w2, StR P n false m2 (A p) ds (Hs p) a2 w2 → Step m (Hs 0) w m2 (Hs p) w2 → Q .normal a2 w2) ∨ ∃ op, Ends P ops p n A Hs ds m w Q op) → ∀ id, (Code.region id ops true).wp P Q a' w := by
   intro m a' w Q ht h hQ id
   refine wp_region_any hm ?_
   have hst0 := Step.drawn h.rel (w.drawn + 1)
   obtain ⟨q, n1, n2, n3, n4⟩ := next_eff (Eff P ops.toList) p 0
   have hHq : Hs q = Hs 0 := by
     have := ht.heap 0 q (by omega) (fun j a b => n3 j a (by omega))
     rwa [Nat.zero_add] at this
   have nl : ∀ j, (Array.replicate ops.size false).getD j false = false := by
     intro j; simp [Array.getD]
   refine j5t hs ht hall (m0 := m) (w0 := w) hQ ops.size (Array.replicate ops.size false) q m a' _ (by simp) (fun i o ho hL => by simp only [nl] at hL; cases hL) (Nat.le_trans List.countP_le_length (by simp))
     ⟨by rw [hHq]; exact hst0.rel, h.gl, by rw [hHq]; exact hst0, h.defers, h.size, fun j o t _ _ hL => (by simp only [nl] at hL; cases hL), fun t _ => h.get t, by omega, fun hq => ⟨n4 (by omega), nl q⟩, fun j hj hc => absurd hc (n3 j (by omega) hj), fun j _ => nl j⟩
 rcases h4 with ⟨hp, hck, hk⟩ | ⟨op, c, H', hop, hg, hpn, hpa, hk⟩
 · refine ⟨.norm, A p, ds, Hs p, .inl ⟨rfl, hk⟩, fun id m a' w h => start _ ⟨h0, h3, fun i e oi oe v hi he hoi hoe c1 hg c2 u1 u2 hy hA => ?_⟩ h (.inl ⟨hp, fun m2 a2 w2 s1 s2 => ⟨m2, trivial, s1, s2⟩⟩) id⟩
   have hmem : (i, e) ∈ drawPairs P ops.toList := by
     unfold drawPairs
     simp only [List.mem_flatMap, List.mem_range]
     refine ⟨i, by omega, ?_⟩
     rw [hoi]
     simp only [c1, decide_true, cond_true, List.mem_map, List.mem_filter, List.mem_range]
     refine ⟨e, ⟨by omega, ?_⟩, rfl⟩
     rw [hoe]
     exact decide_eq_true ⟨c2, u1, u2⟩
   have := hck _ (hpr _ hmem)
   unfold pairChk at this
   have ge : ∀ j, j < p + 1 → ([] ++ (List.range (p + 1)).map fun i => (A i, Hs i))[j]? = some (A j, Hs j) := fun j hj => by simp [hj]
   simp only [hoi, ge i (by omega), ge (i + 1) (by omega), ge e (by omega), ge (e + 1) (by omega), hg] at this
   split at this
   · rename_i d hd
     rw [hd] at hA
     rw [hA] at this
     simpa [upd] using this
   · exact this.elim
 · obtain ⟨hmp, hcl⟩ := j72 hpn
   obtain ⟨a1, a2⟩ := jz8 hpa hop hmp
   have hpl := (List.getElem?_eq_some_iff.1 hop).1
   refine ⟨.pan c, eraseE ops (A p), ds, H', .inr ⟨c, rfl, hk⟩, fun id m a' w h => start _ ⟨h0, h3, fun i e oi oe v hi he hoi hoe c1 hg c2 u1 u2 hy hA => ?_⟩ h (.inr ⟨op, hop, hall op (List.mem_of_getElem? hop), hg, a1, c, H', hpn, fun m2 c' a2 w2 hc s1 s2 => ⟨m2, hc, s1, s2⟩⟩) id⟩
   rcases a2 i e oi oe hi he hoi hoe c1 c2 with g | g
   · rw [u1] at g; cases g
   · rw [u2] at g; cases g
end Go.Am
namespace Go.Am
variable {P : Program}
def thenW (b2 : Env → List Deferred → Heap → KO → Prop) (k : KO) : KO := fun o E ds H => match o with | .norm => b2 E ds H k | o => k o E ds H
def leaveW (id : Nat) (k : KO) : KO := fun o E ds H => match o with | .exit i => cond (i == id) (k .norm E ds H) (k (.exit i) E ds H) | o => k o E ds H
def condW (v : Value) (x y : Prop) : Prop := match v with | .bool t => cond t x y | _ => False
def panW (P : Program) (ops : Array Oper) (dr : Bool) (k : KO) : List PanicEntry → KE := fun c E ds H => cond dr (panAll P ops.toList = true ∧ k (.pan c) (eraseE ops E) ds H) (k (.pan c) E ds H)
abbrev BE := Env → List Deferred → Heap → KO → Prop
def loopN (b : BE) : Nat → BE
 | 0, _, _, _, _ => False
 | n + 1, E, ds, H, k => b E ds H (thenW (loopN b n) k)
def loopW (b : BE) : BE := fun E ds H k => ∃ n, loopN b n E ds H k
def hasLabel (l : Nat) : Code → Bool
 | .seq a b => hasLabel l a || hasLabel l b
 | .label l' => l' == l
 | _ => false
def gotoW (c : Code) (b : Nat → BE) (k : KO) : KO := fun o E ds H => match o with | .goto l => cond (hasLabel l c) (b l E ds H k) (k (.goto l) E ds H) | o => k o E ds H
def scopeN (c : Code) (b : Option Nat → BE) : Nat → Option Nat → BE
 | 0, _, _, _, _, _ => False
 | n + 1, s, E, ds, H, k => b s E ds H (gotoW c (fun l => scopeN c b n (some l)) k)
def scopeW (c : Code) (b : Option Nat → BE) (s : Option Nat) : BE := fun E ds H k => ∃ n, scopeN c b n s E ds H k
def execW (P : Program) (pr : Nat → List (Nat × Nat)) : Code → Option Nat → Env → List Deferred → Heap → KO → Prop
 | .seq x y, none, E, ds, H, k => execW P pr x none E ds H (thenW (execW P pr y none) k)
 | .seq x y, some l, E, ds, H, k => cond (hasLabel l x) (execW P pr x (some l) E ds H (thenW (execW P pr y none) k)) (execW P pr y (some l) E ds H k)
 | .label l', some l, E, ds, H, k => cond (l' == l) (k .norm E ds H) False
 | .label _, none, E, ds, H, k => k .norm E ds H
 | .skip, none, E, ds, H, k => k .norm E ds H
 | .region i ops draw, none, E, ds, H, k =>
   cond (draw && !(pr i).isEmpty) (trW P ops ops.toList E ds H [] (fun tr E ds H => (∀ x ∈ pr i, pairChk P ops tr x.1 x.2) ∧ k .norm E ds H) (panW P ops true k)) (opsW P ops ops.toList E ds H (k .norm) (panW P ops draw k))
 | .cond c x y, none, E, ds, H, k => condW (evalE E c) (execW P pr x none E ds H k) (execW P pr y none E ds H k)
 | .block id b, none, E, ds, H, k => execW P pr b none E ds H (leaveW id k)
 | .loop b, none, E, ds, H, k => loopW (execW P pr b none) E ds H k
 | .exit id, none, E, ds, H, k => k (.exit id) E ds H
 | .scope b, none, E, ds, H, k => scopeW b (execW P pr b) none E ds H k
 | .goto l, none, E, ds, H, k => k (.goto l) E ds H
 | .ret, none, E, ds, H, k => k .ret E ds H
 | _, _, _, _, _, _ => False
def goodC (P : Program) (pr : Nat → List (Nat × Nat)) (n : Nat) : Code → Bool
 | .region i ops draw => ops.toList.all (opsOk P n) && (!draw || (drawOk P ops.toList && (drawPairs P ops.toList).all fun x => (pr i).any fun y => Nat.beq x.1 y.1 && Nat.beq x.2 y.2))
 | .seq a b => goodC P pr n a && goodC P pr n b
 | .cond c a b => operandOk P c && (goodC P pr n a && goodC P pr n b)
 | .block _ b => goodC P pr n b
 | .loop b => goodC P pr n b
 | .scope b => goodC P pr n b
 | _ => true
theorem hasLabel_find (l : Nat) : ∀ c : Code, hasLabel l c = (findLabel c l).isSome
 | .seq a b => by
   have ha := hasLabel_find l a
   have hb := hasLabel_find l b
   simp only [hasLabel, findLabel, ha, hb]
   cases findLabel a l <;> simp
 | .label l' => by
   simp only [hasLabel, findLabel]
   by_cases e : (l' == l) = true
   · simp [e]
   · simp [e]
 | .skip | .region .. | .cond .. | .block .. | .loop .. | .rangeFunc .. | .exit .. | .scope .. | .goto .. | .ret | .refuse .. => by simp [hasLabel, findLabel]
def Begins (c : Code) : Option Nat → Code → Prop
 | none, c' => c' = c
 | some l, c' => findLabel c l = some c'
def Reach (P : Program) (n : Nat) (c : Code) (s : Option Nat) (E : Env) (ds : List Deferred) (H : Heap) (o : Out) (E' : Env) (ds' : List Deferred) (H' : Heap) : Prop :=
 ∀ c', Begins c s c' → ∀ m a' w, StR P n false m E ds H a' w → c'.wp P (OutR P n m H w o E' ds' H') a' w
def Comes' (P : Program) (n : Nat) (c : Code) (b : Option Nat → BE) : Prop := ∀ s E ds H (k : KO), b s E ds H k → ∃ o E' ds' H', Reach P n c s E ds H o E' ds' H' ∧ k o E' ds' H'
theorem jt5 {ops : Array Oper} {k : KE} {kp : List PanicEntry → KE} : ∀ (l : List Oper) (E : Env) (ds : List Deferred) (H : Heap) (tr : List (Env × Heap)), opsW P ops l E ds H k kp → trW P ops l E ds H tr (fun _ => k) kp
 | [], _, _, _, _, h => h
 | o :: r, E, ds, H, tr, h => by
   unfold opsW guardW at h
   unfold trW guardW
   split at h
   · rename_i b hb
     cases b with
     | true =>
       simp only [cond_true] at h ⊢
       unfold stepW at h ⊢
       split at h
       · split at h
         · exact jt5 r _ _ _ _ h
         · exact h
       · have mono : ∀ {ρ : Operand → Value} {op : Op} {H : Heap} {k k' : KV} {kp : KP}, (∀ v H, k v H → k' v H) → opW P ρ op H k kp → opW P ρ op H k' kp := fun {ρ op H k k' kp} hk h => by
           have bm : ∀ {x : VH}, bindV x k → bindV x k' := fun {x} h => by
             cases x with
             | none => exact h
             | some y => exact hk _ _ h
           unfold opW at h ⊢
           split at h
           · exact h
           · split at h
             · split at h
               · rcases h with ⟨v, H', h1, h2⟩ | h
                 · exact .inl ⟨v, H', h1, hk _ _ h2⟩
                 · exact .inr h
               · exact h
             · exact bm h
             · exact h
           · exact bm h
         exact mono (fun v H h => jt5 r _ _ _ _ h) h
     | false => exact jt5 r _ _ _ _ h
   · exact h.elim
theorem goodD {pr : Nat → List (Nat × Nat)} {n i : Nat} {ops : Array Oper} (h : goodC P pr n (.region i ops true) = true) :
   (∀ o ∈ ops.toList, opsOk P n o = true) ∧ drawOk P ops.toList = true ∧ ∀ x ∈ drawPairs P ops.toList, x ∈ pr i := by
 simp only [goodC, Bool.and_eq_true, Bool.not_true, Bool.false_or] at h
 refine ⟨List.all_eq_true.1 h.1, h.2.1, fun x hx => ?_⟩
 obtain ⟨y, h1, h2⟩ := List.any_eq_true.1 (List.all_eq_true.1 h.2.2 x hx)
 simp only [Bool.and_eq_true] at h2
 have : x = y := Prod.ext (Nat.eq_of_beq_eq_true h2.1) (Nat.eq_of_beq_eq_true h2.2)
 exact this ▸ h1
theorem jh1 (hm : P.follows .mixedOrders = true) {pr : Nat → List (Nat × Nat)} {n : Nat} : ∀ c : Code, goodC P pr n c = true → Comes' P n c (execW P pr c) := by
 have leaf : ∀ {c : Code} {o : Out} {s : Option Nat} {E : Env} {ds : List Deferred} {H : Heap} {k : KO}, (∀ c', Begins c s c' → ∀ {m a' w}, StR P n false m E ds H a' w → c'.wp P (OutR P n m H w o E ds H) a' w) → k o E ds H → ∃ o E' ds' H', Reach P n c s E ds H o E' ds' H' ∧ k o E' ds' H' :=
   fun {c o s E ds H k} h hk => ⟨o, E, ds, H, fun c' hc m a' w hs => h c' hc hs, hk⟩
 intro c
 induction c with
 | skip =>
   intro _ s E ds H k he
   cases s with
   | none => exact leaf (o := .norm) (fun c' hc {m a' w} hs => by cases hc; exact wp_skip ⟨m, trivial, hs, .refl hs.rel⟩) he
   | some l => exact he.elim
 | label l' =>
   intro _ s E ds H k he
   cases s with
   | none => exact leaf (o := .norm) (fun c' hc {m a' w} hs => by cases hc; exact wp_label ⟨m, trivial, hs, .refl hs.rel⟩) he
   | some l =>
     simp only [execW] at he
     cases e : (l' == l) with
     | false => rw [e] at he; exact he.elim
     | true =>
       rw [e] at he
       refine leaf (o := .norm) (fun c' hc {m a' w} hs => ?_) he
       simp only [Begins, findLabel, e, if_true, Option.some.injEq] at hc
       subst hc
       exact wp_skip ⟨m, trivial, hs, .refl hs.rel⟩
 | region i ops draw =>
   intro hg s E ds H k he
   cases s with
   | some l => exact he.elim
   | none =>
     have fin : ∀ {kn : KE} {kq : List PanicEntry → KE} {o E' ds' H'}, ((o = .norm ∧ kn E' ds' H') ∨ ∃ c, o = .pan c ∧ kq c E' ds' H') → (∀ {E ds H}, kn E ds H → k .norm E ds H) → (∀ {c E ds H}, kq c E ds H → k (.pan c) E ds H) → k o E' ds' H' := fun {kn kq o E' ds' H'} h h1 h2 => by
       rcases h with ⟨rfl, h⟩ | ⟨c, rfl, h⟩
       · exact h1 h
       · exact h2 h
     simp only [execW] at he
     cases draw with
     | false =>
       simp only [goodC, Bool.and_eq_true] at hg
       obtain ⟨o, E', ds', H', h1, h2⟩ := jr2 (n := n) ops.toList (List.all_eq_true.1 hg.1) 0 (by simp) E ds H he
       refine ⟨o, E', ds', H', fun c' hc m a' w hs => ?_, fin h1 id id⟩
       cases hc
       have := (h2 m a' w hs).1 (OutR P n m H w o E' ds' H') fun _ _ _ x => x
       exact wp_region (by simpa using this)
     | true =>
       obtain ⟨g1, g2, g3⟩ := goodD hg
       have go : ∀ {kn : KE}, (∀ {E ds H}, kn E ds H → k .norm E ds H) → trW P ops ops.toList E ds H [] (fun tr E ds H => (∀ x ∈ pr i, pairChk P ops tr x.1 x.2) ∧ kn E ds H) (panW P ops true k) → ∃ o E' ds' H', Reach P n (.region i ops true) none E ds H o E' ds' H' ∧ k o E' ds' H' := fun {kn} hk h => by
         obtain ⟨o, E', ds', H', h1, h2⟩ := draw_sound (k := kn) (kp := fun c => k (.pan c)) hm g2 g1 g3 h
         exact ⟨o, E', ds', H', fun c' hc m a' w hs => by cases hc; exact h2 i m a' w hs, fin h1 hk id⟩
       cases hp : (pr i).isEmpty with
       | false => rw [hp] at he; exact go id he
       | true =>
         rw [hp] at he
         have h := jt5 _ _ _ _ [] he
         have e : pr i = [] := List.isEmpty_iff.1 hp
         refine go (kn := k .norm) id ?_
         rw [e]
         have : (fun (tr : List (Env × Heap)) E ds H => (∀ x ∈ ([] : List (Nat × Nat)), pairChk P ops tr x.1 x.2) ∧ k .norm E ds H) = fun _ => k .norm := by
           funext tr E ds H
           simp
         rw [this]
         exact h
 | seq x y ihx ihy =>
   intro hg s E ds H k he
   simp only [goodC, Bool.and_eq_true] at hg
   have key : ∀ s, (∀ c', Begins (.seq x y) s c' → ∃ x', Begins x s x' ∧ c' = .seq x' y) → execW P pr x s E ds H (thenW (execW P pr y none) k) → ∃ o E' ds' H', Reach P n (.seq x y) s E ds H o E' ds' H' ∧ k o E' ds' H' := by
     intro s hs h
     obtain ⟨o, E1, ds1, H1, r1, k1⟩ := ihx hg.1 s E ds H _ h
     have pass : o ≠ .norm → k o E1 ds1 H1 → ∃ o E' ds' H', Reach P n (.seq x y) s E ds H o E' ds' H' ∧ k o E' ds' H' := fun hne hk => by
       refine ⟨o, E1, ds1, H1, fun c' hc m a' w hst => ?_, hk⟩
       obtain ⟨x', hx, rfl⟩ := hs c' hc
       refine wp_seq (Go.wp_mono (r1 x' hx m a' w hst) fun e a1 w1 hq => ?_)
       cases e with
       | normal =>
         obtain ⟨m1, h1, _⟩ := hq
         cases o <;> first | exact h1.elim | exact absurd rfl hne
       | _ => exact hq
     cases o with
     | norm =>
       obtain ⟨o2, E2, ds2, H2, r2, k2⟩ := ihy hg.2 none E1 ds1 H1 k k1
       refine ⟨o2, E2, ds2, H2, fun c' hc m a' w hst => ?_, k2⟩
       obtain ⟨x', hx, rfl⟩ := hs c' hc
       refine wp_seq (Go.wp_mono (r1 x' hx m a' w hst) fun e a1 w1 hq => ?_)
       cases e with
       | normal =>
         obtain ⟨m1, _, s1, s2⟩ := hq
         exact Go.wp_mono (r2 y rfl m1 a1 w1 s1) fun e a w hq => hq.of s2
       | _ => obtain ⟨m1, h1, _⟩ := hq; exact h1.elim
     | _ => exact pass (by simp) k1
   cases s with
   | none => exact key none (fun c' hc => ⟨x, rfl, hc⟩) he
   | some l =>
     simp only [execW] at he
     cases hl : hasLabel l x with
     | true =>
       rw [hl] at he
       rw [hasLabel_find] at hl
       obtain ⟨rest, hr⟩ := Option.isSome_iff_exists.1 hl
       refine key (some l) (fun c' hc => ⟨rest, hr, ?_⟩) he
       simp only [Begins, findLabel, hr, Option.some.injEq] at hc
       exact hc.symm
     | false =>
       rw [hl] at he
       rw [hasLabel_find] at hl
       have hnone : findLabel x l = none := by simpa using hl
       obtain ⟨o, E', ds', H', r, hk⟩ := ihy hg.2 (some l) E ds H k he
       refine ⟨o, E', ds', H', fun c' hc => r c' ?_, hk⟩
       simp only [Begins, findLabel, hnone] at hc
       exact hc
 | cond x c1 c2 ih1 ih2 =>
   intro hg s E ds H k he
   cases s with
   | some l => exact he.elim
   | none =>
     simp only [goodC, Bool.and_eq_true] at hg
     simp only [execW, condW] at he
     split at he
     · rename_i t ht
       have hx : ∀ {m a' w}, StR P n false m E ds H a' w → a'.eval x = .bool t := fun {m a' w} hs => by
         have := eval_sees (a' := a') (E := E) hs.gl hg.1 fun t _ => hs.get t
         rw [ht] at this
         exact this.bool_inv
       have : ∃ o E' ds' H', Reach P n (cond t c1 c2) none E ds H o E' ds' H' ∧ k o E' ds' H' := by
         cases t with
         | true => exact ih1 hg.2.1 none E ds H k he
         | false => exact ih2 hg.2.2 none E ds H k he
       obtain ⟨o, E', ds', H', r, hk⟩ := this
       refine ⟨o, E', ds', H', fun c' hc m a' w hs => ?_, hk⟩
       cases hc
       refine wp_cond (hx hs) ?_
       have := r _ rfl m a' w hs
       cases t <;> exact this
     · exact he.elim
 | block id b ih =>
   intro hg s E ds H k he
   cases s with
   | some l => exact he.elim
   | none =>
     obtain ⟨o, E1, ds1, H1, r1, k1⟩ := ih hg none E ds H _ he
     have go : ∀ o2, (∀ m e a w w', OutR P n m H w o E1 ds1 H1 e a w' → Exit.inBlock id (OutR P n m H w o2 E1 ds1 H1) e a w') → k o2 E1 ds1 H1 → ∃ o E' ds' H', Reach P n (.block id b) none E ds H o E' ds' H' ∧ k o E' ds' H' := fun o2 h hk =>
       ⟨o2, E1, ds1, H1, fun c' hc m a' w hs => by cases hc; exact wp_block (Go.wp_mono (r1 b rfl m a' w hs) fun e a1 w1 hq => h m e a1 w w1 hq), hk⟩
     cases o with
     | exit i =>
       change (bif i == id then k .norm E1 ds1 H1 else k (.exit i) E1 ds1 H1) at k1
       by_cases e : i = id
       · subst e
         simp only [BEq.rfl, cond_true] at k1
         refine go .norm (fun m e a w w' ⟨m1, h1, h2⟩ => ?_) k1
         cases e <;> first | exact h1.elim | skip
         cases h1
         simp only [Exit.inBlock, if_true]
         exact ⟨m1, trivial, h2⟩
       · have e' : (i == id) = false := by simpa using e
         rw [e'] at k1
         refine go (.exit i) (fun m e2 a w w' ⟨m1, h1, h2⟩ => ?_) k1
         cases e2 <;> first | exact h1.elim | skip
         cases h1
         simp only [Exit.inBlock, e, if_false]
         exact ⟨m1, rfl, h2⟩
     | norm => exact go .norm (fun m e a w w' ⟨m1, h1, h2⟩ => by cases e <;> first | exact h1.elim | exact ⟨m1, h1, h2⟩) k1
     | goto l => exact go (.goto l) (fun m e a w w' ⟨m1, h1, h2⟩ => by cases e <;> first | exact h1.elim | exact ⟨m1, h1, h2⟩) k1
     | ret => exact go .ret (fun m e a w w' ⟨m1, h1, h2⟩ => by cases e <;> first | exact h1.elim | exact ⟨m1, h1, h2⟩) k1
     | pan c => exact go (.pan c) (fun m e a w w' ⟨m1, h1, h2⟩ => by cases e <;> first | exact h1.elim | exact ⟨m1, h1, h2⟩) k1
 | loop b ih =>
   intro hg s E ds H k he
   cases s with
   | some l => exact he.elim
   | none =>
     obtain ⟨N, he⟩ := he
     have : ∀ (N : Nat) E ds H k, loopN (execW P pr b none) N E ds H k → ∃ o E' ds' H', (∀ m a' w, StR P n false m E ds H a' w → ∀ (fr : Frame) (kk : List Item) (cs : List Frame), ∃ e a2 w2, OutR P n m H w o E' ds' H' e a2 w2 ∧ Arrives P (lone (fr.at a' (.code b :: .inLoop b :: kk)) cs w) fr kk cs e a2 w2) ∧ k o E' ds' H' := by
       intro N
       induction N with
       | zero => intro E ds H k he; exact he.elim
       | succ N ihN =>
         intro E ds H k he
         obtain ⟨o, E1, ds1, H1, r1, k1⟩ := ih hg none E ds H _ he
         cases o with
         | norm =>
           obtain ⟨o2, E2, ds2, H2, r2, k2⟩ := ihN E1 ds1 H1 k k1
           refine ⟨o2, E2, ds2, H2, fun m a' w hs fr kk cs => ?_, k2⟩
           obtain ⟨e, a1, w1, ⟨m1, h1, s1, s2⟩, harr⟩ := r1 b rfl m a' w hs fr (.inLoop b :: kk) cs
           cases e <;> first | exact h1.elim | skip
           obtain ⟨e2, a3, w3, hq2, harr2⟩ := r2 m1 a1 w1 s1 fr kk cs
           exact ⟨e2, a3, w3, hq2.of s2, .of_steps (Steps.trans harr (.one step_inLoop)) harr2⟩
         | _ =>
           refine ⟨_, E1, ds1, H1, fun m a' w hs fr kk cs => ?_, k1⟩
           obtain ⟨e, a1, w1, ⟨m1, h1, s1⟩, harr⟩ := r1 b rfl m a' w hs fr (.inLoop b :: kk) cs
           cases e <;> first | exact h1.elim | exact ⟨_, a1, w1, ⟨m1, h1, s1⟩, .pass (x := .inLoop b) rfl (fun _ _ => .inl (by simp)) harr⟩
     obtain ⟨o, E', ds', H', r, hk⟩ := this N E ds H k he
     refine ⟨o, E', ds', H', fun c' hc m a' w hs => ?_, hk⟩
     cases hc
     intro fr kk cs
     obtain ⟨e, a2, w2, hq, harr⟩ := r m a' w hs fr kk cs
     exact ⟨e, a2, w2, hq, .of_steps (.one step_loop) harr⟩
 | rangeFunc f ps x y _ _ => intro _ s E ds H k he; cases s <;> exact he.elim
 | exit id =>
   intro _ s E ds H k he
   cases s with
   | none => exact leaf (o := .exit id) (fun c' hc {m a' w} hs => by cases hc; exact wp_exit ⟨m, rfl, hs, .refl hs.rel⟩) he
   | some l => exact he.elim
 | scope b ih =>
   intro hg s E ds H k he
   cases s with
   | some l => exact he.elim
   | none =>
     obtain ⟨N, he⟩ := he
     have : ∀ (N : Nat) s E ds H k, scopeN b (execW P pr b) N s E ds H k → ∃ o E' ds' H', (∀ c', Begins b s c' → ∀ m a' w, StR P n false m E ds H a' w → ∀ (fr : Frame) (kk : List Item) (cs : List Frame), ∃ e a2 w2, OutR P n m H w o E' ds' H' e a2 w2 ∧ Arrives P (lone (fr.at a' (.code c' :: .inScope b :: kk)) cs w) fr kk cs e a2 w2) ∧ k o E' ds' H' := by
       intro N
       induction N with
       | zero => intro s E ds H k he; exact he.elim
       | succ N ihN =>
         intro s E ds H k he
         obtain ⟨o, E1, ds1, H1, r1, k1⟩ := ih hg s E ds H _ he
         cases o with
         | goto l =>
           change (bif hasLabel l b then scopeN b (execW P pr b) N (some l) E1 ds1 H1 k else k (.goto l) E1 ds1 H1) at k1
           cases hl : hasLabel l b with
           | true =>
             rw [hl] at k1
             rw [hasLabel_find] at hl
             obtain ⟨rest, hr⟩ := Option.isSome_iff_exists.1 hl
             obtain ⟨o2, E2, ds2, H2, r2, k2⟩ := ihN (some l) E1 ds1 H1 k k1
             refine ⟨o2, E2, ds2, H2, fun c' hc m a' w hs fr kk cs => ?_, k2⟩
             obtain ⟨e, a1, w1, ⟨m1, h1, s1, s2⟩, harr⟩ := r1 c' hc m a' w hs fr (.inScope b :: kk) cs
             cases e <;> first | exact h1.elim | skip
             cases h1
             obtain ⟨e2, a3, w3, hq2, harr2⟩ := r2 rest hr m1 a1 w1 s1 fr kk cs
             exact ⟨e2, a3, w3, hq2.of s2, .of_steps (harr _ (by simp [gotoIn, hr])) harr2⟩
           | false =>
             rw [hl] at k1
             rw [hasLabel_find] at hl
             have hnone : findLabel b l = none := by simpa using hl
             refine ⟨.goto l, E1, ds1, H1, fun c' hc m a' w hs fr kk cs => ?_, k1⟩
             obtain ⟨e, a1, w1, ⟨m1, h1, s1⟩, harr⟩ := r1 c' hc m a' w hs fr (.inScope b :: kk) cs
             cases e <;> first | exact h1.elim | skip
             cases h1
             exact ⟨.goto l, a1, w1, ⟨m1, rfl, s1⟩, fun k' hk => harr k' (by simpa [gotoIn, hnone] using hk)⟩
         | norm =>
           refine ⟨_, E1, ds1, H1, fun c' hc m a' w hs fr kk cs => ?_, k1⟩
           obtain ⟨e, a1, w1, ⟨m1, h1, s1⟩, harr⟩ := r1 c' hc m a' w hs fr (.inScope b :: kk) cs
           cases e <;> first | exact h1.elim | exact ⟨.normal, a1, w1, ⟨m1, h1, s1⟩, Steps.trans harr (.one step_inScope)⟩
         | exit i =>
           refine ⟨_, E1, ds1, H1, fun c' hc m a' w hs fr kk cs => ?_, k1⟩
           obtain ⟨e, a1, w1, ⟨m1, h1, s1⟩, harr⟩ := r1 c' hc m a' w hs fr (.inScope b :: kk) cs
           cases e <;> first | exact h1.elim | exact ⟨_, a1, w1, ⟨m1, h1, s1⟩, fun k' hk => harr k' (by simpa [exitTo] using hk)⟩
         | _ =>
           refine ⟨_, E1, ds1, H1, fun c' hc m a' w hs fr kk cs => ?_, k1⟩
           obtain ⟨e, a1, w1, ⟨m1, h1, s1⟩, harr⟩ := r1 c' hc m a' w hs fr (.inScope b :: kk) cs
           cases e <;> first | exact h1.elim | exact ⟨_, a1, w1, ⟨m1, h1, s1⟩, harr⟩
     obtain ⟨o, E', ds', H', r, hk⟩ := this N none E ds H k he
     refine ⟨o, E', ds', H', fun c' hc m a' w hs => ?_, hk⟩
     cases hc
     intro fr kk cs
     obtain ⟨e, a2, w2, hq, harr⟩ := r b rfl m a' w hs fr kk cs
     exact ⟨e, a2, w2, hq, .of_steps (.one step_scope) harr⟩
 | goto l =>
   intro _ s E ds H k he
   cases s with
   | none => exact leaf (o := .goto l) (fun c' hc {m a' w} hs => by cases hc; exact wp_goto ⟨m, rfl, hs, .refl hs.rel⟩) he
   | some l => exact he.elim
 | ret =>
   intro _ s E ds H k he
   cases s with
   | none => exact leaf (o := .ret) (fun c' hc {m a' w} hs => by cases hc; exact wp_ret ⟨m, trivial, hs, .refl hs.rel⟩) he
   | some l => exact he.elim
 | refuse why => intro _ s E ds H k he; cases s <;> exact he.elim
end Go.Am
namespace Go.Am
variable {m : Mp} {P : Program} {n : Nat} {wk : Bool} {E : Env} {ds : List Deferred} {H : Heap} {w : World} {u : FrameMode} {k : KV} {kp : KP} {f : FuncId} {args : Array Value}
def resE (P : Program) (E : Env) (H : Heap) : List ResultVar → Option (List Value)
 | [] => some []
 | .tmp i :: r => match resE P E H r with | some l => some (E i :: l) | none => none
 | .cell i ty :: r => match loadA P ty (E i) H with
   | some (v, _) => match resE P E H r with | some l => some (v :: l) | none => none
   | none => none
def oneOf : List Value → Value
 | [v] => v
 | l => .tuple l.toArray
theorem oneOf_sound {l l' : List Value} (h : VRs m l l') : VR m (oneOf l) (if hs : l'.toArray.size = 1 then l'.toArray[0] else .tuple l'.toArray) := by
 match l, l', h with
 | [], [], h => exact .tuple _ _ rfl (fun i a => absurd a (by simp))
 | [x], [y], h => exact h.head
 | x :: y :: r, x' :: y' :: r', h =>
   have : ¬ (x' :: y' :: r').toArray.size = 1 := by simp
   rw [dif_neg this]
   exact .tuple _ _ (h.toArray).1 (h.toArray).2
 | [], _ :: _, h => have := h.1; simp at this
 | _ :: _, [], h => have := h.1; simp at this
 | [_], _ :: _ :: _, h => have := h.1; simp at this
 | _ :: _ :: _, [_], h => have := h.1; simp at this
theorem jj7 {a' : Act} (h : StR P n wk m E ds H a' w) : ∀ (l : List ResultVar) (vs : List Value), resE P E H l = some vs → (wk && vs.any isUndef) = false →
   ∃ vs', (List.mapM (fun | .tmp t => Pure.pure (a'.tmps.getD t undef) | .cell a t => (do loadVar t (← asAddr (a'.tmps.getD a undef)) : Sem Value)) l : Sem (List Value)).run P w = .ok vs' w ∧ VRs m vs vs'
 | [], vs, he, _ => by simp only [resE, Option.some.injEq] at he; subst he; exact ⟨[], by simp, VRs.nil m⟩
 | .tmp t :: r, vs, he, hu => by
   simp only [resE] at he
   split at he
   · rename_i l hl
     simp only [Option.some.injEq] at he; subst he
     obtain ⟨vs', k1, k2⟩ := jj7 h r l hl (by cases wk <;> simp_all)
     have hv := (h.tmps t).resolve_left fun x => by
       obtain ⟨rfl, x⟩ := x
       simp [x] at hu
     exact ⟨a'.tmps.getD t undef :: vs', by simp only [List.mapM_cons, Sem.run_bind, Sem.run_pure, Result.andThen_ok, k1], VRs.cons hv k2⟩
   · simp at he
 | .cell a t :: r, vs, he, hu => by
   simp only [resE] at he
   split at he
   · rename_i v H' hv
     split at he
     · rename_i l hl
       simp only [Option.some.injEq] at he; subst he
       obtain ⟨vs', k1, k2⟩ := jj7 h r l hl (by cases wk <;> simp_all)
       have hp : ∃ b, E a = .pointer (some b) := by
         unfold loadA at hv
         split at hv
         · rename_i b hb; exact ⟨b, hb⟩
         · simp at hv
       obtain ⟨b, hb⟩ := hp
       have hx := (h.tmps a).resolve_left fun x => by rw [hb] at x; cases x.2
       obtain ⟨v', q1, q2, q3⟩ := loadA_read h.rel hx hv
       rw [hb] at hx
       obtain ⟨L, _, _, e⟩ := hx.ptr_inv
       rw [e] at q1
       have q1' : (loadVar t ⟨L.c, L.base + b.off, none⟩).run P w = .ok v' w := by
         simpa [Instr.loadAt, Instr.sureAddr] using q1
       refine ⟨v' :: vs', ?_, VRs.cons q2 k2⟩
       have hA : (asAddr (a'.tmps.getD a undef)).run P w = .ok ⟨L.c, L.base + b.off, none⟩ w := by rw [e]; rfl
       simp only [List.mapM_cons, Sem.run_bind, hA, Result.andThen_ok, q1', k1, Sem.run_pure]
     · simp at he
   · simp at he
theorem results_sound {a' : Act} (h : StR P n wk m E ds H a' w) {fn : Func} {vs : List Value} (he : resE P E H fn.results.toList = some vs) (hu : (wk && vs.any isUndef) = false) :
   ∃ v', (results fn a'.tmps).run P w = .ok v' w ∧ VR m (oneOf vs) v' := by
 obtain ⟨vs', k1, k2⟩ := jj7 h fn.results.toList vs he hu
 refine ⟨_, ?_, oneOf_sound k2⟩
 unfold results
 have : (fn.results.mapM (fun | .tmp t => Pure.pure (a'.tmps.getD t undef) | .cell a t => (do loadVar t (← asAddr (a'.tmps.getD a undef)) : Sem Value)) : Sem (Array Value)).run P w = .ok vs'.toArray w := by
   rw [Array.mapM_eq_mapM_toList, Sem.run_map, k1]; rfl
 rw [Sem.run_bind]
 refine (congrArg (fun z => Result.andThen z _) this).trans ?_
 rfl
def recM : FrameMode → Value × FrameMode
 | .panicking (p :: older) => if p.recovered = false ∧ p.goexit = false then (p.v, .panicking ({ v := p.v, recovered := true } :: older)) else (.nilIface, .panicking (p :: older))
 | u => (.nilIface, u)
def isRec (o : Oper) : Bool :=
 match o.op with
 | .call c => match c.callee with | .builtin .recover => o.guard.isNone && c.args.isEmpty | _ => false
 | _ => false
def settleA : FrameMode → Option FrameMode
 | .panicking (p :: older) => if p.recovered = true then (match older with | [] => some .returning | _ => none) else some (.panicking (p :: older))
 | u => some u
inductive ModeR (m : Mp) : FrameMode → FrameMode → Prop where
 | returning : ModeR m .returning .returning
 | panicking (c c' : List PanicEntry) (h : PanR m c c') : ModeR m (.panicking c) (.panicking c')
theorem ModeR.mono {m' : Mp} (hm : m.le m') {u u' : FrameMode} (h : ModeR m u u') : ModeR m' u u' := by
 cases h with
 | returning => exact .returning
 | panicking c c' h => exact .panicking _ _ (h.mono hm)
theorem PanR.append {a a' b b' : List PanicEntry} (h : PanR m a a') (k : PanR m b b') : PanR m (a ++ b) (a' ++ b') := by
 refine ⟨by simp [h.1, k.1], fun i hi hi' => ?_⟩
 by_cases e : i < a.length
 · have e' : i < a'.length := h.1 ▸ e
   simp only [List.getElem_append, e, e', dif_pos]
   exact h.2 i e e'
 · have e' : ¬ i < a'.length := h.1 ▸ e
   simp only [List.getElem_append, e, e', dif_neg, not_false_eq_true]
   have hs := h.1
   simp only [List.length_append] at hi hi'
   simp only [← hs]
   exact k.2 _ (by omega) (by have := k.1; omega)
theorem PanR.cons_inv {p : PanicEntry} {r : List PanicEntry} {c' : List PanicEntry} (h : PanR m (p :: r) c') :
   ∃ p' r', c' = p' :: r' ∧ VR m p.v p'.v ∧ p.recovered = p'.recovered ∧ p.goexit = p'.goexit ∧ PanR m r r' := by
 cases c' with
 | nil => have := h.1; simp at this
 | cons p' r' =>
   have h0 := h.2 0 (by simp) (by simp)
   refine ⟨p', r', rfl, h0.1, h0.2.1, h0.2.2, by simpa using h.1, fun i a b => ?_⟩
   have := h.2 (i + 1) (by simpa using a) (by simpa using b)
   simpa using this
theorem PanR.cons {p p' : PanicEntry} {r r' : List PanicEntry} (hv : VR m p.v p'.v) (h1 : p.recovered = p'.recovered) (h2 : p.goexit = p'.goexit) (h : PanR m r r') : PanR m (p :: r) (p' :: r') := by
 refine ⟨by simp [h.1], fun i a b => ?_⟩
 cases i with
 | zero => exact ⟨hv, h1, h2⟩
 | succ i => simpa using h.2 i (by simpa using a) (by simpa using b)
theorem ModeR.raised {u' : FrameMode} {c c' : List PanicEntry} (h : ModeR m u u') (hc : PanR m c c') : ModeR m (raised u c) (raised u' c') := by
 cases h with
 | returning => exact .panicking _ _ hc
 | panicking o o' ho => exact .panicking _ _ (hc.append ho)
theorem ModeR.settle {u' u2 : FrameMode} (h : ModeR m u u') (he : settleA u = some u2) : ModeR m u2 (settle u') := by
 cases h with
 | returning => simp only [settleA, Option.some.injEq] at he; subst he; exact .returning
 | panicking o o' ho =>
   cases o with
   | nil =>
     simp only [settleA, Option.some.injEq] at he
     subst he
     have : o' = [] := by have := ho.1; simpa using this.symm
     subst this
     exact .panicking _ _ ho
   | cons p r =>
     obtain ⟨p', r', rfl, hv, h1, h2, hr⟩ := ho.cons_inv
     simp only [settleA] at he
     by_cases e : p.recovered = true
     · rw [if_pos e] at he
       cases r with
       | cons => simp at he
       | nil =>
         simp only [Option.some.injEq] at he
         subst he
         have : r' = [] := by have := hr.1; simpa using this.symm
         subst this
         have e' : p'.recovered = true := h1 ▸ e
         obtain ⟨v', rec', ge'⟩ := p'
         simp only at e'
         subst e'
         simp only [Go.settle, List.dropWhile_nil]
         exact .returning
     · rw [if_neg e] at he
       simp only [Option.some.injEq] at he
       subst he
       have e' : p'.recovered = false := by rw [← h1]; simpa using e
       obtain ⟨v', rec', ge'⟩ := p'
       simp only at e'
       subst e'
       exact .panicking _ _ ho
def DAns (P : Program) (g : FuncId) (args : Array Value) (u : FrameMode) (H : Heap) (e : End) (u' : FrameMode) (H' : Heap) : Prop := ∀ m w args' uw, Rel m H w → Gl P m → VRa m args args' → ModeR m u uw →
 CallsD P g args' uw w fun e' uw' w' => ∃ m', EndR m' e e' ∧ ModeR m' u' uw' ∧ Step m H w m' H' w'
def named (P : Program) (g : FuncId) : Bool := match P.funcs[g]? with | some gn => !(gn.name == "runtime.NumGoroutine") && gn.body.isSome | none => false
def exitW (P : Program) (fn : Func) (wk : Bool) (E : Env) : List Deferred → FrameMode → Heap → KV → KP → Prop
 | [], .returning, H, k, _ => match resE P E H fn.results.toList with | some l => cond (wk && l.any isUndef) False (k (oneOf l) H) | none => False
 | [], .panicking c, H, _, kp => kp c H
 | _, .run, _, _, _ => False
 | d :: ds, u, H, k, kp => match d.target with
   | .fn (.func g) cap => named P g = true ∧ ∃ e u' H', DAns P g (d.args ++ cap) u H e u' H' ∧ (match e with
     | .ret _ => match settleA u' with | some u2 => exitW P fn wk E ds u2 H' k kp | none => False
     | .pan ch => exitW P fn wk E ds (raised u' ch) H' k kp)
   | _ => False
def finW (P : Program) (fn : Func) (k : KV) (kp : KP) : KO := fun o E ds H => match o with
 | .norm | .ret => exitW P fn false E ds .returning H k kp
 | .pan c => exitW P fn true E ds (.panicking c) H k kp
 | _ => False
def kEnd (k : KV) (kp : KP) (e : End) (H : Heap) : Prop := match e with | .ret v => k v H | .pan c => kp c H
theorem jz9 {fn : Func} : ∀ (ds : List Deferred) (u : FrameMode) (H : Heap), exitW P fn wk E ds u H k kp → ∃ e H2, kEnd k kp e H2 ∧
   ∀ {m0 H0 w0 m a' w uw}, StR P n wk m E ds H a' w → ModeR m u uw → Step m0 H0 w0 m H w → Leaves P fn a'.tmps (fun e' w' => ∃ m', EndR m' e e' ∧ Step m0 H0 w0 m' H2 w') a'.defers uw w := by
 intro ds
 induction ds with
 | nil =>
   intro u H he
   cases u with
   | run => exact he.elim
   | returning =>
     simp only [exitW] at he
     split at he
     · rename_i l hl
       cases hu : (wk && l.any isUndef) with
       | true => rw [hu] at he; exact he.elim
       | false =>
         rw [hu] at he
         refine ⟨.ret (oneOf l), H, he, fun {m0 H0 w0 m a' w uw} h hm hs => ?_⟩
         cases hm
         have hd := h.defers
         generalize a'.defers = dd at hd ⊢
         cases hd
         obtain ⟨v', q1, q2⟩ := results_sound h hl hu
         exact ⟨v', q1, m, q2, hs⟩
     · exact he.elim
   | panicking c =>
     refine ⟨.pan c, H, he, fun {m0 H0 w0 m a' w uw} h hm hs => ?_⟩
     cases hm
     rename_i c' hc
     have hd := h.defers
     generalize a'.defers = dd at hd ⊢
     cases hd
     exact ⟨m, hc, hs⟩
 | cons d ds ih =>
   intro u H he
   have he' : u ≠ .run ∧ (match d.target with
     | .fn (.func g) cap => named P g = true ∧ ∃ e u' H', DAns P g (d.args ++ cap) u H e u' H' ∧ (match e with
       | .ret _ => match settleA u' with | some u2 => exitW P fn wk E ds u2 H' k kp | none => False
       | .pan ch => exitW P fn wk E ds (raised u' ch) H' k kp)
     | _ => False) := by
     cases u <;> first | exact he.elim | exact ⟨by simp, he⟩
   obtain ⟨hur, he⟩ := he'
   split at he
   · rename_i g cap ht
     obtain ⟨hn, e, u', H', hd, hk⟩ := he
     have main : ∀ u2, exitW P fn wk E ds u2 H' k kp → (∀ {m' uw'}, ModeR m' u' uw' → ∀ e', EndR m' e e' → (match e' with | .returned _ => ModeR m' u2 (settle uw') | .panicked ch => ModeR m' u2 (raised uw' ch) | .outgrown => False)) → ∃ e H2, kEnd k kp e H2 ∧
         ∀ {m0 H0 w0 m a' w uw}, StR P n wk m E (d :: ds) H a' w → ModeR m u uw → Step m0 H0 w0 m H w → Leaves P fn a'.tmps (fun e' w' => ∃ m', EndR m' e e' ∧ Step m0 H0 w0 m' H2 w') a'.defers uw w := by
       intro u2 hx hmode
       obtain ⟨e2, H2, h1, h2⟩ := ih u2 H' hx
       refine ⟨e2, H2, h1, fun {m0 H0 w0 m a' w uw} h hm hs => ?_⟩
       have hdd := h.defers
       have hsz := h.size
       have hts := h.tmps
       obtain ⟨ts, dd⟩ := a'
       simp only at hdd hsz hts ⊢
       cases hdd with
       | cons hq htl =>
       rename_i d' l'
       obtain ⟨fv, cp, cp', e1, e2', hcap, hda⟩ := hq
       rw [ht] at e1
       cases e1
       obtain ⟨dt, da⟩ := d'
       simp only at e2' hda
       subst e2'
       unfold named at hn
       split at hn
       · rename_i gn hg
         simp only [Bool.and_eq_true, Bool.not_eq_true', beq_eq_false_iff_ne] at hn
         obtain ⟨c, hc⟩ := Option.isSome_iff_exists.1 hn.2
         refine ⟨by cases hm <;> simp, .func g, cp', g, da ++ cp', rfl, by simp [invoke, callFunc, hg, hn.1, hc], (hd m w _ uw h.rel h.gl (hda.append hcap) hm).mono ?_⟩
         intro e3 uw' w1 ⟨m', q1, q2, q3⟩
         have hle := q3.later.le
         have := hmode q2 e3 q1
         cases e3 with
         | returned v' => exact h2 (a' := ⟨ts, l'⟩) ⟨fun t => (hts t).imp id fun x => x.mono hle, hsz, htl.mono hle, q3.rel, h.gl.mono hle⟩ this (hs.trans q3)
         | panicked ch => exact h2 (a' := ⟨ts, l'⟩) ⟨fun t => (hts t).imp id fun x => x.mono hle, hsz, htl.mono hle, q3.rel, h.gl.mono hle⟩ this (hs.trans q3)
         | outgrown => exact this.elim
       · cases hn
     cases e with
     | ret v =>
       simp only at hk
       split at hk
       · rename_i u2 hu2
         exact main u2 hk fun {m' uw'} hm e' he => by
           cases e' <;> first | exact he.elim | exact hm.settle hu2
       · exact hk.elim
     | pan ch =>
       exact main _ hk fun {m' uw'} hm e' he => by
         cases e' <;> first | exact he.elim | exact hm.raised he
   · exact he.elim
theorem jm5 (hrel : Rel m H w) (hgl : Gl P m) {fn : Func} {args args' : Array Value} (ha : VRa m args args') (hs : args.size ≤ fn.ntmps) :
   StR P fn.ntmps false m (startE args) [] H { tmps := args' ++ Array.replicate (fn.ntmps - args'.size) undef, defers := [] } w := by
 refine ⟨fun t => .inr ?_, by have := ha.1; simp; omega, .nil, hrel, hgl⟩
 have hv := ha.getD t (VR.undef m)
 have : (args' ++ Array.replicate (fn.ntmps - args'.size) undef).getD t undef = args'.getD t undef := by
   simp only [Array.getD_eq_getD_getElem?]
   by_cases c : t < args'.size
   · rw [Array.getElem?_append_left c]
   · rw [Array.getElem?_append_right (by omega), Array.getElem?_eq_none (by omega : args'.size ≤ t)]
     simp only [Array.getElem?_replicate]
     split <;> rfl
 rw [this]; exact hv
structure Runs (P : Program) (pr : Nat → List (Nat × Nat)) (f : FuncId) (fn : Func) (c : Code) (sz : Nat) : Prop where
 find : P.funcs[f]? = some fn
 body : fn.body = some c
 name : (fn.name == "runtime.NumGoroutine") = false
 good : goodC P pr fn.ntmps c = true
 size : sz ≤ fn.ntmps
theorem j2b {H2 : Heap} {e : End} (h : kEnd k kp e H2) (ha : Ans P f args H e H2) : callW P f args H k kp := by
 cases e with
 | ret v => exact ha.ret h
 | pan c => exact ha.pan h
theorem j1e (hm : P.follows .mixedOrders = true) {pr : Nat → List (Nat × Nat)} {f : FuncId} {fn : Func} {c : Code} {args : Array Value} (r : Runs P pr f fn c args.size) {H : Heap} {k : KV} {kp : KP}
   (he : execW P pr c none (startE args) [] H (finW P fn k kp)) : callW P f args H k kp := by
 obtain ⟨o, E', ds', H', hr, hk⟩ := jh1 hm c r.good none _ _ _ _ he
 have key : ∀ wk u, isPan o = wk → exitW P fn wk E' ds' u H' k kp → (∀ m e, outE m o e → match e with | .normal | .ret => ModeR m u .returning | .panic c => ModeR m u (.panicking c) | _ => False) → callW P f args H k kp := fun wk u hw hx hmode => by
   subst hw
   obtain ⟨e, H2, h1, h2⟩ := jz9 (n := fn.ntmps) ds' u H' hx
   refine j2b h1 fun m w args' hrel hgl ha => .inr ⟨?_, ?_⟩
   · unfold callFunc
     have hn : ¬ fn.name = "runtime.NumGoroutine" := by simpa using r.name
     simp [r.find, hn, r.body]
   · refine calls_of_wp_defers r.find r.body (Go.wp_mono (hr c rfl m _ w (jm5 hrel hgl ha r.size)) fun ex a w1 ⟨m1, q1, q2, q3⟩ => ?_)
     have := hmode m1 ex q1
     cases ex with
     | normal => exact h2 q2 this q3
     | ret => exact h2 q2 this q3
     | panic c' => exact h2 q2 this q3
     | _ => exact this.elim
 cases o with
 | norm => exact key false .returning rfl hk fun m e h => by cases e <;> first | exact h.elim | exact .returning
 | ret => exact key false .returning rfl hk fun m e h => by cases e <;> first | exact h.elim | exact .returning
 | pan ch => exact key true (.panicking ch) rfl hk fun m e h => by cases e <;> first | exact h.elim | exact .panicking _ _ h
 | exit i => exact hk.elim
 | goto l => exact hk.elim
def finDW (P : Program) (fn : Func) (u : FrameMode) (kd : End → FrameMode → Heap → Prop) : KO := fun o E ds H => ds = [] ∧ match o with
 | .norm | .ret => (match resE P E H fn.results.toList with | some l => kd (.ret (oneOf l)) u H | none => False)
 | .pan c => kd (.pan c) u H
 | _ => False
theorem jj8 {fn : Func} {kd : End → FrameMode → Heap → Prop} {o : Out} {H' : Heap} (h : finDW P fn u kd o E ds H') :
   ∃ e, kd e u H' ∧ ∀ {m H w ex a w1}, OutR P n m H w o E ds H' ex a w1 → a.defers = [] ∧ (match ex with
     | .normal | .ret => ∃ v, (results fn a.tmps).run P w1 = .ok v w1 ∧ ∃ m', m.le m' ∧ EndR m' e (.returned v) ∧ Step m H w m' H' w1
     | .panic c => ∃ m', m.le m' ∧ EndR m' e (.panicked c) ∧ Step m H w m' H' w1
     | _ => False) := by
 obtain ⟨rfl, h⟩ := h
 have nil : ∀ {m wk H a w}, StR P n wk m E [] H a w → a.defers = [] := fun {m wk H a w} h => by
   have := h.defers
   generalize a.defers = dd at this ⊢
   cases this; rfl
 have ret : ∀ {l}, isPan o = false → (∀ {m e}, outE m o e → e = .normal ∨ e = .ret) → resE P E H' fn.results.toList = some l → kd (.ret (oneOf l)) u H' → ∃ e, kd e u H' ∧ ∀ {m H w ex a w1}, OutR P n m H w o E [] H' ex a w1 → a.defers = [] ∧ (match ex with
     | .normal | .ret => ∃ v, (results fn a.tmps).run P w1 = .ok v w1 ∧ ∃ m', m.le m' ∧ EndR m' e (.returned v) ∧ Step m H w m' H' w1
     | .panic c => ∃ m', m.le m' ∧ EndR m' e (.panicked c) ∧ Step m H w m' H' w1
     | _ => False) := fun {l} hp ho hl hk => ⟨_, hk, fun {m H w ex a w1} ⟨m1, q1, q2, q3⟩ => by
       rw [hp] at q2
       obtain ⟨v', r1, r2⟩ := results_sound q2 hl rfl
       refine ⟨nil q2, ?_⟩
       rcases ho q1 with rfl | rfl <;> exact ⟨v', r1, m1, q3.later.le, r2, q3⟩⟩
 cases o with
 | norm =>
   simp only at h
   split at h
   · rename_i l hl
     exact ret rfl (fun {m e} q => by cases e <;> first | exact q.elim | exact .inl rfl) hl h
   · exact h.elim
 | ret =>
   simp only at h
   split at h
   · rename_i l hl
     exact ret rfl (fun {m e} q => by cases e <;> first | exact q.elim | exact .inr rfl) hl h
   · exact h.elim
 | pan c => exact ⟨.pan c, h, fun {m H w ex a w1} ⟨m1, q1, q2, q3⟩ => ⟨nil q2, by cases ex <;> first | exact q1.elim | exact ⟨m1, q3.later.le, q1, q3⟩⟩⟩
 | exit i => exact h.elim
 | goto l => exact h.elim
theorem recM_sound {c₀ : Frame} (cs : List Frame) (h : ModeR m u c₀.mode) :
   ∃ v' u2, VR m (recM u).1 v' ∧ ModeR m (recM u).2 u2 ∧ (match recoverD (c₀ :: cs) with | some (v, cs') => v = v' ∧ cs' = { c₀ with mode := u2 } :: cs | none => v' = .nilIface ∧ u2 = c₀.mode) := by
 obtain ⟨fnx, tmpsx, todox, defx, modex, kindx, rx⟩ := c₀
 simp only at h
 cases h with
 | returning => exact ⟨.nilIface, .returning, .atom _ rfl, .returning, by simp [recoverD]⟩
 | panicking o o' ho =>
   cases o with
   | nil =>
     have : o' = [] := by have := ho.1; simpa using this.symm
     subst this
     exact ⟨.nilIface, _, .atom _ rfl, .panicking _ _ ho, by simp [recoverD]⟩
   | cons p r =>
     obtain ⟨p', r', rfl, hv, h1, h2, hr⟩ := ho.cons_inv
     obtain ⟨v, rc, ge⟩ := p
     obtain ⟨v', rc', ge'⟩ := p'
     simp only at hv h1 h2
     subst h1 h2
     by_cases e : rc = false ∧ ge = false
     · obtain ⟨rfl, rfl⟩ := e
       refine ⟨v', .panicking ({ v := v', recovered := true } :: r'), by simpa [recM] using hv, ?_, by simp [recoverD]⟩
       simp only [recM, and_self, if_true]
       exact .panicking _ _ (PanR.cons hv rfl rfl hr)
     · refine ⟨.nilIface, _, by simp only [recM, if_neg e]; exact .atom _ rfl, by simp only [recM, if_neg e]; exact .panicking _ _ ho, ?_⟩
       cases rc <;> cases ge <;> first | (exact absurd ⟨rfl, rfl⟩ e) | simp [recoverD]
theorem isRec_exec {o : Oper} (h : isRec o = true) : o.guard = none ∧ ∀ (P : Program) (ρ : Operand → Value) (w : World), (execOp ρ o).run P w = .ok .recover w := by
 unfold isRec at h
 split at h
 · rename_i c hc
   split at h
   · rename_i hcl
     simp only [Bool.and_eq_true, Option.isNone_iff_eq_none] at h
     refine ⟨h.1, fun P ρ w => ?_⟩
     simp [execOp, hc, hcl, resolve, invoke, builtin]
   · simp at h
 · simp at h
theorem j29 (hm : P.follows .mixedOrders = true) {pr : Nat → List (Nat × Nat)} {f : FuncId} {fn : Func} {c : Code} {args : Array Value} (r : Runs P pr f fn c args.size) {H : Heap} {u : FrameMode} {kd : End → FrameMode → Heap → Prop}
   (he : execW P pr c none (startE args) [] H (finDW P fn u kd)) : ∃ e H', DAns P f args u H e u H' ∧ kd e u H' := by
 obtain ⟨o, E', ds', H', hr, hk⟩ := jh1 hm c r.good none _ _ _ _ he
 obtain ⟨e, h1, h2⟩ := jj8 (n := fn.ntmps) hk
 refine ⟨e, H', fun m w args' uw hrel hgl ha hu => ?_, h1⟩
 refine (callsD_of_wp r.find r.body (R := fun e' w1 => ∃ m', m.le m' ∧ EndR m' e e' ∧ Step m H w m' H' w1) (Go.wp_mono (hr c rfl m _ w (jm5 hrel hgl ha r.size)) fun ex a w1 q => ?_)).mono fun e' uw' w1 ⟨q0, m', q1, q2, q3⟩ => ⟨m', q2, q0 ▸ hu.mono q1, q3⟩
 obtain ⟨d0, d1⟩ := h2 q
 cases ex <;> first | exact d1.elim | exact ⟨d0, d1⟩
theorem j1f (hm : P.follows .mixedOrders = true) {pr : Nat → List (Nat × Nat)} {f : FuncId} {fn : Func} {i : Nat} {ops : Array Oper} {rest : Code} {o : Oper} {os : List Oper} {args : Array Value} (hf : P.funcs[f]? = some fn) (hb : fn.body = some (.seq (.region i ops false) rest)) (hos : ops.toList = o :: os)
   (hg : (isRec o && (dstOk fn.ntmps o && (os.all (opsOk P fn.ntmps) && (goodC P pr fn.ntmps rest && Nat.ble args.size fn.ntmps)))) = true) {H : Heap} {u : FrameMode} {kd : End → FrameMode → Heap → Prop}
   (he : opsW P ops os (upd (startE args) o.dst (recM u).1) [] H (fun E ds H => execW P pr rest none E ds H (finDW P fn (recM u).2 kd)) (fun c E ds H => finDW P fn (recM u).2 kd (.pan c) E ds H)) :
   ∃ e H', DAns P f args u H e (recM u).2 H' ∧ kd e (recM u).2 H' := by
 simp only [Bool.and_eq_true] at hg
 obtain ⟨hr, hd, ho, hg, hs⟩ := hg
 obtain ⟨o1, E1, ds1, H1, h1, h2⟩ := jr2 (n := fn.ntmps) os (List.all_eq_true.1 ho) 1 (by rw [hos]; rfl) _ _ _ he
 -- the whole run's end
 have all : ∃ e H', kd e (recM u).2 H' ∧ ∀ {m a' w}, StR P fn.ntmps false m (upd (startE args) o.dst (recM u).1) [] H a' w → ∀ (Q : Exit → Act → List Frame → World → Prop) (cs : List Frame), (∀ ex a w1, (a.defers = [] ∧ (match ex with
     | .normal | .ret => ∃ v, (results fn a.tmps).run P w1 = .ok v w1 ∧ ∃ m', m.le m' ∧ EndR m' e (.returned v) ∧ Step m H w m' H' w1
     | .panic c => ∃ m', m.le m' ∧ EndR m' e (.panicked c) ∧ Step m H w m' H' w1
     | _ => False)) → Q ex a cs w1) → wpOpsS P ops (Exit.thenS (rest.wpS P Q) Q) ((List.range ops.size).drop 1) a' cs w := by
   rcases h1 with ⟨rfl, hk⟩ | ⟨c, rfl, hk⟩
   · obtain ⟨o2, E2, ds2, H2, r2, k2⟩ := jh1 hm rest hg none _ _ _ _ hk
     obtain ⟨e, g1, g2⟩ := jj8 (n := fn.ntmps) k2
     refine ⟨e, H2, g1, fun {m a' w} hst Q cs hQ => (h2 m a' w hst).2 cs _ fun ex a w1 ⟨m1, q1, q2, q3⟩ => ?_⟩
     cases ex <;> first | exact q1.elim | skip
     show rest.wpS P _ a cs w1
     exact wpS_of_wp (Go.wp_mono (r2 rest rfl m1 a w1 q2) fun ex a w2 q => hQ ex a w2 (g2 (q.of q3)))
   · obtain ⟨e, g1, g2⟩ := jj8 (n := fn.ntmps) hk
     refine ⟨e, H1, g1, fun {m a' w} hst Q cs hQ => (h2 m a' w hst).2 cs _ fun ex a w1 q => ?_⟩
     have := hQ ex a w1 (g2 q)
     obtain ⟨m1, q1, _⟩ := q
     cases ex <;> first | exact q1.elim | exact this
 obtain ⟨e, H', hk, all⟩ := all
 refine ⟨e, H', fun m w args' uw hrel hgl ha hu => ?_, hk⟩
 have hst := jm5 hrel hgl ha (Nat.le_of_ble_eq_true hs)
 obtain ⟨hgu, hex⟩ := isRec_exec hr
 refine callsD_of_wpS hf hb fun c₀ cs hc₀ => ?_
 subst hc₀
 obtain ⟨v', u2, hv', hu2, hrec⟩ := recM_sound cs hu
 have ho : ops[0]? = some o := by rw [← Array.getElem?_toList, hos]; rfl
 have hsz : 0 < ops.size := by rw [← Array.length_toList, hos]; simp
 have hdr : List.range ops.size = 0 :: (List.range ops.size).drop 1 := by
   have := List.drop_eq_getElem_cons (l := List.range ops.size) (i := 0) (by simpa using hsz)
   simpa using this
 have hw : Region.wanted o (yielded ops (args' ++ Array.replicate (fn.ntmps - args'.size) undef)) = true := by simp [Region.wanted, hgu]
 have main := all (hst.put hd hv') (bodyPostS P fn c₀ cs fun e' uw' w1 => ∃ m', EndR m' e e' ∧ ModeR m' (recM u).2 uw' ∧ Step m H w m' H' w1) ({ c₀ with mode := u2 } :: cs) fun ex a w1 ⟨d0, d1⟩ => by
   cases ex with
   | normal => obtain ⟨v, r1, m', r2, r3, r4⟩ := d1; exact ⟨d0, u2, rfl, v, r1, m', r3, hu2.mono r2, r4⟩
   | ret => obtain ⟨v, r1, m', r2, r3, r4⟩ := d1; exact ⟨d0, u2, rfl, v, r1, m', r3, hu2.mono r2, r4⟩
   | panic c => obtain ⟨m', r2, r3, r4⟩ := d1; exact ⟨d0, u2, rfl, m', r3, hu2.mono r2, r4⟩
   | _ => exact d1.elim
 refine wpS_seq (wpS_region ?_)
 rw [hdr]
 show wpOpsS P ops _ (0 :: (List.range ops.size).drop 1) _ (c₀ :: cs) w
 simp only [wpOpsS, ho, hw, if_true]
 rw [hex]
 simp only
 cases hrd : recoverD (c₀ :: cs) with
 | some x =>
   obtain ⟨v, cs'⟩ := x
   rw [hrd] at hrec
   simp only at hrec
   obtain ⟨rfl, rfl⟩ := hrec
   exact main
 | none =>
   rw [hrd] at hrec
   simp only at hrec
   obtain ⟨rfl, rfl⟩ := hrec
   exact main
/-! Around calls. -/
theorem ja4 {H0 : Heap} (g : Ghost H H0) (h : callW P f args H0 (fun v H1 => ∃ H', Ghost H1 H' ∧ k v H') (fun c H1 => ∃ H', Ghost H1 H' ∧ kp c H')) : callW P f args H k kp := by
 rcases h with ⟨v, H1, h1, H', h2, h3⟩ | ⟨c, H1, h1, H', h2, h3⟩
 · exact (h1.ghost g h2).ret h3
 · exact (h1.ghost g h2).pan h3
theorem j2c {L : List (Nat × Blk)} (d : Beside H L) (h : callW P f args H (fun v H' => k v (H'.plus L)) (fun c H' => kp c (H'.plus L))) : callW P f args (H.plus L) k kp := by
 rcases h with ⟨v, H1, h1, h2⟩ | ⟨c, H1, h1, h2⟩
 · exact (h1.beside d).ret h2
 · exact (h1.beside d).pan h2
theorem ja6 {b : BE} {k : KO} (I : Nat → KE) (step : ∀ (Z : KE) i E ds H, I i E ds H → (∀ j E' ds' H', j < i → I j E' ds' H' → Z E' ds' H') → b E ds H (thenW (fun E ds H _ => Z E ds H) k)) {i : Nat} {E : Env} {ds : List Deferred} {H : Heap} (h : I i E ds H) : loopW b E ds H k := by
 have : ∀ m i E ds H, i < m → I i E ds H → loopN b m E ds H k := by
   intro m
   induction m with
   | zero => intro i E ds H hi; omega
   | succ m ih =>
     intro i E ds H hi hI
     have := step (fun E ds H => loopN b m E ds H k) i E ds H hI fun j E' ds' H' hj hJ => ih j E' ds' H' (by omega) hJ
     have e : thenW (fun E ds H _ => loopN b m E ds H k) k = thenW (loopN b m) k := by
       funext o; cases o <;> rfl
     rw [e] at this
     exact this
 exact ⟨i + 1, this _ i E ds H (Nat.lt_succ_self _) h⟩
end Go.Am
