/- Regions that draw their order, with a mapping that is written down: every order comes to the text's. -/
import Derived.Test.YtpfpfpeockbbpaaGreatDoorAmLK
namespace Go.Am
section
variable {P : Program} {X : Xf} {K : Kf} {ops : Array Oper} {G : Gath} {A : Nat → Act} {Hs : Nat → Heap} {m0 : Mp} {w0 : World}
/-- What is taken up at the end. -/
def gBlk (G : Gath) (ops : List Oper) (af : Act) : Blk := ⟨[], false, 0, some (.map (entsA G ops af).toArray 0), none⟩
theorem GSt.idle {G : Gath} {l : List Oper} {af : Act} {L : Nat → Bool} {m m2 : Mp} {Rs : Nat → Prop} {ar ar2 : Act} {w w2 : World} {c0 i : Nat} {o : Oper} (h : GSt G l af L m Rs ar w c0) (ho : l[i]? = some o) (hi : inG G i o = false) (hm : m.le m2) (hw : w2.heap[c0]? = w.heap[c0]?)
    (ha : ∀ t, G.zs.contains t = true → ar2.tmps[t]? = ar.tmps[t]?) (htz : G.zs.contains G.t = true) (hzs : ∀ (j : Nat) (o : Oper) (x t : Tmp), j ≠ G.g → l[j]? = some o → tailOf G.zs o = some (x, t) → G.zs.contains t = true) :
    GSt G l af (fun j => if j = i then true else L j) m2 Rs ar2 w2 c0 := by
  obtain ⟨h1, ⟨es, clock, is, en, o1, o2, o3, o4, o5⟩, h3, h4⟩ := h
  unfold inG at hi
  simp only [Bool.or_eq_false_iff, Option.isSome_eq_false_iff, Option.isNone_iff_eq_none] at hi
  refine ⟨h1, ⟨es, clock, is, en, by rw [hw]; exact o1, o2, o3, fun k => ?_, fun k o' x a b c => ⟨(o5 k o' x a b c).1, (o5 k o' x a b c).2.mono hm⟩⟩, fun v hv => h3 v (by rw [← ha _ htz]; exact hv), fun j o' x t hj ho' hx hL v hv => ?_⟩
  · rw [o4]
    by_cases e : k = i
    · subst e
      simp only [if_true, true_and]
      constructor
      · rintro ⟨_, y⟩; exact y
      · rintro ⟨o', x, q1, q2⟩
        rw [ho] at q1; simp only [Option.some.injEq] at q1; subst q1
        rw [hi.2.1] at q2; cases q2
    · simp only [e, if_false]
  · by_cases e : j = i
    · subst e
      rw [ho] at ho'; simp only [Option.some.injEq] at ho'; subst ho'
      rw [hi.2.2] at hx; cases hx
    · simp only [e, if_false] at hL
      exact h4 j o' x t hj ho' hx hL v (by rw [← ha t (hzs j o' x t hj ho' hx)]; exact hv)

theorem gath_all (hX : XSnd P X) (hK : KSnd P K) (ok : GOk P G ops.toList) (ht : Tra P X K (maskL G ops.toList).toArray A Hs) (hz : ∀ t, G.zs.contains t = true → t < (A 0).tmps.size) {Q : Exit → Act → World → Prop}
    (hQ : ∀ m a' w', Rel m ((Hs ops.toList.length).allocB (gBlk G ops.toList (A ops.toList.length))) w' → Gl P m → ActR m (fillA G (A ops.toList.length) (Hs ops.toList.length).next) a' →
      Step m0 (Hs 0) w0 m ((Hs ops.toList.length).allocB (gBlk G ops.toList (A ops.toList.length))) w' → Q .normal a' w') :
    ∀ (fuel : Nat) (L : Array Bool) (C : Nat → Nat) (q : Nat) (m : Mp) (ar : Act) (w' : World) (Rs : Nat → Prop), L.size = ops.size → Down ops.toList (fun i => L.getD i false) → (List.range ops.size).countP (fun i => !L.getD i false) ≤ fuel →
      Pv P (maskL G ops.toList).toArray A Hs m0 w0 Rs (fun i => L.getD i false) C q m (hideA G ar) w' → QEff P (maskL G ops.toList).toArray (fun i => L.getD i false) q →
      (L.getD G.g false = true → ∃ c0, GSt G ops.toList (A ops.toList.length) (fun i => L.getD i false) m Rs ar w' c0) → wpAny P .any ops Q fuel L ar w' := by
  have hs : StaF P (maskL G ops.toList).toArray.toList := ok.draw
  have hlen : ops.toList.length = ops.size := by simp
  have hlenM : (maskL G ops.toList).toArray.toList.length = ops.toList.length := by simp [maskL]
  have getM : ∀ {i : Nat} {o : Oper}, ops.toList[i]? = some o → (maskL G ops.toList).toArray.toList[i]? = some (maskO G i o) := fun {i o} h => by
    show (maskL G ops.toList)[i]? = _
    rw [maskL_get, h]; rfl
  have getB : ∀ {i : Nat} {o' : Oper}, (maskL G ops.toList).toArray.toList[i]? = some o' → ∃ o, ops.toList[i]? = some o ∧ o' = maskO G i o := fun {i o'} h => by
    have h : (maskL G ops.toList)[i]? = some o' := h
    rw [maskL_get] at h
    obtain ⟨o, h1, h2⟩ := Option.map_eq_some_iff.1 h
    exact ⟨o, h1, h2.symm⟩
  have downM : ∀ {L : Nat → Bool}, Down ops.toList L → Down (maskL G ops.toList).toArray.toList L := fun hd i o' h hL e he hb => by
    obtain ⟨o, h1, rfl⟩ := getB h
    rw [maskO_after] at he
    exact hd i o h1 hL e he hb
  have hmk : masks (maskL G ops.toList).toArray.toList [] = masks ops.toList [] := masks_mask G ops.toList
  have hzs : ∀ (j : Nat) (o : Oper) (x t : Tmp), j ≠ G.g → ops.toList[j]? = some o → tailOf G.zs o = some (x, t) → G.zs.contains t = true := fun j o x t hj ho hx => by
    have hn : insOf G.t o = none := by
      cases e : insOf G.t o with
      | none => rfl
      | some y => rw [ins_not_tail e] at hx; cases hx
    have := (ok.tail j o (x, t) ho hj hn hx).2
    unfold gathTail at this
    simp only [Bool.and_eq_true] at this
    exact this.1
  obtain ⟨og, tyg, hg1, hg2, hg3⟩ := ok.g
  have hglt := lt_len hg1
  have final : ∀ (L : Array Bool) (C : Nat → Nat) (q : Nat) (m : Mp) (ar : Act) (w' : World) (Rs : Nat → Prop), L.size = ops.size → Pv P (maskL G ops.toList).toArray A Hs m0 w0 Rs (fun i => L.getD i false) C q m (hideA G ar) w' →
      QEff P (maskL G ops.toList).toArray (fun i => L.getD i false) q → (L.getD G.g false = true → ∃ c0, GSt G ops.toList (A ops.toList.length) (fun i => L.getD i false) m Rs ar w' c0) → Region.ready .any ops L = [] → Q .normal ar w' := by
    intro L C q m ar w' Rs hsz hi hqe hgs hr
    have all : ∀ i, i < ops.size → L.getD i false = true := by
      intro i
      induction i using Nat.strongRecOn with
      | _ i ih =>
        intro hlt
        cases e : L.getD i false with
        | true => rfl
        | false =>
          have hmem : i ∈ Region.ready .any ops L := by
            rw [mem_ready]
            refine ⟨?_, ops[i], Array.getElem?_eq_getElem hlt, ?_⟩
            · have hlt2 : i < L.size := by omega
              simp only [Array.getD, hlt2, dif_pos] at e ⊢
              exact e
            · intro x hx hb
              have hlt3 := hs.edge i (maskO G i ops[i]) (getM (by simp)) x (by rw [maskO_after]; exact hx) hb
              exact ih x.on hlt3 (by omega)
          rw [hr] at hmem; simp at hmem
    have hq : q = ops.toList.length := by
      rcases Nat.eq_or_lt_of_le hi.ple with e | e
      · rw [e, hlenM]
      · have := (hqe _ (List.getElem?_eq_getElem e)).2
        have this : L.getD q false = false := this
        rw [all q (by rw [hlenM] at e; omega)] at this; simp at this
    subst hq
    obtain ⟨c0, gs⟩ := hgs (all G.g (by omega))
    obtain ⟨ob, hob, hlk⟩ := gs.looks ok (fun i h => all i (by omega))
    obtain ⟨r1, r2, r3, _⟩ := hi.res c0 gs.rs
    have hl : Lies m w' (gBlk G ops.toList (A ops.toList.length)) ⟨c0, 0, 0, 0⟩ := by
      refine ⟨rfl, by simp [gBlk], fun h => by simp [gBlk] at h, fun o ho => ?_, fun t n e => by simp [gBlk] at e⟩
      simp only [gBlk, Option.some.injEq] at ho
      subst ho
      exact ⟨rfl, ob, hob, .inr ⟨rfl, hlk⟩⟩
    have st := hi.step.adopt _ ⟨c0, 0, 0, 0⟩ hl r1 r2 r3
    have hle : m.le (m.add (Hs ops.toList.length).next ⟨c0, 0, 0, 0⟩) := Mp.le_add (hi.rel.fresh _ (Nat.le_refl _)).1
    have hsz2 := ht.size ops.toList.length (by rw [hlenM]; omega)
    refine hQ _ ar w' st.rel (hi.gl.mono hle) ⟨⟨?_, fun t h1 h2 => ?_⟩, ?_⟩ st
    · have := hi.size
      rw [hide_size] at this
      simp only [fillA, Array.size_mapIdx]
      rw [hsz2]; exact this
    · have hA : (A ops.toList.length).tmps[t]? = some ((A ops.toList.length).tmps[t]'(by simpa [fillA] using h1)) := Array.getElem?_eq_getElem _
      have e1 := fill_get G (A ops.toList.length) (Hs ops.toList.length).next t
      rw [Array.getElem?_eq_getElem h1, hA] at e1
      simp only [Option.map_some, Option.some.injEq] at e1
      rw [e1]
      have e2 := Array.getElem?_eq_getElem h2
      cases hzt : G.zs.contains t with
      | true =>
        simp only [cond_true]
        have hv : ar.tmps[t] = .map (some c0) := by
          rcases ok.zs t hzt with e | ⟨j, o, x, hj, ho, hx⟩
          · subst e; exact gs.slot _ e2
          · exact gs.tails j o x t hj ho hx (all j (by have := lt_len ho; omega)) _ e2
        rw [hv]
        exact VR.map _ ⟨c0, 0, 0, 0⟩ (by simp [Mp.add])
      | false =>
        simp only [cond_false]
        have e3 : (hideA G ar).tmps[t]? = some ar.tmps[t] := by
          rw [hide_get, e2, hzt]; rfl
        refine VR.mono hle ?_
        by_cases hw : ∃ (j : Nat) (oj : Oper), (maskL G ops.toList).toArray.toList[j]? = some oj ∧ oj.dst = some t
        · obtain ⟨j, oj, hj, hjd⟩ := hw
          have hj2 := lt_len hj
          exact hi.done j oj t _ _ hj hjd (all j (by rw [hlenM] at hj2; omega)) (fun _ => by rw [hlenM] at hj2; exact hj2) (by rw [hlenM]; exact hA) e3
        · have hsl := ht.slot t 0 ops.toList.length (by rw [hlenM]; omega) (fun k ok _ _ c d => hw ⟨k, ok, c, d⟩)
          rw [Nat.zero_add] at hsl
          refine hi.kept t _ _ (fun j oj a _ c => hw ⟨j, oj, a, c⟩) ?_ e3
          rw [← hsl]; exact hA
    · have := ht.defers ops.toList.length (by rw [hlenM]; omega)
      show DRs _ (A ops.toList.length).defers ar.defers
      rw [this]; exact hi.defers.mono hle
  intro fuel
  induction fuel with
  | zero =>
    intro L C q m ar w' Rs hsz hd hc hi hqe hgs
    have hr : Region.ready .any ops L = [] := by
      rw [List.eq_nil_iff_forall_not_mem]
      intro i hmem
      rw [mem_ready] at hmem
      obtain ⟨h0, o, ho, _⟩ := hmem
      have hlt := (Array.getElem?_eq_some_iff.1 ho).1
      have : 0 < (List.range ops.size).countP (fun i => !L.getD i false) := by
        rw [List.countP_pos_iff]
        refine ⟨i, List.mem_range.2 hlt, ?_⟩
        have hlt2 : i < L.size := by omega
        have hL' : L.getD i false = false := by
          simp only [Array.getD, hlt2, dif_pos] at h0 ⊢
          exact h0
        simp only [hL']; rfl
      omega
    exact ⟨hr, final L C q m ar w' Rs hsz hi hqe hgs hr⟩
  | succ fuel ih =>
    intro L C q m ar w' Rs hsz hd hc hi hqe hgs
    refine ⟨final L C q m ar w' Rs hsz hi hqe hgs, fun i hmem => ?_⟩
    rw [mem_ready] at hmem
    obtain ⟨h0, o, ho, hp⟩ := hmem
    have hlt := (Array.getElem?_eq_some_iff.1 ho).1
    have hlt2 : i < L.size := by omega
    have hL : L.getD i false = false := by
      simp only [Array.getD, hlt2, dif_pos] at h0 ⊢; exact h0
    have ho' : ops.toList[i]? = some o := by simpa using ho
    have hoM := getM ho'
    have hgn : o.guard = none := ok.gn i o ho'
    have hset : ∀ j, (L.setIfInBounds i true).getD j false = if j = i then true else L.getD j false := by
      intro j
      by_cases e : j = i
      · subst e; simp [hlt2]
      · have : i ≠ j := Ne.symm e
        rw [getD_set_ne false this]; simp [e]
    have hfun : (fun j => (L.setIfInBounds i true).getD j false) = fun j => if j = i then true else L.getD j false := funext hset
    have hd2 : Down ops.toList (fun j => (L.setIfInBounds i true).getD j false) := by
      intro j oj hj hLj e he hb
      simp only [hset] at hLj ⊢
      by_cases ej : j = i
      · subst ej
        rw [ho'] at hj; simp only [Option.some.injEq] at hj; subst hj
        have := hp e he hb
        by_cases ee : e.on = j <;> simp [ee, this]
      · simp only [ej, if_false] at hLj
        have := hd j oj hj hLj e he hb
        by_cases ee : e.on = i <;> simp [ee, this]
    have hc2 : (List.range ops.size).countP (fun j => !(L.setIfInBounds i true).getD j false) ≤ fuel := by
      have := count_lt (p := fun j => !L.getD j false) (q := fun j => !(L.setIfInBounds i true).getD j false) (List.range ops.size)
        (fun x _ hx => by
          simp only [hset] at hx
          by_cases e : x = i
          · simp [e] at hx
          · simpa [e] using hx) ⟨i, List.mem_range.2 hlt, by simp [hL], by simp [hset]⟩
      omega
    -- what waits for the mapping's making
    have behind : ((masks ops.toList []).getD i 0).testBit G.g = true → L.getD G.g false = true := fun hb =>
      downF_bit hs (downM hd) i (maskO G i o) G.g hoM (fun e he hbe => by rw [maskO_after] at he; exact hp e he hbe) (by rw [hmk]; exact hb)
    have behind2 : ∀ j, ((masks ops.toList []).getD i 0).testBit j = true → L.getD j false = true := fun j hb =>
      downF_bit hs (downM hd) i (maskO G i o) j hoM (fun e he hbe => by rw [maskO_after] at he; exact hp e he hbe) (by rw [hmk]; exact hb)
    have done_g : ∀ (j : Nat) (oj : Oper), ops.toList[j]? = some oj → L.getD j false = true → ((masks ops.toList []).getD j 0).testBit G.g = true → L.getD G.g false = true := fun j oj hj hLj hb =>
      downF_bit hs (downM hd) j (maskO G j oj) G.g (getM hj) (fun e he hbe => by rw [maskO_after] at he; exact hd j oj hj hLj e he hbe) (by rw [hmk]; exact hb)
    have on : ∀ {C2 : Nat → Nat} {p2 : Nat} {m2 : Mp} {ar2 : Act} {w2 : World} {Rs2 : Nat → Prop}, Pv P (maskL G ops.toList).toArray A Hs m0 w0 Rs2 (fun j => if j = i then true else L.getD j false) C2 p2 m2 (hideA G ar2) w2 →
        ((if G.g = i then true else L.getD G.g false) = true → ∃ c0, GSt G ops.toList (A ops.toList.length) (fun j => if j = i then true else L.getD j false) m2 Rs2 ar2 w2 c0) → wpAny P .any ops Q fuel (L.setIfInBounds i true) ar2 w2 := by
      intro C2 p2 m2 ar2 w2 Rs2 hp2 hg2'
      obtain ⟨q3, m3, h3, e3, le3⟩ := hp2.settle hs ht ((maskL G ops.toList).toArray.toList.length - p2) p2 m2 (by have := hp2.ple; omega)
      refine ih (L.setIfInBounds i true) C2 q3 m3 ar2 w2 Rs2 (by simpa using hsz) hd2 hc2 ?_ ?_ ?_
      · rw [hfun]; exact h3
      · rw [hfun]; exact e3
      · rw [hset, hfun]
        intro hh
        obtain ⟨c0, gs⟩ := hg2' hh
        exact ⟨c0, gs.mono le3⟩
    have szA : ∀ t, G.zs.contains t = true → t < ar.tmps.size := fun t h => by
      have h2 := hi.size
      rw [hide_size] at h2
      exact Nat.lt_of_lt_of_eq (hz t h) h2
    unfold wpOp
    simp only [ho]
    rw [if_pos (by simp [Region.wanted, hgn])]
    left
    unfold Oper.wp
    cases hin : inG G i o with
    | false =>
      obtain ⟨hod, hoo⟩ := ok.oth i o ho' hin
      have hM : maskO G i o = o := maskO_out hin
      rw [hM] at hoM
      have hig : G.g ≠ i := fun e => by
        unfold inG at hin
        rw [e] at hin
        simp at hin
      refine hi.oper hX hK hs ht hqe (downM hd) hoM hp hL hgn (ar := ar) (fun x hx => hide_eval (fun t e => hoo x hx t e) ar) fun C2 p2 m2 v' w2 hpv hle hkeep => ?_
      rw [← hide_out (fun t e => hod t e)] at hpv
      refine on hpv fun hh => ?_
      rw [if_neg hig] at hh
      obtain ⟨c0, gs⟩ := hgs hh
      obtain ⟨r1, _, r3, _⟩ := hi.res c0 gs.rs
      refine ⟨c0, gs.idle ho' hin hle (hkeep c0 r1 r3) (fun t ht2 => put_get _ _ _ _ fun e => ?_) ok.tz hzs⟩
      rw [hod t e] at ht2; cases ht2
    | true =>
      obtain ⟨hMop, hMd⟩ := maskO_in hin
      have hMg : (maskO G i o).guard = none := by rw [maskO_guard]; exact hgn
      by_cases hig : i = G.g
      · -- it is made
        subst hig
        rw [hg1] at ho'; simp only [Option.some.injEq] at ho'; subst ho'
        have fr : Frees P og.op (fun c => .map (some c)) (.map #[] 0) ⟨[], true, 0, some (.map #[] 0), none⟩ 0 := by rw [hg2]; exact .map tyg
        refine upon_free fr ?_
        have pv1 := hi.idle hs ht hoM hMop hMg hMd (Step.pushed hi.rel (.map #[] 0))
        have pv2 := pv1.reserve (c := w'.heap.size) (by show w'.heap.size < (w'.heap.push _).size; simp) hi.step.keep.size (fun b Lc hb => by have := hi.rel.bound b Lc hb; omega) (fun j oj h1 h2 h3 h4 => by
          have hji : j ≠ G.g := fun e => by
            subst e
            rw [hoM] at h2; simp only [Option.some.injEq] at h2; subst h2
            unfold freeA at h3; rw [hMop] at h3; cases h3
          simp only [hji, if_false] at h4
          have := hi.pend_lt j oj h1 h2 h3 h4
          omega)
        refine on (Rs2 := fun k => k = w'.heap.size) (ar2 := ar.put og.dst (.map (some w'.heap.size))) (by rw [hg3, hide_in ok.tz]; exact pv2) fun _ => ⟨w'.heap.size, rfl, ⟨#[], 0, [], fun _ => default, by show (w'.heap.push _)[w'.heap.size]? = _; simp, rfl, List.nodup_nil, fun k => ?_, fun k _ _ hk => by cases hk⟩, fun v hv => ?_, fun j oj x t hj hoj hx hLj v hv => ?_⟩
        · constructor
          · intro h; cases h
          · rintro ⟨h1, ok1, x, h2, h3⟩
            exfalso
            have hkg := ok.notg h2 h3
            simp only [hkg, if_false] at h1
            have := done_g k ok1 h2 h1 (ok.ins k ok1 x h2 hkg h3).2.1
            rw [this] at hL; cases hL
        · rw [hg3] at hv
          simp only [Act.put, Array.getElem?_setIfInBounds, if_true, szA _ ok.tz, Option.some.injEq] at hv
          exact hv.symm
        · exfalso
          simp only [hj, if_false] at hLj
          have hn : insOf G.t oj = none := by
            cases e : insOf G.t oj with
            | none => rfl
            | some y => rw [ins_not_tail e] at hx; cases hx
          have := done_g j oj hoj hLj (ok.tail j oj (x, t) hoj hj hn hx).1
          rw [this] at hL; cases hL
      · cases hins : insOf G.t o with
        | some x =>
          -- an entry
          obtain ⟨hdn, hbg, hgi⟩ := ok.ins i o x ho' hig hins
          obtain ⟨c0, gs⟩ := hgs (behind hbg)
          obtain ⟨es, clock, is, en, o1, o2, o3, o4, o5⟩ := gs.obj
          obtain ⟨r1, _, r3, _⟩ := hi.res c0 gs.rs
          have hop := insOf_spec hins
          obtain ⟨ty, kd, n, vt⟩ := x
          simp only at hop
          unfold gathIns at hgi
          simp only [Bool.and_eq_true] at hgi
          obtain ⟨hty, hvz, hdef, _⟩ := hgi
          have hty2 : ∃ kt et k0, P.underlying ty = some (.map kt et) ∧ P.underlying kt = some (.int k0) := by
            split at hty
            · rename_i kt et hu
              split at hty
              · rename_i k0 hu2; exact ⟨kt, et, k0, hu, hu2⟩
              · cases hty
            · cases hty
          obtain ⟨kt, et, k0, hu, hu2⟩ := hty2
          have hslot : ar.eval (.tmp G.t) = .map (some c0) := by
            have h1 := szA _ ok.tz
            simp only [Act.eval, Array.getD_eq_getD_getElem?, Array.getElem?_eq_getElem h1, Option.getD_some]
            exact gs.slot _ (Array.getElem?_eq_getElem h1)
          have hvr : VR m ((A ops.toList.length).tmps.getD vt undef) (ar.tmps.getD vt undef) := by
            simp only [List.any_eq_true, List.mem_range, Bool.and_eq_true] at hdef
            obtain ⟨j, hj, hjb, hjm⟩ := hdef
            split at hjm
            · rename_i oj hoj
              simp only [Bool.and_eq_true, beq_iff_eq, Bool.not_eq_true'] at hjm
              obtain ⟨hjd, hjG, hjf⟩ := hjm
              have hLj := behind2 j hjb
              have hMj : maskO G j oj = oj := maskO_out hjG
              have hojM := getM hoj
              rw [hMj] at hojM
              have hsz2 := ht.size ops.toList.length (by rw [hlenM]; omega)
              have h2 := hi.size
              rw [hide_size] at h2
              by_cases hvs : vt < ar.tmps.size
              · have hvs2 : vt < (A ops.toList.length).tmps.size := Nat.lt_of_lt_of_eq hvs (hsz2.trans h2).symm
                have e1 : (hideA G ar).tmps[vt]? = some ar.tmps[vt] := by
                  rw [hide_get, Array.getElem?_eq_getElem hvs]
                  have : G.zs.contains vt = false := by simpa using hvz
                  rw [this]; rfl
                have := hi.done j oj vt ((A ops.toList.length).tmps[vt]) ar.tmps[vt] hojM hjd hLj (fun hf => by rw [hjf] at hf; cases hf) (by rw [hlenM]; exact Array.getElem?_eq_getElem hvs2) e1
                simp only [Array.getD, hvs, hvs2, dif_pos]; exact this
              · have hvs2 : ¬ vt < (A ops.toList.length).tmps.size := fun c => hvs (Nat.lt_of_lt_of_eq c (hsz2.trans h2))
                simp only [Array.getD, hvs, hvs2, dif_neg, not_false_eq_true]; exact VR.undef m
            · cases hjm
          have hni : i ∉ is := fun h => by rw [((o4 i).1 h).1] at hL; cases hL
          have habs : Instr.findNow (.int k0) (.int kd n) es.toList 0 = some none := findNow_absent rfl _ _ fun e he => by
            rw [o2] at he
            obtain ⟨k, hk, rfl⟩ := List.mem_map.1 he
            obtain ⟨_, ok1, y, hy1, hy2⟩ := (o4 k).1 hk
            have hk2 := ok.keys hy1 ho' hy2 hins
            refine ⟨y.2.2.1, by rw [(o5 k ok1 y hk hy1 hy2).1, hk2.1], hk2.2 fun e => hni (e ▸ hk)⟩
          have hget : (getObj c0).run P w' = .ok (.map es clock) w' := by simp [getObj, Sem.run, o1]
          have hset2 : ∀ o2, (setObj c0 o2).run P w' = .ok () { w' with heap := w'.heap.setIfInBounds c0 o2 } := fun o2 => by simp [setObj, Sem.run, o1]
          have hck := run_checkKey (P := P) (w := w') false 9999 hu2 (k := .int kd n) rfl
          have hfk := run_findKey (P := P) (w := w') hu2 habs
          have hrun : (Instr.mapUpdate ty (.map (some c0)) (.int kd n) (ar.tmps.getD vt undef)).run P w' = .ok () { w' with heap := w'.heap.setIfInBounds c0 (.map (es.push { key := .int kd n, val := ar.tmps.getD vt undef, born := clock }) (clock + 1)) } := by
            simp only [Instr.mapUpdate, Sem.run_bind, run_und hu, Result.andThen_ok, hget]
            rw [hck]
            simp only [Result.andThen_ok, hfk, hset2]
          have hex : (execOp ar.eval o).run P w' = .ok .skip { w' with heap := w'.heap.setIfInBounds c0 (.map (es.push { key := .int kd n, val := ar.tmps.getD vt undef, born := clock }) (clock + 1)) } := by
            simp only [execOp, hop]
            rw [hslot]
            have hc : ar.eval (.const (.int kd n)) = .int kd n := rfl
            have hv : ar.eval (.tmp vt) = ar.tmps.getD vt undef := rfl
            rw [hc, hv]
            simp only [Sem.run_bind, hrun, Result.andThen_ok, Sem.run_pure]
          rw [hex]
          show wpAny P .any ops Q fuel (L.setIfInBounds i true) (ar.put o.dst undef) _
          rw [hdn]
          show wpAny P .any ops Q fuel (L.setIfInBounds i true) ar _
          have pv1 := (hi.world gs.rs (.map (es.push { key := .int kd n, val := ar.tmps.getD vt undef, born := clock }) (clock + 1)))
          have pv2 := pv1.idle hs ht hoM hMop hMg hMd (Step.refl pv1.rel)
          refine on pv2 fun _ => ⟨c0, gs.rs, ⟨es.push { key := .int kd n, val := ar.tmps.getD vt undef, born := clock }, clock + 1, is ++ [i], fun j => if j = i then { key := .int kd n, val := ar.tmps.getD vt undef, born := clock } else en j, by show (w'.heap.setIfInBounds c0 _)[c0]? = _; rw [Array.getElem?_setIfInBounds]; simp [r1], ?_, ?_, fun k => ?_, fun k ok1 y hk hy1 hy2 => ?_⟩, gs.slot, fun j oj y t hj hoj hy hLj => ?_⟩
          · rw [Array.toList_push, o2, List.map_append]
            congr 1
            · refine List.map_congr_left fun k hk => ?_
              have : k ≠ i := fun e => hni (e ▸ hk)
              simp [this]
            · simp
          · rw [List.nodup_append]
            refine ⟨o3, by simp, fun a ha b hb => ?_⟩
            simp only [List.mem_singleton] at hb
            subst hb
            exact fun e => hni (e ▸ ha)
          · rw [List.mem_append, List.mem_singleton, o4]
            by_cases e : k = i
            · subst e
              simp only [or_true, if_true, true_and, true_iff]
              exact ⟨o, _, ho', hins⟩
            · simp only [e, or_false, if_false]
          · by_cases e : k = i
            · subst e
              rw [ho'] at hy1; simp only [Option.some.injEq] at hy1; subst hy1
              rw [hins] at hy2; simp only [Option.some.injEq] at hy2; subst hy2
              simp only [if_true]
              exact ⟨trivial, hvr⟩
            · simp only [e, if_false]
              rw [List.mem_append, List.mem_singleton] at hk
              rcases hk with hk | hk
              · exact o5 k ok1 y hk hy1 hy2
              · exact absurd hk e
          · by_cases e : j = i
            · subst e
              rw [ho'] at hoj; simp only [Option.some.injEq] at hoj; subst hoj
              rw [ins_not_tail hins] at hy; cases hy
            · simp only [e, if_false] at hLj
              exact gs.tails j oj y t hj hoj hy hLj
        | none =>
          -- where it goes
          have htl : ∃ x d, tailOf G.zs o = some (x, d) := by
            unfold inG at hin
            rw [ne_beq hig, hins] at hin
            simp only [Bool.false_or, Option.isSome_none] at hin
            obtain ⟨⟨x, d⟩, h⟩ := Option.isSome_iff_exists.1 hin
            exact ⟨x, d, h⟩
          obtain ⟨x, d, htl⟩ := htl
          obtain ⟨hbg, hgt⟩ := ok.tail i o (x, d) ho' hig hins htl
          obtain ⟨c0, gs⟩ := hgs (behind hbg)
          obtain ⟨hop, hod, hxz⟩ := tailOf_spec htl
          unfold gathTail at hgt
          simp only [Bool.and_eq_true, Bool.or_eq_true, beq_iff_eq] at hgt
          obtain ⟨hdz, hsrc⟩ := hgt
          have hval : ar.eval (.tmp x) = .map (some c0) := by
            have h1 := szA _ hxz
            simp only [Act.eval, Array.getD_eq_getD_getElem?, Array.getElem?_eq_getElem h1, Option.getD_some]
            rcases hsrc with e | hsrc
            · subst e; exact gs.slot _ (Array.getElem?_eq_getElem h1)
            · simp only [List.any_eq_true, List.mem_range, Bool.and_eq_true] at hsrc
              obtain ⟨j, hj, hjb, hjm⟩ := hsrc
              split at hjm
              · rename_i y d' hb
                simp only [Bool.and_eq_true, beq_iff_eq, Bool.not_eq_true'] at hjm
                obtain ⟨rfl, hjg⟩ := hjm
                obtain ⟨oj, hoj, hy⟩ := Option.bind_eq_some_iff.1 hb
                exact gs.tails j oj y d' (beq_ne hjg) hoj hy (behind2 j hjb) _ (Array.getElem?_eq_getElem h1)
              · cases hjm
          have hex : (execOp ar.eval o).run P w' = .ok (.value (.map (some c0))) w' := by
            rcases hop with hop | hop <;> simp only [execOp, hop, hval, Sem.run_pure]
          rw [hex]
          show wpAny P .any ops Q fuel (L.setIfInBounds i true) (ar.put o.dst (.map (some c0))) w'
          rw [hod]
          have pv2 := hi.idle hs ht hoM hMop hMg hMd (Step.refl hi.rel)
          have put_z : ∀ (t : Nat) (v : Value), (ar.put (some d) (.map (some c0))).tmps[t]? = some v → v = .map (some c0) ∨ (d ≠ t ∧ ar.tmps[t]? = some v) := fun t v hv => by
            by_cases e : d = t
            · subst e
              simp only [Act.put, Array.getElem?_setIfInBounds, if_true] at hv
              split at hv
              · simp only [Option.some.injEq] at hv; exact .inl hv.symm
              · cases hv
            · rw [put_get _ _ _ _ (by simpa using e)] at hv; exact .inr ⟨e, hv⟩
          obtain ⟨es, clock, is, en, o1, o2, o3, o4, o5⟩ := gs.obj
          refine on (ar2 := ar.put (some d) (.map (some c0))) (by rw [hide_in hdz]; exact pv2) fun _ => ⟨c0, gs.rs, ⟨es, clock, is, en, o1, o2, o3, fun k => ?_, o5⟩, fun v hv => ?_, fun j oj y t hj hoj hy hLj v hv => ?_⟩
          · rw [o4]
            by_cases e : k = i
            · subst e
              simp only [if_true, true_and]
              constructor
              · rintro ⟨_, y⟩; exact y
              · rintro ⟨o', y, q1, q2⟩
                rw [ho'] at q1; simp only [Option.some.injEq] at q1; subst q1
                rw [hins] at q2; cases q2
            · simp only [e, if_false]
          · rcases put_z _ v hv with e | ⟨_, e⟩
            · exact e
            · exact gs.slot v e
          · rcases put_z _ v hv with e | ⟨e', e⟩
            · exact e
            · by_cases ej : j = i
              · subst ej
                rw [ho'] at hoj; simp only [Option.some.injEq] at hoj; subst hoj
                rw [htl] at hy
                simp only [Option.some.injEq, Prod.mk.injEq] at hy
                exact absurd hy.2 e'
              · simp only [ej, if_false] at hLj
                exact gs.tails j oj y t hj hoj hy hLj v e
end
end Go.Am
/- Regions that draw their order are sound, all of them. -/
namespace Go.Am
theorem gathK_sound {P : Program} {X : Xf} {K : Kf} (hX : XSnd P X) (hK : KSnd P K) (hm : P.follows .mixedOrders = true) {ops : Array Oper} {r : End × Heap} {k : Act → Heap → R} {Q : Exit → Act → World → Prop}
    {a a' : Act} {m : Mp} {H : Heap} {w : World} (h : StR P m a H a' w) (he : gathK P X K ops a H k = some r)
    (hQ : ∀ b' w', After P m H w (fun b H' => k b H' = some r) b' w' → Q .normal b' w') (id : Nat) : (Code.region id ops true).wp P Q a' w := by
  unfold gathK at he
  generalize hG : gathOf ops.toList = G at he
  cases hok : (gathOk P G ops.toList && G.zs.all fun t => decide (t < a.tmps.size)) with
  | false => rw [hok] at he; cases he
  | true =>
  rw [hok] at he
  simp only [cond_true] at he
  rw [Bool.and_eq_true] at hok
  obtain ⟨hok1, hok2⟩ := hok
  have ok := gathOk_spec hok1
  have hs : StaF P (maskL G ops.toList).toArray.toList := ok.draw
  have hlenM : (maskL G ops.toList).toArray.toList.length = ops.toList.length := by simp [maskL]
  have he2 : execTr P X K (maskL G ops.toList).toArray (maskL G ops.toList).toArray.toList (hideA G a) H [] (fun tr af Hf => cond (drawChk P (maskL G ops.toList).toArray tr)
      (k (fillA G af Hf.next) (Hf.allocB ⟨[], false, 0, some (.map (entsA G ops.toList af).toArray 0), none⟩)) none) (fun _ _ _ _ => none) = some r := he
  rcases execTr_spec (maskL G ops.toList).toArray.toList hs.nd he2 with ⟨ts, k1, k2, k3, af, Hf, k4, k5⟩ | ⟨_, _, _, _, _, _, _, _, _, _, _, _, _, _, _, k5⟩
  case inr => cases k5
  simp only [List.nil_append] at k5
  cases hc : drawChk P (maskL G ops.toList).toArray ts with
  | false => rw [hc] at k5; simp at k5
  | true =>
    rw [hc] at k5
    simp only [cond_true] at k5
    have hchk := chk_spec (a0 := (hideA G a, H)) k1 hc
    let A : Nat → Act := fun i => (ts[i]?.getD (hideA G a, H)).1
    let Hs : Nat → Heap := fun i => (ts[i]?.getD (hideA G a, H)).2
    have A0 : A 0 = hideA G a := by simp only [A, k2, Option.getD_some]
    have H0 : Hs 0 = H := by simp only [Hs, k2, Option.getD_some]
    have An : A ops.toList.length = af := by rw [← hlenM]; simp only [A, k4, Option.getD_some]
    have Hn : Hs ops.toList.length = Hf := by rw [← hlenM]; simp only [Hs, k4, Option.getD_some]
    have ht : Tra P X K (maskL G ops.toList).toArray A Hs := by
      refine ⟨fun i o ho => ?_, fun i p oi op ho hp c1 hg c2 u1 u2 => ?_⟩
      · have hi := (List.getElem?_eq_some_iff.1 ho).1
        have t1 : ts[i]? = some ts[i] := List.getElem?_eq_getElem (by omega)
        have t2 : ts[i + 1]? = some ts[i + 1] := List.getElem?_eq_getElem (by omega)
        have := k3 i o _ _ ho t1 t2
        simpa only [A, Hs, t1, t2, Option.getD_some] using this
      · obtain ⟨v, q0, q1, q2⟩ := hchk i p oi op ho hp c1 hg c2 u1 u2
        exact ⟨v, fun _ v' _ _ hA => q0 v' hA, q1, q2⟩
    refine wp_region_any hm ?_
    have hst0 := step_drawn_heap h.rel
    have nl : ∀ j, (Array.replicate ops.size false).getD j false = false := by
      intro j; simp [Array.getD]
    have pv : Pv P (maskL G ops.toList).toArray A Hs m w (fun _ => False) (fun i => (Array.replicate ops.size false).getD i false) (fun _ => 0) 0 m (hideA G a') { w with drawn := w.drawn + 1 } := by
      refine ⟨?_, h.gl, ?_, ?_, ?_, ?_, ?_, Nat.zero_le _, ?_, ?_, ?_, ?_, ?_⟩
      · rw [H0]; exact hst0.rel
      · rw [H0]; exact hst0
      · rw [A0]; exact h.act.defers
      · rw [A0, hide_size, hide_size]; exact h.act.tmps.1
      · intro j o t v v' _ _ hL
        simp only [nl] at hL; simp at hL
      · intro t v v' _ hv hv'
        rw [A0, hide_get] at hv
        rw [hide_get] at hv'
        obtain ⟨x, hx, rfl⟩ := Option.map_eq_some_iff.1 hv
        obtain ⟨x', hx', rfl⟩ := Option.map_eq_some_iff.1 hv'
        cases G.zs.contains t with
        | true => exact .undef m
        | false =>
          obtain ⟨x1, e1⟩ := Array.getElem?_eq_some_iff.1 hx
          obtain ⟨x2, e2⟩ := Array.getElem?_eq_some_iff.1 hx'
          simp only [cond_false]
          rw [← e1, ← e2]
          exact h.act.tmps.2 t x1 x2
      · intro j o hj; omega
      · intro j o _ _ _ _; exact nl j
      · intro j o t _ _ _ hL; simp only [nl] at hL; cases hL
      · intro j j' o o' _ _ _ _ _ _ _ hL; simp only [nl] at hL; cases hL
      · intro c hc; exact hc.elim
    obtain ⟨q, m2, pq, qe, _⟩ := pv.settle hs ht (maskL G ops.toList).toArray.toList.length 0 m (by omega)
    refine gath_all hX hK ok ht (m0 := m) (w0 := w) (Q := Q) (fun t hz => ?_) ?_ ops.size (Array.replicate ops.size false) (fun _ => 0) q m2 a' _ (fun _ => False) (by simp) ?_ ?_ pq qe (fun hh => by rw [nl] at hh; cases hh)
    · rw [A0, hide_size]
      exact of_decide_eq_true (List.all_eq_true.1 hok2 t (by simpa using hz))
    · intro m2 b' w2 r1 r2 r3 r4
      rw [An, Hn] at *
      rw [H0] at r4
      exact hQ b' w2 ⟨m2, fillA G af Hf.next, Hf.allocB (gBlk G ops.toList af), ⟨r3, r1, r2⟩, r4, k5⟩
    · intro i o ho hL
      simp only [nl] at hL; cases hL
    · exact Nat.le_trans List.countP_le_length (by simp)
theorem drawK_sound {P : Program} {X : Xf} {K : Kf} (hX : XSnd P X) (hK : KSnd P K) (hm : P.follows .mixedOrders = true) {ops : Array Oper} {r : End × Heap} {k : Act → Heap → R} {kp : List PanicEntry → Act → Heap → R} {Q : Exit → Act → World → Prop}
    {a a' : Act} {m : Mp} {H : Heap} {w : World} (h : StR P m a H a' w) (he : drawK P X K ops a H k kp = some r)
    (hQ : ∀ b' w', After P m H w (fun b H' => k b H' = some r) b' w' → Q .normal b' w') (hP : ∀ c' b' w', AfterP P m H w c' (fun c b H' => kp c b H' = some r) b' w' → Q (.panic c') b' w') (id : Nat) : (Code.region id ops true).wp P Q a' w := by
  unfold drawK at he
  cases hD : drawOk P ops.toList with
  | true => rw [hD] at he; exact draw_sound hX hK hm hD h he hQ hP id
  | false => rw [hD] at he; exact gathK_sound hX hK hm h he hQ id
end Go.Am
