/- Books: all lists are written full, then looked at. -/
import Derived.Test.YtohmeeglehopiaaGreatDoorM15
import Derived.Test.YtohmeeglehopiaaGreatDoorM04
import Derived.Below
open Go.Proofs
namespace Go.Am
set_option maxRecDepth 100000
structure PAT (G : Heap) (b : Nat) (V W : Value) (h : Int) (vs : List Value) (i : Nat) : Prop where
 here : G.get b = some (bkB V W h)
 rv : RowS G V vs
 fr : Fresh G
 full : ∀ k v, k < i → vs[k]? = some v → FullT k G v
 room : ∀ k v, i ≤ k → vs[k]? = some v → RoomT G v
theorem PAT.any {G : Heap} {b : Nat} {V W : Value} {h : Int} {vs : List Value} {i : Nat} (p : PAT G b V W h vs i) (k : Nat) (v : Value) (hv : vs[k]? = some v) : RoomT G v := by
 by_cases e : k < i
 · exact (p.full k v e hv).room
 · exact p.room k v (by omega) hv
theorem PAT.nilo1 {G : Heap} {b : Nat} {V W : Value} {h : Int} {vs : List Value} {i : Nat} (p : PAT G b V W h vs i) {v : Value} (h1 : vs[i]? = some v) (h2 : v = .slice none 0 0) : PAT G b V W h vs (i + 1) :=
 ⟨p.here, p.rv, p.fr, fun k v' hk hv => by
   by_cases e : k = i
   · subst e; rw [h1] at hv; obtain rfl := Option.some.inj hv; exact .inl h2
   · exact p.full k v' (by omega) hv, fun k v' hk hv => p.room k v' (by omega) hv⟩
theorem PAT.nilo2 {G : Heap} {b : Nat} {V W : Value} {h : Int} {vs : List Value} {i n : Nat} (p : PAT G b V W h vs n) {v : Value} (_ : vs[i]? = some v) (_ : v = .slice none 0 0) : PAT G b V W h vs n := p
theorem PAT.next {G G' : Heap} {b r n c : Nat} {V W : Value} {h : Int} {vs cs : List Value} {i : Nat} (p : PAT G b V W h vs i) (far : vs.Pairwise Far) (h1 : vs[i]? = some (.slice (some ⟨r, 0, none⟩) n c)) (hn : n ≤ c) (hc : c ≤ 9223372036854775807)
   (hr : G.get r = some ⟨cs, true, 5, none, true⟩) (fr : Fresh G') (kp : ∀ z x, z ≠ r → G.get z = some x → G'.get z = some x) (hf : G'.get r = some ⟨filT i c, true, 5, none, true⟩) : PAT G' b V W h vs (i + 1) := by
 have ne : ∀ z x, G.get z = some x → x.ex = false → z ≠ r := fun z x hz hx e => by subst e; rw [hr] at hz; obtain rfl := Option.some.inj hz; cases hx
 have hi := (List.getElem?_eq_some_iff.mp h1).1
 have other : ∀ k v, k ≠ i → vs[k]? = some v → ∀ z, rowId v = some z → z ≠ r := fun k v hk hv z hz e => by
   subst e
   obtain ⟨hk1, hk2⟩ := List.getElem?_eq_some_iff.mp hv
   obtain ⟨_, hi2⟩ := List.getElem?_eq_some_iff.mp h1
   rcases Nat.lt_or_gt_of_ne hk with hlt | hlt
   · exact (List.pairwise_iff_getElem.mp far k i hk1 hi hlt) z (by rw [hk2]; exact hz) (by rw [hi2]; rfl)
   · exact (List.pairwise_iff_getElem.mp far i k hi hk1 hlt) z (by rw [hi2]; rfl) (by rw [hk2]; exact hz)
 refine ⟨kp b _ (ne b _ p.here rfl) p.here, ?_, fr, fun k v hk hv => ?_, fun k v hk hv => ?_⟩
 · rcases p.rv with h | ⟨q, o, e1, e2, pre, e3, e4⟩
   · exact .inl h
   · exact .inr ⟨q, o, e1, e2, pre, e3, kp q _ (ne q _ e4 rfl) e4⟩
 · by_cases e : k = i
   · subst e; rw [h1] at hv; obtain rfl := Option.some.inj hv
     exact .inr ⟨r, n, c, rfl, hn, hc, hf⟩
   · rcases p.full k v (by omega) hv with h | ⟨q, n', c', e1, e2, e3, e4⟩
     · exact .inl h
     · exact .inr ⟨q, n', c', e1, e2, e3, kp q _ (other k v e hv q (by rw [e1]; rfl)) e4⟩
 · rcases p.room k v (by omega) hv with h | ⟨q, n', c', cs', e1, e2, e3, e4, e5⟩
   · exact .inl h
   · exact .inr ⟨q, n', c', cs', e1, e2, e3, e4, kp q _ (other k v (by omega) hv q (by rw [e1]; rfl)) e5⟩
theorem PAT.same {G G' : Heap} {b : Nat} {V W : Value} {h : Int} {vs : List Value} {n : Nat} (p : PAT G b V W h vs n) (x : Ext G G') : PAT G' b V W h vs n := by
 refine ⟨x.keep _ _ p.here, ?_, x.fresh, fun k v hk hv => (p.full k v hk hv).ext x, fun k v hk hv => ?_⟩
 · rcases p.rv with h | ⟨q, o, e1, e2, pre, e3, e4⟩
   · exact .inl h
   · exact .inr ⟨q, o, e1, e2, pre, e3, x.keep _ _ e4⟩
 · rcases p.room k v hk hv with h | ⟨q, n', c', cs', e1, e2, e3, e4, e5⟩
   · exact .inl h
   · exact .inr ⟨q, n', c', cs', e1, e2, e3, e4, x.keep _ _ e5⟩
theorem o1T {N : Nat} {K : Kf} {Q : R → Prop} {k : KOE} {b : Nat} {V W : Value} {h : Int} {vs : List Value} (MK : MarkOkT K) (hN : 9223372036854775808 < N) (far : vs.Pairwise Far) (small : vs.length ≤ 4000) :
   ∀ (n i m : Nat) (_ : i + n = vs.length) (_ : n < m) {H : Heap} {E : Env} (_ : PAT H b V W h vs i) (_ : E 0 = .pointer (some ⟨b, 0, none⟩)) (_ : E 1 = (.func (.func 19) #[] #[])) (_ : E 5 = .int .i64 (i : Int))
     (_ : ∀ E' G, E' 0 = .pointer (some ⟨b, 0, none⟩) → E' 1 = (.func (.func 19) #[] #[]) → PAT G b V W h vs vs.length → Q (k (.exit 0) E' [] G)), Q (loopE (execG PP XX K N prA cBE5 none) m E [] H k)
 | 0, i, m + 1, hn, hm, H, E, p, e0, e1, e5, hx => by
   rw [ja5]
   obtain ⟨aV, hV⟩ := p.rv.form
   have hlt : decide ((i : Int) < (vs.length : Int)) = false := decide_eq_false (by omega)
   have c0 := bl0T p.here
   rw [hV] at c0
   have l4 := tl (rgn Tryz.f18 4)
   conv at l4 => rhs; simp only [rgn, oA, codeOf, Tryz.f18, gS, gN, reduceIte, Nat.reduceEqDiff, tA]
   simp +decide only [↓uG.o, ↓jb9, dG.o, ja1, reduceIte, ↓ja0 l4, e0, e5, bf0T, c0, ja6 (ts := #[28]) rfl undLT, hlt]
   obtain rfl : i = vs.length := by omega
   exact hx _ H (by simp +decide only [ja1, reduceIte, e0]) (by simp +decide only [ja1, reduceIte, e1]) p
 | n + 1, i, m + 1, hn, hm, H, E, p, e0, e1, e5, hx => by
   rw [ja5]
   have hi : i < vs.length := by omega
   have hlt : decide ((i : Int) < (vs.length : Int)) = true := decide_eq_true (by omega)
   have w : IntKind.i64.wrap ((i : Int) + 1) = ((i + 1 : Nat) : Int) := by rw [ja4 (by omega) (by omega)]; omega
   have p1 := List.getElem?_eq_getElem hi
   obtain ⟨q1, i1, k1⟩ := pickT p.rv p1
   have hroom := p.any i _ p1
   obtain ⟨a, n2, c2, hv, hcap, hsl⟩ := hroom.cap
   have hcp := fun kk => jx9 (ts := #[33]) (k := kk) rfl hcap
   obtain ⟨aV, hV⟩ := p.rv.form
   have c0 := bl0T p.here
   rw [hV] at c0 i1
   have hvv : ∀ v : Value, veq v v = true → veq v v = true := fun _ h => h
   have g0 := p.here
   rcases hroom with e | ⟨r, n3, c3, cs, e, h31, h32, h33, h34⟩
   · obtain ⟨rfl, rfl, rfl⟩ : a = none ∧ n2 = 0 ∧ c2 = 0 := by rw [hv] at e; injection e with e1 e2 e3; exact ⟨e1, e2, e3⟩
     have hl0 : decide (((0 : Nat) : Int) < ((0 : Nat) : Int)) = false := by decide
     have lL := lX5 Tryz.f18 4 6 7 5 8
     conv at lL in (occs := *) (rq _ _) => all_goals simp only [rX, oA, Tryz.f18, dL.o, reduceIte, Nat.reduceEqDiff]
     obtain ⟨l4, l6, l7, l5, l8⟩ := lL
     simp +decide only [↓uG.o, ↓jb9, ↓jh0, dG.o, ja1, reduceIte, ↓ja0 l4, ↓ja0 l6, ↓ja0 l7, prA, List.isEmpty_nil, ↓jb4, e0, e5, bf0T, c0, i1, k1, hcp, Option.map_some, Option.map_none, hsl, ja6 (ts := #[28]) rfl undLT, hlt]
     obtain ⟨N', rfl⟩ : ∃ N', N = N' + 1 := ⟨N - 1, by omega⟩
     rw [ja5]
     simp +decide only [↓uG.o, ↓jb9, dG.o, ja1, reduceIte, ↓ja0 l8, ↓ja0 l5, ja6 (ts := #[33]) rfl undET, decide_false, e5, w]
     exact o1T MK hN far small n (i + 1) m (by omega) (by omega) (p.nilo1 p1 (hv.trans rfl)) (by simp +decide only [ja1, reduceIte, e0]) (by simp +decide only [ja1, reduceIte, e1]) (by simp +decide only [ja1, reduceIte]) hx
   · obtain ⟨rfl, rfl⟩ : a = some ⟨r, 0, none⟩ ∧ c2 = c3 := by rw [hv] at e; injection e with e1 e2 e3; exact ⟨e1, e3⟩
     have lL := lX4 Tryz.f18 4 6 7 5
     conv at lL in (occs := *) (rq _ _) => all_goals simp only [rX, oA, Tryz.f18, dL.o, reduceIte, Nat.reduceEqDiff]
     obtain ⟨l4, l6, l7, l5⟩ := lL
     simp +decide only [↓uG.o, ↓jb9, ↓jh0, dG.o, ja1, reduceIte, ↓ja0 l4, ↓ja0 l6, ↓ja0 l7, prA, List.isEmpty_nil, ↓jb4, e0, e5, bf0T, c0, i1, k1, hcp, Option.map_some, Option.map_none, hsl, ja6 (ts := #[28]) rfl undLT, hlt]
     have hb : cs.length = c2 * 5 := h33
     refine j71 (b := b) (i := i) MK h32 (by omega) c2 0 N (by omega) (by omega) p.fr (B := cs) (by rw [h34]; rfl) hb (by simp +decide only [ja1, reduceIte, e0]) (by simp +decide only [ja1, reduceIte, e1]) (by simp +decide only [ja1, reduceIte, e5]) (by simp +decide only [ja1, reduceIte]) (by simp +decide only [ja1, reduceIte]; rfl) fun E' G q0 q1 q5 qf qk qr => ?_
     simp +decide only [↓jb9, dG.o, ↓uG.o, ja1, reduceIte, ↓ja0 l5, q5, w]
     exact o1T MK hN far small n (i + 1) m (by omega) (by omega) (p.next far (p1.trans (congrArg some e)) h31 h32 h34 qf qk qr) (by simp +decide only [ja1, reduceIte, q0]) (by simp +decide only [ja1, reduceIte, q1]) (by simp +decide only [ja1, reduceIte]) hx
theorem o2T {N : Nat} {K : Kf} {Q : R → Prop} {k : KOE} {b : Nat} {V W : Value} {h : Int} {vs : List Value} (MK : MarkOkT K) (hN : 9223372036854775808 < N) (far : vs.Pairwise Far) (small : vs.length ≤ 4000) :
   ∀ (n i m : Nat) (_ : i + n = vs.length) (_ : n < m) {H : Heap} {E : Env} (_ : PAT H b V W h vs vs.length) (_ : E 0 = .pointer (some ⟨b, 0, none⟩)) (_ : E 1 = (.func (.func 19) #[] #[])) (_ : E 8 = .int .i64 (i : Int))
     (_ : ∀ E' G, E' 0 = .pointer (some ⟨b, 0, none⟩) → E' 1 = (.func (.func 19) #[] #[]) → PAT G b V W h vs vs.length → Q (k (.exit 4) E' [] G)), Q (loopE (execG PP XX K N prA cBE1 none) m E [] H k)
 | 0, i, m + 1, hn, hm, H, E, p, e0, e1, e5, hx => by
   rw [ja5]
   obtain ⟨aV, hV⟩ := p.rv.form
   have hlt : decide ((i : Int) < (vs.length : Int)) = false := decide_eq_false (by omega)
   have c0 := bl0T p.here
   rw [hV] at c0
   have l12 := tl (rgn Tryz.f18 12)
   conv at l12 => rhs; simp only [rgn, oA, codeOf, Tryz.f18, gS, gN, reduceIte, Nat.reduceEqDiff, tA]
   simp +decide only [↓uG.o, ↓jb9, dG.o, ja1, reduceIte, ↓ja0 l12, e0, e5, bf0T, c0, ja6 (ts := #[28]) rfl undLT, hlt]
   exact hx _ H (by simp +decide only [ja1, reduceIte, e0]) (by simp +decide only [ja1, reduceIte, e1]) p
 | n + 1, i, m + 1, hn, hm, H, E, p, e0, e1, e5, hx => by
   rw [ja5]
   have hi : i < vs.length := by omega
   have hlt : decide ((i : Int) < (vs.length : Int)) = true := decide_eq_true (by omega)
   have w : IntKind.i64.wrap ((i : Int) + 1) = ((i + 1 : Nat) : Int) := by rw [ja4 (by omega) (by omega)]; omega
   have p1 := List.getElem?_eq_getElem hi
   obtain ⟨q1, i1, k1⟩ := pickT p.rv p1
   have hroom := p.any i _ p1
   obtain ⟨a, n2, c2, hv, hcap, hsl⟩ := hroom.cap
   have hcp := fun kk => jx9 (ts := #[33]) (k := kk) rfl hcap
   obtain ⟨aV, hV⟩ := p.rv.form
   have c0 := bl0T p.here
   rw [hV] at c0 i1
   have hvv : ∀ v : Value, veq v v = true → veq v v = true := fun _ h => h
   have g0 := p.here
   rcases hroom with e | ⟨r, n3, c3, cs, e, h31, h32, h33, h34⟩
   · obtain ⟨rfl, rfl, rfl⟩ : a = none ∧ n2 = 0 ∧ c2 = 0 := by rw [hv] at e; injection e with e1 e2 e3; exact ⟨e1, e2, e3⟩
     have hl0 : decide (((0 : Nat) : Int) < ((0 : Nat) : Int)) = false := by decide
     have lL := lX5 Tryz.f18 12 14 15 13 16
     conv at lL in (occs := *) (rq _ _) => all_goals simp only [rX, oA, Tryz.f18, dL.o, reduceIte, Nat.reduceEqDiff]
     obtain ⟨l12, l14, l15, l13, l16⟩ := lL
     simp +decide only [↓uG.o, ↓jb9, ↓jh0, dG.o, ja1, reduceIte, ↓ja0 l12, ↓ja0 l14, ↓ja0 l15, prA, List.isEmpty_nil, ↓jb4, e0, e5, bf0T, c0, i1, k1, hcp, Option.map_some, Option.map_none, hsl, ja6 (ts := #[28]) rfl undLT, hlt]
     obtain ⟨N', rfl⟩ : ∃ N', N = N' + 1 := ⟨N - 1, by omega⟩
     rw [ja5]
     simp +decide only [↓uG.o, ↓jb9, dG.o, ja1, reduceIte, ↓ja0 l16, ↓ja0 l13, ja6 (ts := #[33]) rfl undET, decide_false, e5, w]
     exact o2T MK hN far small n (i + 1) m (by omega) (by omega) (p.nilo2 p1 (hv.trans rfl)) (by simp +decide only [ja1, reduceIte, e0]) (by simp +decide only [ja1, reduceIte, e1]) (by simp +decide only [ja1, reduceIte]) hx
   · obtain ⟨rfl, rfl⟩ : a = some ⟨r, 0, none⟩ ∧ c2 = c3 := by rw [hv] at e; injection e with e1 e2 e3; exact ⟨e1, e3⟩
     have lL := lX4 Tryz.f18 12 14 15 13
     conv at lL in (occs := *) (rq _ _) => all_goals simp only [rX, oA, Tryz.f18, dL.o, reduceIte, Nat.reduceEqDiff]
     obtain ⟨l12, l14, l15, l13⟩ := lL
     simp +decide only [↓uG.o, ↓jb9, ↓jh0, dG.o, ja1, reduceIte, ↓ja0 l12, ↓ja0 l14, ↓ja0 l15, prA, List.isEmpty_nil, ↓jb4, e0, e5, bf0T, c0, i1, k1, hcp, Option.map_some, Option.map_none, hsl, ja6 (ts := #[28]) rfl undLT, hlt]
     obtain ⟨r4, n4, c4, e4, _, _, hfl⟩ : ∃ r4 n4 c4, vs[i] = .slice (some ⟨r4, 0, none⟩) n4 c4 ∧ n4 ≤ c4 ∧ c4 ≤ 9223372036854775807 ∧ H.get r4 = some ⟨filT i c4, true, 5, none, true⟩ := by
       rcases p.full i _ hi p1 with h | h
       · rw [e] at h; cases h
       · exact h
     obtain ⟨rfl, rfl, rfl⟩ : r = r4 ∧ n3 = n4 ∧ c2 = c4 := by rw [e] at e4; injection e4 with e1 e2 e3; injection e1 with e1; injection e1 with e1; exact ⟨e1, e2, e3⟩
     refine j72 (b := b) (i := i) MK h32 (by omega) c2 0 N (by omega) (by omega) p.fr hfl (by simp +decide only [ja1, reduceIte, e0]) (by simp +decide only [ja1, reduceIte, e1]) (by simp +decide only [ja1, reduceIte, e5]) (by simp +decide only [ja1, reduceIte]) (by simp +decide only [ja1, reduceIte]; rfl) fun E' G q0 q1 q5 qx => ?_
     simp +decide only [↓jb9, dG.o, ↓uG.o, ja1, reduceIte, ↓ja0 l13, q5, w]
     exact o2T MK hN far small n (i + 1) m (by omega) (by omega) (p.same qx) (by simp +decide only [ja1, reduceIte, q0]) (by simp +decide only [ja1, reduceIte, q1]) (by simp +decide only [ja1, reduceIte]) hx
theorem NewT.room {H : Heap} {v : Value} (h : NewT H v) : RoomT H v := by
 rcases h with h | ⟨r, n, c, cs, sp, h1, h2, h3, h4, h5, h6, h7, h8⟩
 · exact .inl h
 · exact .inr ⟨r, n, c, _, h1, h3, h5, h7, h8⟩
theorem j6l {N : Nat} {hk : Hook} {d : Nat} {H : Heap} {b : Nat} (hh : NH hk) (MK : MarkOkT (CG N hk (d + 5))) (B : BkAtT H b) (hf : Fresh H) (hN : 9223372036854775808 < N) :
   ∃ H', CG N hk (d + 6) 18 #[.pointer (some ⟨b, 0, none⟩), (.func (.func 19) #[] #[])] H = some (.ret (.bool true), H') ∧ BkAtT H' b ∧ Fresh H' := by
 obtain ⟨V, W, h, vs, ws, B⟩ := B
 obtain ⟨H1, hst, off, B1⟩ := j6j (N := N) (d := d) hh B (by omega)
 have hbn := jl2 hf B.here
 have f1 : Fresh H1 := fun z hz => by
   have hz' : H.next ≤ z := by rw [← off.1]; exact hz
   rw [off.2 z (by omega)]; exact hf z hz'
 have main : ∃ R0 : R, CG N hk (d + 6) 18 #[.pointer (some ⟨b, 0, none⟩), (.func (.func 19) #[] #[])] H = R0 ∧ ∃ H', R0 = some (.ret (.bool true), H') ∧ BkAtT H' b ∧ Fresh H' := by
   refine ⟨_, jb6 (hh _ _ _ rfl) Tryz.func18 (c := codeOf Tryz.f18) rfl rfl rfl (pr := prA) rfl, ?_⟩
   rw [code18]
   generalize hF : finE PP Tryz.f18 = F
   have hsm := B1.small
   have lL := lX8 Tryz.f18 0 1 3 11 20 21 22 23
   conv at lL in (occs := *) (rq _ _) => all_goals simp only [rX, oA, Tryz.f18, dL.o, reduceIte, Nat.reduceEqDiff]
   obtain ⟨l0, l1, l3, l11, l20, l21, l22, l23⟩ := lL
   simp +decide only [↓uG.o, ↓jb9, dG.o, ja1, reduceIte, ↓ja0 l0, ↓ja0 l1, ↓ja0 l3, ↓jb4, ja3 Tryz.func32 rfl rfl hst, jq8]
   have p0 : PAT H1 b V W h vs 0 := ⟨B1.here, B1.rv, f1, fun k v hk => absurd hk (Nat.not_lt_zero _), fun k v _ hv => (B1.news (List.mem_of_getElem? hv)).room⟩
   refine o1T (Q := fun r => ∃ H', r = some (.ret (.bool true), H') ∧ BkAtT H' b ∧ Fresh H') MK hN B1.apart hsm vs.length 0 N (by omega) (by omega) p0 (by simp +decide only [ja1, reduceIte, jc7]) (by simp +decide only [ja1, reduceIte, je4]) (by simp +decide only [ja1, reduceIte]; rfl) fun E' G e0 e1 p1 => ?_
   simp +decide only [↓uG.o, ↓jb9, dG.o, ↓ja0 l11, ↓jb4]
   refine o2T (Q := fun r => ∃ H', r = some (.ret (.bool true), H') ∧ BkAtT H' b ∧ Fresh H') MK hN B1.apart hsm vs.length 0 N (by omega) (by omega) p1 (by simp +decide only [ja1, reduceIte, e0]) (by simp +decide only [ja1, reduceIte, e1]) (by simp +decide only [ja1, reduceIte]; rfl) fun E2 G2 e2 _ p2 => ?_
   have g0 := p2.here
   have g1 := jc6 G2 b (bkB (.slice none 0 0) W h)
   have g2 := jc6 (G2.set b (bkB (.slice none 0 0) W h)) b (bkB (.slice none 0 0) (.slice none 0 0) h)
   have s1 := bs0T g0 none 0 0
   have s2 := bs1T g1 none 0 0
   have s3 := bs2 g2 0
   simp +decide only [↓uG.o, ↓jb9, dG.o, ja1, jb1, reduceIte, ↓ja0 l20, ↓ja0 l21, ↓ja0 l22, ↓ja0 l23, e2, bf0T, bf1T, bf2T, s1, s2, s3]
   refine ⟨((G2.set b (bkB (.slice none 0 0) W h)).set b (bkB (.slice none 0 0) (.slice none 0 0) h)).set b (bkB (.slice none 0 0) (.slice none 0 0) 0), ?_, ⟨_, _, _, [], [], ⟨jc6 _ _ _, .inl ⟨rfl, rfl⟩, .inl ⟨rfl, rfl⟩, (fun e => nomatch e), (fun e => nomatch e), (fun z e => nomatch e), rfl, Nat.zero_le _, (fun i v w e => nomatch e), .nil⟩⟩, ?_⟩
   · rw [← hF, jb0 (l := [.bool true]) (by simp +decide [Tryz.f18, resE, ja1])]
     rfl
   · have fr := jl2 p2.fr p2.here
     exact jf0 (jf0 (jf0 p2.fr fr) fr) fr
 obtain ⟨R0, m1, H', m2, m3⟩ := main
 exact ⟨H', m1.trans m2, m3⟩
structure PAB (zf : Nat → Nat → Int) (G : Heap) (b : Nat) (V W : Value) (h : Int) (vs : List Value) (i : Nat) : Prop where
 here : G.get b = some (bkB V W h)
 rv : RowS G V vs
 fr : Fresh G
 full : ∀ k v, k < i → vs[k]? = some v → FullB zf k G v
 room : ∀ k v, i ≤ k → vs[k]? = some v → RoomB G v
theorem PAB.any {zf : Nat → Nat → Int} {G : Heap} {b : Nat} {V W : Value} {h : Int} {vs : List Value} {i : Nat} (p : PAB zf G b V W h vs i) (k : Nat) (v : Value) (hv : vs[k]? = some v) : RoomB G v := by
 by_cases e : k < i
 · exact (p.full k v e hv).room
 · exact p.room k v (by omega) hv
theorem PAB.nilo1 {zf : Nat → Nat → Int} {G : Heap} {b : Nat} {V W : Value} {h : Int} {vs : List Value} {i : Nat} (p : PAB zf G b V W h vs i) {v : Value} (h1 : vs[i]? = some v) (h2 : v = .slice none 0 0) : PAB zf G b V W h vs (i + 1) :=
 ⟨p.here, p.rv, p.fr, fun k v' hk hv => by
   by_cases e : k = i
   · subst e; rw [h1] at hv; obtain rfl := Option.some.inj hv; exact .inl h2
   · exact p.full k v' (by omega) hv, fun k v' hk hv => p.room k v' (by omega) hv⟩
theorem PAB.nilo2 {zf : Nat → Nat → Int} {G : Heap} {b : Nat} {V W : Value} {h : Int} {vs : List Value} {i n : Nat} (p : PAB zf G b V W h vs n) {v : Value} (_ : vs[i]? = some v) (_ : v = .slice none 0 0) : PAB zf G b V W h vs n := p
theorem PAB.next {zf : Nat → Nat → Int} {G G' : Heap} {b r n c : Nat} {V W : Value} {h : Int} {vs cs : List Value} {i : Nat} (p : PAB zf G b V W h vs i) (far : vs.Pairwise Far) (h1 : vs[i]? = some (.slice (some ⟨r, 0, none⟩) n c)) (hn : n ≤ c) (hc : c ≤ 9223372036854775807)
   (hr : G.get r = some ⟨cs, true, 1, none, true⟩) (fr : Fresh G') (kp : ∀ z x, z ≠ r → G.get z = some x → G'.get z = some x) (hf : G'.get r = some ⟨filB zf i c, true, 1, none, true⟩) : PAB zf G' b V W h vs (i + 1) := by
 have ne : ∀ z x, G.get z = some x → x.ex = false → z ≠ r := fun z x hz hx e => by subst e; rw [hr] at hz; obtain rfl := Option.some.inj hz; cases hx
 have hi := (List.getElem?_eq_some_iff.mp h1).1
 have other : ∀ k v, k ≠ i → vs[k]? = some v → ∀ z, rowId v = some z → z ≠ r := fun k v hk hv z hz e => by
   subst e
   obtain ⟨hk1, hk2⟩ := List.getElem?_eq_some_iff.mp hv
   obtain ⟨_, hi2⟩ := List.getElem?_eq_some_iff.mp h1
   rcases Nat.lt_or_gt_of_ne hk with hlt | hlt
   · exact (List.pairwise_iff_getElem.mp far k i hk1 hi hlt) z (by rw [hk2]; exact hz) (by rw [hi2]; rfl)
   · exact (List.pairwise_iff_getElem.mp far i k hi hk1 hlt) z (by rw [hi2]; rfl) (by rw [hk2]; exact hz)
 refine ⟨kp b _ (ne b _ p.here rfl) p.here, ?_, fr, fun k v hk hv => ?_, fun k v hk hv => ?_⟩
 · rcases p.rv with h | ⟨q, o, e1, e2, pre, e3, e4⟩
   · exact .inl h
   · exact .inr ⟨q, o, e1, e2, pre, e3, kp q _ (ne q _ e4 rfl) e4⟩
 · by_cases e : k = i
   · subst e; rw [h1] at hv; obtain rfl := Option.some.inj hv
     exact .inr ⟨r, n, c, rfl, hn, hc, hf⟩
   · rcases p.full k v (by omega) hv with h | ⟨q, n', c', e1, e2, e3, e4⟩
     · exact .inl h
     · exact .inr ⟨q, n', c', e1, e2, e3, kp q _ (other k v e hv q (by rw [e1]; rfl)) e4⟩
 · rcases p.room k v (by omega) hv with h | ⟨q, n', c', cs', e1, e2, e3, e4, e5⟩
   · exact .inl h
   · exact .inr ⟨q, n', c', cs', e1, e2, e3, e4, kp q _ (other k v (by omega) hv q (by rw [e1]; rfl)) e5⟩
theorem PAB.same {zf : Nat → Nat → Int} {G G' : Heap} {b : Nat} {V W : Value} {h : Int} {vs : List Value} {n : Nat} (p : PAB zf G b V W h vs n) (x : Ext G G') : PAB zf G' b V W h vs n := by
 refine ⟨x.keep _ _ p.here, ?_, x.fresh, fun k v hk hv => (p.full k v hk hv).ext x, fun k v hk hv => ?_⟩
 · rcases p.rv with h | ⟨q, o, e1, e2, pre, e3, e4⟩
   · exact .inl h
   · exact .inr ⟨q, o, e1, e2, pre, e3, x.keep _ _ e4⟩
 · rcases p.room k v hk hv with h | ⟨q, n', c', cs', e1, e2, e3, e4, e5⟩
   · exact .inl h
   · exact .inr ⟨q, n', c', cs', e1, e2, e3, e4, x.keep _ _ e5⟩
theorem o1B {zf : Nat → Nat → Int} {N : Nat} {K : Kf} {Q : R → Prop} {k : KOE} {b : Nat} {V W : Value} {h : Int} {vs : List Value} (MK : MarkOkB zf K) (hN : 9223372036854775808 < N) (far : vs.Pairwise Far) (small : vs.length ≤ 4000) :
   ∀ (n i m : Nat) (_ : i + n = vs.length) (_ : n < m) {H : Heap} {E : Env} (_ : PAB zf H b V W h vs i) (_ : E 0 = .pointer (some ⟨b, 0, none⟩)) (_ : E 1 = (.func (.func 21) #[] #[])) (_ : E 5 = .int .i64 (i : Int))
     (_ : ∀ E' G, E' 0 = .pointer (some ⟨b, 0, none⟩) → E' 1 = (.func (.func 21) #[] #[]) → PAB zf G b V W h vs vs.length → Q (k (.exit 0) E' [] G)), Q (loopE (execG PP XX K N prA cBE6 none) m E [] H k)
 | 0, i, m + 1, hn, hm, H, E, p, e0, e1, e5, hx => by
   rw [ja5]
   obtain ⟨aV, hV⟩ := p.rv.form
   have hlt : decide ((i : Int) < (vs.length : Int)) = false := decide_eq_false (by omega)
   have c0 := bl0B p.here
   rw [hV] at c0
   have l4 := tl (rgn Tryz.f20 4)
   conv at l4 => rhs; simp only [rgn, oA, codeOf, Tryz.f20, gS, gN, reduceIte, Nat.reduceEqDiff, tA]
   simp +decide only [↓uG.o, ↓jb9, dG.o, ja1, reduceIte, ↓ja0 l4, e0, e5, bf0B, c0, ja6 (ts := #[27]) rfl undLB, hlt]
   obtain rfl : i = vs.length := by omega
   exact hx _ H (by simp +decide only [ja1, reduceIte, e0]) (by simp +decide only [ja1, reduceIte, e1]) p
 | n + 1, i, m + 1, hn, hm, H, E, p, e0, e1, e5, hx => by
   rw [ja5]
   have hi : i < vs.length := by omega
   have hlt : decide ((i : Int) < (vs.length : Int)) = true := decide_eq_true (by omega)
   have w : IntKind.i64.wrap ((i : Int) + 1) = ((i + 1 : Nat) : Int) := by rw [ja4 (by omega) (by omega)]; omega
   have p1 := List.getElem?_eq_getElem hi
   obtain ⟨q1, i1, k1⟩ := pickB p.rv p1
   have hroom := p.any i _ p1
   obtain ⟨a, n2, c2, hv, hcap, hsl⟩ := hroom.cap
   have hcp := fun kk => jx9 (ts := #[22]) (k := kk) rfl hcap
   obtain ⟨aV, hV⟩ := p.rv.form
   have c0 := bl0B p.here
   rw [hV] at c0 i1
   have hvv : ∀ v : Value, veq v v = true → veq v v = true := fun _ h => h
   have g0 := p.here
   rcases hroom with e | ⟨r, n3, c3, cs, e, h31, h32, h33, h34⟩
   · obtain ⟨rfl, rfl, rfl⟩ : a = none ∧ n2 = 0 ∧ c2 = 0 := by rw [hv] at e; injection e with e1 e2 e3; exact ⟨e1, e2, e3⟩
     have hl0 : decide (((0 : Nat) : Int) < ((0 : Nat) : Int)) = false := by decide
     have lL := lX5 Tryz.f20 4 6 7 5 8
     conv at lL in (occs := *) (rq _ _) => all_goals simp only [rX, oA, Tryz.f20, dL.o, reduceIte, Nat.reduceEqDiff]
     obtain ⟨l4, l6, l7, l5, l8⟩ := lL
     simp +decide only [↓uG.o, ↓jb9, ↓jh0, dG.o, ja1, reduceIte, ↓ja0 l4, ↓ja0 l6, ↓ja0 l7, prA, List.isEmpty_nil, ↓jb4, e0, e5, bf0B, c0, i1, k1, hcp, Option.map_some, Option.map_none, hsl, ja6 (ts := #[27]) rfl undLB, hlt]
     obtain ⟨N', rfl⟩ : ∃ N', N = N' + 1 := ⟨N - 1, by omega⟩
     rw [ja5]
     simp +decide only [↓uG.o, ↓jb9, dG.o, ja1, reduceIte, ↓ja0 l8, ↓ja0 l5, ja6 (ts := #[22]) rfl undEB, decide_false, e5, w]
     exact o1B MK hN far small n (i + 1) m (by omega) (by omega) (p.nilo1 p1 (hv.trans rfl)) (by simp +decide only [ja1, reduceIte, e0]) (by simp +decide only [ja1, reduceIte, e1]) (by simp +decide only [ja1, reduceIte]) hx
   · obtain ⟨rfl, rfl⟩ : a = some ⟨r, 0, none⟩ ∧ c2 = c3 := by rw [hv] at e; injection e with e1 e2 e3; exact ⟨e1, e3⟩
     have lL := lX4 Tryz.f20 4 6 7 5
     conv at lL in (occs := *) (rq _ _) => all_goals simp only [rX, oA, Tryz.f20, dL.o, reduceIte, Nat.reduceEqDiff]
     obtain ⟨l4, l6, l7, l5⟩ := lL
     simp +decide only [↓uG.o, ↓jb9, ↓jh0, dG.o, ja1, reduceIte, ↓ja0 l4, ↓ja0 l6, ↓ja0 l7, prA, List.isEmpty_nil, ↓jb4, e0, e5, bf0B, c0, i1, k1, hcp, Option.map_some, Option.map_none, hsl, ja6 (ts := #[27]) rfl undLB, hlt]
     have hb : cs.length = c2 * 1 := h33
     refine j73 (b := b) (i := i) MK h32 (by omega) c2 0 N (by omega) (by omega) p.fr (B := cs) (by rw [h34]; rfl) hb (by simp +decide only [ja1, reduceIte, e0]) (by simp +decide only [ja1, reduceIte, e1]) (by simp +decide only [ja1, reduceIte, e5]) (by simp +decide only [ja1, reduceIte]) (by simp +decide only [ja1, reduceIte]; rfl) fun E' G q0 q1 q5 qf qk qr => ?_
     simp +decide only [↓jb9, dG.o, ↓uG.o, ja1, reduceIte, ↓ja0 l5, q5, w]
     exact o1B MK hN far small n (i + 1) m (by omega) (by omega) (p.next far (p1.trans (congrArg some e)) h31 h32 h34 qf qk qr) (by simp +decide only [ja1, reduceIte, q0]) (by simp +decide only [ja1, reduceIte, q1]) (by simp +decide only [ja1, reduceIte]) hx
theorem o2B {zf : Nat → Nat → Int} {N : Nat} {K : Kf} {Q : R → Prop} {k : KOE} {b : Nat} {V W : Value} {h : Int} {vs : List Value} (MK : MarkOkB zf K) (hN : 9223372036854775808 < N) (far : vs.Pairwise Far) (small : vs.length ≤ 4000) :
   ∀ (n i m : Nat) (_ : i + n = vs.length) (_ : n < m) {H : Heap} {E : Env} (_ : PAB zf H b V W h vs vs.length) (_ : E 0 = .pointer (some ⟨b, 0, none⟩)) (_ : E 1 = (.func (.func 21) #[] #[])) (_ : E 8 = .int .i64 (i : Int))
     (_ : ∀ E' G, E' 0 = .pointer (some ⟨b, 0, none⟩) → E' 1 = (.func (.func 21) #[] #[]) → PAB zf G b V W h vs vs.length → Q (k (.exit 4) E' [] G)), Q (loopE (execG PP XX K N prA cBE2 none) m E [] H k)
 | 0, i, m + 1, hn, hm, H, E, p, e0, e1, e5, hx => by
   rw [ja5]
   obtain ⟨aV, hV⟩ := p.rv.form
   have hlt : decide ((i : Int) < (vs.length : Int)) = false := decide_eq_false (by omega)
   have c0 := bl0B p.here
   rw [hV] at c0
   have l12 := tl (rgn Tryz.f20 12)
   conv at l12 => rhs; simp only [rgn, oA, codeOf, Tryz.f20, gS, gN, reduceIte, Nat.reduceEqDiff, tA]
   simp +decide only [↓uG.o, ↓jb9, dG.o, ja1, reduceIte, ↓ja0 l12, e0, e5, bf0B, c0, ja6 (ts := #[27]) rfl undLB, hlt]
   exact hx _ H (by simp +decide only [ja1, reduceIte, e0]) (by simp +decide only [ja1, reduceIte, e1]) p
 | n + 1, i, m + 1, hn, hm, H, E, p, e0, e1, e5, hx => by
   rw [ja5]
   have hi : i < vs.length := by omega
   have hlt : decide ((i : Int) < (vs.length : Int)) = true := decide_eq_true (by omega)
   have w : IntKind.i64.wrap ((i : Int) + 1) = ((i + 1 : Nat) : Int) := by rw [ja4 (by omega) (by omega)]; omega
   have p1 := List.getElem?_eq_getElem hi
   obtain ⟨q1, i1, k1⟩ := pickB p.rv p1
   have hroom := p.any i _ p1
   obtain ⟨a, n2, c2, hv, hcap, hsl⟩ := hroom.cap
   have hcp := fun kk => jx9 (ts := #[22]) (k := kk) rfl hcap
   obtain ⟨aV, hV⟩ := p.rv.form
   have c0 := bl0B p.here
   rw [hV] at c0 i1
   have hvv : ∀ v : Value, veq v v = true → veq v v = true := fun _ h => h
   have g0 := p.here
   rcases hroom with e | ⟨r, n3, c3, cs, e, h31, h32, h33, h34⟩
   · obtain ⟨rfl, rfl, rfl⟩ : a = none ∧ n2 = 0 ∧ c2 = 0 := by rw [hv] at e; injection e with e1 e2 e3; exact ⟨e1, e2, e3⟩
     have hl0 : decide (((0 : Nat) : Int) < ((0 : Nat) : Int)) = false := by decide
     have lL := lX5 Tryz.f20 12 14 15 13 16
     conv at lL in (occs := *) (rq _ _) => all_goals simp only [rX, oA, Tryz.f20, dL.o, reduceIte, Nat.reduceEqDiff]
     obtain ⟨l12, l14, l15, l13, l16⟩ := lL
     simp +decide only [↓uG.o, ↓jb9, ↓jh0, dG.o, ja1, reduceIte, ↓ja0 l12, ↓ja0 l14, ↓ja0 l15, prA, List.isEmpty_nil, ↓jb4, e0, e5, bf0B, c0, i1, k1, hcp, Option.map_some, Option.map_none, hsl, ja6 (ts := #[27]) rfl undLB, hlt]
     obtain ⟨N', rfl⟩ : ∃ N', N = N' + 1 := ⟨N - 1, by omega⟩
     rw [ja5]
     simp +decide only [↓uG.o, ↓jb9, dG.o, ja1, reduceIte, ↓ja0 l16, ↓ja0 l13, ja6 (ts := #[22]) rfl undEB, decide_false, e5, w]
     exact o2B MK hN far small n (i + 1) m (by omega) (by omega) (p.nilo2 p1 (hv.trans rfl)) (by simp +decide only [ja1, reduceIte, e0]) (by simp +decide only [ja1, reduceIte, e1]) (by simp +decide only [ja1, reduceIte]) hx
   · obtain ⟨rfl, rfl⟩ : a = some ⟨r, 0, none⟩ ∧ c2 = c3 := by rw [hv] at e; injection e with e1 e2 e3; exact ⟨e1, e3⟩
     have lL := lX4 Tryz.f20 12 14 15 13
     conv at lL in (occs := *) (rq _ _) => all_goals simp only [rX, oA, Tryz.f20, dL.o, reduceIte, Nat.reduceEqDiff]
     obtain ⟨l12, l14, l15, l13⟩ := lL
     simp +decide only [↓uG.o, ↓jb9, ↓jh0, dG.o, ja1, reduceIte, ↓ja0 l12, ↓ja0 l14, ↓ja0 l15, prA, List.isEmpty_nil, ↓jb4, e0, e5, bf0B, c0, i1, k1, hcp, Option.map_some, Option.map_none, hsl, ja6 (ts := #[27]) rfl undLB, hlt]
     obtain ⟨r4, n4, c4, e4, _, _, hfl⟩ : ∃ r4 n4 c4, vs[i] = .slice (some ⟨r4, 0, none⟩) n4 c4 ∧ n4 ≤ c4 ∧ c4 ≤ 9223372036854775807 ∧ H.get r4 = some ⟨filB zf i c4, true, 1, none, true⟩ := by
       rcases p.full i _ hi p1 with h | h
       · rw [e] at h; cases h
       · exact h
     obtain ⟨rfl, rfl, rfl⟩ : r = r4 ∧ n3 = n4 ∧ c2 = c4 := by rw [e] at e4; injection e4 with e1 e2 e3; injection e1 with e1; injection e1 with e1; exact ⟨e1, e2, e3⟩
     refine j74 (b := b) (i := i) MK h32 (by omega) c2 0 N (by omega) (by omega) p.fr hfl (by simp +decide only [ja1, reduceIte, e0]) (by simp +decide only [ja1, reduceIte, e1]) (by simp +decide only [ja1, reduceIte, e5]) (by simp +decide only [ja1, reduceIte]) (by simp +decide only [ja1, reduceIte]; rfl) fun E' G q0 q1 q5 qx => ?_
     simp +decide only [↓jb9, dG.o, ↓uG.o, ja1, reduceIte, ↓ja0 l13, q5, w]
     exact o2B MK hN far small n (i + 1) m (by omega) (by omega) (p.same qx) (by simp +decide only [ja1, reduceIte, q0]) (by simp +decide only [ja1, reduceIte, q1]) (by simp +decide only [ja1, reduceIte]) hx
theorem NewB.room {H : Heap} {v : Value} (h : NewB H v) : RoomB H v := by
 rcases h with h | ⟨r, n, c, cs, sp, h1, h2, h3, h4, h5, h6, h7, h8⟩
 · exact .inl h
 · exact .inr ⟨r, n, c, _, h1, h3, h5, h7, h8⟩
theorem j6m (zf : Nat → Nat → Int) {N : Nat} {hk : Hook} {d : Nat} {H : Heap} {b : Nat} (hh : NH hk) (MK : MarkOkB zf (CG N hk (d + 5))) (B : BkAtB H b) (hf : Fresh H) (hN : 9223372036854775808 < N) :
   ∃ H', CG N hk (d + 6) 20 #[.pointer (some ⟨b, 0, none⟩), (.func (.func 21) #[] #[])] H = some (.ret (.bool true), H') ∧ BkAtB H' b ∧ Fresh H' := by
 obtain ⟨V, W, h, vs, ws, B⟩ := B
 obtain ⟨H1, hst, off, B1⟩ := j6k (N := N) (d := d) hh B (by omega)
 have hbn := jl2 hf B.here
 have f1 : Fresh H1 := fun z hz => by
   have hz' : H.next ≤ z := by rw [← off.1]; exact hz
   rw [off.2 z (by omega)]; exact hf z hz'
 have main : ∃ R0 : R, CG N hk (d + 6) 20 #[.pointer (some ⟨b, 0, none⟩), (.func (.func 21) #[] #[])] H = R0 ∧ ∃ H', R0 = some (.ret (.bool true), H') ∧ BkAtB H' b ∧ Fresh H' := by
   refine ⟨_, jb6 (hh _ _ _ rfl) Tryz.func20 (c := codeOf Tryz.f20) rfl rfl rfl (pr := prA) rfl, ?_⟩
   rw [code20]
   generalize hF : finE PP Tryz.f20 = F
   have hsm := B1.small
   have lL := lX8 Tryz.f20 0 1 3 11 20 21 22 23
   conv at lL in (occs := *) (rq _ _) => all_goals simp only [rX, oA, Tryz.f20, dL.o, reduceIte, Nat.reduceEqDiff]
   obtain ⟨l0, l1, l3, l11, l20, l21, l22, l23⟩ := lL
   simp +decide only [↓uG.o, ↓jb9, dG.o, ja1, reduceIte, ↓ja0 l0, ↓ja0 l1, ↓ja0 l3, ↓jb4, ja3 Tryz.func33 rfl rfl hst, jq8]
   have p0 : PAB zf H1 b V W h vs 0 := ⟨B1.here, B1.rv, f1, fun k v hk => absurd hk (Nat.not_lt_zero _), fun k v _ hv => (B1.news (List.mem_of_getElem? hv)).room⟩
   refine o1B (Q := fun r => ∃ H', r = some (.ret (.bool true), H') ∧ BkAtB H' b ∧ Fresh H') MK hN B1.apart hsm vs.length 0 N (by omega) (by omega) p0 (by simp +decide only [ja1, reduceIte, jc7]) (by simp +decide only [ja1, reduceIte, je4]) (by simp +decide only [ja1, reduceIte]; rfl) fun E' G e0 e1 p1 => ?_
   simp +decide only [↓uG.o, ↓jb9, dG.o, ↓ja0 l11, ↓jb4]
   refine o2B (Q := fun r => ∃ H', r = some (.ret (.bool true), H') ∧ BkAtB H' b ∧ Fresh H') MK hN B1.apart hsm vs.length 0 N (by omega) (by omega) p1 (by simp +decide only [ja1, reduceIte, e0]) (by simp +decide only [ja1, reduceIte, e1]) (by simp +decide only [ja1, reduceIte]; rfl) fun E2 G2 e2 _ p2 => ?_
   have g0 := p2.here
   have g1 := jc6 G2 b (bkB (.slice none 0 0) W h)
   have g2 := jc6 (G2.set b (bkB (.slice none 0 0) W h)) b (bkB (.slice none 0 0) (.slice none 0 0) h)
   have s1 := bs0B g0 none 0 0
   have s2 := bs1B g1 none 0 0
   have s3 := bs2 g2 0
   simp +decide only [↓uG.o, ↓jb9, dG.o, ja1, jb1, reduceIte, ↓ja0 l20, ↓ja0 l21, ↓ja0 l22, ↓ja0 l23, e2, bf0B, bf1B, bf2B, s1, s2, s3]
   refine ⟨((G2.set b (bkB (.slice none 0 0) W h)).set b (bkB (.slice none 0 0) (.slice none 0 0) h)).set b (bkB (.slice none 0 0) (.slice none 0 0) 0), ?_, ⟨_, _, _, [], [], ⟨jc6 _ _ _, .inl ⟨rfl, rfl⟩, .inl ⟨rfl, rfl⟩, (fun e => nomatch e), (fun e => nomatch e), (fun z e => nomatch e), rfl, Nat.zero_le _, (fun i v w e => nomatch e), .nil⟩⟩, ?_⟩
   · rw [← hF, jb0 (l := [.bool true]) (by simp +decide [Tryz.f20, resE, ja1])]
     rfl
   · have fr := jl2 p2.fr p2.here
     exact jf0 (jf0 (jf0 p2.fr fr) fr) fr
 obtain ⟨R0, m1, H', m2, m3⟩ := main
 exact ⟨H', m1.trans m2, m3⟩
theorem code19 : codeOf Tryz.f19 = .seq (rF Tryz.f19 0) (.seq (rF Tryz.f19 1) .ret) := by kernel_rfl
theorem code21 : codeOf Tryz.f21 = .seq (rF Tryz.f21 0) (.seq (rF Tryz.f21 1) .ret) := by kernel_rfl
theorem yo5 (i j : Int) : buildA PP 42 #[(0, .int .i64 i), (3, .int .i64 j)] = some (.agg #[.int .i64 i, .int .u64 0, .string .empty, .int .i64 j, .int .i64 0]) := by kernel_rfl
def zerosT : List Value := [.int .i64 0, .int .u64 0, .string .empty, .int .i64 0, .int .i64 0]
theorem yh1 {N : Nat} {hk : Hook} {d : Nat} (hh : NH hk) : MarkOkT (CG N hk (d + 1)) := by
 intro i j G hi hj hf
 have main : ∃ R0 : R, CG N hk (d + 1) 19 #[.int .i64 (i : Int), .int .i64 (j : Int)] G = R0 ∧ ∃ G', R0 = some (.ret (mvT i j), G') ∧ Ext G G' := by
   refine ⟨_, jb6 (hh _ _ _ rfl) Tryz.func19 (c := codeOf Tryz.f19) rfl rfl rfl (pr := noPr) rfl, ?_⟩
   rw [code19]
   generalize hF : finE PP Tryz.f19 = F
   have hal : allocA PP 42 G = some (.pointer (some ⟨G.next, 0, none⟩), G.alloc 1 zerosT) := jm1 G
   have g0 : (G.alloc 1 zerosT).get G.next = some ⟨[] ++ zerosT, true, 1, none, false⟩ := by rw [Heap.get_alloc, if_pos rfl]; rfl
   have hst := smT (o := 0) (A := []) (i := i) (j := j) g0 rfl (by decide)
   have hbd := yo5 (IntKind.i64.wrap (-1 - (i : Int))) (j : Int)
   have e0 : Value.agg #[.int .i64 (IntKind.i64.wrap (-1 - (i : Int))), .int .u64 0, .string .empty, .int .i64 (j : Int), .int .i64 0] = mvT i j := rfl
   rw [e0] at hbd
   have g1 := jc6 (G.alloc 1 zerosT) G.next (⟨[] ++ (mcT i j ++ zerosT.drop 5), true, 1, none, false⟩ : Blk)
   have hld := lmT (o := 0) (A := []) (i := i) (j := j) g1 rfl
   have lL := lX2 Tryz.f19 0 1
   conv at lL in (occs := *) (rq _ _) => all_goals simp only [rX, oA, Tryz.f19, dL.o, reduceIte, Nat.reduceEqDiff]
   obtain ⟨l0, l1⟩ := lL
   simp +decide only [↓uR.o, dG.o, ja1, jb1, reduceIte, ↓ja0 l0, ↓ja0 l1, hal, hbd, hst]
   refine ⟨(G.alloc 1 zerosT).set G.next ⟨[] ++ (mcT i j ++ zerosT.drop 5), true, 1, none, false⟩, ?_, Nat.le_succ _, fun z x h => ?_, fun z hz => ?_⟩
   · rw [← hF, jb0 (l := [mvT i j]) (by simp +decide [Tryz.f19, resE, ja1, (show loadA PP 42 (.pointer (some ⟨G.next, 0, none⟩)) ((G.alloc 1 zerosT).set G.next ⟨mcT i j ++ zerosT.drop 5, true, 1, none, false⟩) = _ from hld)])]
     rfl
   · have := jl2 hf h
     rw [Heap.get_set, if_neg (by omega), Heap.get_alloc, if_neg (by omega)]; exact h
   · have hz' : G.next + 1 ≤ z := hz
     rw [Heap.get_set, if_neg (by omega), Heap.get_alloc, if_neg (by omega)]; exact hf z (by omega)
 obtain ⟨R0, m1, G', m2, m3⟩ := main
 exact ⟨G', m1.trans m2, m3⟩
def zfB (i j : Nat) : Int := IntKind.u8.wrap ((IntKind.i64.wrap ((i : Int) + 1)).fdiv (2 ^ (8 * (j % 3))))
theorem shrB (x : Int) (o1 o2 : Operand) (j : Nat) (hj : j < 3) : binA PP .shr 3 o1 o2 (.int .i64 x) (.int .u64 (8 * (j : Int))) = some (.int .i64 (x.fdiv (2 ^ (8 * j)))) := by
 rcases (show j = 0 ∨ j = 1 ∨ j = 2 by omega) with rfl | rfl | rfl <;> rfl
theorem und68 : PP.underlying 68 = some (.int .u64) := by kernel_rfl
theorem j9p {N : Nat} {hk : Hook} {d : Nat} (hh : NH hk) : MarkOkB zfB (CG N hk (d + 1)) := by
 intro i j G hi hj hf
 have main : ∃ R0 : R, CG N hk (d + 1) 21 #[.int .i64 (i : Int), .int .i64 (j : Int)] G = R0 ∧ ∃ G', R0 = some (.ret (mvB zfB i j), G') ∧ Ext G G' := by
   refine ⟨_, jb6 (hh _ _ _ rfl) Tryz.func21 (c := codeOf Tryz.f21) rfl rfl rfl (pr := noPr) rfl, ?_⟩
   rw [code21]
   generalize hF : finE PP Tryz.f21 = F
   have hr : ((j : Int)).tmod 3 = ((j % 3 : Nat) : Int) := rfl
   have hm : IntKind.i64.wrap (8 * ((j % 3 : Nat) : Int)) = 8 * ((j % 3 : Nat) : Int) := ja4 (by omega) (by omega)
   have hc : convertA PP 3 68 (.int .i64 (8 * ((j % 3 : Nat) : Int))) G = some (.int .u64 (8 * ((j % 3 : Nat) : Int)), G) := by
     have w : IntKind.u64.wrap (8 * ((j % 3 : Nat) : Int)) = 8 * ((j % 3 : Nat) : Int) := jd9 (by omega) (by omega)
     have u3 : ∃ u, PP.underlying 3 = some u := ⟨_, Tryz.underlying3⟩
     obtain ⟨u, hu⟩ := u3
     simp only [convertA, und68, hu, w]
   have hs := fun o1 o2 => shrB (IntKind.i64.wrap ((i : Int) + 1)) o1 o2 (j % 3) (Nat.mod_lt _ (by decide))
   have hc2 : convertA PP 3 5 (.int .i64 ((IntKind.i64.wrap ((i : Int) + 1)).fdiv (2 ^ (8 * (j % 3))))) G = some (mvB zfB i j, G) := by
     simp only [convertA, Tryz.underlying3, Tryz.underlying5]; rfl
   have lL := lX2 Tryz.f21 0 1
   conv at lL in (occs := *) (rq _ _) => all_goals simp only [rX, oA, Tryz.f21, dL.o, reduceIte, Nat.reduceEqDiff]
   obtain ⟨l0, l1⟩ := lL
   simp +decide only [↓uR.o, dG.o, ja1, reduceIte, ↓ja0 l0, ↓ja0 l1, j3h (show (3 : Int) ≠ 0 by decide), jk8, hr, hm, hc, hs, hc2]
   refine ⟨G, ?_, Nat.le_refl _, fun z x h => h, hf⟩
   rw [← hF, jb0 (l := [mvB zfB i j]) (by simp +decide [Tryz.f21, resE, ja1])]
   rfl
 obtain ⟨R0, m1, G', m2, m3⟩ := main
 exact ⟨G', m1.trans m2, m3⟩
structure Sys where
 I : Mp → Heap → World → Prop
 S : Mp → Heap → World → Mp → Heap → World → Prop
 of : ∀ {m : Mp} {H : Heap} {w : World} {m' : Mp} {H' : Heap} {w' : World}, Rel m H w → I m H w → Step m H w m' H' w' → S m H w m' H' w'
 trans : ∀ {m : Mp} {H : Heap} {w : World} {m' : Mp} {H' : Heap} {w' : World} {m2 : Mp} {H2 : Heap} {w2 : World}, S m H w m' H' w' → S m' H' w' m2 H2 w2 → S m H w m2 H2 w2
 rel : ∀ {m : Mp} {H : Heap} {w : World} {m' : Mp} {H' : Heap} {w' : World}, S m H w m' H' w' → Rel m' H' w'
 inv : ∀ {m : Mp} {H : Heap} {w : World} {m' : Mp} {H' : Heap} {w' : World}, S m H w m' H' w' → I m' H' w'
 le : ∀ {m : Mp} {H : Heap} {w : World} {m' : Mp} {H' : Heap} {w' : World}, S m H w m' H' w' → m.le m'
theorem Sys.refl (St : Sys) {m : Mp} {H : Heap} {w : World} (h : Rel m H w) (hi : St.I m H w) : St.S m H w m H w := St.of h hi (.refl h)
def KSndS (St : Sys) (P : Program) (K : Kf) : Prop := ∀ f args H r H', K f args H = some (r, H') → ∀ m w args', Rel m H w → St.I m H w → Gl P m → VRa m args args' →
 Calls P f args' w fun e w' => ∃ m', EndR m' r e ∧ St.S m H w m' H' w'
theorem KSndS.of {St : Sys} {P : Program} {K : Kf} (hK : KSnd P K) : KSndS St P K := fun f args H r H' he m w args' h hi hg ha =>
 (hK f args H r H' he m w args' h hg ha).mono fun e w' ⟨m', h1, h2⟩ => ⟨m', h1, St.of h hi h2⟩
structure GoesS (St : Sys) (P : Program) (o : Oper) (a' : Act) (m : Mp) (H : Heap) (w : World) (k : Value → Heap → R) (kp : List PanicEntry → Heap → R) (r : End × Heap)
   (next : Act → World → Prop) (Q : Exit → Act → World → Prop) : Prop where
 val : ∀ m' v v' H' w', VR m' v v' → St.S m H w m' H' w' → k v H' = some r → next (a'.put o.dst v') w'
 pan : ∀ m' c c' H' w', PanR m' c c' → St.S m H w m' H' w' → kp c H' = some r → Q (.panic c') a' w'
theorem yh2 {P : Program} {X : Xf} {K K' : Kf} {ρ : Operand → Value} {o : Oper} {H : Heap} {k : Value → Heap → R} {kp : List PanicEntry → Heap → R} (h : ∀ c f, o.op = .call c → c.callee ≠ .value f) : opK P X K ρ o H k kp = opK P X K' ρ o H k kp := by
 obtain ⟨dst, op, type, pos, after, guard⟩ := o
 cases op with
 | call c =>
   obtain ⟨callee, args, ts⟩ := c
   cases callee with
   | value f => exact absurd rfl (h _ f rfl)
   | builtin b => rfl
   | invoke x y => rfl
 | _ => rfl
theorem yh3 (P : Program) : KSnd P noK := fun f args H r H' he => by cases he
theorem j44 {St : Sys} {P : Program} {X : Xf} {K : Kf} (hX : XSnd P X) (hK : KSndS St P K) {o : Oper} {a' : Act} {m : Mp} {H : Heap} {w : World} (h : Rel m H w) (hi : St.I m H w) (hgl : Gl P m)
   {k : Value → Heap → R} {kp : List PanicEntry → Heap → R} {r : End × Heap} {next : Act → World → Prop} {Q : Exit → Act → World → Prop} (hg : GoesS St P o a' m H w k kp r next Q)
   {f : FuncId} {args args' : Array Value} (hargs : VRa m args args') (he : callK P X K f args H k kp = some r) :
   o.upon P a' next Q ((callFunc f args').run P w) := by
 unfold callK at he
 split at he
 · rename_i fn hf
   by_cases hn : (fn.name == "runtime.NumGoroutine") = true
   · rw [if_pos hn] at he; simp at he
   · rw [if_neg hn] at he
     by_cases hb : fn.body.isNone = true
     · rw [if_pos hb] at he
       obtain ⟨v, H', hx, hk⟩ := jd4 he
       obtain ⟨m', v', w', h1, h2, h3⟩ := hX f args H v H' hx m w args' h hgl hargs
       rw [h1]
       exact hg.val m' v v' H' w' h2 (St.of h hi h3) hk
     · rw [if_neg hb] at he
       have hrun : (callFunc f args').run P w = .ok (.enter f args') w := by
         unfold callFunc
         simp only [Sem.run_bind, run_program, Result.andThen_ok, hf]
         rw [if_neg hn, if_neg hb]
         rfl
       rw [hrun, Oper.upon_enter]
       unfold bindR at he
       split at he
       · rename_i v H' hk
         refine (hK f args H _ _ hk m w args' h hi hgl hargs).mono fun e w' ⟨m', h1, h2⟩ => ?_
         cases e with
         | returned v' => exact hg.val m' v v' H' w' h1 h2 he
         | panicked c' => exact h1.elim
         | outgrown => exact h1.elim
       · rename_i c H' hk
         refine (hK f args H _ _ hk m w args' h hi hgl hargs).mono fun e w' ⟨m', h1, h2⟩ => ?_
         cases e with
         | returned v' => exact h1.elim
         | panicked c' => exact hg.pan m' c c' H' w' h1 h2 he
         | outgrown => exact h1.elim
       · simp at he
 · simp at he
theorem j9q {St : Sys} {P : Program} {X : Xf} {K : Kf} (hX : XSnd P X) (hK : KSndS St P K) {o : Oper} {a' : Act} {m : Mp} {H : Heap} {w : World} (h : Rel m H w) (hi : St.I m H w) (hgl : Gl P m)
   {ρ : Operand → Value} (hρ : ∀ x ∈ o.op.operands.toList, VR m (ρ x) (a'.eval x))
   {k : Value → Heap → R} {kp : List PanicEntry → Heap → R} {r : End × Heap} {next : Act → World → Prop} {Q : Exit → Act → World → Prop} (hg : GoesS St P o a' m H w k kp r next Q)
   (he : opK P X K ρ o H k kp = some r) : o.upon P a' next Q ((execOp a'.eval o).run P w) := by
 by_cases hc : ∃ c f, o.op = .call c ∧ c.callee = .value f
 · obtain ⟨c, f, ho, hf⟩ := hc
   unfold opK at he
   rw [ho] at he
   simp only [hf] at he
   have hargs : VRa m (c.args.map ρ) (c.args.map a'.eval) := jv7 (fun x hx => hρ x (by simp only [ho, Op.operands, Call.operands]; simp at hx ⊢; exact .inr hx))
   have hfv := hρ f (by simp [ho, Op.operands, Call.operands, hf])
   split at he
   · rename_i g first cap hgv
     rw [hgv] at hfv
     generalize hz : a'.eval f = z at hfv
     cases hfv with
     | atom _ hh => simp [atomic] at hh
     | func _ _ first' _ cap' q1 q2 q3 q4 =>
       have hex : execOp a'.eval o = callFunc g (first' ++ c.args.map a'.eval ++ cap') := by
         simp only [execOp, ho, resolve, hf, hz, Deferred.ofValue]
         rfl
       rw [hex]
       exact j44 hX hK h hi hgl hg ((VRa.append ⟨q1, q3⟩ hargs).append ⟨q2, q4⟩) he
   · cases he
 · rw [yh2 (K' := noK) (fun c f ho hf => hc ⟨c, f, ho, hf⟩)] at he
   exact jj7 hX (yh3 P) h hgl hρ ⟨fun m' v v' H' w' h1 h2 h3 => hg.val m' v v' H' w' h1 (St.of h hi h2) h3, fun m' c c' H' w' h1 h2 h3 => hg.pan m' c c' H' w' h1 (St.of h hi h2) h3⟩ he
structure StRS (St : Sys) (P : Program) (m : Mp) (a : Act) (H : Heap) (a' : Act) (w : World) : Prop where
 act : ActR m a a'
 rel : Rel m H w
 gl : Gl P m
 inv : St.I m H w
theorem StRS.step {St : Sys} {P : Program} {m m' : Mp} {a : Act} {H H' : Heap} {a' : Act} {w w' : World} (h : StRS St P m a H a' w) (hs : St.S m H w m' H' w') : StRS St P m' a H' a' w' :=
 ⟨h.act.mono (St.le hs), St.rel hs, h.gl.mono (St.le hs), St.inv hs⟩
theorem StRS.put {St : Sys} {P : Program} {m : Mp} {a : Act} {H : Heap} {a' : Act} {w : World} (h : StRS St P m a H a' w) (dst : Option Tmp) {v v' : Value} (hv : VR m v v') : StRS St P m (a.put dst v) H (a'.put dst v') w :=
 ⟨h.act.put dst hv, h.rel, h.gl, h.inv⟩
def AfterS (St : Sys) (P : Program) (m : Mp) (H : Heap) (w : World) (k : Act → Heap → Prop) (a' : Act) (w' : World) : Prop :=
 ∃ m' a H', StRS St P m' a H' a' w' ∧ St.S m H w m' H' w' ∧ k a H'
theorem AfterS.mono {St : Sys} {P : Program} {m m1 : Mp} {H H1 : Heap} {w w1 : World} {k k' : Act → Heap → Prop} (hs : St.S m H w m1 H1 w1) (hk : ∀ a H, k a H → k' a H) {a' : Act} {w' : World} (h : AfterS St P m1 H1 w1 k a' w') :
   AfterS St P m H w k' a' w' := let ⟨m', a, H', x, y, z⟩ := h; ⟨m', a, H', x, St.trans hs y, hk _ _ z⟩
structure StWS (St : Sys) (P : Program) (m : Mp) (a : Act) (H : Heap) (a' : Act) (w : World) : Prop where
 act : ActW m a a'
 rel : Rel m H w
 gl : Gl P m
 inv : St.I m H w
theorem StRS.weak {St : Sys} {P : Program} {m : Mp} {a : Act} {H : Heap} {a' : Act} {w : World} (h : StRS St P m a H a' w) : StWS St P m a H a' w := ⟨h.act.weak, h.rel, h.gl, h.inv⟩
def AfterPS (St : Sys) (P : Program) (m : Mp) (H : Heap) (w : World) (c' : List PanicEntry) (k : List PanicEntry → Act → Heap → Prop) (a' : Act) (w' : World) : Prop :=
 ∃ m' c a H', PanR m' c c' ∧ StWS St P m' a H' a' w' ∧ St.S m H w m' H' w' ∧ k c a H'
theorem AfterPS.mono {St : Sys} {P : Program} {m m1 : Mp} {H H1 : Heap} {w w1 : World} {c' : List PanicEntry} {k k' : List PanicEntry → Act → Heap → Prop} (hs : St.S m H w m1 H1 w1) (hk : ∀ c a H, k c a H → k' c a H) {a' : Act} {w' : World} (h : AfterPS St P m1 H1 w1 c' k a' w') :
   AfterPS St P m H w c' k' a' w' := let ⟨m', c, a, H', p, x, y, z⟩ := h; ⟨m', c, a, H', p, x, St.trans hs y, hk _ _ _ z⟩
theorem j1l {St : Sys} {P : Program} {X : Xf} {K : Kf} (hX : XSnd P X) (hK : KSndS St P K) {o : Oper} {a a' : Act} {m : Mp} {H : Heap} {w : World} (h : StRS St P m a H a' w)
   {k : Act → Heap → R} {kp : List PanicEntry → Act → Heap → R} {r : End × Heap} (he : execOp1 P X K o a H k kp = some r) {next : Act → World → Prop} {Q : Exit → Act → World → Prop}
   (hn : ∀ b' w', AfterS St P m H w (fun b H' => k b H' = some r) b' w' → next b' w')
   (hp : ∀ c' b' w', AfterPS St P m H w c' (fun c b H' => kp c b H' = some r) b' w' → Q (.panic c') b' w') : o.wp P a' w next Q := by
 unfold execOp1 at he
 cases hok : opOk P o with
 | false => rw [hok] at he; simp at he
 | true =>
   rw [hok] at he
   simp only [cond_true] at he
   have hρ : ∀ x ∈ o.op.operands.toList, VR m (a.eval x) (a'.eval x) := fun x hx => j9y h.act h.gl (List.all_eq_true.1 hok x hx)
   unfold Oper.wp
   split at he
   · rename_i c ho
     split at he
     · rename_i d hd
       unfold deferOf at hd
       split at hd
       · rename_i f hf
         split at hd
         · rename_i fn first cap hgv
           simp only [Option.some.injEq] at hd; subst hd
           have hfv := hρ f (by simp [ho, Op.operands, Call.operands, hf])
           rw [hgv] at hfv
           generalize hz : a'.eval f = z at hfv
           have hargs : VRa m (c.args.map a.eval) (c.args.map a'.eval) := jv7 (fun x hx => hρ x (by simp only [ho, Op.operands, Call.operands]; simp at hx ⊢; exact .inr hx))
           cases hfv with
           | atom _ hh => simp [atomic] at hh
           | func _ _ first' _ cap' q1 q2 q3 q4 =>
             have hex : (execOp a'.eval o).run P w = .ok (.defer { target := .fn fn cap', args := first' ++ c.args.map a'.eval }) w := by
               simp only [execOp, ho, resolve, hf, hz, Deferred.ofValue]
               rfl
             rw [hex, Oper.upon_defer]
             refine hn _ _ ⟨m, _, H, ?_, St.refl h.rel h.inv, he⟩
             refine ⟨?_, h.rel, h.gl, h.inv⟩
             refine ActR.put (a := { a with defers := _ :: a.defers }) (a' := { a' with defers := _ :: a'.defers }) ⟨h.act.tmps, .cons ?_ h.act.defers⟩ o.dst (.undef m)
             exact ⟨fn, cap, cap', rfl, rfl, ⟨q2, q4⟩, VRa.append ⟨q1, q3⟩ hargs⟩
         · simp at hd
       · simp at hd
     · simp at he
   · refine j9q hX hK h.rel h.inv h.gl hρ ⟨?_, ?_⟩ he
     · intro m' v v' H' w' hv hs hk
       exact hn _ _ ⟨m', a.put o.dst v, H', (h.step hs).put o.dst hv, hs, jv6 hk⟩
     · intro m' c c' H' w' hc hs hk
       exact hp _ _ _ ⟨m', c, a, H', hc, (h.step hs).weak, hs, hk⟩
theorem j3j {St : Sys} {P : Program} {ops : Array Oper} {o : Oper} {a a' : Act} {m : Mp} {H : Heap} {w : World} (h : StRS St P m a H a' w) {run skip : Act → R} {r : End × Heap} (he : guardK ops o a run skip = some r) :
   ∃ b, StRS St P m b H a' w ∧ ((Region.wanted o (yielded ops a'.tmps) = true ∧ run b = some r) ∨ (Region.wanted o (yielded ops a'.tmps) = false ∧ skip b = some r)) := by
 unfold guardK at he
 split at he
 · rename_i hgd
   exact ⟨a, h, .inl ⟨by simp [Region.wanted, hgd], he⟩⟩
 · rename_i j want hgd
   split at he
   · rename_i hd
     refine ⟨a, h, .inr ⟨?_, he⟩⟩
     simp [Region.wanted, hgd, yielded, hd]
   · rename_i d hd
     have hsz := h.act.tmps.1
     split at he
     · rename_i b hb
       obtain ⟨hlt, hb2⟩ := Array.getElem?_eq_some_iff.1 hb
       have hlt' : d < a'.tmps.size := hsz ▸ hlt
       have hv := h.act.tmps.2 d hlt hlt'
       rw [hb2] at hv
       have hv' := hv.bool_inv
       have hy : yielded ops a'.tmps j = some b := by
         simp [yielded, hd, hlt', hv']
       rw [jn6] at he
       have hset : StRS St P m { a with tmps := a.tmps.setIfInBounds d (.bool b) } H a' w := by
         refine ⟨⟨?_, h.act.defers⟩, h.rel, h.gl, h.inv⟩
         refine ⟨by simpa using hsz, fun i x y => ?_⟩
         have x' : i < a.tmps.size := by simpa using x
         by_cases e : d = i
         · subst e
           have : (a.tmps.setIfInBounds d (.bool b))[d] = .bool b := by simp
           rw [this, hv']; exact .bool m b
         · have : (a.tmps.setIfInBounds d (.bool b))[i] = a.tmps[i] := by simp [e, x']
           rw [this]; exact h.act.tmps.2 i x' y
       refine ⟨_, hset, ?_⟩
       cases hw : (b == want) with
       | true =>
         rw [hw] at he
         have := eq_of_beq hw; subst this
         exact .inl ⟨by simp [Region.wanted, hgd, hy], he⟩
       | false =>
         rw [hw] at he
         refine .inr ⟨?_, he⟩
         have : b ≠ want := by intro e; subst e; simp at hw
         simp [Region.wanted, hgd, hy, this]
     · rename_i vs hb
       obtain ⟨hlt, hb2⟩ := Array.getElem?_eq_some_iff.1 hb
       have hlt' : d < a'.tmps.size := hsz ▸ hlt
       have hv := h.act.tmps.2 d hlt hlt'
       rw [hb2] at hv
       obtain ⟨vs', hv', _⟩ := hv.tuple_inv
       refine ⟨a, h, .inr ⟨?_, he⟩⟩
       simp [Region.wanted, hgd, yielded, hd, hlt', hv']
     · simp at he
theorem j1m {St : Sys} {P : Program} {X : Xf} {K : Kf} (hX : XSnd P X) (hK : KSndS St P K) {ops : Array Oper} {r : End × Heap} {k : Act → Heap → R} {kp : List PanicEntry → Act → Heap → R} {Q : Exit → Act → World → Prop} :
   ∀ (l : List Oper) (n : Nat) (_ : l = ops.toList.drop n) {a a' : Act} {m : Mp} {H : Heap} {w : World}, StRS St P m a H a' w → execOps P X K ops l a H k kp = some r →
   (∀ b' w', AfterS St P m H w (fun b H' => k b H' = some r) b' w' → Q .normal b' w') →
   (∀ c' b' w', AfterPS St P m H w c' (fun c b H' => kp c b H' = some r) b' w' → Q (.panic c') b' w') →
   wpOps P ops Q ((List.range ops.size).drop n) a' w := by
 intro l
 induction l with
 | nil =>
   intro n hl a a' m H w h he hn hp
   have hlen : ops.size ≤ n := by
     have := congrArg List.length hl
     simp at this; omega
   rw [List.drop_of_length_le (by simpa using hlen)]
   exact hn _ _ ⟨m, a, H, h, St.refl h.rel h.inv, he⟩
 | cons o rest ih =>
   intro n hl a a' m H w h he hn hp
   have hlt : n < ops.size := by
     have := congrArg List.length hl
     simp at this; omega
   have hd : (List.range ops.size).drop n = n :: (List.range ops.size).drop (n + 1) := by
     rw [List.drop_eq_getElem_cons (by simpa using hlt)]
     simp
   have hl2 : ops.toList.drop n = ops[n] :: ops.toList.drop (n + 1) := by
     rw [List.drop_eq_getElem_cons (by simpa using hlt)]
     simp
   rw [hl2] at hl
   simp only [List.cons.injEq] at hl
   obtain ⟨rfl, hrest⟩ := hl
   rw [hd]
   simp only [wpOps, Array.getElem?_eq_getElem hlt]
   simp only [execOps] at he
   obtain ⟨b, hb, hc⟩ := j3j h he
   rcases hc with ⟨hw, hr⟩ | ⟨hw, hr⟩
   · rw [if_pos hw]
     left
     refine j1l hX hK hb hr (fun b2 w2 ha => ?_) (fun c2 b2 w2 ha => hp c2 b2 w2 ha)
     obtain ⟨m2, b3, H3, s1, s2, s3⟩ := ha
     exact ih (n + 1) hrest s1 s3 (fun b4 w4 ha4 => hn b4 w4 (ha4.mono s2 (fun _ _ x => x))) (fun c4 b4 w4 ha4 => hp c4 b4 w4 (ha4.mono s2 (fun _ _ _ x => x)))
   · rw [if_neg (by simp [hw])]
     exact ih (n + 1) hrest (hb.put _ (.undef m)) hr hn hp
def noDraw : Code → Bool
 | .region _ _ draw => !draw
 | .seq a b => noDraw a && noDraw b
 | .cond _ a b => noDraw a && noDraw b
 | .block _ b => noDraw b
 | .loop b => noDraw b
 | .scope b => noDraw b
 | _ => true
def OutQS (St : Sys) (P : Program) (m : Mp) (H : Heap) (w : World) (k : Out → Act → Heap → R) (r : End × Heap) : Exit → Act → World → Prop
 | .normal, a', w' => AfterS St P m H w (fun a H' => k .norm a H' = some r) a' w'
 | .exit id, a', w' => AfterS St P m H w (fun a H' => k (.exit id) a H' = some r) a' w'
 | .goto l, a', w' => AfterS St P m H w (fun a H' => k (.goto l) a H' = some r) a' w'
 | .ret, a', w' => AfterS St P m H w (fun a H' => k .ret a H' = some r) a' w'
 | .panic c', a', w' => AfterPS St P m H w c' (fun c a H' => k (.pan c) a H' = some r) a' w'
 | .outgrown, _, _ => False
theorem OutQS.of {St : Sys} {P : Program} {m : Mp} {H : Heap} {w : World} {k : Out → Act → Heap → R} {r : End × Heap} {m1 : Mp} {H1 : Heap} {w1 : World} (hs : St.S m H w m1 H1 w1) {e : Exit} {a' : Act} {w' : World} (h : OutQS St P m1 H1 w1 k r e a' w') :
   OutQS St P m H w k r e a' w' := by
 cases e <;> first
   | exact AfterS.mono hs (fun _ _ x => x) h
   | exact AfterPS.mono hs (fun _ _ _ x => x) h
   | exact h
theorem OutQS.wp_mono {P : Program} {c : Code} {Q Q' : Exit → Act → World → Prop} {a : Act} {w : World} (h : c.wp P Q a w) (hq : ∀ e a w, Q e a w → Q' e a w) : c.wp P Q' a w := Go.wp_mono h hq
theorem j6n {St : Sys} {P : Program} {c : Code} {body : Act → Heap → (Out → Act → Heap → R) → R} {r : End × Heap}
   (hb : ∀ {a a' : Act} {m : Mp} {H : Heap} {w : World} {k : Out → Act → Heap → R}, StRS St P m a H a' w → body a H k = some r → c.wp P (OutQS St P m H w k r) a' w) :
   ∀ (n : Nat) {a a' : Act} {m : Mp} {H : Heap} {w : World} {k : Out → Act → Heap → R}, StRS St P m a H a' w → loopC body n a H k = some r →
     ∀ (b : Frame) (kk : List Item) (cs : List Frame), ∃ e a2 w2, OutQS St P m H w k r e a2 w2 ∧ Arrives P (lone (b.at a' (.code c :: .inLoop c :: kk)) cs w) b kk cs e a2 w2 := by
 intro n
 induction n with
 | zero => intro a a' m H w k h he; simp [loopC] at he
 | succ n ih =>
   intro a a' m H w k h he b kk cs
   simp only [loopC] at he
   obtain ⟨e, a1, w1, hq, harr⟩ := hb h he b (.inLoop c :: kk) cs
   cases e with
   | normal =>
     obtain ⟨m1, a2, H1, s1, s2, s3⟩ := hq
     obtain ⟨e2, a3, w3, hq2, harr2⟩ := ih s1 s3 b kk cs
     exact ⟨e2, a3, w3, OutQS.of s2 hq2, .of_steps (Steps.trans harr (.one step_inLoop)) harr2⟩
   | exit id => exact ⟨.exit id, a1, w1, hq, .pass (x := .inLoop c) rfl (fun _ _ => .inl (by simp)) harr⟩
   | goto l => exact ⟨.goto l, a1, w1, hq, .pass (x := .inLoop c) rfl (fun _ _ => .inl (by simp)) harr⟩
   | ret => exact ⟨.ret, a1, w1, hq, .pass (x := .inLoop c) rfl (fun _ _ => .inl (by simp)) harr⟩
   | panic ch => exact ⟨.panic ch, a1, w1, hq, .pass (x := .inLoop c) rfl (fun _ _ => .inl (by simp)) harr⟩
   | outgrown => exact hq.elim
theorem j45 {St : Sys} {P : Program} {c : Code} {body : Option Nat → Act → Heap → (Out → Act → Heap → R) → R} {r : End × Heap}
   (hb : ∀ (s : Option Nat) (c' : Code) {a a' : Act} {m : Mp} {H : Heap} {w : World} {k : Out → Act → Heap → R}, Begins c s c' → StRS St P m a H a' w → body s a H k = some r → c'.wp P (OutQS St P m H w k r) a' w) :
   ∀ (n : Nat) (s : Option Nat) (c' : Code) {a a' : Act} {m : Mp} {H : Heap} {w : World} {k : Out → Act → Heap → R}, Begins c s c' → StRS St P m a H a' w → scopeC c body n s a H k = some r →
     ∀ (b : Frame) (kk : List Item) (cs : List Frame), ∃ e a2 w2, OutQS St P m H w k r e a2 w2 ∧ Arrives P (lone (b.at a' (.code c' :: .inScope c :: kk)) cs w) b kk cs e a2 w2 := by
 intro n
 induction n with
 | zero => intro s c' a a' m H w k hs h he; simp [scopeC] at he
 | succ n ih =>
   intro s c' a a' m H w k hs h he b kk cs
   simp only [scopeC] at he
   obtain ⟨e, a1, w1, hq, harr⟩ := hb s c' hs h he b (.inScope c :: kk) cs
   cases e with
   | normal => exact ⟨.normal, a1, w1, hq, Steps.trans harr (.one step_inScope)⟩
   | exit id => exact ⟨.exit id, a1, w1, hq, fun k' hk => harr k' (by simpa [exitTo] using hk)⟩
   | goto l =>
     obtain ⟨m1, a2, H1, s1, s2, s3⟩ := hq
     change (bif hasLabel l c then scopeC c body n (some l) a2 H1 k else k (.goto l) a2 H1) = some r at s3
     cases hl : hasLabel l c with
     | true =>
       rw [hl] at s3
       simp only [cond_true] at s3
       rw [je2] at hl
       obtain ⟨rest, hr⟩ := Option.isSome_iff_exists.1 hl
       obtain ⟨e2, a3, w3, hq2, harr2⟩ := ih (some l) rest hr s1 s3 b kk cs
       exact ⟨e2, a3, w3, OutQS.of s2 hq2, .of_steps (harr _ (by simp [gotoIn, hr])) harr2⟩
     | false =>
       rw [hl] at s3
       simp only [cond_false] at s3
       rw [je2] at hl
       have hnone : findLabel c l = none := by simpa using hl
       exact ⟨.goto l, a1, w1, ⟨m1, a2, H1, s1, s2, s3⟩, fun k' hk => harr k' (by simpa [gotoIn, hnone] using hk)⟩
   | ret => exact ⟨.ret, a1, w1, hq, harr⟩
   | panic ch => exact ⟨.panic ch, a1, w1, hq, harr⟩
   | outgrown => exact hq.elim
theorem j6o {St : Sys} {P : Program} {X : Xf} {K : Kf} {N : Nat} (hX : XSnd P X) (hK : KSndS St P K) (r : End × Heap) :
   ∀ (c : Code) (_ : noDraw c = true) (s : Option Nat) (c' : Code) {a a' : Act} {m : Mp} {H : Heap} {w : World} {k : Out → Act → Heap → R}, Begins c s c' → StRS St P m a H a' w → exec P X K N c s a H k = some r →
     c'.wp P (OutQS St P m H w k r) a' w := by
 intro c
 induction c with
 | skip =>
   intro hnd s c' a a' m H w k hs h he
   cases s with
   | none => simp only [Begins] at hs; subst hs; exact wp_skip ⟨m, a, H, h, St.refl h.rel h.inv, by simpa [exec] using he⟩
   | some l => simp [exec] at he
 | label l' =>
   intro hnd s c' a a' m H w k hs h he
   cases s with
   | none => simp only [Begins] at hs; subst hs; exact wp_label ⟨m, a, H, h, St.refl h.rel h.inv, by simpa [exec] using he⟩
   | some l =>
     simp only [exec] at he
     cases e : (l' == l) with
     | false => rw [e] at he; simp at he
     | true =>
       rw [e] at he
       simp only [Begins, findLabel, e, if_true, Option.some.injEq] at hs
       subst hs
       exact wp_skip ⟨m, a, H, h, St.refl h.rel h.inv, he⟩
 | region id ops draw =>
   intro hnd s c' a a' m H w k hs h he
   cases s with
   | some l => simp [exec] at he
   | none =>
     simp only [Begins] at hs; subst hs
     simp only [exec] at he
     cases draw with
     | false =>
       simp only [cond_false] at he
       refine wp_region ?_
       have := j1m hX hK (Q := OutQS St P m H w k r) ops.toList 0 (by simp) h he (fun _ _ x => x) (fun _ _ _ x => x)
       simpa using this
     | true => cases hnd
 | seq x y ihx ihy =>
   intro hnd s c' a a' m H w k hs h he
   simp only [noDraw, Bool.and_eq_true] at hnd
   have key : ∀ (x' : Code) {a a' : Act} {m : Mp} {H : Heap} {w : World}, (∀ {k : Out → Act → Heap → R}, ∀ s, exec P X K N x s a H k = some r → Begins x s x' → StRS St P m a H a' w → x'.wp P (OutQS St P m H w k r) a' w) →
       ∀ s, Begins x s x' → StRS St P m a H a' w → exec P X K N x s a H (fun o a H => match o with | .norm => exec P X K N y none a H k | o => k o a H) = some r → (Code.seq x' y).wp P (OutQS St P m H w k r) a' w := by
     intro x' a a' m H w hx s hs h he
     refine wp_seq (OutQS.wp_mono (hx s he hs h) ?_)
     intro e a1 w1 hq
     cases e with
     | normal =>
       obtain ⟨m1, a2, H1, s1, s2, s3⟩ := hq
       exact OutQS.wp_mono (ihy hnd.2 none y rfl s1 s3) (fun e a w hq => OutQS.of s2 hq)
     | _ => exact hq
   cases s with
   | none =>
     simp only [Begins] at hs; subst hs
     simp only [exec] at he
     exact key x (fun s he hs h => ihx hnd.1 s x hs h he) none rfl h he
   | some l =>
     simp only [exec] at he
     cases hl : hasLabel l x with
     | true =>
       rw [hl] at he
       simp only [cond_true] at he
       rw [je2] at hl
       obtain ⟨rest, hr⟩ := Option.isSome_iff_exists.1 hl
       simp only [Begins, findLabel, hr, Option.some.injEq] at hs
       subst hs
       exact key rest (fun s he hs h => ihx hnd.1 s rest hs h he) (some l) hr h he
     | false =>
       rw [hl] at he
       simp only [cond_false] at he
       rw [je2] at hl
       have hnone : findLabel x l = none := by simpa using hl
       simp only [Begins, findLabel, hnone] at hs
       exact ihy hnd.2 (some l) c' hs h he
 | cond x c1 c2 ih1 ih2 =>
   intro hnd s c' a a' m H w k hs h he
   simp only [noDraw, Bool.and_eq_true] at hnd
   cases s with
   | some l => simp [exec] at he
   | none =>
     simp only [Begins] at hs; subst hs
     simp only [exec] at he
     split at he
     · rename_i t ht
       have hx : a'.eval x = .bool t := by
         cases x with
         | tmp j =>
           have hv := h.act.tmps.getD j (.undef m)
           have e1 : a.eval (.tmp j) = a.tmps.getD j undef := rfl
           rw [← e1, ht] at hv
           exact hv.bool_inv
         | const v => exact ht
         | global g => simp [Act.eval] at ht
         | func f => simp [Act.eval] at ht
       refine wp_cond hx ?_
       cases t with
       | true => exact ih1 hnd.1 none c1 rfl h he
       | false => exact ih2 hnd.2 none c2 rfl h he
     · simp at he
 | block id b ih =>
   intro hnd s c' a a' m H w k hs h he
   cases s with
   | some l => simp [exec] at he
   | none =>
     simp only [Begins] at hs; subst hs
     simp only [exec] at he
     refine wp_block (OutQS.wp_mono (ih hnd none b rfl h he) ?_)
     intro e a1 w1 hq
     cases e with
     | exit i =>
       obtain ⟨m1, a2, H1, s1, s2, s3⟩ := hq
       change (bif i == id then k .norm a2 H1 else k (.exit i) a2 H1) = some r at s3
       by_cases e : i = id
       · subst e
         simp only [BEq.rfl, cond_true] at s3
         simp only [Exit.inBlock, if_true]
         exact ⟨m1, a2, H1, s1, s2, s3⟩
       · have e' : (i == id) = false := by simpa using e
         simp only [e', cond_false] at s3
         simp only [Exit.inBlock, e, if_false]
         exact ⟨m1, a2, H1, s1, s2, s3⟩
     | _ => exact hq
 | loop b ih =>
   intro hnd s c' a a' m H w k hs h he
   cases s with
   | some l => simp [exec] at he
   | none =>
     simp only [Begins] at hs; subst hs
     simp only [exec] at he
     intro fr kk cs
     obtain ⟨e, a2, w2, hq, harr⟩ := j6n (c := b) (fun h he => ih hnd none b rfl h he) N h he fr kk cs
     exact ⟨e, a2, w2, hq, .of_steps (.one step_loop) harr⟩
 | rangeFunc f ps x y _ _ => intro _ s c' a a' m H w k hs h he; cases s <;> simp [exec] at he
 | exit id =>
   intro hnd s c' a a' m H w k hs h he
   cases s with
   | none => simp only [Begins] at hs; subst hs; exact wp_exit ⟨m, a, H, h, St.refl h.rel h.inv, by simpa [exec] using he⟩
   | some l => simp [exec] at he
 | scope b ih =>
   intro hnd s c' a a' m H w k hs h he
   cases s with
   | some l => simp [exec] at he
   | none =>
     simp only [Begins] at hs; subst hs
     simp only [exec] at he
     intro fr kk cs
     obtain ⟨e, a2, w2, hq, harr⟩ := j45 (c := b) (fun s c' {_ _ _ _ _ _} hs h he => ih hnd s c' hs h he) N none b rfl h he fr kk cs
     exact ⟨e, a2, w2, hq, .of_steps (.one step_scope) harr⟩
 | goto l =>
   intro hnd s c' a a' m H w k hs h he
   cases s with
   | none => simp only [Begins] at hs; subst hs; exact wp_goto ⟨m, a, H, h, St.refl h.rel h.inv, by simpa [exec] using he⟩
   | some l => simp [exec] at he
 | ret =>
   intro hnd s c' a a' m H w k hs h he
   cases s with
   | none => simp only [Begins] at hs; subst hs; exact wp_ret ⟨m, a, H, h, St.refl h.rel h.inv, by simpa [exec] using he⟩
   | some l => simp [exec] at he
 | refuse why => intro _ s c' a a' m H w k hs h he; cases s <;> simp [exec] at he
def Dis (m : Mp) (H : Heap) (n : Mp) (G : Heap) : Prop := ∀ b x L b' x' L', H.get b = some x → m b = some L → G.get b' = some x' → n b' = some L' → (x.rw = true ∨ x'.rw = true) → L.c ≠ L'.c
theorem Dis.symm {m n : Mp} {H G : Heap} (h : Dis m H n G) : Dis n G m H := fun b x L b' x' L' h1 h2 h3 h4 h5 e => h b' x' L' b x L h3 h4 h1 h2 h5.symm e.symm
theorem Dis.step {m m1 n : Mp} {H H1 G : Heap} {w w1 : World} (st : Step m H w m1 H1 w1) (h : Rel m H w) (d : Dis m H n G) (r : Rel n G w) : Rel n G w1 ∧ Dis m1 H1 n G := by
 refine ⟨⟨fun b x hb => ?_, r.apart, fun b L hm => Nat.lt_of_lt_of_le (r.bound b L hm) st.keep.size, r.fresh⟩, ?_⟩
 · obtain ⟨L, h1, h2⟩ := r.blk b x hb
   refine ⟨L, h1, h2.mono (Mp.le_refl n) (st.keep.block _ (r.bound _ _ h1) ?_)⟩
   rintro ⟨b0, x0, L0, p1, p2, p3, p4⟩
   exact d b0 x0 L0 b x L p1 p3 hb h1 (.inl p2) p4
 · intro b x L b' x' L' h1 h2 h3 h4 h5 e
   have hlt : L'.c < w.heap.size := r.bound _ _ h4
   by_cases hx : x.rw = true
   · obtain ⟨b0, x0, L0, p1, p2, p3, p4⟩ := st.later.2.1 L.c (e ▸ hlt) ⟨b, x, L, h1, hx, h2, rfl⟩
     exact d b0 x0 L0 b' x' L' p1 p3 h3 h4 (.inl p2) (p4.trans e)
   · have hx' : x'.rw = true := h5.resolve_left hx
     have p1 := st.later.2.2.2 b x h1 (by simpa using hx)
     obtain ⟨L0, p2, _⟩ := h.blk b x p1
     have : L0 = L := by have := st.later.1 b L0 p2; rw [h2] at this; exact (Option.some.inj this).symm
     subst this
     exact d b x L0 b' x' L' p1 p2 h3 h4 (.inr hx') e
def Above (B : Nat) (m : Mp) (H : Heap) : Prop := ∀ c, Owns m H c → B ≤ c
theorem Above.step {B : Nat} {m m1 : Mp} {H H1 : Heap} {w w1 : World} (st : Step m H w m1 H1 w1) (h : Above B m H) (hb : B ≤ w.heap.size) : Above B m1 H1 := fun c ho => by
 by_cases hc : c < w.heap.size
 · exact h c (st.later.2.1 c hc ho)
 · omega
theorem Above.below {B : Nat} {m m1 : Mp} {H H1 : Heap} {w w1 : World} (st : Step m H w m1 H1 w1) (h : Above B m H) (hb : B ≤ w.heap.size) : Go.RowKit.Below B w w1 :=
 ⟨st.keep.os, st.keep.tape, st.keep.output, st.keep.size, fun k hk => st.keep.block k (by omega) fun ho => by have := h k ho; omega⟩
def Heap.push (H : Heap) (x : Blk) : Heap := { m := H.m.set H.next (some x), next := H.next + 1 }
theorem Heap.get_push (H : Heap) (x : Blk) (k : Nat) : (H.push x).get k = if k = H.next then some x else H.get k := Tr.get_set _ _ _ _
def fput (F : Nat → Mp × Heap) (a : Nat) (v : Mp × Heap) : Nat → Mp × Heap := fun k => if k = a then v else F k
theorem jc2 (F : Nat → Mp × Heap) (a : Nat) (v : Mp × Heap) : fput F a v a = v := if_pos rfl
theorem ja8 {F : Nat → Mp × Heap} {a k : Nat} {v : Mp × Heap} (h : k ≠ a) : fput F a v k = F k := if_neg h
structure Fam (P : Program) (B : Nat) (w : World) (F : Nat → Mp × Heap) : Prop where
 base : B ≤ w.heap.size
 rel : ∀ a, Rel (F a).1 (F a).2 w
 own : ∀ a, Above B (F a).1 (F a).2
 gl : ∀ a, Gl P (F a).1
 dis : ∀ a b, a ≠ b → Dis (F a).1 (F a).2 (F b).1 (F b).2
variable {P : Program} {B : Nat} {w w1 : World} {F : Nat → Mp × Heap}
theorem Fam.run (f : Fam P B w F) (a : Nat) {m1 : Mp} {H1 : Heap} (st : Step (F a).1 (F a).2 w m1 H1 w1) : Fam P B w1 (fput F a (m1, H1)) := by
 refine ⟨Nat.le_trans f.base st.keep.size, fun k => ?_, fun k => ?_, fun k => ?_, fun k l hkl => ?_⟩
 · by_cases e : k = a
   · subst e; rw [jc2]; exact st.rel
   · rw [ja8 e]; exact (Dis.step st (f.rel a) (f.dis a k (Ne.symm e)) (f.rel k)).1
 · by_cases e : k = a
   · subst e; rw [jc2]; exact (f.own k).step st f.base
   · rw [ja8 e]; exact f.own k
 · by_cases e : k = a
   · subst e; rw [jc2]; exact (f.gl k).mono st.later.1
   · rw [ja8 e]; exact f.gl k
 · by_cases e : k = a
   · subst e; rw [jc2, ja8 (Ne.symm hkl)]; exact (Dis.step st (f.rel k) (f.dis k l hkl) (f.rel l)).2
   · rw [ja8 e]
     by_cases e' : l = a
     · subst e'; rw [jc2]; exact (Dis.step st (f.rel l) (f.dis l k (Ne.symm e)) (f.rel k)).2.symm
     · rw [ja8 e']; exact f.dis k l hkl
theorem Fam.give (f : Fam P B w F) {a b : Nat} (hab : a ≠ b) {i : Nat} {x x2 : Blk} {L L2 : Loc} (hi : (F a).2.get i = some x) (hrw : x.rw = true) (hm : (F a).1 i = some L) (hc : L2.c = L.c) (hl : Lies (F b).1 w x2 L2) :
   Fam P B w (fput (fput F a ((F a).1, (F a).2.drop i)) b ((F b).1.add (F b).2.next L2, (F b).2.push x2)) := by
 have far : ∀ k, k ≠ a → ∀ c y L', (F k).2.get c = some y → (F k).1 c = some L' → L'.c ≠ L2.c := fun k hk c y L' h1 h2 e => by
   rw [hc] at e
   exact f.dis a k (Ne.symm hk) i x L c y L' hi hm h1 h2 (.inl hrw) e.symm
 have own : ∀ c y L', ((F a).2.drop i).get c = some y → (F a).1 c = some L' → L'.c ≠ L2.c := fun c y L' h1 h2 e => by
   rw [Heap.get_drop] at h1
   by_cases ec : c = i
   · rw [if_pos ec] at h1; cases h1
   · rw [if_neg ec] at h1
     exact ec ((f.rel a).apart i x hi hrw c y L L' h1 hm h2 (by rw [e, hc]))
 have dr := Step.drop (f.rel a) i
 have f1 := f.run a dr
 have hle : (F b).1.le ((F b).1.add (F b).2.next L2) := Mp.le_add ((f.rel b).fresh _ (Nat.le_refl _)).1
 have hba : b ≠ a := Ne.symm hab
 -- what the heaps that give hold lies elsewhere
 have out : ∀ k, k ≠ b → ∀ c y L', (fput F a ((F a).1, (F a).2.drop i) k).2.get c = some y → (fput F a ((F a).1, (F a).2.drop i) k).1 c = some L' → L'.c ≠ L2.c := fun k hk c y L' h1 h2 => by
   by_cases e : k = a
   · subst e; rw [jc2] at h1 h2; exact own c y L' h1 h2
   · rw [ja8 e] at h1 h2; exact far k e c y L' h1 h2
 have inB : ∀ c y L', (F b).2.get c = some y → (F b).1 c = some L' → L'.c ≠ L2.c := far b hba
 have hg : ∀ c y, ((F b).2.push x2).get c = some y → (c = (F b).2.next ∧ y = x2) ∨ (c ≠ (F b).2.next ∧ (F b).2.get c = some y) := fun c y h => by
   rw [Heap.get_push] at h
   by_cases e : c = (F b).2.next
   · rw [if_pos e] at h; exact .inl ⟨e, (Option.some.inj h).symm⟩
   · rw [if_neg e] at h; exact .inr ⟨e, h⟩
 have hmm : ∀ c L', ((F b).1.add (F b).2.next L2) c = some L' → (c = (F b).2.next ∧ L' = L2) ∨ (c ≠ (F b).2.next ∧ (F b).1 c = some L') := fun c L' h => by
   by_cases e : c = (F b).2.next
   · simp only [Mp.add, e, if_true, Option.some.injEq] at h; exact .inl ⟨e, h.symm⟩
   · simp only [Mp.add, e, if_false] at h; exact .inr ⟨e, h⟩
 have disB : ∀ k, k ≠ b → Dis ((F b).1.add (F b).2.next L2) ((F b).2.push x2) (fput F a ((F a).1, (F a).2.drop i) k).1 (fput F a ((F a).1, (F a).2.drop i) k).2 := fun k hk c y M c' y' M' h1 h2 h3 h4 h5 e => by
   rcases hg c y h1 with ⟨e1, rfl⟩ | ⟨e1, h1'⟩
   · rcases hmm c M h2 with ⟨_, rfl⟩ | ⟨e2, _⟩
     · exact out k hk c' y' M' h3 h4 e.symm
     · exact e2 e1
   · rcases hmm c M h2 with ⟨e2, _⟩ | ⟨_, h2'⟩
     · exact e1 e2
     · have := f1.dis b k (Ne.symm hk)
       rw [ja8 hba] at this
       exact this c y M c' y' M' h1' h2' h3 h4 h5 e
 refine ⟨f.base, fun k => ?_, fun k => ?_, fun k => ?_, fun k l hkl => ?_⟩
 · by_cases e : k = b
   · subst e
     rw [jc2]
     refine ⟨fun c y h => ?_, fun c y h1 h2 c' y' M M' h3 h4 h5 h6 => ?_, fun c M h => ?_, fun c h => ?_⟩
     · rcases hg c y h with ⟨rfl, rfl⟩ | ⟨e1, h1⟩
       · exact ⟨L2, by simp [Mp.add], hl.mono hle rfl⟩
       · obtain ⟨M, q1, q2⟩ := (f.rel k).blk c y h1
         exact ⟨M, by simp [Mp.add, e1, q1], q2.mono hle rfl⟩
     · rcases hg c y h1 with ⟨e1, rfl⟩ | ⟨e1, h1'⟩ <;> rcases hg c' y' h3 with ⟨e2, rfl⟩ | ⟨e2, h3'⟩
       · rw [e1, e2]
       · rcases hmm c M h4 with ⟨_, rfl⟩ | ⟨n, _⟩
         · rcases hmm c' M' h5 with ⟨n, _⟩ | ⟨_, h5'⟩
           · exact absurd n e2
           · exact absurd h6 (inB c' y' M' h3' h5')
         · exact absurd e1 n
       · rcases hmm c' M' h5 with ⟨_, rfl⟩ | ⟨n, _⟩
         · rcases hmm c M h4 with ⟨n, _⟩ | ⟨_, h4'⟩
           · exact absurd n e1
           · exact absurd h6.symm (inB c y M h1' h4')
         · exact absurd e2 n
       · rcases hmm c M h4 with ⟨n, _⟩ | ⟨_, h4'⟩
         · exact absurd n e1
         · rcases hmm c' M' h5 with ⟨n, _⟩ | ⟨_, h5'⟩
           · exact absurd n e2
           · exact (f.rel k).apart c y h1' h2 c' y' M M' h3' h4' h5' h6
     · rcases hmm c M h with ⟨_, rfl⟩ | ⟨_, h'⟩
       · rw [hc]; exact (f.rel a).bound _ _ hm
       · exact (f.rel k).bound _ _ h'
     · have h' : (F k).2.next + 1 ≤ c := h
       have e1 : c ≠ (F k).2.next := by omega
       have := (f.rel k).fresh c (by omega)
       exact ⟨by simp [Mp.add, e1, this.1], by rw [Heap.get_push, if_neg e1]; exact this.2⟩
   · rw [ja8 e]; exact f1.rel k
 · by_cases e : k = b
   · subst e
     rw [jc2]
     rintro c ⟨c', y, M, h1, h2, h3, rfl⟩
     rcases hg c' y h1 with ⟨e1, rfl⟩ | ⟨e1, h1'⟩
     · rcases hmm c' M h3 with ⟨_, rfl⟩ | ⟨n, _⟩
       · rw [hc]; exact f.own a _ ⟨i, x, L, hi, hrw, hm, rfl⟩
       · exact absurd e1 n
     · rcases hmm c' M h3 with ⟨n, _⟩ | ⟨_, h3'⟩
       · exact absurd n e1
       · exact f.own k _ ⟨c', y, M, h1', h2, h3', rfl⟩
   · rw [ja8 e]; exact f1.own k
 · by_cases e : k = b
   · subst e; rw [jc2]; exact (f.gl k).mono hle
   · rw [ja8 e]; exact f1.gl k
 · by_cases e : k = b
   · subst e; rw [jc2, ja8 (Ne.symm hkl)]; exact disB l (Ne.symm hkl)
   · rw [ja8 e]
     by_cases e' : l = b
     · subst e'; rw [jc2]; exact (disB k e).symm
     · rw [ja8 e']; exact f1.dis k l hkl
theorem jq4 {H : Heap} {y x : Blk} {c : Nat} (h : (H.push y).get c = some x) : (c = H.next ∧ x = y) ∨ (c ≠ H.next ∧ H.get c = some x) := by
 rw [Heap.get_push] at h
 by_cases e : c = H.next
 · rw [if_pos e] at h; exact .inl ⟨e, (Option.some.inj h).symm⟩
 · rw [if_neg e] at h; exact .inr ⟨e, h⟩
theorem js8 {m : Mp} {n c : Nat} {L L' : Loc} (h : (m.add n L) c = some L') : (c = n ∧ L' = L) ∨ (c ≠ n ∧ m c = some L') := by
 by_cases e : c = n
 · simp only [Mp.add, e, if_true, Option.some.injEq] at h; exact .inl ⟨e, h.symm⟩
 · simp only [Mp.add, e, if_false] at h; exact .inr ⟨e, h⟩
theorem Rel.push_ro {m : Mp} {H : Heap} {w : World} (h : Rel m H w) {y : Blk} {L : Loc} (hl : Lies m w y L) (hb : L.c < w.heap.size) (hy : y.rw = false) (hap : ∀ b x L', H.get b = some x → x.rw = true → m b = some L' → L'.c ≠ L.c) :
   Rel (m.add H.next L) (H.push y) w := by
 have hle : m.le (m.add H.next L) := Mp.le_add (h.fresh _ (Nat.le_refl _)).1
 refine ⟨fun c x hx => ?_, fun c x hx hrw c' x' M M' h3 h4 h5 h6 => ?_, fun c M hM => ?_, fun c hc => ?_⟩
 · rcases jq4 hx with ⟨rfl, rfl⟩ | ⟨e, hx⟩
   · exact ⟨L, by simp [Mp.add], hl.mono hle rfl⟩
   · obtain ⟨M, q1, q2⟩ := h.blk c x hx
     exact ⟨M, by simp [Mp.add, e, q1], q2.mono hle rfl⟩
 · rcases jq4 hx with ⟨_, rfl⟩ | ⟨e1, hx2⟩
   · rw [hy] at hrw; cases hrw
   · rcases js8 h4 with ⟨n, _⟩ | ⟨_, h42⟩
     · exact absurd n e1
     · rcases jq4 h3 with ⟨e2, _⟩ | ⟨e2, h32⟩
       · rcases js8 h5 with ⟨_, e3⟩ | ⟨n, _⟩
         · exact absurd (e3 ▸ h6.symm) (hap c x M hx2 hrw h42)
         · exact absurd e2 n
       · rcases js8 h5 with ⟨n, _⟩ | ⟨_, h52⟩
         · exact absurd n e2
         · exact h.apart c x hx2 hrw c' x' M M' h32 h42 h52 h6
 · rcases js8 hM with ⟨_, rfl⟩ | ⟨_, hM⟩
   · exact hb
   · exact h.bound c M hM
 · have h' : H.next + 1 ≤ c := hc
   have e1 : c ≠ H.next := by omega
   have := h.fresh c (by omega)
   exact ⟨by simp [Mp.add, e1, this.1], by rw [Heap.get_push, if_neg e1]; exact this.2⟩
theorem Dis.nil {m n : Mp} {H G : Heap} (h : ∀ b, G.get b = none) : Dis m H n G := fun b x L b' x' L' h1 h2 h3 => by rw [h] at h3; cases h3
theorem Fam.clean (f : Fam P B w F) (i k : Nat) (hn : ∀ b, (F i).2.get b = none) : Fam P B w (fput F k (F i)) := by
 refine ⟨f.base, fun a => ?_, fun a => ?_, fun a => ?_, fun a b hab => ?_⟩
 · by_cases e : a = k
   · subst e; rw [jc2]; exact f.rel i
   · rw [ja8 e]; exact f.rel a
 · by_cases e : a = k
   · subst e; rw [jc2]; exact f.own i
   · rw [ja8 e]; exact f.own a
 · by_cases e : a = k
   · subst e; rw [jc2]; exact f.gl i
   · rw [ja8 e]; exact f.gl a
 · by_cases e : a = k
   · subst e; rw [jc2]; exact (Dis.nil hn).symm
   · rw [ja8 e]
     by_cases e' : b = k
     · subst e'; rw [jc2]; exact Dis.nil hn
     · rw [ja8 e']; exact f.dis a b hab
theorem Fam.mark (f : Fam P B w F) {a i : Nat} {x : Blk} (hx : (F a).2.get i = some x) (hro : x.rw = false) (ho : x.o = none) (es : Nat) :
   ∃ L, Fam P B w (fput F a ((F a).1.add (F a).2.next L, (F a).2.push ⟨[], false, es, none, false⟩)) := by
 obtain ⟨L0, hm, hl⟩ := (f.rel a).blk i x hx
 refine ⟨⟨L0.c, 0, es, 0⟩, ?_⟩
 obtain ⟨cs, t, fz, h1, h2, h3, h4⟩ := hl.ex ho
 have hL : Lies (F a).1 w (⟨[], false, es, none, false⟩ : Blk) (⟨L0.c, 0, es, 0⟩ : Loc) :=
   ⟨rfl, Nat.le_refl _, fun _ => ⟨cs, t, fz, h1, Nat.zero_le _, fun i hi => absurd hi (Nat.not_lt_zero _), (fun h => by cases h)⟩, (fun o h => by cases h), (fun h => by cases h), (fun h => by cases h)⟩
 have hR := (f.rel a).push_ro hL (show L0.c < _ from (f.rel a).bound _ _ hm) rfl fun b y L' p1 p2 p3 p4 => by
   have := (f.rel a).apart b y p1 p2 i x L' L0 hx p3 hm p4.symm
   subst this
   rw [p1] at hx; obtain rfl := Option.some.inj hx
   rw [hro] at p2; cases p2
 have hle : (F a).1.le ((F a).1.add (F a).2.next (⟨L0.c, 0, es, 0⟩ : Loc)) := Mp.le_add ((f.rel a).fresh _ (Nat.le_refl _)).1
 have hd : ∀ k, k ≠ a → Dis ((F a).1.add (F a).2.next (⟨L0.c, 0, es, 0⟩ : Loc)) ((F a).2.push ⟨[], false, es, none, false⟩) (F k).1 (F k).2 := fun k hk b y L b' y' L' p1 p2 p3 p4 p5 e => by
   rcases jq4 p1 with ⟨q1, rfl⟩ | ⟨q1, p1⟩
   · rcases js8 p2 with ⟨_, rfl⟩ | ⟨n, _⟩
     · exact f.dis a k (Ne.symm hk) i x L0 b' y' L' hx hm p3 p4 (.inr (p5.resolve_left (by simp))) e
     · exact n q1
   · rcases js8 p2 with ⟨n, _⟩ | ⟨_, p2⟩
     · exact q1 n
     · exact f.dis a k (Ne.symm hk) b y L b' y' L' p1 p2 p3 p4 p5 e
 refine ⟨f.base, fun k => ?_, fun k => ?_, fun k => ?_, fun k l hkl => ?_⟩
 · by_cases e : k = a
   · subst e; rw [jc2]; exact hR
   · rw [ja8 e]; exact f.rel k
 · by_cases e : k = a
   · subst e
     rw [jc2]
     rintro c ⟨b, y, M, p1, p2, p3, rfl⟩
     rcases jq4 p1 with ⟨_, rfl⟩ | ⟨q1, p1⟩
     · cases p2
     · rcases js8 p3 with ⟨n, _⟩ | ⟨_, p3⟩
       · exact absurd n q1
       · exact f.own k _ ⟨b, y, M, p1, p2, p3, rfl⟩
   · rw [ja8 e]; exact f.own k
 · by_cases e : k = a
   · subst e; rw [jc2]; exact (f.gl k).mono hle
   · rw [ja8 e]; exact f.gl k
 · by_cases e : k = a
   · subst e; rw [jc2, ja8 (Ne.symm hkl)]; exact hd l (Ne.symm hkl)
   · rw [ja8 e]
     by_cases e' : l = a
     · subst e'; rw [jc2]; exact (hd k e).symm
     · rw [ja8 e']; exact f.dis k l hkl
theorem Fam.row (f : Fam P B w F) {a b : Nat} (hab : a ≠ b) {i : Nat} {x : Blk} {L : Loc} (hi : (F a).2.get i = some x) (hrw : x.rw = true) (ho : x.o = none) (hat : ∀ v ∈ x.cells, atomic v = true) (hm : (F a).1 i = some L)
   {n c : Nat} (hn : x.cells.length = n * x.es) (hc : n ≤ c) (hR : L.base + c * x.es ≤ L.e) (hes : 0 < x.es) (hn1 : n ≤ 9223372036854775807) :
   ∃ sp, (x.cells ++ sp).length = c * x.es ∧ c ≤ 9223372036854775807 ∧ Fam P B w (fput (fput F a ((F a).1, (F a).2.drop i)) b ((F b).1.add (F b).2.next ⟨L.c, L.base, x.es, L.base + c * x.es⟩, (F b).2.push ⟨x.cells ++ sp, true, x.es, none, true⟩)) := by
 obtain ⟨L', hm', hl⟩ := (f.rel a).blk i x hi
 rw [hm] at hm'; obtain rfl := Option.some.inj hm'
 obtain ⟨cs, t, fz, h1, h2, h3, h4⟩ := hl.ex ho
 have hnc : n * x.es ≤ c * x.es := Nat.mul_le_mul_right _ hc
 -- the room's cells
 have hlen : ((cs.toList.drop (L.base + n * x.es)).take (c * x.es - n * x.es)).length = c * x.es - n * x.es := by
   rw [List.length_take, List.length_drop, Array.length_toList]; omega
 have hc2 : c ≤ 9223372036854775807 := by
   by_cases e : c = n
   · omega
   · have hlt : n * x.es < c * x.es := Nat.mul_lt_mul_of_pos_right (by omega) hes
     have hi2 : L.base + c * x.es - 1 < cs.size := by omega
     have := (hl.sp hrw ho cs t fz h1 (L.base + c * x.es - 1) cs[L.base + c * x.es - 1] (by omega) (by omega) (Array.getElem?_eq_getElem hi2)).2
     have h5 : c * x.es ≤ 9223372036854775807 * x.es := by omega
     exact Nat.le_of_mul_le_mul_right h5 hes
 refine ⟨(cs.toList.drop (L.base + n * x.es)).take (c * x.es - n * x.es), by rw [List.length_append, hlen, hn]; omega, hc2, ?_⟩
 refine f.give hab hi hrw hm rfl ?_
 have hlen2 : (x.cells ++ (cs.toList.drop (L.base + n * x.es)).take (c * x.es - n * x.es)).length = c * x.es := by rw [List.length_append, hlen, hn]; omega
 refine ⟨rfl, by show L.base + _ ≤ _; rw [hlen2]; exact Nat.le_refl _, fun _ => ⟨cs, t, fz, h1, by show L.base + c * x.es ≤ _; omega, fun j hj hj' => ?_, fun _ => h4 hrw⟩, (fun o h => by cases h), fun _ _ cs' t' fz' e j v p1 p2 => ?_, fun _ => by show L.base + _ = _; rw [hlen2]⟩
 · show VR _ ((x.cells ++ _)[j]) (cs[L.base + j])
   have hj2 : j < c * x.es := by rw [← hlen2]; exact hj
   by_cases e : j < x.cells.length
   · have hv := h3 j e hj'
     have ha := hat _ (List.getElem_mem e)
     rw [List.getElem_append_left e]
     rw [VR.eq_of_atomic hv ha]
     exact .atom _ ha
   · have hv : atomic (cs[L.base + j]) = true := (hl.sp hrw ho cs t fz h1 (L.base + j) _ (by omega) (by omega) (Array.getElem?_eq_getElem hj')).1
     have e3 : (x.cells ++ (cs.toList.drop (L.base + n * x.es)).take (c * x.es - n * x.es))[j] = cs[L.base + j] := by
       rw [List.getElem_append_right (by omega), List.getElem_take, List.getElem_drop, Array.getElem_toList]
       congr 1
       omega
     rw [e3]
     exact .atom _ hv
 · exfalso
   have p1' : L.base + c * x.es ≤ j := by rw [← hlen2]; exact p1
   have p2' : j < L.base + c * x.es := p2
   omega
def markB (t b : Nat) : Blk := ⟨[], false, 2 * b + t + 100, none, false⟩
structure Open (ok : Nat → Heap → Prop) (p : Nat) (m : Mp) (H : Heap) (F : Nat → Mp × Heap) : Prop where
 at_ : ∀ g b t, t < 2 → H.get g = some (markB t b) → (∃ L, m b = some L ∧ (F (2 * b + t + 2)).1 p = some L) ∧ ok t (F (2 * b + t + 2)).2
def Beside (P : Program) (ok : Nat → Heap → Prop) (p B : Nat) (m0 : Mp) (G0 : Heap) (m : Mp) (H : Heap) (w : World) : Prop :=
 ∃ F, F 0 = (m, H) ∧ F 1 = (m0, G0) ∧ Fam P B w F ∧ Open ok p m H F
def sysB (P : Program) (ok : Nat → Heap → Prop) (p B : Nat) (m0 : Mp) (G0 : Heap) : Sys where
 I := Beside P ok p B m0 G0
 S := fun m H w m' H' w' => Rel m' H' w' ∧ Beside P ok p B m0 G0 m' H' w' ∧ m.le m' ∧ Go.RowKit.Below B w w'
 of := by
   rintro m H w m' H' w' h ⟨F, f0, f1, f, o⟩ st
   have st' : Step (F 0).1 (F 0).2 w m' H' w' := by rw [f0]; exact st
   refine ⟨st.rel, ⟨fput F 0 (m', H'), jc2 .., (ja8 (by decide)).trans f1, f.run 0 st', ⟨fun g b t ht hg => ?_⟩⟩, st.later.1, (f.own 0).below st' f.base⟩
   obtain ⟨⟨L, q1, q2⟩, q3⟩ := o.at_ g b t ht (st.later.2.2.2 g _ hg rfl)
   rw [ja8 (by omega)]
   exact ⟨⟨L, st.later.1 b L q1, q2⟩, q3⟩
 trans := fun h k => ⟨k.1, k.2.1, Mp.le_trans h.2.2.1 k.2.2.1, h.2.2.2.trans k.2.2.2⟩
 rel := fun h => h.1
 inv := fun h => h.2.1
 le := fun h => h.2.2.1
end Go.Am
