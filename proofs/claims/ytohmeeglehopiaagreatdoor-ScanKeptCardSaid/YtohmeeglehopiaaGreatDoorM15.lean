/- Books: a list is kept. -/
import Derived.Test.YtohmeeglehopiaaGreatDoorM14
open Go.Proofs
namespace Go.Am
set_option maxRecDepth 100000
variable {H : Heap} {b N d : Nat} {x : Blk} {v V W : Value} {hk : Hook} {h : Int} {vs ws : List Value}
def Far (a c : Value) : Prop := ∀ z, rowId a = some z → rowId c ≠ some z
theorem jq3 {y : Blk} (h : H.get b = some x) (hx : plainB x = false) : KeepR H (H.set b y) := fun z w e p => by
 rw [Heap.get_set]
 by_cases c : z = b
 · rw [c, h] at e; obtain rfl := Option.some.inj e; rw [hx] at p; cases p
 · rw [if_neg c]; exact e
theorem jf0 (hf : Fresh H) (hb : b < H.next) : Fresh (H.set b x) := fun z hz => by
 have hz' : H.next ≤ z := hz
 rw [Heap.get_set, if_neg (by omega)]; exact hf z hz'
theorem ys5 (h : isSl v = true) : veq v v = true := by
 cases v with
 | slice a n c => exact j4h a n c
 | _ => cases h
theorem j7x {P : Program} {t : TypeId} {r n c : Nat} {G : Heap} (h : G.get r = H.get r) : capA P t (.slice (some ⟨r, 0, none⟩) n c) G = capA P t (.slice (some ⟨r, 0, none⟩) n c) H := by
 have e : look G ⟨r, 0, none⟩ = look H ⟨r, 0, none⟩ := by simp only [look, h]
 unfold capA
 cases P.underlying t with
 | none => rfl
 | some d => cases d <;> first | rfl | simp only [e]
theorem Off.refl (b : Nat) (H : Heap) : Off b H H := ⟨rfl, fun _ _ => rfl⟩
theorem Off.keepR {G : Heap} (h : Off b H G) (hx : plainB x = false) (g : H.get b = some x) : KeepR H G := fun z y e p => by
 by_cases c : z = b
 · rw [c, g] at e; obtain rfl := Option.some.inj e; rw [hx] at p; cases p
 · rw [h.2 z c]; exact e
theorem samT {w : Value} (hh : NH hk) (h : TwoT H v w) (hN : 1000100 < N) : CG N hk (d + 4) 10 #[v, w] H = some (.ret (.bool true), H) := by
 rcases h with ⟨rfl, rfl⟩ | ⟨r, s, n, c, cs, sp, rfl, rfl, h3, h4, h5, h6, ⟨ts, h7, rfl⟩, h8, h9, h10⟩
 · exact jx0 (d := d + 3) (ts := []) hh (.inl ⟨rfl, rfl⟩) (.inl ⟨rfl, rfl⟩) (by simp) (by simp; omega)
 · have hne : ts ≠ [] := fun e => by rw [e] at h7; simp at h7; omega
   subst h7
   exact jx0 (d := d + 3) (ts := ts) hh (.inr ⟨hne, r, c, rfl, sp, true, h9⟩) (.inr ⟨hne, s, _, rfl, [], false, by rw [List.append_nil]; exact h10⟩) (by omega) (by omega)
theorem yg8 {r : Nat} {u : List UInt8} {sp : List Value} {ex : Bool} (h : H.get r = some ⟨u.map f8 ++ sp, true, 1, none, ex⟩) (hs : u.length < 9223372036854775808) : Brow H (some ⟨r, 0, none⟩) u := by
 refine ⟨fun b e => ?_, fun e => (nomatch e), hs⟩
 obtain rfl := Option.some.inj e
 refine ⟨⟨u.map f8 ++ sp, true, 1, none, ex⟩, by simp only [look, h], rfl, ?_, ?_⟩
 · show 0 + u.length ≤ (u.map f8 ++ sp).length
   simp
 · show ((u.map f8 ++ sp).drop 0).take u.length = _
   have e : u.length = (u.map f8).length := by simp
   rw [List.drop_zero, e, List.take_left]; rfl
theorem samB {w : Value} (hh : NH hk) (h : TwoB H v w) (hN : 1000100 < N) : CG N hk (d + 4) 14 #[v, w] H = some (.ret (.bool true), H) := by
 rcases h with ⟨rfl, rfl⟩ | ⟨r, s, n, c, cs, sp, rfl, rfl, h3, h4, h5, h6, ⟨u, h7, rfl⟩, h8, h9, h10⟩
 · exact jq2 (d := d + 3) (s := []) (c := 0) (c' := 0) hh ⟨fun _ e => (nomatch e), fun _ => rfl, by simp⟩ ⟨fun _ e => (nomatch e), fun _ => rfl, by simp⟩ (by simp) (by simp; omega)
 · subst h7
   have b1 : Brow H (some ⟨r, 0, none⟩) u := yg8 h9 (by omega)
   have b2 : Brow H (some ⟨s, 0, none⟩) u := yg8 (sp := []) (by rw [List.append_nil]; exact h10) (by omega)
   exact jq2 (d := d + 3) (s := u) (c := c) (c' := u.length) hh b1 b2 (by omega) (by omega)
structure BkST (H : Heap) (b : Nat) (V W : Value) (h : Int) (vs ws : List Value) : Prop where
 here : H.get b = some (bkB V W h)
 rv : RowS H V vs
 rw_ : RowS H W ws
 vb : rowId V ≠ some b
 wb : rowId W ≠ some b
 vw : ∀ z, rowId V = some z → rowId W ≠ some z
 len : vs.length = ws.length
 small : vs.length ≤ 4000
 two : ∀ (i : Nat) (v w : Value), vs[i]? = some v → ws[i]? = some w → TwoT H v w
 apart : vs.Pairwise Far
def BkAtT (H : Heap) (b : Nat) : Prop := ∃ V W h vs ws, BkST H b V W h vs ws
theorem BkST.news (B : BkST H b V W h vs ws) {v : Value} (hv : v ∈ vs) : NewT H v := by
 obtain ⟨i, hi, rfl⟩ := List.getElem_of_mem hv
 exact (B.two i vs[i] (ws[i]'(by have := B.len; omega)) (List.getElem?_eq_getElem hi) (List.getElem?_eq_getElem _)).new
theorem BkST.slw (B : BkST H b V W h vs ws) {w : Value} (hw : w ∈ ws) : isSl w = true := by
 obtain ⟨i, hi, rfl⟩ := List.getElem_of_mem hw
 rcases B.two i (vs[i]'(by have := B.len; omega)) ws[i] (List.getElem?_eq_getElem _) (List.getElem?_eq_getElem hi) with ⟨_, h⟩ | ⟨r, s, n, c, cs, sp, _, h, _⟩ <;> rw [h] <;> rfl
theorem NewT.id (h : NewT H v) {z : Nat} (hz : rowId v = some z) : ∃ x, H.get z = some x ∧ plainB x = true := by
 rcases h with rfl | ⟨r, n, c, cs, sp, rfl, h3, h4, h5, h6, h7, h8, h9⟩
 · cases hz
 · obtain rfl := Option.some.inj hz
   exact ⟨_, h9, rfl⟩
theorem j18 (hh : NH hk) (B : BkAtT H b) (hf : Fresh H) (hv : NewT H v)
   (hd : ∀ V W h vs ws, BkST H b V W h vs ws → ∀ x ∈ vs, Far x v) (hN : 1000100 < N) :
   ∃ H', CG N hk (d + 5) 11 #[.pointer (some ⟨b, 0, none⟩), v] H = some (.ret undef, H') ∧ BkAtT H' b ∧ Fresh H' := by
 obtain ⟨V, W, h, vs, ws, B⟩ := B
 have hd := hd V W h vs ws B
 have hbn : b < H.next := by
   by_cases c : H.next ≤ b
   · have := B.here; rw [hf b c] at this; cases this
   · omega
 have hvs : isSl v = true := hv.sl
 have slv : ∀ x ∈ vs, isSl x = true := fun x hx => (B.news hx).sl
 have slw : ∀ x ∈ ws, isSl x = true := fun x hx => B.slw hx
 have lv : ∀ z, rowId V = some z → z < H.next := fun z hz => B.rv.live hf hz
 have lw : ∀ z, rowId W = some z → z < H.next := fun z hz => B.rw_.live hf hz
 have hsm := B.small
 -- the list joins the row of lists
 have hq1 : (H.alloc 1 [v]).get H.next = some ⟨[v], true, 1, none, false⟩ := by rw [Heap.get_alloc, if_pos rfl]
 have x1 := Ext.alloc hf 1 [v]
 have V1 : RowS (H.alloc 1 [v]) V vs := B.rv.to fun z hz => by have := lv z hz; rw [Heap.get_alloc, if_neg (by omega)]
 obtain ⟨H2, p2, A2⟩ := apLT V1 x1.fresh hq1 hvs hsm
 have hbs1 := bsLT H v hvs
 generalize hH1 : H.alloc 1 [v] = H1 at *
 have n1 : H1.next = H.next + 1 := by rw [← hH1]; rfl
 have g0 := B.here
 have g1 : H1.get b = some (bkB V W h) := x1.keep _ _ g0
 have g2 : H2.get b = some (bkB V W h) := by rw [A2.keep b (by omega) B.vb]; exact g1
 have s3 := bs0T g2 (some ⟨H1.next, 0, none⟩) (vs.length + 1) (vs.length + 1)
 generalize hV2 : Value.slice (some ⟨H1.next, 0, none⟩) (vs.length + 1) (vs.length + 1) = V2 at p2 s3
 have g3 := jc6 H2 b (bkB V2 W h)
 have k1 : KeepR H H1 := .of_ext x1
 have k2 : KeepR H1 H2 := fun z x e p => by
   rw [A2.keep z (by
     by_cases c : H1.next ≤ z
     · rw [x1.fresh z c] at e; cases e
     · omega) fun hz => by rw [V1.rough slv hz e] at p; cases p]
   exact e
 have k3 : KeepR H2 (H2.set b (bkB V2 W h)) := jq3 g2 (jg9 B.rv.sl)
 have f3 : Fresh (H2.set b (bkB V2 W h)) := jf0 A2.fresh (by have := A2.next; omega)
 have N3 : NewT (H2.set b (bkB V2 W h)) v := hv.to (k1.trans (k2.trans k3))
 -- its copy
 obtain ⟨cv, H4, p4, T4, hcv, x4⟩ := cpyT N3 f3
 have W3 : ∀ z, rowId W = some z → (H2.set b (bkB V2 W h)).get z = H.get z := fun z hz => by
   have := lw z hz
   rw [Heap.get_set, if_neg (fun e => B.wb (by rw [hz, e])), A2.keep z (by omega) (fun e => B.vw z e hz), ← hH1, Heap.get_alloc, if_neg (by omega)]
 have n3 : (H2.set b (bkB V2 W h)).next = H.next + 2 := by show H2.next = _; rw [A2.next, n1]
 have r3 : (H2.set b (bkB V2 W h)).get H1.next = some ⟨vs ++ [v], true, 1, none, false⟩ := by rw [Heap.get_set, if_neg (by omega)]; exact A2.row
 generalize hH3 : H2.set b (bkB V2 W h) = H3 at *
 have n4 := x4.next
 have g4 := x4.keep _ _ g3
 have W4 : RowS H4 W ws := (B.rw_.to W3).to fun z hz => by
   rcases B.rw_.to W3 with ⟨e, _⟩ | ⟨r, o, e, _, pre, _, e2⟩
   · rw [e] at hz; cases hz
   · rw [e] at hz; obtain rfl := Option.some.inj hz; rw [e2]; exact x4.keep _ _ e2
 have x5 := Ext.alloc x4.fresh 1 [cv]
 have hq5 : (H4.alloc 1 [cv]).get H4.next = some ⟨[cv], true, 1, none, false⟩ := by rw [Heap.get_alloc, if_pos rfl]
 have W5 : RowS (H4.alloc 1 [cv]) W ws := W4.to fun z hz => by have := lw z hz; rw [Heap.get_alloc, if_neg (by omega)]
 have g5 := x5.keep _ _ g4
 obtain ⟨H6, p6, A6⟩ := apLT W5 x5.fresh hq5 hcv (by rw [← B.len]; exact hsm)
 have hbs4 := bsLT H4 cv hcv
 have n5 : (H4.alloc 1 [cv]).next = H4.next + 1 := rfl
 have r4 := x4.keep _ _ r3
 have r5 := x5.keep _ _ r4
 generalize hH5 : H4.alloc 1 [cv] = H5 at *
 have g6 : H6.get b = some (bkB V2 W h) := by rw [A6.keep b (by omega) B.wb]; exact g5
 have s7 := bs1T g6 (some ⟨H5.next, 0, none⟩) (ws.length + 1) (ws.length + 1)
 generalize hW2 : Value.slice (some ⟨H5.next, 0, none⟩) (ws.length + 1) (ws.length + 1) = W2 at p6 s7
 have k6 : KeepR H5 H6 := fun z x e p => by
   rw [A6.keep z (by
     by_cases c : H5.next ≤ z
     · rw [x5.fresh z c] at e; cases e
     · omega) fun hz => by rw [W5.rough slw hz e] at p; cases p]
   exact e
 have hV2s : isSl V2 = true := by rw [← hV2]; rfl
 have g7 := jc6 H6 b (bkB V2 W2 h)
 have k7 : KeepR H6 (H6.set b (bkB V2 W2 h)) := jq3 g6 (jg9 hV2s)
 have k37 : KeepR H3 (H6.set b (bkB V2 W2 h)) := (KeepR.of_ext x4).trans ((KeepR.of_ext x5).trans (k6.trans k7))
 obtain ⟨c, hcap⟩ := (N3.to k37).cap
 generalize hH7 : H6.set b (bkB V2 W2 h) = H7 at *
 have hcp := fun kk => jx9 (ts := #[33]) (k := kk) rfl hcap
 generalize hh2 : IntKind.i64.wrap (IntKind.i64.wrap (h + c) + 1) = h2
 have s8 := bs2 g7 h2
 have g8 := jc6 H7 b (bkB V2 W2 h2)
 have k8 : KeepR H7 (H7.set b (bkB V2 W2 h2)) := jq3 g7 (jg9 hV2s)
 have f8 : Fresh (H7.set b (bkB V2 W2 h2)) := by
   have f7 : Fresh H7 := by rw [← hH7]; exact jf0 A6.fresh (by have := A6.next; omega)
   exact jf0 f7 (by rw [← hH7]; show b < H6.next; have := A6.next; omega)
 have nb1 : H1.next ≠ b := by omega
 have nb2 : H5.next ≠ b := by omega
 have sr1 : SlR (H7.set b (bkB V2 W2 h2)) H1.next 0 (vs ++ [v]) := ⟨[], rfl, by
   rw [Heap.get_set, if_neg nb1, ← hH7, Heap.get_set, if_neg nb1, A6.keep _ (by omega) (fun e => by have := lw _ e; omega)]
   exact r5⟩
 have sr2 : SlR (H7.set b (bkB V2 W2 h2)) H5.next 0 (ws ++ [cv]) := ⟨[], rfl, by
   rw [Heap.get_set, if_neg nb2, ← hH7, Heap.get_set, if_neg nb2]
   exact A6.row⟩
 have two8 : ∀ (i : Nat) (a w : Value), (vs ++ [v])[i]? = some a → (ws ++ [cv])[i]? = some w → TwoT (H7.set b (bkB V2 W2 h2)) a w := fun i a w ha hw => by
   by_cases hi : i < vs.length
   · rw [List.getElem?_append_left hi] at ha
     rw [List.getElem?_append_left (by rw [← B.len]; exact hi)] at hw
     exact (B.two i a w ha hw).to (k1.trans (k2.trans (k3.trans (k37.trans k8))))
   · rw [List.getElem?_append_right (by omega)] at ha
     rw [List.getElem?_append_right (by rw [← B.len]; omega)] at hw
     rw [← B.len] at hw
     have h0 : i - vs.length = 0 := by
       by_cases e : i - vs.length = 0
       · exact e
       · rw [List.getElem?_eq_none (by simp; omega)] at ha; cases ha
     rw [h0] at ha hw
     simp only [List.getElem?_cons_zero, Option.some.injEq] at ha hw
     subst ha; subst hw
     exact T4.to ((KeepR.of_ext x5).trans (k6.trans (k7.trans k8)))
 have ap8 : (vs ++ [v]).Pairwise Far := List.pairwise_append.mpr ⟨B.apart, List.pairwise_singleton .., fun a ha c hc => by
   rw [List.mem_singleton] at hc; subst hc; exact hd a ha⟩
 have main : ∃ R0 : R, CG N hk (d + 5) 11 #[.pointer (some ⟨b, 0, none⟩), v] H = R0 ∧ ∃ H', R0 = some (.ret undef, H') ∧ BkAtT H' b ∧ Fresh H' := by
   refine ⟨_, jb6 (hh _ _ _ rfl) Tryz.func11 (c := codeOf Tryz.f11) rfl rfl rfl (pr := prK) rfl, ?_⟩
   rw [code11]
   have hvW := ys5 B.rw_.sl
   generalize hF : finE PP Tryz.f11 = F
   have lL := lX3 Tryz.f11 0 1 2
   conv at lL in (occs := *) (rq _ _) => all_goals simp only [rX, oA, Tryz.f11, dL.o, reduceIte, Nat.reduceEqDiff]
   obtain ⟨l0, l1, l2⟩ := lL
   simp +decide only [↓jb9, jl9, ↓jw5 l1, ↓j86, ↓j1z, jl8, prK, List.isEmpty_cons, ↓uG.o, dG.o, ja1, jb1, reduceIte, ↓ja0 l0, bf0T, bf1T, bl0T g0, bl1T g3, hbs1, hbs4, apBT, apCT, p2, s3, p4, p6, s7]
   rw [jw6 (by simp +decide only [List.nil_append, List.cons_append, List.all_cons, List.all_nil, pairChkE, l1, List.getElem?_cons_zero, List.getElem?_cons_succ, guardBE, qval, opK, dG.o, ja1, reduceIte, Bool.and_self, bl1T g3, bl1T g4, bl1T g5, hvW])]
   simp +decide only [↓jb9, ↓uG.o, dG.o, ja1, jb1, reduceIte, ↓ja0 l2, ↓jb4, bf2T, bl2 g7, hcp, hh2, s8]
   have hlen : (vs ++ [v]).length = vs.length + 1 := by simp
   have hlenw : (ws ++ [cv]).length = vs.length + 1 := by rw [B.len]; simp
   refine j7t (Q := fun r => ∃ H', r = some (.ret undef, H') ∧ BkAtT H' b ∧ Fresh H') (H0 := H7.set b (bkB V2 W2 h2)) (h := h2) nb1 nb2 (vs.length + 1) (vs ++ [v]) (ws ++ [cv]) hlen hlenw N (by omega) (by omega) (by omega) (.refl _ _) ?_ ?_ sr1 sr2 ?_ ?_ ?_
   · simp +decide only [ja1, reduceIte, jc7]
   · rw [g8, ← hV2, ← hW2, B.len]
   · intro x hx
     obtain ⟨i, hi, rfl⟩ := List.getElem_of_mem hx
     have T := two8 i _ _ (List.getElem?_eq_getElem hi) (List.getElem?_eq_getElem (by rw [hlenw, ← hlen]; exact hi))
     obtain ⟨c, hc⟩ := T.new.cap
     exact ⟨c, fun G hG => by
       rw [← hc]
       rcases T.new with e | ⟨r, n, c, cs, sp, e, _, _, _, _, _, _, h9⟩
       · rw [e]; rfl
       · rw [e]
         have hG' := hG.2 r (fun e2 => by rw [e2, g8] at h9; exact absurd (congrArg Blk.ex (Option.some.inj h9)) (by simp [bkB]))
         exact j7x hG'⟩
   · intro i x w hx hw G hG
     exact samT hh ((two8 i x w hx hw).to (hG.keepR (jg9 hV2s) g8)) hN
   · intro E' G j h' hj hle hG hg
     rw [j53, ← hF]
     have hk8 : KeepR (H7.set b (bkB V2 W2 h2)) G := hG.keepR (jg9 hV2s) g8
     have e1 : ((vs ++ [v]).drop j).length = vs.length + 1 - j := by rw [List.length_drop, hlen]
     have e2 : ((ws ++ [cv]).drop j).length = vs.length + 1 - j := by rw [List.length_drop, hlenw]
     have row : ∀ (r : Nat) (l : List Value), r ≠ b → SlR (H7.set b (bkB V2 W2 h2)) r 0 l → (l.drop j).length = vs.length + 1 - j → RowS G (.slice (some ⟨r, 0 + j, none⟩) (vs.length + 1 - j) (vs.length + 1 - j)) (l.drop j) := fun r l hr ⟨pre, p1, p2⟩ hl => by
       obtain rfl := List.eq_nil_of_length_eq_zero p1
       refine .inr ⟨r, 0 + j, by rw [hl], by rw [hl]; omega, l.take j, ?_, by rw [hG.2 r hr, p2, List.nil_append, List.take_append_drop]⟩
       rw [List.length_drop] at hl
       rw [List.length_take]; omega
     refine ⟨G, rfl, ⟨_, _, h', (vs ++ [v]).drop j, (ws ++ [cv]).drop j, hg, row _ _ nb1 sr1 e1, row _ _ nb2 sr2 e2, fun e => nb1 (Option.some.inj e), fun e => nb2 (Option.some.inj e), fun z e e' => ?_, by rw [e1, e2], by rw [e1]; exact hle, fun i a w ha hw => ?_, ap8.sublist (List.drop_sublist _ _)⟩, fun z hz => ?_⟩
     · have := (Option.some.inj e).trans (Option.some.inj e').symm
       simp only at this; omega
     · rw [List.getElem?_drop] at ha hw
       exact (two8 _ a w ha hw).to hk8
     · have hz' := hG.1
       have h8 := f8 z (by rw [← hz']; exact hz)
       by_cases c : z = b
       · rw [c, g8] at h8; cases h8
       · rw [hG.2 z c]; exact h8
 obtain ⟨R0, m1, H', m2, m3⟩ := main
 exact ⟨H', m1.trans m2, m3⟩
structure BkSB (H : Heap) (b : Nat) (V W : Value) (h : Int) (vs ws : List Value) : Prop where
 here : H.get b = some (bkB V W h)
 rv : RowS H V vs
 rw_ : RowS H W ws
 vb : rowId V ≠ some b
 wb : rowId W ≠ some b
 vw : ∀ z, rowId V = some z → rowId W ≠ some z
 len : vs.length = ws.length
 small : vs.length ≤ 4000
 two : ∀ (i : Nat) (v w : Value), vs[i]? = some v → ws[i]? = some w → TwoB H v w
 apart : vs.Pairwise Far
def BkAtB (H : Heap) (b : Nat) : Prop := ∃ V W h vs ws, BkSB H b V W h vs ws
theorem BkSB.news (B : BkSB H b V W h vs ws) {v : Value} (hv : v ∈ vs) : NewB H v := by
 obtain ⟨i, hi, rfl⟩ := List.getElem_of_mem hv
 exact (B.two i vs[i] (ws[i]'(by have := B.len; omega)) (List.getElem?_eq_getElem hi) (List.getElem?_eq_getElem _)).new
theorem BkSB.slw (B : BkSB H b V W h vs ws) {w : Value} (hw : w ∈ ws) : isSl w = true := by
 obtain ⟨i, hi, rfl⟩ := List.getElem_of_mem hw
 rcases B.two i (vs[i]'(by have := B.len; omega)) ws[i] (List.getElem?_eq_getElem _) (List.getElem?_eq_getElem hi) with ⟨_, h⟩ | ⟨r, s, n, c, cs, sp, _, h, _⟩ <;> rw [h] <;> rfl
theorem NewB.id (h : NewB H v) {z : Nat} (hz : rowId v = some z) : ∃ x, H.get z = some x ∧ plainB x = true := by
 rcases h with rfl | ⟨r, n, c, cs, sp, rfl, h3, h4, h5, h6, h7, h8, h9⟩
 · cases hz
 · obtain rfl := Option.some.inj hz
   exact ⟨_, h9, rfl⟩
theorem j19 (hh : NH hk) (B : BkAtB H b) (hf : Fresh H) (hv : NewB H v)
   (hd : ∀ V W h vs ws, BkSB H b V W h vs ws → ∀ x ∈ vs, Far x v) (hN : 1000100 < N) :
   ∃ H', CG N hk (d + 5) 17 #[.pointer (some ⟨b, 0, none⟩), v] H = some (.ret undef, H') ∧ BkAtB H' b ∧ Fresh H' := by
 obtain ⟨V, W, h, vs, ws, B⟩ := B
 have hd := hd V W h vs ws B
 have hbn : b < H.next := by
   by_cases c : H.next ≤ b
   · have := B.here; rw [hf b c] at this; cases this
   · omega
 have hvs : isSl v = true := hv.sl
 have slv : ∀ x ∈ vs, isSl x = true := fun x hx => (B.news hx).sl
 have slw : ∀ x ∈ ws, isSl x = true := fun x hx => B.slw hx
 have lv : ∀ z, rowId V = some z → z < H.next := fun z hz => B.rv.live hf hz
 have lw : ∀ z, rowId W = some z → z < H.next := fun z hz => B.rw_.live hf hz
 have hsm := B.small
 -- the list joins the row of lists
 have hq1 : (H.alloc 1 [v]).get H.next = some ⟨[v], true, 1, none, false⟩ := by rw [Heap.get_alloc, if_pos rfl]
 have x1 := Ext.alloc hf 1 [v]
 have V1 : RowS (H.alloc 1 [v]) V vs := B.rv.to fun z hz => by have := lv z hz; rw [Heap.get_alloc, if_neg (by omega)]
 obtain ⟨H2, p2, A2⟩ := apLB V1 x1.fresh hq1 hvs hsm
 have hbs1 := bsLB H v hvs
 generalize hH1 : H.alloc 1 [v] = H1 at *
 have n1 : H1.next = H.next + 1 := by rw [← hH1]; rfl
 have g0 := B.here
 have g1 : H1.get b = some (bkB V W h) := x1.keep _ _ g0
 have g2 : H2.get b = some (bkB V W h) := by rw [A2.keep b (by omega) B.vb]; exact g1
 have s3 := bs0B g2 (some ⟨H1.next, 0, none⟩) (vs.length + 1) (vs.length + 1)
 generalize hV2 : Value.slice (some ⟨H1.next, 0, none⟩) (vs.length + 1) (vs.length + 1) = V2 at p2 s3
 have g3 := jc6 H2 b (bkB V2 W h)
 have k1 : KeepR H H1 := .of_ext x1
 have k2 : KeepR H1 H2 := fun z x e p => by
   rw [A2.keep z (by
     by_cases c : H1.next ≤ z
     · rw [x1.fresh z c] at e; cases e
     · omega) fun hz => by rw [V1.rough slv hz e] at p; cases p]
   exact e
 have k3 : KeepR H2 (H2.set b (bkB V2 W h)) := jq3 g2 (jg9 B.rv.sl)
 have f3 : Fresh (H2.set b (bkB V2 W h)) := jf0 A2.fresh (by have := A2.next; omega)
 have N3 : NewB (H2.set b (bkB V2 W h)) v := hv.to (k1.trans (k2.trans k3))
 -- its copy
 obtain ⟨cv, H4, p4, T4, hcv, x4⟩ := cpyB N3 f3
 have W3 : ∀ z, rowId W = some z → (H2.set b (bkB V2 W h)).get z = H.get z := fun z hz => by
   have := lw z hz
   rw [Heap.get_set, if_neg (fun e => B.wb (by rw [hz, e])), A2.keep z (by omega) (fun e => B.vw z e hz), ← hH1, Heap.get_alloc, if_neg (by omega)]
 have n3 : (H2.set b (bkB V2 W h)).next = H.next + 2 := by show H2.next = _; rw [A2.next, n1]
 have r3 : (H2.set b (bkB V2 W h)).get H1.next = some ⟨vs ++ [v], true, 1, none, false⟩ := by rw [Heap.get_set, if_neg (by omega)]; exact A2.row
 generalize hH3 : H2.set b (bkB V2 W h) = H3 at *
 have n4 := x4.next
 have g4 := x4.keep _ _ g3
 have W4 : RowS H4 W ws := (B.rw_.to W3).to fun z hz => by
   rcases B.rw_.to W3 with ⟨e, _⟩ | ⟨r, o, e, _, pre, _, e2⟩
   · rw [e] at hz; cases hz
   · rw [e] at hz; obtain rfl := Option.some.inj hz; rw [e2]; exact x4.keep _ _ e2
 have x5 := Ext.alloc x4.fresh 1 [cv]
 have hq5 : (H4.alloc 1 [cv]).get H4.next = some ⟨[cv], true, 1, none, false⟩ := by rw [Heap.get_alloc, if_pos rfl]
 have W5 : RowS (H4.alloc 1 [cv]) W ws := W4.to fun z hz => by have := lw z hz; rw [Heap.get_alloc, if_neg (by omega)]
 have g5 := x5.keep _ _ g4
 obtain ⟨H6, p6, A6⟩ := apLB W5 x5.fresh hq5 hcv (by rw [← B.len]; exact hsm)
 have hbs4 := bsLB H4 cv hcv
 have n5 : (H4.alloc 1 [cv]).next = H4.next + 1 := rfl
 have r4 := x4.keep _ _ r3
 have r5 := x5.keep _ _ r4
 generalize hH5 : H4.alloc 1 [cv] = H5 at *
 have g6 : H6.get b = some (bkB V2 W h) := by rw [A6.keep b (by omega) B.wb]; exact g5
 have s7 := bs1B g6 (some ⟨H5.next, 0, none⟩) (ws.length + 1) (ws.length + 1)
 generalize hW2 : Value.slice (some ⟨H5.next, 0, none⟩) (ws.length + 1) (ws.length + 1) = W2 at p6 s7
 have k6 : KeepR H5 H6 := fun z x e p => by
   rw [A6.keep z (by
     by_cases c : H5.next ≤ z
     · rw [x5.fresh z c] at e; cases e
     · omega) fun hz => by rw [W5.rough slw hz e] at p; cases p]
   exact e
 have hV2s : isSl V2 = true := by rw [← hV2]; rfl
 have g7 := jc6 H6 b (bkB V2 W2 h)
 have k7 : KeepR H6 (H6.set b (bkB V2 W2 h)) := jq3 g6 (jg9 hV2s)
 have k37 : KeepR H3 (H6.set b (bkB V2 W2 h)) := (KeepR.of_ext x4).trans ((KeepR.of_ext x5).trans (k6.trans k7))
 obtain ⟨c, hcap⟩ := (N3.to k37).cap
 generalize hH7 : H6.set b (bkB V2 W2 h) = H7 at *
 have hcp := fun kk => jx9 (ts := #[22]) (k := kk) rfl hcap
 generalize hh2 : IntKind.i64.wrap (IntKind.i64.wrap (h + c) + 1) = h2
 have s8 := bs2 g7 h2
 have g8 := jc6 H7 b (bkB V2 W2 h2)
 have k8 : KeepR H7 (H7.set b (bkB V2 W2 h2)) := jq3 g7 (jg9 hV2s)
 have f8 : Fresh (H7.set b (bkB V2 W2 h2)) := by
   have f7 : Fresh H7 := by rw [← hH7]; exact jf0 A6.fresh (by have := A6.next; omega)
   exact jf0 f7 (by rw [← hH7]; show b < H6.next; have := A6.next; omega)
 have nb1 : H1.next ≠ b := by omega
 have nb2 : H5.next ≠ b := by omega
 have sr1 : SlR (H7.set b (bkB V2 W2 h2)) H1.next 0 (vs ++ [v]) := ⟨[], rfl, by
   rw [Heap.get_set, if_neg nb1, ← hH7, Heap.get_set, if_neg nb1, A6.keep _ (by omega) (fun e => by have := lw _ e; omega)]
   exact r5⟩
 have sr2 : SlR (H7.set b (bkB V2 W2 h2)) H5.next 0 (ws ++ [cv]) := ⟨[], rfl, by
   rw [Heap.get_set, if_neg nb2, ← hH7, Heap.get_set, if_neg nb2]
   exact A6.row⟩
 have two8 : ∀ (i : Nat) (a w : Value), (vs ++ [v])[i]? = some a → (ws ++ [cv])[i]? = some w → TwoB (H7.set b (bkB V2 W2 h2)) a w := fun i a w ha hw => by
   by_cases hi : i < vs.length
   · rw [List.getElem?_append_left hi] at ha
     rw [List.getElem?_append_left (by rw [← B.len]; exact hi)] at hw
     exact (B.two i a w ha hw).to (k1.trans (k2.trans (k3.trans (k37.trans k8))))
   · rw [List.getElem?_append_right (by omega)] at ha
     rw [List.getElem?_append_right (by rw [← B.len]; omega)] at hw
     rw [← B.len] at hw
     have h0 : i - vs.length = 0 := by
       by_cases e : i - vs.length = 0
       · exact e
       · rw [List.getElem?_eq_none (by simp; omega)] at ha; cases ha
     rw [h0] at ha hw
     simp only [List.getElem?_cons_zero, Option.some.injEq] at ha hw
     subst ha; subst hw
     exact T4.to ((KeepR.of_ext x5).trans (k6.trans (k7.trans k8)))
 have ap8 : (vs ++ [v]).Pairwise Far := List.pairwise_append.mpr ⟨B.apart, List.pairwise_singleton .., fun a ha c hc => by
   rw [List.mem_singleton] at hc; subst hc; exact hd a ha⟩
 have main : ∃ R0 : R, CG N hk (d + 5) 17 #[.pointer (some ⟨b, 0, none⟩), v] H = R0 ∧ ∃ H', R0 = some (.ret undef, H') ∧ BkAtB H' b ∧ Fresh H' := by
   refine ⟨_, jb6 (hh _ _ _ rfl) Tryz.func17 (c := codeOf Tryz.f17) rfl rfl rfl (pr := prK) rfl, ?_⟩
   rw [code17]
   have hvW := ys5 B.rw_.sl
   generalize hF : finE PP Tryz.f17 = F
   have lL := lX3 Tryz.f17 0 1 2
   conv at lL in (occs := *) (rq _ _) => all_goals simp only [rX, oA, Tryz.f17, dL.o, reduceIte, Nat.reduceEqDiff]
   obtain ⟨l0, l1, l2⟩ := lL
   simp +decide only [↓jb9, jl9, ↓jw5 l1, ↓j86, ↓j1z, jl8, prK, List.isEmpty_cons, ↓uG.o, dG.o, ja1, jb1, reduceIte, ↓ja0 l0, bf0B, bf1B, bl0B g0, bl1B g3, hbs1, hbs4, apBB, apCB, p2, s3, p4, p6, s7]
   rw [jw6 (by simp +decide only [List.nil_append, List.cons_append, List.all_cons, List.all_nil, pairChkE, l1, List.getElem?_cons_zero, List.getElem?_cons_succ, guardBE, qval, opK, dG.o, ja1, reduceIte, Bool.and_self, bl1B g3, bl1B g4, bl1B g5, hvW])]
   simp +decide only [↓jb9, ↓uG.o, dG.o, ja1, jb1, reduceIte, ↓ja0 l2, ↓jb4, bf2B, bl2 g7, hcp, hh2, s8]
   have hlen : (vs ++ [v]).length = vs.length + 1 := by simp
   have hlenw : (ws ++ [cv]).length = vs.length + 1 := by rw [B.len]; simp
   refine j7v (Q := fun r => ∃ H', r = some (.ret undef, H') ∧ BkAtB H' b ∧ Fresh H') (H0 := H7.set b (bkB V2 W2 h2)) (h := h2) nb1 nb2 (vs.length + 1) (vs ++ [v]) (ws ++ [cv]) hlen hlenw N (by omega) (by omega) (by omega) (.refl _ _) ?_ ?_ sr1 sr2 ?_ ?_ ?_
   · simp +decide only [ja1, reduceIte, jc7]
   · rw [g8, ← hV2, ← hW2, B.len]
   · intro x hx
     obtain ⟨i, hi, rfl⟩ := List.getElem_of_mem hx
     have T := two8 i _ _ (List.getElem?_eq_getElem hi) (List.getElem?_eq_getElem (by rw [hlenw, ← hlen]; exact hi))
     obtain ⟨c, hc⟩ := T.new.cap
     exact ⟨c, fun G hG => by
       rw [← hc]
       rcases T.new with e | ⟨r, n, c, cs, sp, e, _, _, _, _, _, _, h9⟩
       · rw [e]; rfl
       · rw [e]
         have hG' := hG.2 r (fun e2 => by rw [e2, g8] at h9; exact absurd (congrArg Blk.ex (Option.some.inj h9)) (by simp [bkB]))
         exact j7x hG'⟩
   · intro i x w hx hw G hG
     exact samB hh ((two8 i x w hx hw).to (hG.keepR (jg9 hV2s) g8)) hN
   · intro E' G j h' hj hle hG hg
     rw [j53, ← hF]
     have hk8 : KeepR (H7.set b (bkB V2 W2 h2)) G := hG.keepR (jg9 hV2s) g8
     have e1 : ((vs ++ [v]).drop j).length = vs.length + 1 - j := by rw [List.length_drop, hlen]
     have e2 : ((ws ++ [cv]).drop j).length = vs.length + 1 - j := by rw [List.length_drop, hlenw]
     have row : ∀ (r : Nat) (l : List Value), r ≠ b → SlR (H7.set b (bkB V2 W2 h2)) r 0 l → (l.drop j).length = vs.length + 1 - j → RowS G (.slice (some ⟨r, 0 + j, none⟩) (vs.length + 1 - j) (vs.length + 1 - j)) (l.drop j) := fun r l hr ⟨pre, p1, p2⟩ hl => by
       obtain rfl := List.eq_nil_of_length_eq_zero p1
       refine .inr ⟨r, 0 + j, by rw [hl], by rw [hl]; omega, l.take j, ?_, by rw [hG.2 r hr, p2, List.nil_append, List.take_append_drop]⟩
       rw [List.length_drop] at hl
       rw [List.length_take]; omega
     refine ⟨G, rfl, ⟨_, _, h', (vs ++ [v]).drop j, (ws ++ [cv]).drop j, hg, row _ _ nb1 sr1 e1, row _ _ nb2 sr2 e2, fun e => nb1 (Option.some.inj e), fun e => nb2 (Option.some.inj e), fun z e e' => ?_, by rw [e1, e2], by rw [e1]; exact hle, fun i a w ha hw => ?_, ap8.sublist (List.drop_sublist _ _)⟩, fun z hz => ?_⟩
     · have := (Option.some.inj e).trans (Option.some.inj e').symm
       simp only at this; omega
     · rw [List.getElem?_drop] at ha hw
       exact (two8 _ a w ha hw).to hk8
     · have hz' := hG.1
       have h8 := f8 z (by rw [← hz']; exact hz)
       by_cases c : z = b
       · rw [c, g8] at h8; cases h8
       · rw [hG.2 z c]; exact h8
 obtain ⟨R0, m1, H', m2, m3⟩ := main
 exact ⟨H', m1.trans m2, m3⟩
end Go.Am
namespace Go.Am
set_option maxRecDepth 100000
variable {H : Heap} {V v W : Value} {vs ws : List Value} {r o i b N d : Nat} {h : Int} {hk : Hook}
noncomputable abbrev cBD2 : Code := .seq (.seq (rF Tryz.f33 2) (.cond (.tmp 10) .skip (.exit 0))) (.seq (.block 1 (rT Tryz.f33 4)) (rF Tryz.f33 3))
noncomputable abbrev cBD1 : Code := .seq (.seq (rF Tryz.f32 2) (.cond (.tmp 10) .skip (.exit 0))) (.seq (.block 1 (rT Tryz.f32 4)) (rF Tryz.f32 3))
theorem RowS.form (h : RowS H V vs) : ∃ a, V = .slice a vs.length vs.length := by
 rcases h with ⟨rfl, rfl⟩ | ⟨r, o, rfl, _⟩
 · exact ⟨none, rfl⟩
 · exact ⟨_, rfl⟩
theorem code32 : codeOf Tryz.f32 = .seq (rF Tryz.f32 0) (.seq (.seq (rF Tryz.f32 1) (.block 0 (.loop cBD1))) (.seq (rF Tryz.f32 5) .ret)) := by kernel_rfl
theorem yo3 : ((rgn Tryz.f32 4)[5]?).bind (·.dst) = some 18 := by kernel_rfl
theorem ixLT {n c : Nat} (h : i < n) : indexAddrA PP 28 (.slice (some ⟨r, o, none⟩) n c) (.int .i64 (i : Int)) = some (.pointer (some ⟨r, o + i, none⟩)) := by
 have e : at_ ⟨r, o, none⟩ n 1 (i : Int) = some (.pointer (some ⟨r, o + i, none⟩)) := by simp [at_, Addr.add_lit, h]
 simp only [indexAddrA, undLT, sizeRT]; exact e
theorem lrIT (h : SlR H r o vs) (hi : vs[i]? = some v) : loadA PP 33 (.pointer (some ⟨r, o + i, none⟩)) H = some (v, H) := by
 obtain ⟨pre, h1, h2⟩ := h
 simp only [loadA, aggRT]
 have e : (pre ++ vs)[o + i]? = some v := by rw [← h1, List.getElem?_append_right (by omega), Nat.add_sub_cancel_left]; exact hi
 simp [ld1, look, h2, e]
theorem pickT (h : RowS H V vs) (hi : vs[i]? = some v) : ∃ a, indexAddrA PP 28 V (.int .i64 (i : Int)) = some (.pointer a) ∧ loadA PP 33 (.pointer a) H = some (v, H) := by
 have hlt := (List.getElem?_eq_some_iff.mp hi).1
 rcases h with ⟨_, rfl⟩ | ⟨r, o, rfl, h2, h3⟩
 · simp at hlt
 · exact ⟨_, ixLT hlt, lrIT h3 hi⟩
theorem BkST.off {G : Heap} (B : BkST H b V W h vs ws) (hG : Off b H G) (g : G.get b = some (bkB V W h)) : BkST G b V W h vs ws :=
 ⟨g, B.rv.to fun z hz => hG.2 z (fun e => B.vb (by rw [hz, e])), B.rw_.to fun z hz => hG.2 z (fun e => B.wb (by rw [hz, e])), B.vb, B.wb, B.vw, B.len, B.small,
   fun i v w hv hw => (B.two i v w hv hw).to (hG.keepR (jg9 B.rv.sl) B.here), B.apart⟩
theorem j7y {Q : R → Prop} {k : KOE} {H0 : Heap} (hh : NH hk) (B : BkST H0 b V W h vs ws) (hN : 1000100 < N) :
   ∀ (n i m : Nat) (_ : i + n = vs.length) (_ : n < m) {H : Heap} {E : Env} (_ : Off b H0 H) (_ : H.get b = some (bkB V W h)) (_ : E 0 = .pointer (some ⟨b, 0, none⟩)) (_ : E 3 = .int .i64 (i : Int))
     (_ : ∀ E' G, E' 0 = .pointer (some ⟨b, 0, none⟩) → Off b H0 G → G.get b = some (bkB V W h) → Q (k (.exit 0) E' [] G)), Q (loopE (execG PP XX (CG N hk (d + 4)) N noPr cBD1 none) m E [] H k)
 | 0, i, m + 1, hn, hm, H, E, off, g, e0, e3, hx => by
   rw [ja5]
   obtain ⟨aV, hV⟩ := B.rv.form
   have hlt : decide ((i : Int) < (vs.length : Int)) = false := decide_eq_false (by omega)
   have c0 := bl0T g
   rw [hV] at c0
   have l2 := tl (rgn Tryz.f32 2)
   conv at l2 => rhs; simp only [rgn, oA, codeOf, Tryz.f32, gS, gN, reduceIte, Nat.reduceEqDiff, tA]
   simp +decide only [↓uR.o, dG.o, ja1, reduceIte, ↓ja0 l2, e0, e3, bf0T, c0, ja6 (ts := #[28]) rfl undLT, hlt]
   exact hx _ _ (by simp +decide only [ja1, reduceIte, e0]) off g
 | n + 1, i, m + 1, hn, hm, H, E, off, g, e0, e3, hx => by
   rw [ja5]
   have hi : i < vs.length := by omega
   have hsm := B.small
   have hlt : decide ((i : Int) < (vs.length : Int)) = true := decide_eq_true (by omega)
   have w : IntKind.i64.wrap ((i : Int) + 1) = ((i + 1 : Nat) : Int) := by rw [ja4 (by omega) (by omega)]; omega
   have B2 := B.off off g
   obtain ⟨aV, hV⟩ := B2.rv.form
   obtain ⟨aW, hW⟩ := B2.rw_.form
   have p1 := List.getElem?_eq_getElem hi
   have p2 := List.getElem?_eq_getElem (show i < ws.length by rw [← B.len]; exact hi)
   obtain ⟨q1, i1, k1⟩ := pickT B2.rv p1
   obtain ⟨q2, i2, k2⟩ := pickT B2.rw_ p2
   have sm := samT (d := d) hh (B2.two i _ _ p1 p2) hN
   have c0 := bl0T g
   have c1 := bl1T g
   have s3 := bs3 g
   rw [hV] at c0 i1
   rw [hW] at c1 i2
   have lL := lX3 Tryz.f32 2 3 4
   conv at lL in (occs := *) (rq _ _) => all_goals simp only [rX, oA, Tryz.f32, dL.o, reduceIte, Nat.reduceEqDiff]
   obtain ⟨l2, l3, l4⟩ := lL
   simp +decide only [↓uR.o, dG.o, ja1, jb1, reduceIte, ↓ja0 l2, ↓ja0 l3, ↓ja0 l4, ↓jb8 _ 5 false 18 _ yo3, e0, e3, bf0T, bf1T, bf3T, c0, c1, bl3 g, i1, k1, i2, k2, ja3 Tryz.func10 rfl rfl sm, jq8, s3, ja6 (ts := #[28]) rfl undLT, hlt, w]
   exact j7y hh B hN n (i + 1) m (by omega) (by omega) (off.set _) (jc6 _ _ _) (by simp +decide only [ja1, reduceIte, e0]) (by simp +decide only [ja1, reduceIte]) hx
theorem j6j (hh : NH hk) (B : BkST H b V W h vs ws) (hN : 1000100 < N) :
   ∃ H', CG N hk (d + 5) 32 #[.pointer (some ⟨b, 0, none⟩)] H = some (.ret (.bool true), H') ∧ Off b H H' ∧ BkST H' b V W h vs ws := by
 have main : ∃ R0 : R, CG N hk (d + 5) 32 #[.pointer (some ⟨b, 0, none⟩)] H = R0 ∧ ∃ H', R0 = some (.ret (.bool true), H') ∧ Off b H H' ∧ BkST H' b V W h vs ws := by
   refine ⟨_, jb6 (hh _ _ _ rfl) Tryz.func32 (c := codeOf Tryz.f32) rfl rfl rfl (pr := noPr) rfl, ?_⟩
   rw [code32]
   generalize hF : finE PP Tryz.f32 = F
   have hsm := B.small
   have lL := lX3 Tryz.f32 0 1 5
   conv at lL in (occs := *) (rq _ _) => all_goals simp only [rX, oA, Tryz.f32, dL.o, reduceIte, Nat.reduceEqDiff]
   obtain ⟨l0, l1, l5⟩ := lL
   simp +decide only [↓uR.o, dG.o, ↓ja0 l0, ↓ja0 l1, ↓jb4]
   refine j7y (Q := fun r => ∃ H', r = some (.ret (.bool true), H') ∧ Off b H H' ∧ BkST H' b V W h vs ws) hh B hN vs.length 0 N (by omega) (by omega) (.refl _ _) B.here ?_ ?_ fun E' G e0 hG g => ?_
   · simp +decide only [ja1, reduceIte, jc7]
   · simp +decide only [ja1, reduceIte]; rfl
   · simp +decide only [↓uR.o, dG.o, ja1, reduceIte, ↓ja0 l5, e0, bf3T, bl3 g, j23]
     refine ⟨G, ?_, hG, B.off hG g⟩
     rw [← hF, jb0 (l := [.bool true]) (by simp +decide [Tryz.f32, resE, ja1])]
     rfl
 obtain ⟨R0, m1, H', m2, m3⟩ := main
 exact ⟨H', m1.trans m2, m3⟩
theorem code33 : codeOf Tryz.f33 = .seq (rF Tryz.f33 0) (.seq (.seq (rF Tryz.f33 1) (.block 0 (.loop cBD2))) (.seq (rF Tryz.f33 5) .ret)) := by kernel_rfl
theorem yo4 : ((rgn Tryz.f33 4)[5]?).bind (·.dst) = some 18 := by kernel_rfl
theorem ixLB {n c : Nat} (h : i < n) : indexAddrA PP 27 (.slice (some ⟨r, o, none⟩) n c) (.int .i64 (i : Int)) = some (.pointer (some ⟨r, o + i, none⟩)) := by
 have e : at_ ⟨r, o, none⟩ n 1 (i : Int) = some (.pointer (some ⟨r, o + i, none⟩)) := by simp [at_, Addr.add_lit, h]
 simp only [indexAddrA, undLB, sizeRB]; exact e
theorem lrIB (h : SlR H r o vs) (hi : vs[i]? = some v) : loadA PP 22 (.pointer (some ⟨r, o + i, none⟩)) H = some (v, H) := by
 obtain ⟨pre, h1, h2⟩ := h
 simp only [loadA, aggRB]
 have e : (pre ++ vs)[o + i]? = some v := by rw [← h1, List.getElem?_append_right (by omega), Nat.add_sub_cancel_left]; exact hi
 simp [ld1, look, h2, e]
theorem pickB (h : RowS H V vs) (hi : vs[i]? = some v) : ∃ a, indexAddrA PP 27 V (.int .i64 (i : Int)) = some (.pointer a) ∧ loadA PP 22 (.pointer a) H = some (v, H) := by
 have hlt := (List.getElem?_eq_some_iff.mp hi).1
 rcases h with ⟨_, rfl⟩ | ⟨r, o, rfl, h2, h3⟩
 · simp at hlt
 · exact ⟨_, ixLB hlt, lrIB h3 hi⟩
theorem BkSB.off {G : Heap} (B : BkSB H b V W h vs ws) (hG : Off b H G) (g : G.get b = some (bkB V W h)) : BkSB G b V W h vs ws :=
 ⟨g, B.rv.to fun z hz => hG.2 z (fun e => B.vb (by rw [hz, e])), B.rw_.to fun z hz => hG.2 z (fun e => B.wb (by rw [hz, e])), B.vb, B.wb, B.vw, B.len, B.small,
   fun i v w hv hw => (B.two i v w hv hw).to (hG.keepR (jg9 B.rv.sl) B.here), B.apart⟩
theorem j7z {Q : R → Prop} {k : KOE} {H0 : Heap} (hh : NH hk) (B : BkSB H0 b V W h vs ws) (hN : 1000100 < N) :
   ∀ (n i m : Nat) (_ : i + n = vs.length) (_ : n < m) {H : Heap} {E : Env} (_ : Off b H0 H) (_ : H.get b = some (bkB V W h)) (_ : E 0 = .pointer (some ⟨b, 0, none⟩)) (_ : E 3 = .int .i64 (i : Int))
     (_ : ∀ E' G, E' 0 = .pointer (some ⟨b, 0, none⟩) → Off b H0 G → G.get b = some (bkB V W h) → Q (k (.exit 0) E' [] G)), Q (loopE (execG PP XX (CG N hk (d + 4)) N noPr cBD2 none) m E [] H k)
 | 0, i, m + 1, hn, hm, H, E, off, g, e0, e3, hx => by
   rw [ja5]
   obtain ⟨aV, hV⟩ := B.rv.form
   have hlt : decide ((i : Int) < (vs.length : Int)) = false := decide_eq_false (by omega)
   have c0 := bl0B g
   rw [hV] at c0
   have l2 := tl (rgn Tryz.f33 2)
   conv at l2 => rhs; simp only [rgn, oA, codeOf, Tryz.f33, gS, gN, reduceIte, Nat.reduceEqDiff, tA]
   simp +decide only [↓uR.o, dG.o, ja1, reduceIte, ↓ja0 l2, e0, e3, bf0B, c0, ja6 (ts := #[27]) rfl undLB, hlt]
   exact hx _ _ (by simp +decide only [ja1, reduceIte, e0]) off g
 | n + 1, i, m + 1, hn, hm, H, E, off, g, e0, e3, hx => by
   rw [ja5]
   have hi : i < vs.length := by omega
   have hsm := B.small
   have hlt : decide ((i : Int) < (vs.length : Int)) = true := decide_eq_true (by omega)
   have w : IntKind.i64.wrap ((i : Int) + 1) = ((i + 1 : Nat) : Int) := by rw [ja4 (by omega) (by omega)]; omega
   have B2 := B.off off g
   obtain ⟨aV, hV⟩ := B2.rv.form
   obtain ⟨aW, hW⟩ := B2.rw_.form
   have p1 := List.getElem?_eq_getElem hi
   have p2 := List.getElem?_eq_getElem (show i < ws.length by rw [← B.len]; exact hi)
   obtain ⟨q1, i1, k1⟩ := pickB B2.rv p1
   obtain ⟨q2, i2, k2⟩ := pickB B2.rw_ p2
   have sm := samB (d := d) hh (B2.two i _ _ p1 p2) hN
   have c0 := bl0B g
   have c1 := bl1B g
   have s3 := bs3 g
   rw [hV] at c0 i1
   rw [hW] at c1 i2
   have lL := lX3 Tryz.f33 2 3 4
   conv at lL in (occs := *) (rq _ _) => all_goals simp only [rX, oA, Tryz.f33, dL.o, reduceIte, Nat.reduceEqDiff]
   obtain ⟨l2, l3, l4⟩ := lL
   simp +decide only [↓uR.o, dG.o, ja1, jb1, reduceIte, ↓ja0 l2, ↓ja0 l3, ↓ja0 l4, ↓jb8 _ 5 false 18 _ yo4, e0, e3, bf0B, bf1B, bf3B, c0, c1, bl3 g, i1, k1, i2, k2, ja3 Tryz.func14 rfl rfl sm, jq8, s3, ja6 (ts := #[27]) rfl undLB, hlt, w]
   exact j7z hh B hN n (i + 1) m (by omega) (by omega) (off.set _) (jc6 _ _ _) (by simp +decide only [ja1, reduceIte, e0]) (by simp +decide only [ja1, reduceIte]) hx
theorem j6k (hh : NH hk) (B : BkSB H b V W h vs ws) (hN : 1000100 < N) :
   ∃ H', CG N hk (d + 5) 33 #[.pointer (some ⟨b, 0, none⟩)] H = some (.ret (.bool true), H') ∧ Off b H H' ∧ BkSB H' b V W h vs ws := by
 have main : ∃ R0 : R, CG N hk (d + 5) 33 #[.pointer (some ⟨b, 0, none⟩)] H = R0 ∧ ∃ H', R0 = some (.ret (.bool true), H') ∧ Off b H H' ∧ BkSB H' b V W h vs ws := by
   refine ⟨_, jb6 (hh _ _ _ rfl) Tryz.func33 (c := codeOf Tryz.f33) rfl rfl rfl (pr := noPr) rfl, ?_⟩
   rw [code33]
   generalize hF : finE PP Tryz.f33 = F
   have hsm := B.small
   have lL := lX3 Tryz.f33 0 1 5
   conv at lL in (occs := *) (rq _ _) => all_goals simp only [rX, oA, Tryz.f33, dL.o, reduceIte, Nat.reduceEqDiff]
   obtain ⟨l0, l1, l5⟩ := lL
   simp +decide only [↓uR.o, dG.o, ↓ja0 l0, ↓ja0 l1, ↓jb4]
   refine j7z (Q := fun r => ∃ H', r = some (.ret (.bool true), H') ∧ Off b H H' ∧ BkSB H' b V W h vs ws) hh B hN vs.length 0 N (by omega) (by omega) (.refl _ _) B.here ?_ ?_ fun E' G e0 hG g => ?_
   · simp +decide only [ja1, reduceIte, jc7]
   · simp +decide only [ja1, reduceIte]; rfl
   · simp +decide only [↓uR.o, dG.o, ja1, reduceIte, ↓ja0 l5, e0, bf3B, bl3 g, j23]
     refine ⟨G, ?_, hG, B.off hG g⟩
     rw [← hF, jb0 (l := [.bool true]) (by simp +decide [Tryz.f33, resE, ja1])]
     rfl
 obtain ⟨R0, m1, H', m2, m3⟩ := main
 exact ⟨H', m1.trans m2, m3⟩
end Go.Am
namespace Go.Am
set_option maxRecDepth 100000
noncomputable abbrev cBE38 : Code := .seq (rT Tryz.f20 18) (.cond (.tmp 91) (.seq (rF Tryz.f20 19) .ret) .skip)
noncomputable abbrev cBE37 : Code := .seq (rT Tryz.f18 18) (.cond (.tmp 91) (.seq (rF Tryz.f18 19) .ret) .skip)
noncomputable abbrev cBE36 : Code := .block 7 cBE38
noncomputable abbrev cBE35 : Code := .block 7 cBE37
noncomputable abbrev cBE34 : Code := .seq cBE36 (rF Tryz.f20 17)
noncomputable abbrev cBE33 : Code := .seq cBE35 (rF Tryz.f18 17)
noncomputable abbrev cBE32 : Code := .seq (.seq (rF Tryz.f20 8) (.cond (.tmp 42) .skip (.exit 2))) (.seq (.block 3 (rF Tryz.f20 10)) (rF Tryz.f20 9))
noncomputable abbrev cBE31 : Code := .seq (.seq (rF Tryz.f18 8) (.cond (.tmp 42) .skip (.exit 2))) (.seq (.block 3 (rF Tryz.f18 10)) (rF Tryz.f18 9))
noncomputable abbrev cBE30 : Code := .loop cBE32
noncomputable abbrev cBE29 : Code := .loop cBE31
noncomputable abbrev cBE28 : Code := .block 2 cBE30
noncomputable abbrev cBE27 : Code := .block 2 cBE29
noncomputable abbrev cBE26 : Code := .seq (rF Tryz.f20 7) cBE28
noncomputable abbrev cBE25 : Code := .seq (rF Tryz.f18 7) cBE27
noncomputable abbrev cBE24 : Code := .seq (.seq (rF Tryz.f20 16) (.cond (.tmp 80) .skip (.exit 6))) cBE34
noncomputable abbrev cBE23 : Code := .seq (.seq (rF Tryz.f18 16) (.cond (.tmp 80) .skip (.exit 6))) cBE33
noncomputable abbrev cBE22 : Code := .seq (rT Tryz.f20 6) cBE26
noncomputable abbrev cBE21 : Code := .seq (rT Tryz.f18 6) cBE25
noncomputable abbrev cBE20 : Code := .loop cBE24
noncomputable abbrev cBE19 : Code := .loop cBE23
noncomputable abbrev cBE18 : Code := .block 1 cBE22
noncomputable abbrev cBE17 : Code := .block 1 cBE21
noncomputable abbrev cBE16 : Code := .block 6 cBE20
noncomputable abbrev cBE15 : Code := .block 6 cBE19
noncomputable abbrev cBE14 : Code := .seq cBE18 (rF Tryz.f20 5)
noncomputable abbrev cBE13 : Code := .seq cBE17 (rF Tryz.f18 5)
noncomputable abbrev cBE12 : Code := .seq (rF Tryz.f20 15) cBE16
noncomputable abbrev cBE11 : Code := .seq (rF Tryz.f18 15) cBE15
noncomputable abbrev cBE10 : Code := .seq (rT Tryz.f20 14) cBE12
noncomputable abbrev cBE9 : Code := .seq (rT Tryz.f18 14) cBE11
noncomputable abbrev cBE8 : Code := .block 5 cBE10
noncomputable abbrev cBE7 : Code := .block 5 cBE9
noncomputable abbrev cBE6 : Code := .seq (.seq (rF Tryz.f20 4) (.cond (.tmp 20) .skip (.exit 0))) cBE14
noncomputable abbrev cBE5 : Code := .seq (.seq (rF Tryz.f18 4) (.cond (.tmp 20) .skip (.exit 0))) cBE13
noncomputable abbrev cBE4 : Code := .seq cBE8 (rF Tryz.f20 13)
noncomputable abbrev cBE3 : Code := .seq cBE7 (rF Tryz.f18 13)
noncomputable abbrev cBE2 : Code := .seq (.seq (rF Tryz.f20 12) (.cond (.tmp 58) .skip (.exit 4))) cBE4
noncomputable abbrev cBE1 : Code := .seq (.seq (rF Tryz.f18 12) (.cond (.tmp 58) .skip (.exit 4))) cBE3
theorem j70 {A B N : List Value} {o : Nat} (h : A.length = o) : over (A ++ B) o N = A ++ (N ++ B.drop N.length) := by
 subst h
 simp [over, List.drop_append, List.append_assoc]
theorem jl2 {H : Heap} {b : Nat} {x : Blk} (hf : Fresh H) (h : H.get b = some x) : b < H.next := by
 by_cases c : H.next ≤ b
 · rw [hf b c] at h; cases h
 · omega
theorem arr2 (a b : Value) : (#[] ++ #[a, b] ++ #[] : Array Value) = #[a, b] := rfl
theorem code18 : codeOf Tryz.f18 = .seq (rF Tryz.f18 0) (.seq (.seq (rF Tryz.f18 1) (.cond (.tmp 13) (.seq (rF Tryz.f18 2) .ret) .skip)) (.seq (.seq (rF Tryz.f18 3) (.block 0 (.loop cBE5))) (.seq (.seq (rF Tryz.f18 11) (.block 4 (.loop cBE1))) (.seq (rF Tryz.f18 20) (.seq (rF Tryz.f18 21) (.seq (rF Tryz.f18 22) (.seq (rF Tryz.f18 23) .ret))))))) := by kernel_rfl
theorem ixMT {r c j : Nat} (h : j < c) : indexAddrA PP 33 (.slice (some ⟨r, 0, none⟩) c c) (.int .i64 (j : Int)) = some (.pointer (some ⟨r, j * 5, none⟩)) := by
 have e : (⟨r, 0, none⟩ : Addr).add (j * 5) = ⟨r, j * 5, none⟩ := by rw [Addr.add_lit, Nat.zero_add]
 have e2 : at_ ⟨r, 0, none⟩ c 5 (j : Int) = some (.pointer (some ⟨r, j * 5, none⟩)) := by simp [at_, Addr.add_lit, h]
 simp only [indexAddrA, undET, sizeET]; exact e2
def mvT (i j : Nat) : Value := .agg #[.int .i64 (IntKind.i64.wrap (-1 - (i : Int))), .int .u64 0, .string .empty, .int .i64 (j : Int), .int .i64 0]
def mcT (i j : Nat) : List Value := [.int .i64 (IntKind.i64.wrap (-1 - (i : Int))), .int .u64 0, .string .empty, .int .i64 (j : Int), .int .i64 0]
theorem smT {H : Heap} {r o i j : Nat} {A B : List Value} {ex : Bool} {es : Nat} (h : H.get r = some ⟨A ++ B, true, es, none, ex⟩) (ho : A.length = o) (hB : 5 ≤ B.length) : storeA PP 42 (.pointer (some ⟨r, o, none⟩)) (mvT i j) H = some (undef, H.set r ⟨A ++ (mcT i j ++ B.drop 5), true, es, none, ex⟩) := by
 simp only [storeA, size29, stV, mvT]
 have e1 : over (A ++ B) o (mcT i j) = A ++ (mcT i j ++ B.drop 5) := j70 ho
 have e2 : o + 5 ≤ (A ++ B).length := by rw [List.length_append]; omega
 simp only [mcT] at e1
 simp [Value.cells, st, look, h, Value.oneCell', e1, mcT]
 simpa using e2
theorem neT (o1 o2 : Operand) (i j : Nat) : binA PP .neq 42 o1 o2 (mvT i j) (mvT i j) = some (.bool false) := j41 o1 o2 _ _ _ _ _
theorem y05 (i j : Nat) : veq (mvT i j) (mvT i j) = true := by simp [mvT, veq, veqs, veq0]
theorem lmT {H : Heap} {r o i j : Nat} {A B : List Value} {ex : Bool} {es : Nat} (h : H.get r = some ⟨A ++ (mcT i j ++ B), true, es, none, ex⟩) (ho : A.length = o) : loadA PP 42 (.pointer (some ⟨r, o, none⟩)) H = some (mvT i j, H) := by
 simp only [loadA, agg29, size29]
 simp only [ldN, look, h]
 rw [if_pos (by rw [List.length_append, List.length_append]; simp [mcT]; omega), ← ho, List.drop_left]
 rfl
def filT (i c : Nat) : List Value := (List.range c).flatMap fun j => mcT i j
theorem jv1 (i : Nat) : ∀ c, (filT i c).length = c * 5
 | 0 => rfl
 | c + 1 => by
   unfold filT
   rw [List.range_succ, List.flatMap_append, List.length_append]
   have := jv1 i c
   unfold filT at this
   rw [this]
   simp [mcT] <;> omega
theorem j42 (i c : Nat) : filT i (c + 1) = filT i c ++ mcT i c := by
 unfold filT; rw [List.range_succ, List.flatMap_append]; simp
theorem yg9 (i : Nat) : ∀ (c j : Nat), j < c → ∃ B, filT i c = filT i j ++ (mcT i j ++ B)
 | 0, j, h => absurd h (by omega)
 | c + 1, j, h => by
   rw [j42]
   by_cases e : j = c
   · subst e; exact ⟨[], by rw [List.append_nil]⟩
   · obtain ⟨B, hB⟩ := yg9 i c j (by omega)
     exact ⟨B ++ mcT i c, by rw [hB]; simp [List.append_assoc]⟩
def MarkOkT (K : Kf) : Prop := ∀ (i j : Nat) G, i ≤ 4000 → j < 9223372036854775807 → Fresh G → ∃ G', K 19 #[.int .i64 (i : Int), .int .i64 (j : Int)] G = some (.ret (mvT i j), G') ∧ Ext G G'
section
variable {N : Nat} {K : Kf} {Q : R → Prop} {k : KOE} {b r c i : Nat}
theorem j71 (MK : MarkOkT K) (hc : c ≤ 9223372036854775807) (hi : i ≤ 4000) : ∀ (n j m : Nat) (_ : j + n = c) (_ : n < m) {H : Heap} {E : Env} {B : List Value} (_ : Fresh H) (_ : H.get r = some ⟨filT i j ++ B, true, 5, none, true⟩) (_ : B.length = n * 5)
   (_ : E 0 = .pointer (some ⟨b, 0, none⟩)) (_ : E 1 = (.func (.func 19) #[] #[])) (_ : E 5 = .int .i64 (i : Int)) (_ : E 6 = .slice (some ⟨r, 0, none⟩) c c) (_ : E 7 = .int .i64 (j : Int))
   (_ : ∀ E' G, E' 0 = .pointer (some ⟨b, 0, none⟩) → E' 1 = (.func (.func 19) #[] #[]) → E' 5 = .int .i64 (i : Int) → Fresh G → (∀ z x, z ≠ r → H.get z = some x → G.get z = some x) → G.get r = some ⟨filT i c, true, 5, none, true⟩ → Q (k (.exit 2) E' [] G)),
   Q (loopE (execG PP XX K N prA cBE31 none) m E [] H k)
 | 0, j, m + 1, hn, hm, H, E, B, hf, hr, hB, e0, e1, e5, e6, e7, hx => by
   rw [ja5]
   have hlt : decide ((j : Int) < (c : Int)) = false := decide_eq_false (by omega)
   have l8 := tl (rgn Tryz.f18 8)
   conv at l8 => rhs; simp only [rgn, oA, codeOf, Tryz.f18, gS, gN, reduceIte, Nat.reduceEqDiff, tA]
   simp +decide only [↓uG.o, ↓jb9, dG.o, ja1, reduceIte, ↓ja0 l8, e6, e7, ja6 (ts := #[33]) rfl undET, hlt]
   obtain rfl := List.eq_nil_of_length_eq_zero (by simpa using hB)
   obtain rfl : j = c := by omega
   rw [List.append_nil] at hr
   exact hx _ H (by simp +decide only [ja1, reduceIte, e0]) (by simp +decide only [ja1, reduceIte, e1]) (by simp +decide only [ja1, reduceIte, e5]) hf (fun _ _ _ e => e) hr
 | n + 1, j, m + 1, hn, hm, H, E, B, hf, hr, hB, e0, e1, e5, e6, e7, hx => by
   rw [ja5]
   have hj : j < c := by omega
   have hlt : decide ((j : Int) < (c : Int)) = true := decide_eq_true (by omega)
   have w : IntKind.i64.wrap ((j : Int) + 1) = ((j + 1 : Nat) : Int) := by rw [ja4 (by omega) (by omega)]; omega
   obtain ⟨G1, hmk, x1⟩ := MK i j H hi (by omega) hf
   have g1 := x1.keep _ _ hr
   have hst := smT (i := i) (j := j) g1 (jv1 i j) (by omega)
   have hix := ixMT (r := r) hj
   rw [← List.append_assoc, ← j42] at hst
   have lL := lX3 Tryz.f18 8 9 10
   conv at lL in (occs := *) (rq _ _) => all_goals simp only [rX, oA, Tryz.f18, dL.o, reduceIte, Nat.reduceEqDiff]
   obtain ⟨l8, l9, l10⟩ := lL
   simp +decide only [↓uG.o, ↓jb9, dG.o, ja1, jb1, reduceIte, ↓ja0 l8, ↓ja0 l9, ↓ja0 l10, e1, e5, e6, e7, ja6 (ts := #[33]) rfl undET, hlt, ↓jg0 47 _ _ 19 #[] #[], arr2, ja3 Tryz.func19 rfl rfl hmk, hix, hst, w]
   refine j71 MK hc hi n (j + 1) m (by omega) (by omega) (jf0 x1.fresh (jl2 x1.fresh g1)) (jc6 _ _ _) (by rw [List.length_drop, hB]; omega) (by simp +decide only [ja1, reduceIte, e0]) (by simp +decide only [ja1, reduceIte, e1]) (by simp +decide only [ja1, reduceIte, e5]) (by simp +decide only [ja1, reduceIte, e6]) (by simp +decide only [ja1, reduceIte]) fun E' G q0 q1 q5 qf qk qr => ?_
   exact hx E' G q0 q1 q5 qf (fun z x hz hx2 => qk z x hz (by rw [Heap.get_set, if_neg hz]; exact x1.keep z x hx2)) qr
theorem j72 (MK : MarkOkT K) (hc : c ≤ 9223372036854775807) (hi : i ≤ 4000) : ∀ (n j m : Nat) (_ : j + n = c) (_ : n < m) {H : Heap} {E : Env} (_ : Fresh H) (_ : H.get r = some ⟨filT i c, true, 5, none, true⟩)
   (_ : E 0 = .pointer (some ⟨b, 0, none⟩)) (_ : E 1 = (.func (.func 19) #[] #[])) (_ : E 8 = .int .i64 (i : Int)) (_ : E 9 = .slice (some ⟨r, 0, none⟩) c c) (_ : E 10 = .int .i64 (j : Int))
   (_ : ∀ E' G, E' 0 = .pointer (some ⟨b, 0, none⟩) → E' 1 = (.func (.func 19) #[] #[]) → E' 8 = .int .i64 (i : Int) → Ext H G → Q (k (.exit 6) E' [] G)),
   Q (loopE (execG PP XX K N prA cBE23 none) m E [] H k)
 | 0, j, m + 1, hn, hm, H, E, hf, hr, e0, e1, e8, e9, e10, hx => by
   rw [ja5]
   have hlt : decide ((j : Int) < (c : Int)) = false := decide_eq_false (by omega)
   have l16 := tl (rgn Tryz.f18 16)
   conv at l16 => rhs; simp only [rgn, oA, codeOf, Tryz.f18, gS, gN, reduceIte, Nat.reduceEqDiff, tA]
   simp +decide only [↓uG.o, ↓jb9, dG.o, ja1, reduceIte, ↓ja0 l16, e9, e10, ja6 (ts := #[33]) rfl undET, hlt]
   exact hx _ H (by simp +decide only [ja1, reduceIte, e0]) (by simp +decide only [ja1, reduceIte, e1]) (by simp +decide only [ja1, reduceIte, e8]) ⟨Nat.le_refl _, fun _ _ e => e, hf⟩
 | n + 1, j, m + 1, hn, hm, H, E, hf, hr, e0, e1, e8, e9, e10, hx => by
   rw [ja5]
   have hj : j < c := by omega
   have hlt : decide ((j : Int) < (c : Int)) = true := decide_eq_true (by omega)
   have w : IntKind.i64.wrap ((j : Int) + 1) = ((j + 1 : Nat) : Int) := by rw [ja4 (by omega) (by omega)]; omega
   obtain ⟨G1, hmk, x1⟩ := MK i j H hi (by omega) hf
   have g1 := x1.keep _ _ hr
   have hix := ixMT (r := r) hj
   obtain ⟨B, hB⟩ := yg9 i c j hj
   have hl0 := lmT (i := i) (j := j) (by rw [← hB]; exact hr) (jv1 i j)
   have hl1 := lmT (i := i) (j := j) (by rw [← hB]; exact g1) (jv1 i j)
   have hne := neT (.tmp 86) (.tmp 90) i j
   have hvv := y05 i j
   have lL := lX3 Tryz.f18 16 17 18
   conv at lL in (occs := *) (rq _ _) => all_goals simp only [rX, oA, Tryz.f18, dL.o, reduceIte, Nat.reduceEqDiff]
   obtain ⟨l16, l17, l18⟩ := lL
   simp +decide only [↓jb9, jl9, ↓jw5 l18, ↓j86, ↓j1z, jl8, prA, List.isEmpty_cons, ↓uG.o, dG.o, ja1, reduceIte, ↓ja0 l16, e1, e8, e9, e10, ja6 (ts := #[33]) rfl undET, hlt, ↓jg0 87 _ _ 19 #[] #[], arr2, ja3 Tryz.func19 rfl rfl hmk, hix, hl0, hne]
   rw [jw6 (by simp +decide only [List.nil_append, List.cons_append, List.all_cons, List.all_nil, pairChkE, l18, List.getElem?_cons_zero, List.getElem?_cons_succ, guardBE, qval, opK, dG.o, ja1, reduceIte, Bool.and_self, hl0, hl1, hvv])]
   simp +decide only [↓jb9, ↓uG.o, dG.o, ja1, reduceIte, ↓ja0 l17, e10, w]
   exact j72 MK hc hi n (j + 1) m (by omega) (by omega) x1.fresh g1 (by simp +decide only [ja1, reduceIte, e0]) (by simp +decide only [ja1, reduceIte, e1]) (by simp +decide only [ja1, reduceIte, e8]) (by simp +decide only [ja1, reduceIte, e9]) (by simp +decide only [ja1, reduceIte]) fun E' G q0 q1 q8 qx => hx E' G q0 q1 q8 (x1.trans qx)
end
def RoomT (G : Heap) (v : Value) : Prop := v = .slice none 0 0 ∨ ∃ (r n c : Nat) (cs : List Value), v = .slice (some ⟨r, 0, none⟩) n c ∧ n ≤ c ∧ c ≤ 9223372036854775807 ∧ cs.length = c * 5 ∧ G.get r = some ⟨cs, true, 5, none, true⟩
def FullT (i : Nat) (G : Heap) (v : Value) : Prop := v = .slice none 0 0 ∨ ∃ (r n c : Nat), v = .slice (some ⟨r, 0, none⟩) n c ∧ n ≤ c ∧ c ≤ 9223372036854775807 ∧ G.get r = some ⟨filT i c, true, 5, none, true⟩
theorem FullT.room {i : Nat} {G : Heap} {v : Value} (h : FullT i G v) : RoomT G v := by
 rcases h with h | ⟨r, n, c, h1, h2, h3, h4⟩
 · exact .inl h
 · exact .inr ⟨r, n, c, _, h1, h2, h3, jv1 i c, h4⟩
theorem FullT.ext {i : Nat} {G G' : Heap} {v : Value} (h : FullT i G v) (x : Ext G G') : FullT i G' v := by
 rcases h with h | ⟨r, n, c, h1, h2, h3, h4⟩
 · exact .inl h
 · exact .inr ⟨r, n, c, h1, h2, h3, x.keep _ _ h4⟩
theorem RoomT.cap {G : Heap} {v : Value} (h : RoomT G v) : ∃ a n c, v = .slice a n c ∧ capA PP 33 v G = some (.int .i64 (c : Int)) ∧ sliceOpA PP 33 v none (some (.int .i64 (c : Int))) none G = some (.slice a c c) := by
 rcases h with rfl | ⟨r, n, c, cs, rfl, h1, h2, h3, h4⟩
 · exact ⟨none, 0, 0, rfl, by simp [capA], by simp only [sliceOpA, undET, sizeET, sliceA]; rfl⟩
 · refine ⟨_, n, c, rfl, ?_, ?_⟩
   · simp only [capA, undET, look, h4, sizeET]
     rw [if_pos ⟨trivial, trivial, by decide, by rw [Nat.zero_add]; exact h3.symm⟩]
   · simp only [sliceOpA, undET, sizeET, sliceA]
     rw [if_pos ⟨by omega, by omega, by omega⟩]
     simp only [look, h4]
     simp [Addr.add]
theorem code20 : codeOf Tryz.f20 = .seq (rF Tryz.f20 0) (.seq (.seq (rF Tryz.f20 1) (.cond (.tmp 13) (.seq (rF Tryz.f20 2) .ret) .skip)) (.seq (.seq (rF Tryz.f20 3) (.block 0 (.loop cBE6))) (.seq (.seq (rF Tryz.f20 11) (.block 4 (.loop cBE2))) (.seq (rF Tryz.f20 20) (.seq (rF Tryz.f20 21) (.seq (rF Tryz.f20 22) (.seq (rF Tryz.f20 23) .ret))))))) := by kernel_rfl
theorem ixMB {r c j : Nat} (h : j < c) : indexAddrA PP 22 (.slice (some ⟨r, 0, none⟩) c c) (.int .i64 (j : Int)) = some (.pointer (some ⟨r, j * 1, none⟩)) := by
 have e : (⟨r, 0, none⟩ : Addr).add (j * 1) = ⟨r, j * 1, none⟩ := by rw [Addr.add_lit, Nat.zero_add]
 have e2 : at_ ⟨r, 0, none⟩ c 1 (j : Int) = some (.pointer (some ⟨r, j * 1, none⟩)) := by simp [at_, Addr.add_lit, h]
 simp only [indexAddrA, undEB, sizeEB]; exact e2
def mvB (zf : Nat → Nat → Int) (i j : Nat) : Value := .int .u8 (zf i j)
def mcB (zf : Nat → Nat → Int) (i j : Nat) : List Value := [.int .u8 (zf i j)]
theorem smB (zf : Nat → Nat → Int) {H : Heap} {r o i j : Nat} {A B : List Value} {ex : Bool} (h : H.get r = some ⟨A ++ B, true, 1, none, ex⟩) (ho : A.length = o) (hB : 1 ≤ B.length) : storeA PP 5 (.pointer (some ⟨r, o, none⟩)) (mvB zf i j) H = some (undef, H.set r ⟨A ++ (mcB zf i j ++ B.drop 1), true, 1, none, ex⟩) := by
 simp only [storeA, size5, stV, mvB]
 have e1 : over (A ++ B) o (mcB zf i j) = A ++ (mcB zf i j ++ B.drop 1) := j70 ho
 have e2 : o + 1 ≤ (A ++ B).length := by rw [List.length_append]; omega
 simp only [mcB] at e1
 simp [Value.cells, st, look, h, Value.oneCell', e1, mcB]
 simpa using e2
theorem neB (zf : Nat → Nat → Int) (o1 o2 : Operand) (i j : Nat) : binA PP .neq 5 o1 o2 (mvB zf i j) (mvB zf i j) = some (.bool false) := by simp [mvB, j61]
theorem y06 (zf : Nat → Nat → Int) (i j : Nat) : veq (mvB zf i j) (mvB zf i j) = true := yc2 _ _
theorem lmB (zf : Nat → Nat → Int) {H : Heap} {r o i j : Nat} {A B : List Value} {ex : Bool} (h : H.get r = some ⟨A ++ (mcB zf i j ++ B), true, 1, none, ex⟩) (ho : A.length = o) : loadA PP 5 (.pointer (some ⟨r, o, none⟩)) H = some (mvB zf i j, H) := by
 simp only [loadA, agg5]
 simp [ld1, look, h, ← ho, mcB, mvB]
def filB (zf : Nat → Nat → Int) (i c : Nat) : List Value := (List.range c).flatMap fun j => mcB zf i j
theorem jv2 (zf : Nat → Nat → Int) (i : Nat) : ∀ c, (filB zf i c).length = c * 1
 | 0 => rfl
 | c + 1 => by
   unfold filB
   rw [List.range_succ, List.flatMap_append, List.length_append]
   have := jv2 zf i c
   unfold filB at this
   rw [this]
   simp [mcB] <;> omega
theorem j43 (zf : Nat → Nat → Int) (i c : Nat) : filB zf i (c + 1) = filB zf i c ++ mcB zf i c := by
 unfold filB; rw [List.range_succ, List.flatMap_append]; simp
theorem yh0 (zf : Nat → Nat → Int) (i : Nat) : ∀ (c j : Nat), j < c → ∃ B, filB zf i c = filB zf i j ++ (mcB zf i j ++ B)
 | 0, j, h => absurd h (by omega)
 | c + 1, j, h => by
   rw [j43]
   by_cases e : j = c
   · subst e; exact ⟨[], by rw [List.append_nil]⟩
   · obtain ⟨B, hB⟩ := yh0 zf i c j (by omega)
     exact ⟨B ++ mcB zf i c, by rw [hB]; simp [List.append_assoc]⟩
def MarkOkB (zf : Nat → Nat → Int) (K : Kf) : Prop := ∀ (i j : Nat) G, i ≤ 4000 → j < 9223372036854775807 → Fresh G → ∃ G', K 21 #[.int .i64 (i : Int), .int .i64 (j : Int)] G = some (.ret (mvB zf i j), G') ∧ Ext G G'
section
variable {N : Nat} {K : Kf} {Q : R → Prop} {k : KOE} {zf : Nat → Nat → Int} {b r c i : Nat}
theorem j73 (MK : MarkOkB zf K) (hc : c ≤ 9223372036854775807) (hi : i ≤ 4000) : ∀ (n j m : Nat) (_ : j + n = c) (_ : n < m) {H : Heap} {E : Env} {B : List Value} (_ : Fresh H) (_ : H.get r = some ⟨filB zf i j ++ B, true, 1, none, true⟩) (_ : B.length = n * 1)
   (_ : E 0 = .pointer (some ⟨b, 0, none⟩)) (_ : E 1 = (.func (.func 21) #[] #[])) (_ : E 5 = .int .i64 (i : Int)) (_ : E 6 = .slice (some ⟨r, 0, none⟩) c c) (_ : E 7 = .int .i64 (j : Int))
   (_ : ∀ E' G, E' 0 = .pointer (some ⟨b, 0, none⟩) → E' 1 = (.func (.func 21) #[] #[]) → E' 5 = .int .i64 (i : Int) → Fresh G → (∀ z x, z ≠ r → H.get z = some x → G.get z = some x) → G.get r = some ⟨filB zf i c, true, 1, none, true⟩ → Q (k (.exit 2) E' [] G)),
   Q (loopE (execG PP XX K N prA cBE32 none) m E [] H k)
 | 0, j, m + 1, hn, hm, H, E, B, hf, hr, hB, e0, e1, e5, e6, e7, hx => by
   rw [ja5]
   have hlt : decide ((j : Int) < (c : Int)) = false := decide_eq_false (by omega)
   have l8 := tl (rgn Tryz.f20 8)
   conv at l8 => rhs; simp only [rgn, oA, codeOf, Tryz.f20, gS, gN, reduceIte, Nat.reduceEqDiff, tA]
   simp +decide only [↓uG.o, ↓jb9, dG.o, ja1, reduceIte, ↓ja0 l8, e6, e7, ja6 (ts := #[22]) rfl undEB, hlt]
   obtain rfl := List.eq_nil_of_length_eq_zero (by simpa using hB)
   obtain rfl : j = c := by omega
   rw [List.append_nil] at hr
   exact hx _ H (by simp +decide only [ja1, reduceIte, e0]) (by simp +decide only [ja1, reduceIte, e1]) (by simp +decide only [ja1, reduceIte, e5]) hf (fun _ _ _ e => e) hr
 | n + 1, j, m + 1, hn, hm, H, E, B, hf, hr, hB, e0, e1, e5, e6, e7, hx => by
   rw [ja5]
   have hj : j < c := by omega
   have hlt : decide ((j : Int) < (c : Int)) = true := decide_eq_true (by omega)
   have w : IntKind.i64.wrap ((j : Int) + 1) = ((j + 1 : Nat) : Int) := by rw [ja4 (by omega) (by omega)]; omega
   obtain ⟨G1, hmk, x1⟩ := MK i j H hi (by omega) hf
   have g1 := x1.keep _ _ hr
   have hst := smB zf (i := i) (j := j) g1 (jv2 zf i j) (by omega)
   have hix := ixMB (r := r) hj
   rw [← List.append_assoc, ← j43] at hst
   have lL := lX3 Tryz.f20 8 9 10
   conv at lL in (occs := *) (rq _ _) => all_goals simp only [rX, oA, Tryz.f20, dL.o, reduceIte, Nat.reduceEqDiff]
   obtain ⟨l8, l9, l10⟩ := lL
   simp +decide only [↓uG.o, ↓jb9, dG.o, ja1, jb1, reduceIte, ↓ja0 l8, ↓ja0 l9, ↓ja0 l10, e1, e5, e6, e7, ja6 (ts := #[22]) rfl undEB, hlt, ↓jg0 47 _ _ 21 #[] #[], arr2, ja3 Tryz.func21 rfl rfl hmk, hix, hst, w]
   refine j73 MK hc hi n (j + 1) m (by omega) (by omega) (jf0 x1.fresh (jl2 x1.fresh g1)) (jc6 _ _ _) (by rw [List.length_drop, hB]; omega) (by simp +decide only [ja1, reduceIte, e0]) (by simp +decide only [ja1, reduceIte, e1]) (by simp +decide only [ja1, reduceIte, e5]) (by simp +decide only [ja1, reduceIte, e6]) (by simp +decide only [ja1, reduceIte]) fun E' G q0 q1 q5 qf qk qr => ?_
   exact hx E' G q0 q1 q5 qf (fun z x hz hx2 => qk z x hz (by rw [Heap.get_set, if_neg hz]; exact x1.keep z x hx2)) qr
theorem j74 (MK : MarkOkB zf K) (hc : c ≤ 9223372036854775807) (hi : i ≤ 4000) : ∀ (n j m : Nat) (_ : j + n = c) (_ : n < m) {H : Heap} {E : Env} (_ : Fresh H) (_ : H.get r = some ⟨filB zf i c, true, 1, none, true⟩)
   (_ : E 0 = .pointer (some ⟨b, 0, none⟩)) (_ : E 1 = (.func (.func 21) #[] #[])) (_ : E 8 = .int .i64 (i : Int)) (_ : E 9 = .slice (some ⟨r, 0, none⟩) c c) (_ : E 10 = .int .i64 (j : Int))
   (_ : ∀ E' G, E' 0 = .pointer (some ⟨b, 0, none⟩) → E' 1 = (.func (.func 21) #[] #[]) → E' 8 = .int .i64 (i : Int) → Ext H G → Q (k (.exit 6) E' [] G)),
   Q (loopE (execG PP XX K N prA cBE24 none) m E [] H k)
 | 0, j, m + 1, hn, hm, H, E, hf, hr, e0, e1, e8, e9, e10, hx => by
   rw [ja5]
   have hlt : decide ((j : Int) < (c : Int)) = false := decide_eq_false (by omega)
   have l16 := tl (rgn Tryz.f20 16)
   conv at l16 => rhs; simp only [rgn, oA, codeOf, Tryz.f20, gS, gN, reduceIte, Nat.reduceEqDiff, tA]
   simp +decide only [↓uG.o, ↓jb9, dG.o, ja1, reduceIte, ↓ja0 l16, e9, e10, ja6 (ts := #[22]) rfl undEB, hlt]
   exact hx _ H (by simp +decide only [ja1, reduceIte, e0]) (by simp +decide only [ja1, reduceIte, e1]) (by simp +decide only [ja1, reduceIte, e8]) ⟨Nat.le_refl _, fun _ _ e => e, hf⟩
 | n + 1, j, m + 1, hn, hm, H, E, hf, hr, e0, e1, e8, e9, e10, hx => by
   rw [ja5]
   have hj : j < c := by omega
   have hlt : decide ((j : Int) < (c : Int)) = true := decide_eq_true (by omega)
   have w : IntKind.i64.wrap ((j : Int) + 1) = ((j + 1 : Nat) : Int) := by rw [ja4 (by omega) (by omega)]; omega
   obtain ⟨G1, hmk, x1⟩ := MK i j H hi (by omega) hf
   have g1 := x1.keep _ _ hr
   have hix := ixMB (r := r) hj
   obtain ⟨B, hB⟩ := yh0 zf i c j hj
   have hl0 := lmB zf (i := i) (j := j) (by rw [← hB]; exact hr) (jv2 zf i j)
   have hl1 := lmB zf (i := i) (j := j) (by rw [← hB]; exact g1) (jv2 zf i j)
   have hne := neB zf (.tmp 86) (.tmp 90) i j
   have hvv := y06 zf i j
   have lL := lX3 Tryz.f20 16 17 18
   conv at lL in (occs := *) (rq _ _) => all_goals simp only [rX, oA, Tryz.f20, dL.o, reduceIte, Nat.reduceEqDiff]
   obtain ⟨l16, l17, l18⟩ := lL
   simp +decide only [↓jb9, jl9, ↓jw5 l18, ↓j86, ↓j1z, jl8, prA, List.isEmpty_cons, ↓uG.o, dG.o, ja1, reduceIte, ↓ja0 l16, e1, e8, e9, e10, ja6 (ts := #[22]) rfl undEB, hlt, ↓jg0 87 _ _ 21 #[] #[], arr2, ja3 Tryz.func21 rfl rfl hmk, hix, hl0, hne]
   rw [jw6 (by simp +decide only [List.nil_append, List.cons_append, List.all_cons, List.all_nil, pairChkE, l18, List.getElem?_cons_zero, List.getElem?_cons_succ, guardBE, qval, opK, dG.o, ja1, reduceIte, Bool.and_self, hl0, hl1, hvv])]
   simp +decide only [↓jb9, ↓uG.o, dG.o, ja1, reduceIte, ↓ja0 l17, e10, w]
   exact j74 MK hc hi n (j + 1) m (by omega) (by omega) x1.fresh g1 (by simp +decide only [ja1, reduceIte, e0]) (by simp +decide only [ja1, reduceIte, e1]) (by simp +decide only [ja1, reduceIte, e8]) (by simp +decide only [ja1, reduceIte, e9]) (by simp +decide only [ja1, reduceIte]) fun E' G q0 q1 q8 qx => hx E' G q0 q1 q8 (x1.trans qx)
end
def RoomB (G : Heap) (v : Value) : Prop := v = .slice none 0 0 ∨ ∃ (r n c : Nat) (cs : List Value), v = .slice (some ⟨r, 0, none⟩) n c ∧ n ≤ c ∧ c ≤ 9223372036854775807 ∧ cs.length = c * 1 ∧ G.get r = some ⟨cs, true, 1, none, true⟩
def FullB (zf : Nat → Nat → Int) (i : Nat) (G : Heap) (v : Value) : Prop := v = .slice none 0 0 ∨ ∃ (r n c : Nat), v = .slice (some ⟨r, 0, none⟩) n c ∧ n ≤ c ∧ c ≤ 9223372036854775807 ∧ G.get r = some ⟨filB zf i c, true, 1, none, true⟩
theorem FullB.room {zf : Nat → Nat → Int} {i : Nat} {G : Heap} {v : Value} (h : FullB zf i G v) : RoomB G v := by
 rcases h with h | ⟨r, n, c, h1, h2, h3, h4⟩
 · exact .inl h
 · exact .inr ⟨r, n, c, _, h1, h2, h3, jv2 zf i c, h4⟩
theorem FullB.ext {zf : Nat → Nat → Int} {i : Nat} {G G' : Heap} {v : Value} (h : FullB zf i G v) (x : Ext G G') : FullB zf i G' v := by
 rcases h with h | ⟨r, n, c, h1, h2, h3, h4⟩
 · exact .inl h
 · exact .inr ⟨r, n, c, h1, h2, h3, x.keep _ _ h4⟩
theorem RoomB.cap {G : Heap} {v : Value} (h : RoomB G v) : ∃ a n c, v = .slice a n c ∧ capA PP 22 v G = some (.int .i64 (c : Int)) ∧ sliceOpA PP 22 v none (some (.int .i64 (c : Int))) none G = some (.slice a c c) := by
 rcases h with rfl | ⟨r, n, c, cs, rfl, h1, h2, h3, h4⟩
 · exact ⟨none, 0, 0, rfl, by simp [capA], by simp only [sliceOpA, undEB, sizeEB, sliceA]; rfl⟩
 · refine ⟨_, n, c, rfl, ?_, ?_⟩
   · simp only [capA, undEB, look, h4, sizeEB]
     rw [if_pos ⟨trivial, trivial, by decide, by rw [Nat.zero_add]; exact h3.symm⟩]
   · simp only [sliceOpA, undEB, sizeEB, sliceA]
     rw [if_pos ⟨by omega, by omega, by omega⟩]
     simp only [look, h4]
     simp [Addr.add]
end Go.Am
