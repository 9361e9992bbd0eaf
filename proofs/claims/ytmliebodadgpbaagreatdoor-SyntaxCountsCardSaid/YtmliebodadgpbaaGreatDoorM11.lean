/- A list of declarations is tried in turn. -/
import Derived.Test.YtmliebodadgpbaaGreatDoorM10
open Go.Proofs
namespace Go.Am
set_option maxRecDepth 100000
abbrev Dcl := (Int × Int × Rc) × FuncId
def dclC (b : Nat) (l : List Dcl) : List Value := l.flatMap fun d => [.int .i64 d.1.1, .int .i64 d.1.2.1, .func (.func d.2) #[pt b] #[]]
theorem ju4 (b : Nat) : ∀ l : List Dcl, (dclC b l).length = l.length * 3
 | [] => rfl
 | _ :: l => by have := ju4 b l; simp only [dclC, List.flatMap_cons, List.length_append, List.length_cons, List.length_nil] at this ⊢; omega
theorem j0m (b : Nat) : ∀ (l : List Dcl) (i : Nat) (h : i < l.length), ((dclC b l).drop (i * 3)).take 3 = [.int .i64 l[i].1.1, .int .i64 l[i].1.2.1, .func (.func l[i].2) #[pt b] #[]]
 | [], i, h => by cases h
 | d :: l, 0, h => rfl
 | d :: l, i + 1, h => by
   have := j0m b l i (by simpa using h)
   rw [show (i + 1) * 3 = i * 3 + 3 by omega]
   simpa [dclC] using this
def DcOk (z : Cx) (T : Tc) (y : Pz) (M : Nat) (d : Dcl) : Prop := ∀ {H0 H : Heap} {L : List (Nat × Blk)} {p : PS} {w q : Nat} {kd : Int} {i : Nat} {k : KV} {kp : KP}, St z T H0 H L p w q (it0 kd i) → w < 2 ^ 13 → z.s.length < p.at_ + M → AnI z T H0 q p (2 ^ 14) k kp (d.1.2.2.rd y p (it0 kd i)) → callW PP d.2 #[pt z.b, pt q] (H.plus L) k kp
def onlyP (y : Pz) (kd : Nat) (l : List Dcl) (p : PS) : Ou Nat := (innerP y kd p).getD (dclP y (l.map (·.1)) p)
theorem ex0 (a b : Value) : extractA (.tuple #[a, b]) 0 = some a := rfl
theorem ex1 (a b : Value) : extractA (.tuple #[a, b]) 1 = some b := rfl
theorem upL_no (q : Nat) (x : Blk) : ∀ L : List (Nat × Blk), (∀ e ∈ L, e.1 ≠ q) → upL q x L = L
 | [], _ => rfl
 | (n, y) :: L, h => by
   have h1 : n ≠ q := h _ (List.mem_cons_self ..)
   rw [j4i h1, upL_no q x L fun e he => h e (List.mem_cons_of_mem _ he)]
theorem js1 : ∀ (L : List (Nat × Blk)) (e : Nat × Blk), e ∈ L → ∃ y, L.lookup e.1 = some y
 | [], e, h => by cases h
 | (n, y) :: L, e, h => by
   simp only [List.lookup]
   by_cases hq : e.1 = n
   · exact ⟨y, by simp [hq]⟩
   · rcases List.mem_cons.1 h with rfl | h
     · exact absurd rfl hq
     · obtain ⟨y', h'⟩ := js1 L e h
       refine ⟨y', ?_⟩
       rw [show (e.1 == n) = false by simpa using hq]; exact h'
theorem Fr.up_no {H0 H : Heap} {L : List (Nat × Blk)} (f : Fr H0 H L) (x : Blk) : upL H.next x L = L := Am.upL_no _ _ _ fun e he c => by
 obtain ⟨y, h⟩ := js1 L e he
 have := (f.keys _ _ h).2.1
 omega
theorem zrDcl : zeroT PP 96 = some [.int .i64 0, .int .i64 0, .nilFunc] := by kernel_rfl
theorem tyDc : lk PP 96 = 5 ∧ esT PP 96 = 1 ∧ sizeT PP 96 = some 3 ∧ lk PP 92 = 1 ∧ foff PP 96 0 = some 0 ∧ foff PP 96 1 = some 1 ∧ foff PP 96 2 = some 2 ∧ lk PP 94 = 1 := by decide +kernel
theorem ixDc : ixT PP 92 = some (none, 3) := by decide +kernel
section
variable {z : Cx} {T : Tc} {y : Pz} {n M : Nat} {H : Heap} {p : PS} {w : Nat} {k : KV} {kp : KP}
set_option maxHeartbeats 1000000 in
theorem jy5 (C : Cz z T y n M) {kd : Nat} {l : List Dcl} {rq : Nat} (hl : l.length ≤ 14) (hne : ∀ d ∈ l, d.1.1 ≠ 0) (hdc : ∀ d ∈ l, DcOk z T y M d) (h0 : H.get rq = some ⟨dclC z.b l, false, 3, none⟩) (x : Rd z T H p w) (lv : Lv p) (hw : w < 2 ^ 16 + 64) (hM : z.s.length < p.at_ + M + 1) (hk : AnS z T H p p.opened (2 ^ 14) vN k kp (onlyP y kd l p)) :
   callW PP 114 #[pt z.b, .func (.func (fnK kd)) #[pt z.b] #[], .slice (some ⟨rq, 0, none⟩) l.length l.length] H k kp := by
 have lb : z.b < H.next := let ⟨_, _, _, _, _, _, _, _, hb, _⟩ := x.ex; x.fresh.lt hb
 show callW PP 114 _ (H.plus []) k kp
 refine run 3 rfl Tryz.func114 (pr := noPr) (by decide +kernel) (by kernel_rfl) ?_
 have f0 := Fr.start x.fresh
 unfold onlyP at hk
 simp +decide only [zf114.o, ↓GI.o, reduceIte]
 refine f0.in (j4q C (kd := kd) x lv (by omega) hM (fun hn H1 f1 x1 => ?_) fun o ho => ?_)
 rotate_left
 · rw [ho, Option.getD_some] at hk
   cases o with
   | er er =>
     intro i H1 f1
     simp +decide only [↓GI.o]
     exact hk i _ f1
   | ok v p1 =>
     rintro H1 _ f1 x1 g1 lt1 o1 rfl
     simp +decide only [zf114.o, ↓GI.o, reduceIte, ex0, ex1]
     exact hk H1 _ f1 (x1.mono (by omega)) g1 lt1 o1 rfl
 rw [hn, Option.getD_none] at hk
 have fr1 := f0.call f1
 simp +decide only [zf114.o, ↓GI.o, reduceIte, ex0, ex1]
 have hrow := f1.keep _ _ _ h0
 generalize hR : dclP y ((l).map (·.1)) p = R at hk
 refine ja6 (I := fun m E ds G => ds = [] ∧ E 0 = pt z.b ∧ ∃ i Hb L w', E 23 = .int .i64 ((i : Nat) : Int) ∧ E 21 = .slice (some ⟨rq, 0, none⟩) (l).length (l).length ∧ E 22 = .int .i64 ((l).length : Int) ∧ i + m = (l).length + 1 ∧ i ≤ (l).length ∧ G = Hb.plus L ∧ Fr H Hb L ∧ Rd z T Hb p w' ∧ w' ≤ w + 4 + i ∧ Hb.get rq = some ⟨dclC z.b (l), false, 3, none⟩ ∧ dclP y (((l).drop i).map (·.1)) p = R) (i := (l).length + 1) ?_ ⟨rfl, ?_, 0, H1, _, _, rfl, ?_, ?_, by omega, Nat.zero_le _, rfl, fr1, x1, by omega, hrow, hR⟩
 · clear x1 fr1 f1 hrow hR
   rintro L' m E _ _ ⟨rfl, e0, i, Hb, L, w', ei, er, en, him, hil, rfl, fr, xr, hw', hrow, hR⟩ hL
   have lt := xr.fresh.lt hrow
   have nr := fr.none hrow
   by_cases hi : i < (l).length
   · have hi' : (i : Int) < ((l).length : Int) := by omega
     have hat := j0m z.b (l) i hi
     have hin : inL (i * 3 + 2) (dclC z.b (l)) = true := (jc9 _ _).2 (by rw [ju4]; omega)
     have hix := je4 ixDc hi rq 0 (l).length .i64
     rw [Nat.zero_add] at hix
     rw [List.drop_eq_getElem_cons hi, List.map_cons] at hR
     have hne : (l)[i].1.1 ≠ 0 := hne _ (List.getElem_mem hi)
     have hdc : DcOk z T y M (l)[i] := hdc _ (List.getElem_mem hi)
     generalize hd : (l)[i] = d at *
     obtain ⟨⟨dw, dk, dx⟩, dg⟩ := d
     change exU PP noPr Tryz.f114 (.seq _ _) none E [] _ _
     simp +decide only [zf114.o, ↓GI.o, reduceIte, ei, er, en, hi, decide_true, hix, hrow, nr, hin, hat, tyDc, je5 zrDcl]
     have es0 : storeA PP 96 (.pointer (some ⟨Hb.next, 0, none⟩)) (.agg #[.int .i64 dw, .int .i64 dk, .func (.func dg) #[pt z.b] #[]]) ((Hb.to (Hb.next + 1)).plus ((Hb.next, ⟨[.int .i64 0, .int .i64 0, .nilFunc], true, 1, none⟩) :: L)) = some (undef, ((Hb.to (Hb.next + 1)).plus ((Hb.next, ⟨[.int .i64 0, .int .i64 0, .nilFunc], true, 1, none⟩) :: L)).set Hb.next ⟨[.int .i64 dw, .int .i64 dk, .func (.func dg) #[pt z.b] #[]], true, 1, none⟩) := jb4 (P := PP) (t := 96) (H := (Hb.to (Hb.next + 1)).plus ((Hb.next, ⟨[.int .i64 0, .int .i64 0, .nilFunc], true, 1, none⟩) :: L)) (q := Hb.next) (off := 0) (cs := [.int .i64 0, .int .i64 0, .nilFunc]) (vs := [.int .i64 dw, .int .i64 dk, .func (.func dg) #[pt z.b] #[]]) (by rw [ja2, ja5]; rfl) tyDc.2.2.1 rfl (by simp) rfl
     rw [es0]
     have fa : Fr H (Hb.to (Hb.next + 1)) ((Hb.next, ⟨[.int .i64 dw, .int .i64 dk, .func (.func dg) #[pt z.b] #[]], true, 1, none⟩) :: L) := fr.new _
     simp +decide only [zf114.o, ↓GI.o, reduceIte, e0, tyDc, fr.up_no]
     refine fa.in (jg9 (xr.to (show Hb.next ≤ Hb.next + 1 by omega)) (by omega) dw fun H3 f3 x3 => ?_)
     have fb := fa.call f3
     have hne' : dw ≠ 0 := hne
     unfold dclP at hR
     by_cases hd : p.k.kind = dw
     · rw [if_pos hd] at hR
       simp +decide only [zf114.o, ↓GI.o, reduceIte, e0, tyDc, show (p.k.kind == dw) = true by simpa using hd]
       subst hd
       have lt := xr.tok hne'
       obtain ⟨bg, blt, bo, blv, bi⟩ := jf3 xr.sz lv lt dk
       refine fb.in (jh4 x3 lv hne' dk fun H5 f5 x5 => ?_)
       have fc := fb.call f5
       have x5 : Rd z T H5 (beginP z.s dk p) 0 := x5
       obtain ⟨f, t, bad, wv, nm, nu, iv, nv, q, cs, e1, e2, e3, e4, e5, e6, e7, e8, e9⟩ := jf4 fc x5 bi
       have lt6 := Nat.lt_of_lt_of_le (Nat.lt_succ_self Hb.next) (Nat.le_trans f3.next f5.next)
       have es5 : storeA PP 40 (.pointer (some ⟨H5.next, 0, none⟩)) (.agg (itC dk p.at_).toArray) ((H5.to (H5.next + 1)).plus ((H5.next, ⟨itC 0 0, true, 1, none⟩) :: (Hb.next, ⟨[.int .i64 p.k.kind, .int .i64 dk, .func (.func dg) #[pt z.b] #[]], true, 1, none⟩) :: L)) = some (undef, ((H5.to (H5.next + 1)).plus ((H5.next, ⟨itC 0 0, true, 1, none⟩) :: (Hb.next, ⟨[.int .i64 p.k.kind, .int .i64 dk, .func (.func dg) #[pt z.b] #[]], true, 1, none⟩) :: L)).set H5.next ⟨itC dk p.at_, true, 1, none⟩) := jb4 (P := PP) (t := 40) (q := H5.next) (off := 0) (cs := itC 0 0) (vs := itC dk p.at_) (by rw [ja2, ja5]; rfl) tyT.2.2 rfl (by simp) rfl
       simp +decide only [zf114.o, ↓GI.o, reduceIte, e0, e1, e2, e3, e4, e5, e6, e7, tyT, je5 zrItem]
       rw [es5]
       simp +decide only [zf114.o, ↓GI.o, reduceIte, tyDc, fc.up_no, jc7 lt6]
       have s2 : St z T H (H5.to (H5.next + 1)) ((H5.next, ⟨itC dk p.at_, true, 1, none⟩) :: (Hb.next, ⟨[.int .i64 p.k.kind, .int .i64 dk, .func (.func dg) #[pt z.b] #[]], true, 1, none⟩) :: L) (beginP z.s dk p) 0 H5.next (it0 dk p.at_) := St.new (fc.new _) (x5.to (by omega)) blv (ja5 _ _ _)
       refine hdc s2 (by omega) (by omega) ?_
       unfold itemP at hR
       rw [C.s] at hR
       cases h : dx.rd y (beginP z.s dk p) (it0 dk p.at_) with
       | er er =>
         rw [h] at hR
         rw [← hR] at hk
         intro i H6 f6
         simp +decide only [↓GI.o]
         exact hk i _ f6
       | ok v p3 =>
         rw [h, Ou.bind_ok] at hR
         rw [← hR] at hk
         intro H6 L6 s3 g3 o3
         obtain ⟨nv3, fv3, tv3, ov3, ev3, kv3, lv3, li⟩ := s3.li
         simp +decide only [zf114.o, ↓GI.o, reduceIte, e0, li.blk, tyT]
         refine s3.fin_w li (i := p.its.length) (by have := g3.its; rw [bi] at this; simp at this; omega) fun H7 f7 x7 => ?_
         simp +decide only [zf114.o, ↓GI.o, reduceIte]
         exact hk H7 _ f7 x7 ⟨Nat.le_trans bg.le g3.le, by have := (bg.trans g3).its; simpa [setIt] using this, by have := (bg.trans g3).its'; simpa [setIt] using this, (bg.trans g3).nds'⟩ (by have := g3.le; show p.at_ < p3.at_; omega) (o3.trans bo) rfl
     · rw [if_neg hd] at hR
       simp +decide only [zf114.o, ↓GI.o, reduceIte, ei, show (p.k.kind == dw) = false by simpa using hd]
       refine hL (m - 1) _ _ _ (by omega) ⟨rfl, ?_, i + 1, H3, _, _, ?_, ?_, ?_, by omega, by omega, rfl, fb, x3, by omega, f3.keep _ _ _ hrow, hR⟩
       · simp +decide only [↓G.o, reduceIte, e0]
       · simp +decide only [↓G.o, reduceIte]
         exact congrArg (Value.int .i64) (ja1 (by omega))
       · simp +decide only [↓G.o, reduceIte, er]
       · simp +decide only [↓G.o, reduceIte, en]
   · have : i = (l).length := by omega
     subst this
     rw [List.drop_length] at hR
     change exU PP noPr Tryz.f114 (.seq _ _) none E [] _ _
     simp +decide only [zf114.o, ↓GI.o, reduceIte, ei, en, e0, Nat.lt_irrefl, decide_false]
     refine fr.in (jo0 xr (by omega) fun i H5 f5 => ?_)
     simp +decide only [↓GI.o]
     rw [← hR] at hk
     exact hk i _ (fr.call f5).out
 all_goals (simp +decide only [↓G.o, reduceIte]; try rfl)
def itemD : List Dcl := [((38, 6, useR), 74), ((39, 7, ramR), 75), ((41, 8, deviceR), 76), ((44, 9, regionR), 77), ((48, 10, subjectR), 78), ((59, 11, channelR), 79), ((64, 12, irqR), 80), ((66, 13, planR), 81), ((73, 14, pickR), 82), ((63, 15, pickR), 82), ((74, 22, queueR), 83), ((75, 23, sampleR), 84), ((78, 24, pickR), 82), ((79, 25, forbidR), 85)]
theorem jf8 {g : FuncId} {x : Rc} (R : RdC g x) (C : Cz z T y n M) (w kd : Int) : DcOk z T y M ((w, kd, x), g) := fun s hw hM hk => rd_w R C s hw (Nat.zero_le _) hM hk
theorem j67 (C : Cz z T y n M) : ∀ d ∈ itemD, DcOk z T y M d := by
 intro d hd
 simp only [itemD, List.mem_cons, List.not_mem_nil, or_false] at hd
 rcases hd with rfl | rfl | rfl | rfl | rfl | rfl | rfl | rfl | rfl | rfl | rfl | rfl | rfl | rfl
 · exact fun s hw hM hk => ys4 C s hw rfl hk
 all_goals first | exact jf8 yk1 C _ _ | exact jf8 j4m C _ _ | exact jf8 j4n C _ _ | exact jf8 j2n C _ _ | exact jf8 j2o C _ _ | exact jf8 yk2 C _ _ | exact jf8 j98 C _ _ | exact jf8 j95 C _ _ | exact jf8 j62 C _ _ | exact jf8 j4k C _ _ | exact jf8 j4l C _ _
theorem js2 (a c : Int) (g b : Nat) : buildA PP 96 #[(0, .int .i64 a), (1, .int .i64 c), (2, .func (.func g) #[pt b] #[])] = some (.agg #[.int .i64 a, .int .i64 c, .func (.func g) #[pt b] #[]]) := by kernel_rfl
abbrev dA (a c : Int) (g b : Nat) : Value := .agg #[.int .i64 a, .int .i64 c, .func (.func g) #[pt b] #[]]
theorem ys5 (b : Nat) (H : Heap) : buildSliceA PP 92 14 #[(0, dA 38 6 74 b), (1, dA 39 7 75 b), (2, dA 41 8 76 b), (3, dA 44 9 77 b), (4, dA 48 10 78 b), (5, dA 59 11 79 b), (6, dA 64 12 80 b), (7, dA 66 13 81 b), (8, dA 73 14 82 b), (9, dA 63 15 82 b), (10, dA 74 22 83 b), (11, dA 75 23 84 b), (12, dA 78 24 82 b), (13, dA 79 25 85 b)] H = some (.slice (some ⟨H.next, 0, none⟩) 14 14, H.alloc 3 (dclC b itemD)) := by kernel_rfl
theorem ya4 (h : Fresh H) (b : Nat) (hk : ∀ H' rq, Fle H H' → Hle H H' → H'.get rq = some ⟨dclC b itemD, false, 3, none⟩ → k (.slice (some ⟨rq, 0, none⟩) 14 14) H') : callW PP 58 #[pt b] H k kp := by
 refine ja4 (H0 := H.plus []) (.refl _) (run 1 rfl Tryz.func58 (pr := noPr) (by decide +kernel) (by kernel_rfl) ?_)
 simp +decide only [fx Tryz.f58.eq_1, ↓GW.o, reduceIte, js2, List.map_toArray, List.map_cons, List.map_nil, ys5]
 have fr := (Fr.start h).new ⟨dclC b itemD, true, 3, none⟩
 obtain ⟨ff, gg⟩ := fr.frz
 refine ⟨_, gg, hk _ H.next ff.out (Hle.trans (Hle.to h (show H.next ≤ H.next + 1 by omega)) ff.hle) ?_⟩
 rw [ja2, jb6, ja5]; rfl
set_option maxHeartbeats 1000000 in
theorem j8p (C : Cz z T y n M)  (x : Rd z T H p w) (lv : Lv p) (hw : w < 2 ^ 16 + 64) (hM : z.s.length < p.at_ + M + 1) (hk : AnS z T H p p.opened (2 ^ 14) vN k kp (onlyP y 0 itemD p)) :
   callW PP 41 #[pt z.b] H k kp := by
 have lb : z.b < H.next := let ⟨_, _, _, _, _, _, _, _, hb, _⟩ := x.ex; x.fresh.lt hb
 show callW PP 41 _ (H.plus []) k kp
 refine run 1 rfl Tryz.func41 (pr := noPr) (by decide +kernel) (by kernel_rfl) ?_
 have f0 := Fr.start x.fresh
 unfold onlyP at hk
 simp +decide only [zf41.o, ↓GI.o, reduceIte]
 refine f0.in (j4q C (kd := 0) x lv (by omega) hM (fun hn H1 f1 x1 => ?_) fun o ho => ?_)
 rotate_left
 · rw [ho, Option.getD_some] at hk
   cases o with
   | er er =>
     intro i H1 f1
     simp +decide only [↓GI.o]
     exact hk i _ f1
   | ok v p1 =>
     rintro H1 _ f1 x1 g1 lt1 o1 rfl
     simp +decide only [zf41.o, ↓GI.o, reduceIte, ex0, ex1]
     exact hk H1 _ f1 (x1.mono (by omega)) g1 lt1 o1 rfl
 rw [hn, Option.getD_none] at hk
 have fr1 := f0.call f1
 simp +decide only [zf41.o, ↓GI.o, reduceIte, ex0, ex1]
 refine fr1.in (ya4 x1.fresh z.b fun H2 rq f2 g2 hrow => ?_)
 have fr2 := fr1.call f2
 have x2 := x1.hle g2
 have hl : itemD.length ≤ 14 := by decide
 have hne : ∀ d ∈ itemD, d.1.1 ≠ 0 := by decide
 have hdc := j67 C
 simp +decide only [↓GI.o, reduceIte]
 generalize hR : dclP y ((itemD).map (·.1)) p = R at hk
 refine ja6 (I := fun m E ds G => ds = [] ∧ E 0 = pt z.b ∧ ∃ i Hb L w', E 21 = .int .i64 ((i : Nat) : Int) ∧ E 19 = .slice (some ⟨rq, 0, none⟩) (itemD).length (itemD).length ∧ E 20 = .int .i64 ((itemD).length : Int) ∧ i + m = (itemD).length + 1 ∧ i ≤ (itemD).length ∧ G = Hb.plus L ∧ Fr H Hb L ∧ Rd z T Hb p w' ∧ w' ≤ w + 4 + i ∧ Hb.get rq = some ⟨dclC z.b (itemD), false, 3, none⟩ ∧ dclP y (((itemD).drop i).map (·.1)) p = R) (i := (itemD).length + 1) ?_ ⟨rfl, ?_, 0, H2, _, _, rfl, ?_, ?_, by omega, Nat.zero_le _, rfl, fr2, x2, by omega, hrow, hR⟩
 · clear fr2 x2 f2 x1 fr1 f1 hrow hR
   rintro L' m E _ _ ⟨rfl, e0, i, Hb, L, w', ei, er, en, him, hil, rfl, fr, xr, hw', hrow, hR⟩ hL
   have lt := xr.fresh.lt hrow
   have nr := fr.none hrow
   by_cases hi : i < (itemD).length
   · have hi' : (i : Int) < ((itemD).length : Int) := by omega
     have hat := j0m z.b (itemD) i hi
     have hin : inL (i * 3 + 2) (dclC z.b (itemD)) = true := (jc9 _ _).2 (by rw [ju4]; omega)
     have hix := je4 ixDc hi rq 0 (itemD).length .i64
     rw [Nat.zero_add] at hix
     rw [List.drop_eq_getElem_cons hi, List.map_cons] at hR
     have hne : (itemD)[i].1.1 ≠ 0 := hne _ (List.getElem_mem hi)
     have hdc : DcOk z T y M (itemD)[i] := hdc _ (List.getElem_mem hi)
     generalize hd : (itemD)[i] = d at *
     obtain ⟨⟨dw, dk, dx⟩, dg⟩ := d
     change exU PP noPr Tryz.f41 (.seq _ _) none E [] _ _
     simp +decide only [zf41.o, ↓GI.o, reduceIte, ei, er, en, hi, decide_true, hix, hrow, nr, hin, hat, tyDc, je5 zrDcl]
     have es0 : storeA PP 96 (.pointer (some ⟨Hb.next, 0, none⟩)) (.agg #[.int .i64 dw, .int .i64 dk, .func (.func dg) #[pt z.b] #[]]) ((Hb.to (Hb.next + 1)).plus ((Hb.next, ⟨[.int .i64 0, .int .i64 0, .nilFunc], true, 1, none⟩) :: L)) = some (undef, ((Hb.to (Hb.next + 1)).plus ((Hb.next, ⟨[.int .i64 0, .int .i64 0, .nilFunc], true, 1, none⟩) :: L)).set Hb.next ⟨[.int .i64 dw, .int .i64 dk, .func (.func dg) #[pt z.b] #[]], true, 1, none⟩) := jb4 (P := PP) (t := 96) (H := (Hb.to (Hb.next + 1)).plus ((Hb.next, ⟨[.int .i64 0, .int .i64 0, .nilFunc], true, 1, none⟩) :: L)) (q := Hb.next) (off := 0) (cs := [.int .i64 0, .int .i64 0, .nilFunc]) (vs := [.int .i64 dw, .int .i64 dk, .func (.func dg) #[pt z.b] #[]]) (by rw [ja2, ja5]; rfl) tyDc.2.2.1 rfl (by simp) rfl
     rw [es0]
     have fa : Fr H (Hb.to (Hb.next + 1)) ((Hb.next, ⟨[.int .i64 dw, .int .i64 dk, .func (.func dg) #[pt z.b] #[]], true, 1, none⟩) :: L) := fr.new _
     simp +decide only [zf41.o, ↓GI.o, reduceIte, e0, tyDc, fr.up_no]
     refine fa.in (jg9 (xr.to (show Hb.next ≤ Hb.next + 1 by omega)) (by omega) dw fun H3 f3 x3 => ?_)
     have fb := fa.call f3
     have hne' : dw ≠ 0 := hne
     unfold dclP at hR
     by_cases hd : p.k.kind = dw
     · rw [if_pos hd] at hR
       simp +decide only [zf41.o, ↓GI.o, reduceIte, e0, tyDc, show (p.k.kind == dw) = true by simpa using hd]
       subst hd
       have lt := xr.tok hne'
       obtain ⟨bg, blt, bo, blv, bi⟩ := jf3 xr.sz lv lt dk
       refine fb.in (jh4 x3 lv hne' dk fun H5 f5 x5 => ?_)
       have fc := fb.call f5
       have x5 : Rd z T H5 (beginP z.s dk p) 0 := x5
       obtain ⟨f, t, bad, wv, nm, nu, iv, nv, q, cs, e1, e2, e3, e4, e5, e6, e7, e8, e9⟩ := jf4 fc x5 bi
       have lt6 := Nat.lt_of_lt_of_le (Nat.lt_succ_self Hb.next) (Nat.le_trans f3.next f5.next)
       have es5 : storeA PP 40 (.pointer (some ⟨H5.next, 0, none⟩)) (.agg (itC dk p.at_).toArray) ((H5.to (H5.next + 1)).plus ((H5.next, ⟨itC 0 0, true, 1, none⟩) :: (Hb.next, ⟨[.int .i64 p.k.kind, .int .i64 dk, .func (.func dg) #[pt z.b] #[]], true, 1, none⟩) :: L)) = some (undef, ((H5.to (H5.next + 1)).plus ((H5.next, ⟨itC 0 0, true, 1, none⟩) :: (Hb.next, ⟨[.int .i64 p.k.kind, .int .i64 dk, .func (.func dg) #[pt z.b] #[]], true, 1, none⟩) :: L)).set H5.next ⟨itC dk p.at_, true, 1, none⟩) := jb4 (P := PP) (t := 40) (q := H5.next) (off := 0) (cs := itC 0 0) (vs := itC dk p.at_) (by rw [ja2, ja5]; rfl) tyT.2.2 rfl (by simp) rfl
       simp +decide only [zf41.o, ↓GI.o, reduceIte, e0, e1, e2, e3, e4, e5, e6, e7, tyT, je5 zrItem]
       rw [es5]
       simp +decide only [zf41.o, ↓GI.o, reduceIte, tyDc, fc.up_no, jc7 lt6]
       have s2 : St z T H (H5.to (H5.next + 1)) ((H5.next, ⟨itC dk p.at_, true, 1, none⟩) :: (Hb.next, ⟨[.int .i64 p.k.kind, .int .i64 dk, .func (.func dg) #[pt z.b] #[]], true, 1, none⟩) :: L) (beginP z.s dk p) 0 H5.next (it0 dk p.at_) := St.new (fc.new _) (x5.to (by omega)) blv (ja5 _ _ _)
       refine hdc s2 (by omega) (by omega) ?_
       unfold itemP at hR
       rw [C.s] at hR
       cases h : dx.rd y (beginP z.s dk p) (it0 dk p.at_) with
       | er er =>
         rw [h] at hR
         rw [← hR] at hk
         intro i H6 f6
         simp +decide only [↓GI.o]
         exact hk i _ f6
       | ok v p3 =>
         rw [h, Ou.bind_ok] at hR
         rw [← hR] at hk
         intro H6 L6 s3 g3 o3
         obtain ⟨nv3, fv3, tv3, ov3, ev3, kv3, lv3, li⟩ := s3.li
         simp +decide only [zf41.o, ↓GI.o, reduceIte, e0, li.blk, tyT]
         refine s3.fin_w li (i := p.its.length) (by have := g3.its; rw [bi] at this; simp at this; omega) fun H7 f7 x7 => ?_
         simp +decide only [zf41.o, ↓GI.o, reduceIte]
         exact hk H7 _ f7 x7 ⟨Nat.le_trans bg.le g3.le, by have := (bg.trans g3).its; simpa [setIt] using this, by have := (bg.trans g3).its'; simpa [setIt] using this, (bg.trans g3).nds'⟩ (by have := g3.le; show p.at_ < p3.at_; omega) (o3.trans bo) rfl
     · rw [if_neg hd] at hR
       simp +decide only [zf41.o, ↓GI.o, reduceIte, ei, show (p.k.kind == dw) = false by simpa using hd]
       refine hL (m - 1) _ _ _ (by omega) ⟨rfl, ?_, i + 1, H3, _, _, ?_, ?_, ?_, by omega, by omega, rfl, fb, x3, by omega, f3.keep _ _ _ hrow, hR⟩
       · simp +decide only [↓G.o, reduceIte, e0]
       · simp +decide only [↓G.o, reduceIte]
         exact congrArg (Value.int .i64) (ja1 (by omega))
       · simp +decide only [↓G.o, reduceIte, er]
       · simp +decide only [↓G.o, reduceIte, en]
   · have : i = (itemD).length := by omega
     subst this
     rw [List.drop_length] at hR
     change exU PP noPr Tryz.f41 (.seq _ _) none E [] _ _
     simp +decide only [zf41.o, ↓GI.o, reduceIte, ei, en, e0, decide_false]
     refine fr.in (jo0 xr (by omega) fun i H5 f5 => ?_)
     simp +decide only [↓GI.o]
     rw [← hR] at hk
     exact hk i _ (fr.call f5).out
 all_goals (simp +decide only [↓G.o, reduceIte]; try rfl)
end
theorem AnS.in {z : Cx} {T : Tc} {H H1 : Heap} {p : PS} {o W W' : Nat} {k k' : KV} {kp kp' : KP} {r : Ou Nat} (h : AnS z T H p o W vN k kp r) (f : Fle H H1) (hW : W' ≤ W) (hk : ∀ (v : Nat) H', k (.int .i64 (v : Int)) H' → k' (.int .i64 (v : Int)) H') (hp : ∀ c H', kp [c] H' → kp' [c] H') : AnS z T H1 p o W' vN k' kp' r := by
 cases r with
 | er e => exact fun i H' g => hp _ _ (h i H' (f.trans g))
 | ok v q =>
   rintro H' _ g x go lt o rfl
   exact hk v H' (h H' _ (f.trans g) (x.mono hW) go lt o rfl)
theorem ya5 (H : Heap) (a c : Int) (g b : Nat) : buildSliceA PP 92 1 #[(0, dA a c g b)] H = some (.slice (some ⟨H.next, 0, none⟩) 1 1, H.alloc 3 [.int .i64 a, .int .i64 c, .func (.func g) #[pt b] #[]]) := by kernel_rfl
theorem yk9 (H : Heap) (a c : Int) (g : Nat) (a' c' : Int) (g' b : Nat) : buildSliceA PP 92 2 #[(0, dA a c g b), (1, dA a' c' g' b)] H = some (.slice (some ⟨H.next, 0, none⟩) 2 2, H.alloc 3 [.int .i64 a, .int .i64 c, .func (.func g) #[pt b] #[], .int .i64 a', .int .i64 c', .func (.func g') #[pt b] #[]]) := by kernel_rfl
theorem jf5 (y : Pz) (kd : Nat) (t : List (Int × Int × Rc)) (p : PS) : dclP y (innerT kd ++ t) p = (innerP y kd p).getD (dclP y t p) := by
 simp only [innerT, List.cons_append, List.nil_append, dclP, innerP]
 repeat' split
 all_goals rfl
section
variable {z : Cx} {T : Tc} {y : Pz} {n M : Nat} {H : Heap} {p : PS} {w : Nat} {k : KV} {kp : KP}
def jm2 : List Dcl := [((51, 16, mappingR), 115)]
theorem j4s (C : Cz z T y n M) (x : Rd z T H p w) (lv : Lv p) (hw : w < 2 ^ 16) (hM : z.s.length < p.at_ + M + 1) (hk : AnS z T H p p.opened (2 ^ 14) vN k kp (onlyP y 1 jm2 p)) : callW PP 104 #[pt z.b] H k kp := by
 show callW PP _ _ (H.plus []) k kp
 refine run 1 rfl Tryz.func104 (pr := noPr) (by decide +kernel) (by kernel_rfl) ?_
 have fr := (Fr.start x.fresh).new ⟨dclC z.b jm2, true, 3, none⟩
 obtain ⟨ff, gg⟩ := fr.frz
 simp +decide only [fx Tryz.f104.eq_1, ↓GI.o, reduceIte, js2, ya5]
 refine ja4 gg (jy5 C (kd := 1) (l := jm2) (rq := H.next) (by decide) (by decide) ?_ (by rw [ja2, jb6, ja5]; rfl) ((x.to (show H.next ≤ H.next + 1 by omega)).hle ff.hle) lv (by omega) hM (hk.in ff.out (Nat.le_refl _) (fun v H' h => ⟨H', .refl _, ?_⟩) fun c H' h => ⟨H', .refl _, ?_⟩))
 · intro d hd
   simp only [jm2, List.mem_cons, List.not_mem_nil, or_false] at hd
   subst hd
   exact jf8 js0 C _ _
 · simp +decide only [fx Tryz.f104.eq_1, ↓GI.o, reduceIte]
   exact h
 · simp +decide only [↓GI.o]
   exact h
def ju5 : List Dcl := [((51, 16, mappingR), 115), ((54, 17, faultR), 116)]
theorem j68 (C : Cz z T y n M) (x : Rd z T H p w) (lv : Lv p) (hw : w < 2 ^ 16) (hM : z.s.length < p.at_ + M + 1) (hk : AnS z T H p p.opened (2 ^ 14) vN k kp (onlyP y 2 ju5 p)) : callW PP 105 #[pt z.b] H k kp := by
 show callW PP _ _ (H.plus []) k kp
 refine run 1 rfl Tryz.func105 (pr := noPr) (by decide +kernel) (by kernel_rfl) ?_
 have fr := (Fr.start x.fresh).new ⟨dclC z.b ju5, true, 3, none⟩
 obtain ⟨ff, gg⟩ := fr.frz
 simp +decide only [fx Tryz.f105.eq_1, ↓GI.o, reduceIte, js2, yk9]
 refine ja4 gg (jy5 C (kd := 2) (l := ju5) (rq := H.next) (by decide) (by decide) ?_ (by rw [ja2, jb6, ja5]; rfl) ((x.to (show H.next ≤ H.next + 1 by omega)).hle ff.hle) lv (by omega) hM (hk.in ff.out (Nat.le_refl _) (fun v H' h => ⟨H', .refl _, ?_⟩) fun c H' h => ⟨H', .refl _, ?_⟩))
 · intro d hd
   simp only [ju5, List.mem_cons, List.not_mem_nil, or_false] at hd
   rcases hd with rfl | rfl
   · exact jf8 js0 C _ _
   · exact jf8 j64 C _ _
 · simp +decide only [fx Tryz.f105.eq_1, ↓GI.o, reduceIte]
   exact h
 · simp +decide only [↓GI.o]
   exact h
def ju6 : List Dcl := [((49, 18, cpuR), 117)]
theorem j69 (C : Cz z T y n M) (x : Rd z T H p w) (lv : Lv p) (hw : w < 2 ^ 16) (hM : z.s.length < p.at_ + M + 1) (hk : AnS z T H p p.opened (2 ^ 14) vN k kp (onlyP y 3 ju6 p)) : callW PP 107 #[pt z.b] H k kp := by
 show callW PP _ _ (H.plus []) k kp
 refine run 1 rfl Tryz.func107 (pr := noPr) (by decide +kernel) (by kernel_rfl) ?_
 have fr := (Fr.start x.fresh).new ⟨dclC z.b ju6, true, 3, none⟩
 obtain ⟨ff, gg⟩ := fr.frz
 simp +decide only [fx Tryz.f107.eq_1, ↓GI.o, reduceIte, js2, ya5]
 refine ja4 gg (jy5 C (kd := 3) (l := ju6) (rq := H.next) (by decide) (by decide) ?_ (by rw [ja2, jb6, ja5]; rfl) ((x.to (show H.next ≤ H.next + 1 by omega)).hle ff.hle) lv (by omega) hM (hk.in ff.out (Nat.le_refl _) (fun v H' h => ⟨H', .refl _, ?_⟩) fun c H' h => ⟨H', .refl _, ?_⟩))
 · intro d hd
   simp only [ju6, List.mem_cons, List.not_mem_nil, or_false] at hd
   subst hd
   exact jf8 yk3 C _ _
 · simp +decide only [fx Tryz.f107.eq_1, ↓GI.o, reduceIte]
   exact h
 · simp +decide only [↓GI.o]
   exact h
def j1s : List Dcl := [((68, 19, runsR), 135), ((69, 20, idleR), 136)]
theorem ya6 (C : Cz z T y n M) (x : Rd z T H p w) (lv : Lv p) (hw : w < 2 ^ 16) (hM : z.s.length < p.at_ + M + 1) (hk : AnS z T H p p.opened (2 ^ 14) vN k kp (onlyP y 4 j1s p)) : callW PP 128 #[pt z.b] H k kp := by
 show callW PP _ _ (H.plus []) k kp
 refine run 1 rfl Tryz.func128 (pr := noPr) (by decide +kernel) (by kernel_rfl) ?_
 have fr := (Fr.start x.fresh).new ⟨dclC z.b j1s, true, 3, none⟩
 obtain ⟨ff, gg⟩ := fr.frz
 simp +decide only [fx Tryz.f128.eq_1, ↓GI.o, reduceIte, js2, yk9]
 refine ja4 gg (jy5 C (kd := 4) (l := j1s) (rq := H.next) (by decide) (by decide) ?_ (by rw [ja2, jb6, ja5]; rfl) ((x.to (show H.next ≤ H.next + 1 by omega)).hle ff.hle) lv (by omega) hM (hk.in ff.out (Nat.le_refl _) (fun v H' h => ⟨H', .refl _, ?_⟩) fun c H' h => ⟨H', .refl _, ?_⟩))
 · intro d hd
   simp only [j1s, List.mem_cons, List.not_mem_nil, or_false] at hd
   rcases hd with rfl | rfl
   · exact jf8 j96 C _ _
   · exact jf8 j97 C _ _
 · simp +decide only [fx Tryz.f128.eq_1, ↓GI.o, reduceIte]
   exact h
 · simp +decide only [↓GI.o]
   exact h
def ju7 : List Dcl := [((71, 21, needsR), 134)]
theorem j7a (C : Cz z T y n M) (x : Rd z T H p w) (lv : Lv p) (hw : w < 2 ^ 16) (hM : z.s.length < p.at_ + M + 1) (hk : AnS z T H p p.opened (2 ^ 14) vN k kp (onlyP y 5 ju7 p)) : callW PP 127 #[pt z.b] H k kp := by
 show callW PP _ _ (H.plus []) k kp
 refine run 1 rfl Tryz.func127 (pr := noPr) (by decide +kernel) (by kernel_rfl) ?_
 have fr := (Fr.start x.fresh).new ⟨dclC z.b ju7, true, 3, none⟩
 obtain ⟨ff, gg⟩ := fr.frz
 simp +decide only [fx Tryz.f127.eq_1, ↓GI.o, reduceIte, js2, ya5]
 refine ja4 gg (jy5 C (kd := 5) (l := ju7) (rq := H.next) (by decide) (by decide) ?_ (by rw [ja2, jb6, ja5]; rfl) ((x.to (show H.next ≤ H.next + 1 by omega)).hle ff.hle) lv (by omega) hM (hk.in ff.out (Nat.le_refl _) (fun v H' h => ⟨H', .refl _, ?_⟩) fun c H' h => ⟨H', .refl _, ?_⟩))
 · intro d hd
   simp only [ju7, List.mem_cons, List.not_mem_nil, or_false] at hd
   subst hd
   exact jf8 j63 C _ _
 · simp +decide only [fx Tryz.f127.eq_1, ↓GI.o, reduceIte]
   exact h
 · simp +decide only [↓GI.o]
   exact h
theorem ys6 (C : Cz z T y n M) (x : Rd z T H p w) (lv : Lv p) (hw : w < 2 ^ 16) (hM : z.s.length < p.at_ + M + 1) (hk : AnS z T H p p.opened (2 ^ 14) vN k kp (if p.k.kind = 37 then itemP y 5 groupR p else onlyP y 0 itemD p)) : callW PP 22 #[pt z.b] H k kp := by
 refine run 1 rfl Tryz.func22 (pr := noPr) (by decide +kernel) (by kernel_rfl) ?_
 simp +decide only [zf22.o, ↓GI.o, reduceIte]
 refine jg9 x (by omega) 37 fun H1 f1 x1 => ?_
 by_cases h : p.k.kind = 37
 · rw [if_pos h] at hk
   simp +decide only [zf22.o, ↓GI.o, reduceIte, show (p.k.kind == 37) = true by simpa using h]
   refine ya3 C x1 lv (by omega) hM h (hk.in f1 (by omega) (fun v H' h => ?_) fun c H' h => ?_)
   · simp +decide only [zf22.o, ↓GI.o, reduceIte]
     exact h
   · simp +decide only [↓GI.o]
     exact h
 · rw [if_neg h] at hk
   simp +decide only [zf22.o, ↓GI.o, reduceIte, show (p.k.kind == 37) = false by simpa using h]
   refine j8p C x1 lv (by omega) hM (hk.in f1 (by omega) (fun v H' h => ?_) fun c H' h => ?_)
   · simp +decide only [zf22.o, ↓GI.o, reduceIte]
     exact h
   · simp +decide only [↓GI.o]
     exact h
end
theorem j4t {z : Cx} {T : Tc} {n : Nat} (hn : z.s.length < n) : ∀ (m kd : Nat), RuOk z T (fnK kd) (ruleP z.s n m kd) m
 | 0, kd => by
   intro x _ _ hM _
   have := x.sz.2.2.2.1
   have := x.sz.2.2.2.2
   omega
 | m + 1, kd => by
   intro x hw lv hM hk
   have C : Cz z T ⟨z.s, exprP z.s n, n, ruleP z.s n m⟩ n m := ⟨rfl, rfl, hn, hn, j4t hn m⟩
   replace hM := Nat.lt_of_lt_of_eq hM (Nat.add_assoc _ m 1).symm
   unfold ruleP at hk
   match kd with
   | 0 => rw [show ruleT 0 = innerT 0 ++ itemT from rfl, jf5] at hk; exact j8p C x lv (by omega) hM hk
   | 1 => rw [show ruleT 1 = innerT 1 ++ [(51, 16, mappingR)] from rfl, jf5] at hk; exact j4s C x lv hw hM hk
   | 2 => rw [show ruleT 2 = innerT 2 ++ [(51, 16, mappingR), (54, 17, faultR)] from rfl, jf5] at hk; exact j68 C x lv hw hM hk
   | 3 => rw [show ruleT 3 = innerT 3 ++ [(49, 18, cpuR)] from rfl, jf5] at hk; exact j69 C x lv hw hM hk
   | 4 => rw [show ruleT 4 = innerT 4 ++ [(68, 19, runsR), (69, 20, idleR)] from rfl, jf5] at hk; exact ya6 C x lv hw hM hk
   | 5 => rw [show ruleT 5 = innerT 5 ++ [(71, 21, needsR)] from rfl, jf5] at hk; exact j7a C x lv hw hM hk
   | kd + 6 =>
     refine ys6 C x lv hw hM ?_
     rw [show ruleT (kd + 6) = (37, 5, groupR) :: (innerT 0 ++ itemT) from rfl, dclP, jf5] at hk
     exact hk
theorem run_loadB {P : Program} {w : World} : ∀ (ns : List Int) (a : Addr) (acc : ByteArray), (∀ j x, ns[j]? = some x → w.cell? (a.add j) = some (.int .u8 x)) →
   (Extern.Bytes.loadBytes a ns.length acc).run P w = .ok ⟨acc.data ++ (ns.map fun n => UInt8.ofNat n.toNat).toArray⟩ w
 | [], a, acc, _ => by simp [Extern.Bytes.loadBytes]
 | x :: l, a, acc, h => by
   have h0 : w.cell? a = some (.int .u8 x) := by
     have := h 0 x rfl
     simpa [Addr.add] using this
   have ih := run_loadB (P := P) l (a.add 1) (acc.push x.toNat.toUInt8) (fun j y hy => by
     have := h (j + 1) y (by simpa using hy)
     have e : (a.add 1).add j = a.add (j + 1) := by
       unfold Addr.add
       by_cases hj : j = 0
       · subst hj; simp
       · simp [hj]; omega
     rw [e]; exact this)
   simp only [List.length_cons, Extern.Bytes.loadBytes, Sem.run_bind, run_load, h0, Result.andThen]
   rw [ih]
   congr 1
   apply ByteArray.ext
   simp [ByteArray.push]
theorem bytesOf_run {P : Program} {m : Mp} {H : Heap} {w : World} (h : Rel m H w) {a : Option Addr} {n c : Nat} {x' : Value} {s : ByteArray} (hx : VR m (.slice a n c) x') (he : strOf H a n = some s) :
   (Extern.Bytes.bytesOf x').run P w = .ok s w := by
 unfold strOf at he
 split at he
 · simp only [Option.some.injEq] at he; subst he
   cases hx with
   | atom _ h => simp [Extern.Bytes.bytesOf]
 · rename_i a
   obtain ⟨L, a', c', hsp, hm, hl, hc, hb', hs', ha, rfl⟩ := hx.slice_inv
   by_cases h0 : n = 0
   · rw [if_pos h0] at he
     simp only [Option.some.injEq] at he; subst he; subst h0
     simp [Extern.Bytes.bytesOf, Extern.Bytes.loadBytes]
   · rw [if_neg h0] at he
     cases hlk : look H a with
     | none => simp [hlk] at he
     | some y =>
       simp only [hlk] at he
       by_cases hin : a.off + n ≤ y.cells.length
       · rw [if_pos hin] at he
         split at he
         · rename_i l hl'
           simp only [Option.some.injEq] at he; subst he
           obtain ⟨_, hg, ho, hes, hfit, cs, elem, fz, h1, h2, h3, h4⟩ := h.look' hm hlk
           have ha' := slice_addr hb' hs' ha (by omega)
           subst ha'
           obtain ⟨ys, k1, k2, k3⟩ := cells_at h1 h2 hfit h3 a.off n hin
           obtain ⟨ns, b1, b2⟩ := bytesOf_spec hl'
           rw [b1] at k2
           have := k2.ints; subst this
           have hlen : ns.length = n := by simpa using k1
           have hr := run_loadB (P := P) (w := w) ns ⟨L.c, L.base + a.off, none⟩ .empty (fun j x hj => k3 j _ (by simp [hj]))
           rw [hlen] at hr
           simp only [Extern.Bytes.bytesOf]
           rw [hr, b2]
           congr 1
           apply ByteArray.ext
           simp
         · simp at he
       · rw [if_neg hin] at he; simp at he
theorem Brow.str {H : Heap} {a : Option Addr} {s : List UInt8} (h : Brow H a s) : strOf H a s.length = some ⟨⟨s⟩⟩ := by
 cases a with
 | none => rw [h.nil rfl]; rfl
 | some y =>
   obtain ⟨cs, r, e, h1, h2, h3⟩ := h.row y rfl
   have hlk : look H y = some ⟨cs, r, 1, none⟩ := by rw [e]; simp [look, h1]
   simp only [strOf, hlk]
   by_cases h0 : s.length = 0
   · rw [if_pos h0, List.length_eq_zero_iff.1 h0]; rfl
   · rw [if_neg h0, if_pos h2]
     have : (cs.drop y.off).take s.length = s.map fun u => Value.int .u8 (u.toNat : Int) := by
       refine List.ext_getElem? fun j => ?_
       rw [List.getElem?_take, List.getElem?_map]
       by_cases hj : j < s.length
       · rw [if_pos hj, List.getElem?_drop, h3 j hj, List.getElem?_eq_getElem hj]; rfl
       · rw [if_neg hj, List.getElem?_eq_none (by omega)]; rfl
     rw [this, jh3]
theorem ya7 {H : Heap} {a : Option Addr} {s : List UInt8} {c : Nat} (h : Brow H a s) (u : Int) {k : KV} {kp : KP} (hk : ∀ n : Int, k (.int .i64 n) H) : callW PP 44 #[.slice a s.length c, .int .u8 u] H k kp := by
 have : Ans PP 44 #[.slice a s.length c, .int .u8 u] H (.ret (goInt ((⟨⟨s⟩⟩ : ByteArray).foldl (fun n x => if x == u.toNat.toUInt8 then n + 1 else n) (0 : Nat)))) H := fun m w args' hrel _ hargs => by
   have hal := hargs.toList
   obtain ⟨x', y', e'⟩ : ∃ x' y', args' = #[x', y'] := by
     have hz := hal.1
     obtain ⟨l⟩ := args'
     match l, hz with
     | [x, y], _ => exact ⟨x, y, rfl⟩
   subst e'
   have hx : VR m (.slice a s.length c) x' := hal.head
   have hy : VR m (.int .u8 u) y' := hal.tail.head
   have ey := hy.eq_of_atomic rfl
   subst ey
   have hb := bytesOf_run (P := PP) hrel hx h.str
   refine .inl ⟨_, w, ?_, m, .atom _ rfl, .refl hrel⟩
   have e0 : Extern.BytealgCount.count #[x', .int .u8 u] = (do
     let b ← Extern.Bytes.bytesOf x'
     let d ← Extern.Bytes.asByte (.int .u8 u)
     Pure.pure (goInt (b.foldl (fun n x => if x == d then n + 1 else n) (0 : Nat)))) := rfl
   have hr : (Extern.BytealgCount.count #[x', .int .u8 u]).run PP w = .ok (goInt ((⟨⟨s⟩⟩ : ByteArray).foldl (fun n x => if x == u.toNat.toUInt8 then n + 1 else n) (0 : Nat))) w := by
     rw [e0]
     simp [hb, Extern.Bytes.asByte]
   have hn : ¬ Tryz.f44.name = "runtime.NumGoroutine" := by decide +kernel
   have hf := Tryz.func44
   have hb : Tryz.f44.body = none := rfl
   have h1 : Extern.findNext Tryz.f44 = none := by kernel_rfl
   have h2 : Extern.find Tryz.f44 = some Extern.BytealgCount.count := by kernel_rfl
   simp [callFunc, hf, hn, hb, h1, h2, hr]
 exact this.ret (hk _)
theorem yl0 {H : Heap} {a : Option Addr} {s : List UInt8} {c : Nat} (h : Brow H a s) (u : Int) {k : KV} {kp : KP} (hk : ∀ n : Int, k (.int .i64 n) H) : callW PP 46 #[.slice a s.length c, .int .u8 u] H k kp := by
 have sm := h.small
 refine run 2 rfl Tryz.func46 (pr := noPr) (by decide +kernel) (by kernel_rfl) ?_
 simp +decide only [zf46.o, ↓G.o, reduceIte]
 have w0 : IntKind.i64.wrap ((s.length : Int) - 1) = (s.length : Int) - 1 := ja8 (by omega) (by omega)
 simp +decide only [w0]
 refine ja6 (I := fun m E ds G => ds = [] ∧ E 0 = .slice a s.length c ∧ E 1 = .int .u8 u ∧ E 5 = .int .i64 ((m : Int) - 1) ∧ m ≤ s.length ∧ G = H) (i := s.length) ?_ ⟨rfl, ?_, ?_, ?_, Nat.le_refl _, rfl⟩
 · rintro L' m E _ _ ⟨rfl, e0, e1, e5, hm, rfl⟩ hL
   change exU PP noPr Tryz.f46 (.seq _ _) none E [] _ _
   cases m with
   | zero =>
     simp +decide only [zf46.o, ↓G.o, reduceIte, e5]
     exact hk _
   | succ m =>
     have hm' : m < s.length := hm
     obtain ⟨q, o, cs, r, rfl, hq, hc⟩ := h.at hm'
     have e5' : E 5 = .int .i64 (m : Int) := by rw [e5]; congr 1; omega
     have hge : decide ((m : Int) ≥ 0) = true := by simp
     have w1 : IntKind.i64.wrap ((m : Int) - 1) = (m : Int) - 1 := ja8 (by omega) (by omega)
     by_cases hv : (s[m].toNat : Int) = u
     · simp +decide only [zf46.o, ↓G.o, reduceIte, e0, e1, e5', hge, hq, hc, hm', show ((s[m].toNat : Int) == u) = true by simpa using hv]
       exact hk _
     · simp +decide only [zf46.o, ↓G.o, reduceIte, e0, e1, e5', hge, hq, hc, hm', show ((s[m].toNat : Int) == u) = false by simpa using hv, w1]
       refine hL m _ _ _ (Nat.lt_succ_self m) ⟨rfl, ?_, ?_, ?_, by omega, rfl⟩
       all_goals simp +decide only [↓G.o, reduceIte, e0, e1]
 all_goals simp +decide only [↓G.o, reduceIte]
theorem slc0 {P : Program} {t : TypeId} {a : Option Addr} {n c : Nat} {e : TypeId} (h : P.underlying t = some (.slice e)) (hi : Int) (H : Heap) : sliceOpA P t (.slice a n c) none (some (.int .i64 hi)) none H = sliceOpA P t (.slice a n c) (some (.int .i64 0)) (some (.int .i64 hi)) none H := by
 simp only [sliceOpA, h]
theorem yl1 (a b : Int) (H : Heap) : builtinA PP .max #[3, 3] #[.int .i64 a, .int .i64 b] H = some (.int .i64 (if b > a then b else a), H) := rfl
theorem ya8 (a b : Int) (H : Heap) : builtinA PP .min #[3, 3] #[.int .i64 a, .int .i64 b] H = some (.int .i64 (if b < a then b else a), H) := rfl
theorem ya9 {H : Heap} {a : Option Addr} {s : List UInt8} {c : Nat} (h : Brow H a s) (u : Int) {k : KV} {kp : KP} (hk : ∀ n : Int, k (.int .i64 n) H) : callW PP 25 #[.slice a s.length c, .int .u8 u] H k kp := by
 refine run 2 rfl Tryz.func25 (pr := noPr) (by decide +kernel) (by kernel_rfl) ?_
 simp +decide only [fx Tryz.f25.eq_1, ↓G.o, reduceIte]
 refine yl0 h u fun n => ?_
 simp +decide only [fx Tryz.f25.eq_1, ↓G.o, reduceIte]
 exact hk n
theorem z10 : (((1 : Nat) : Int) == 0) = false := rfl
theorem ixB0 (b : Nat) : indexAddrA PP 34 (.slice (some ⟨b, 0, none⟩) 1 1) (.int .i64 0) = some (.pointer (some ⟨b, 0, none⟩)) := by kernel_rfl
theorem j7b {H : Heap} {a : Option Addr} {s : List UInt8} {c : Nat} (h : Brow H a s) {b : Nat} {u : Int} {r : Bool} (hb : H.get b = some ⟨[.int .u8 u], r, 1, none⟩) {k : KV} {kp : KP} (hk : ∀ n : Int, k (.int .i64 n) H) : callW PP 24 #[.slice a s.length c, .slice (some ⟨b, 0, none⟩) 1 1] H k kp := by
 refine run 2 rfl Tryz.func24 (pr := noPr) (by decide +kernel) (by kernel_rfl) ?_
 simp +decide only [fx Tryz.f24.eq_1, ↓G.o, reduceIte, z10, z11, hb, ixB0]
 refine ya7 h u fun n => ?_
 simp +decide only [fx Tryz.f24.eq_1, ↓G.o, reduceIte]
 exact hk n
theorem zrPl : zeroT PP 30 = some [.int .i64 0, .int .i64 0, .int .i64 0] := by kernel_rfl
theorem tyPl : lk PP 30 = 5 ∧ esT PP 30 = 1 ∧ sizeT PP 30 = some 3 := by decide +kernel
theorem ys7 (a b c : Int) : buildA PP 30 #[(0, .int .i64 a), (1, .int .i64 b), (2, .int .i64 c)] = some (.agg #[.int .i64 a, .int .i64 b, .int .i64 c]) := by kernel_rfl
theorem bs_u (H : Heap) (u : Int) : buildSliceA PP 34 1 #[(0, .int .u8 u)] H = some (.slice (some ⟨H.next, 0, none⟩) 1 1, H.alloc 1 [.int .u8 u]) := by kernel_rfl
theorem at_w {H : Heap} (fr : Fresh H) {a : Option Addr} {s : List UInt8} {c : Nat} (h : Brow H a s) (hf : ∀ y, a = some y → ∃ cs, H.get y.block = some ⟨cs, false, 1, none⟩) (hc : s.length ≤ c) (i : Int) {k : KV} {kp : KP} (hk : ∀ (x y z : Int) H', Fle H H' → k (.agg #[.int .i64 x, .int .i64 y, .int .i64 z]) H') : callW PP 10 #[.slice a s.length c, .int .i64 i] H k kp := by
 have sm := h.small
 show callW PP _ _ (H.plus []) k kp
 refine run 2 rfl Tryz.func10 (pr := noPr) (by decide +kernel) (by kernel_rfl) ?_
 simp +decide only [zf10.o, ↓G.o, reduceIte, je5 zrPl, tyPl, yl1, ya8]
 obtain ⟨e, he, ee⟩ : ∃ e : Nat, e ≤ s.length ∧ (if (s.length : Int) < (if (0 : Int) > i then 0 else i) then (s.length : Int) else (if (0 : Int) > i then 0 else i)) = (e : Int) := by
   refine ⟨(if (s.length : Int) < (if (0 : Int) > i then 0 else i) then (s.length : Int) else (if (0 : Int) > i then 0 else i)).toNat, ?_, ?_⟩ <;> repeat' split <;> omega
 rw [ee]
 have f1 := (Fr.start fr).new ⟨[.int .i64 0, .int .i64 0, .int .i64 0], true, 1, none⟩
 have g1 := (Hle.to fr (show H.next ≤ H.next + 1 by omega)).trans f1.hle
 have h1 : Brow ((H.to (H.next + 1)).plus [(H.next, ⟨[.int .i64 0, .int .i64 0, .int .i64 0], true, 1, none⟩)]) a s := h.keep fun y hy => by
   obtain ⟨cs, h2⟩ := hf y hy
   rw [h2, g1.keep _ _ h2]
 obtain ⟨a', c', es, br, hc'⟩ := jn4 h1 (Nat.zero_le e) he hc
 have es1 := (slc0 (P := PP) Tryz.underlying34 (a := a) (n := s.length) (c := c) (e : Int) _).trans es
 simp +decide only [Option.map_none, Option.map_some, ↓G.o, reduceIte]
 rw [es1]
 generalize (s.drop 0).take (e - 0) = s' at *
 simp +decide only [zf10.o, ↓G.o, reduceIte, bs_u]
 have c2 := Ch.alloc f1.out.fresh 1 [.int .u8 10]
 have f2 := f1.new ⟨[.int .u8 10], true, 1, none⟩
 rw [Heap.alloc_plus] at c2
 have br2 : Brow ((H.to (H.next + 1 + 1)).plus [(H.next + 1, ⟨[.int .u8 10], true, 1, none⟩), (H.next, ⟨[.int .i64 0, .int .i64 0, .int .i64 0], true, 1, none⟩)]) a' s' := br.keep fun y hy => by
   obtain ⟨cs, r, e, h, _⟩ := br.row y hy
   rw [h]; exact c2.keep _ _ h (by simp)
 refine j7b br2 (b := H.next + 1) (u := 10) (r := true) (by rw [ja2, ja5]; rfl) fun n => ?_
 simp +decide only [↓G.o, reduceIte]
 refine ya9 br2 10 fun n' => ?_
 have st : ∀ (x y z : Int), storeA PP 30 (.pointer (some ⟨H.next, 0, none⟩)) (.agg #[.int .i64 x, .int .i64 y, .int .i64 z]) ((H.to (H.next + 1 + 1)).plus [(H.next + 1, ⟨[.int .u8 10], true, 1, none⟩), (H.next, ⟨[.int .i64 0, .int .i64 0, .int .i64 0], true, 1, none⟩)]) = some (undef, ((H.to (H.next + 1 + 1)).plus [(H.next + 1, ⟨[.int .u8 10], true, 1, none⟩), (H.next, ⟨[.int .i64 0, .int .i64 0, .int .i64 0], true, 1, none⟩)]).set H.next ⟨[.int .i64 x, .int .i64 y, .int .i64 z], true, 1, none⟩) := fun x y z => jb4 (P := PP) (t := 30) (H := (H.to (H.next + 1 + 1)).plus [(H.next + 1, ⟨[.int .u8 10], true, 1, none⟩), (H.next, ⟨[.int .i64 0, .int .i64 0, .int .i64 0], true, 1, none⟩)]) (q := H.next) (off := 0) (cs := [.int .i64 0, .int .i64 0, .int .i64 0]) (vs := [.int .i64 x, .int .i64 y, .int .i64 z]) (by rw [ja2, jc7 (by omega), ja5]; rfl) tyPl.2.2 rfl (by simp) rfl
 simp +decide only [↓G.o, reduceIte, ys7]
 rw [st]
 simp +decide only [zf10.o, ↓G.o, reduceIte, tyPl, j1p, j4g]
 exact hk _ _ _ _ (f2.as (by rfl)).out
abbrev nil2 : Value := .slice none 0 0
abbrev tree0 : List Value := [.int .i64 0, .string .empty, .int .i64 0, nil2, nil2, nil2, nil2]
theorem j4u : buildA PP 28 #[] = some (.agg tree0.toArray) := by kernel_rfl
theorem zrTree : zeroT PP 28 = some tree0 := by kernel_rfl
theorem tyTree : lk PP 28 = 9 ∧ esT PP 28 = 1 ∧ sizeT PP 28 = some 7 := by decide +kernel
theorem zrErr : zeroT PP 31 = some [.int .i64 0] := by kernel_rfl
theorem tyErr : lk PP 31 = 1 ∧ esT PP 31 = 1 ∧ sizeT PP 31 = some 1 := by decide +kernel
theorem zrHalt : zeroT PP 58 = some [.int .i64 0, .int .i64 0] := by kernel_rfl
theorem tyHalt : lk PP 58 = 4 ∧ esT PP 58 = 1 ∧ sizeT PP 58 = some 2 ∧ foff PP 58 0 = some 0 ∧ foff PP 58 1 = some 1 := by decide +kernel
theorem yb0 (t : TypeId) (v : Value) : assertA PP (.iface 58 v) t 58 true = some (.tuple #[v, .bool true]) := by kernel_rfl
theorem yb1 (i e : Int) : binA PP .neq 20 (.tmp 8) (.const .nilIface) (.iface 58 (.agg #[.int .i64 i, .int .i64 e])) .nilIface = some (.bool true) := by kernel_rfl
theorem yb2 : binA PP .neq 20 (.tmp 8) (.const .nilIface) .nilIface .nilIface = some (.bool false) := by kernel_rfl
theorem sk17 : Tryz.f17.body = some (.seq (.region 0 (rgn Tryz.f17 0) false) (un Tryz.f17 (.seq (.region 1 #[] false) (.cond (.tmp 9) (.seq (.region 2 #[] false) (.seq (.seq (.region 3 #[] false) (.cond (.tmp 16) (.region 4 #[] false) .skip)) (.region 5 #[] true))) .skip)))) := by kernel_rfl
def pr17 : Nat → List (Nat × Nat) := fun i => if i = 5 then [(6, 4), (6, 7), (6, 8)] else []
theorem yl2 : pr17 5 = [(6, 4), (6, 7), (6, 8)] := rfl
theorem ys8 {H : Heap} (a b c d : Value) : DAns PP 17 #[a, b, c, d] .returning H (.ret (.tuple #[])) .returning H := by
 have h := (zf17.o).1 0
 simp +decide only [↓dG.o] at h
 obtain ⟨e, H1, h1, rfl, rfl⟩ := j1f (args := #[a, b, c, d]) (u := .returning) (H := H) (kd := fun e u H' => e = .ret (.tuple #[]) ∧ H' = H) mixed Tryz.func17 sk17 (pr := pr17) h (by kernel_rfl) (by
   change nextU PP Tryz.f17 0 _ (fun E ds H => exU PP pr17 Tryz.f17 _ none E ds H _) _ _ _ _
   simp +decide only [zf17.o, ↓GW.o, recM, reduceIte, yb2]
   refine ⟨rfl, ?_⟩
   have res : Tryz.f17.results.toList = [] := by rw [Tryz.f17.eq_1]
   simp only [res, jj9, j6c]
   exact ⟨trivial, trivial⟩)
 exact h1
theorem ys9 {H0 H : Heap} {L : List (Nat × Blk)} (fr : Fr H0 H L) {a : Option Addr} {s : List UInt8} {c : Nat} (h : Brow H a s) (hf : ∀ y, a = some y → ∃ cs, H.get y.block = some ⟨cs, false, 1, none⟩) (hc : s.length ≤ c) {b1 b2 b3 b4 : Nat} (n1 : b1 ≠ b2) (n2 : b2 ≠ b3) (n3 : b3 ≠ b4) (n4 : b2 ≠ b4) (n5 : b1 ≠ b3) (n6 : b1 ≠ b4)
   (l1 : L.lookup b1 = some ⟨[.slice a s.length c], true, 1, none⟩) (l2 : L.lookup b2 = some ⟨tree0, true, 1, none⟩) (l3 : L.lookup b3 = some ⟨[.int .i64 0, .int .i64 0, .int .i64 0], true, 1, none⟩) (l4 : L.lookup b4 = some ⟨[.int .i64 0], true, 1, none⟩) (i e : Int) :
   ∃ x y z H' L', DAns PP 17 #[pt b1, pt b2, pt b3, pt b4] (.panicking [haltE i e]) (H.plus L) (.ret (.tuple #[])) (.panicking [{ v := (haltE i e).v, recovered := true }]) (H'.plus L') ∧ Fr H0 H' L' ∧ L'.lookup b2 = some ⟨tree0, true, 1, none⟩ ∧ L'.lookup b3 = some ⟨[.int .i64 x, .int .i64 y, .int .i64 z], true, 1, none⟩ ∧ L'.lookup b4 = some ⟨[.int .i64 e], true, 1, none⟩ := by
 have hh := (zf17.o).1 0
 simp +decide only [↓dG.o] at hh
 obtain ⟨e', H1, h1, rfl, x, y, z, H', L', rfl, h2⟩ := j1f (args := #[pt b1, pt b2, pt b3, pt b4]) (u := .panicking [haltE i e]) (H := H.plus L) (kd := fun e' u H' => e' = .ret (.tuple #[]) ∧ ∃ x y z H1 L1, H' = H1.plus L1 ∧ Fr H0 H1 L1 ∧ L1.lookup b2 = some ⟨tree0, true, 1, none⟩ ∧ L1.lookup b3 = some ⟨[.int .i64 x, .int .i64 y, .int .i64 z], true, 1, none⟩ ∧ L1.lookup b4 = some ⟨[.int .i64 e], true, 1, none⟩) mixed Tryz.func17 sk17 (pr := pr17) hh (by kernel_rfl) (by
   have hrec : recM (.panicking [haltE i e]) = (.iface 58 (.agg #[.int .i64 i, .int .i64 e]), .panicking [{ v := (haltE i e).v, recovered := true }]) := rfl
   rw [hrec]
   have est : storeA PP 58 (.pointer (some ⟨H.next, 0, none⟩)) (.agg #[.int .i64 i, .int .i64 e]) ((H.to (H.next + 1)).plus ((H.next, ⟨[.int .i64 0, .int .i64 0], true, 1, none⟩) :: L)) = some (undef, ((H.to (H.next + 1)).plus ((H.next, ⟨[.int .i64 0, .int .i64 0], true, 1, none⟩) :: L)).set H.next ⟨[.int .i64 i, .int .i64 e], true, 1, none⟩) := jb4 (P := PP) (t := 58) (q := H.next) (off := 0) (cs := [.int .i64 0, .int .i64 0]) (vs := [.int .i64 i, .int .i64 e]) (by rw [ja2, ja5]; rfl) tyHalt.2.2.1 rfl (by simp) rfl
   have f1 := fr.new ⟨[.int .i64 i, .int .i64 e], true, 1, none⟩
   change nextU PP Tryz.f17 0 _ (fun E ds H => exU PP pr17 Tryz.f17 _ none E ds H _) _ _ _ _
   simp +decide only [zf17.o, ↓GW.o, reduceIte, yb1, yb0, ex0, ex1, je5 zrHalt, tyHalt, est, fr.up_no]
   simp +decide only [zf17.o, ↓GW.o, reduceIte, yl2, jc7 (fr.keys _ _ l1).2.1, l1, j4u, tyHalt]
   refine f1.in (at_w f1.fresh (h.keep fun y hy => by rw [Heap.get_to]) hf hc i fun x y z H3 f3 => ?_)
   have f3 := f1.call f3
   generalize hX : (⟨[.int .i64 i, .int .i64 e], true, 1, none⟩ : Blk) = X at f1 f3
   have nb : ∀ {b y}, L.lookup b = some y → H.next ≠ b := fun h => Nat.ne_of_gt (fr.keys _ _ h).2.1
   have lkk : ∀ {b y}, L.lookup b = some y → ((H.next, X) :: L).lookup b = some y := fun h => by rw [jc7 (fr.keys _ _ h).2.1]; exact h
   have s2 : storeA PP 28 (pt b2) (.agg tree0.toArray) (H3.plus ((H.next, X) :: L)) = some (undef, (H3.plus ((H.next, X) :: L)).set b2 ⟨tree0, true, 1, none⟩) := jb4 (P := PP) (t := 28) (q := b2) (off := 0) (cs := tree0) (vs := tree0) (by rw [ja2, lkk l2]; rfl) tyTree.2.2 rfl (by simp) rfl
   have s3 : storeA PP 30 (pt b3) (.agg #[.int .i64 x, .int .i64 y, .int .i64 z]) (H3.plus (upL b2 ⟨tree0, true, 1, none⟩ ((H.next, X) :: L))) = some (undef, (H3.plus (upL b2 ⟨tree0, true, 1, none⟩ ((H.next, X) :: L))).set b3 ⟨[.int .i64 x, .int .i64 y, .int .i64 z], true, 1, none⟩) := jb4 (P := PP) (t := 30) (q := b3) (off := 0) (cs := [.int .i64 0, .int .i64 0, .int .i64 0]) (vs := [.int .i64 x, .int .i64 y, .int .i64 z]) (by rw [ja2, ja3, if_neg n2.symm, lkk l3]; rfl) tyPl.2.2 rfl (by simp) rfl
   subst hX
   simp +decide only [zf17.o, ↓GW.o, reduceIte, jc7 (fr.keys _ _ l2).2.1, jc7 (fr.keys _ _ l3).2.1, jc7 (fr.keys _ _ l4).2.1, l2, l3, l4, tyHalt, tyErr, s2, s3, ja3, eq_false n2.symm, eq_false n3.symm, eq_false n4.symm, eq_false (nb l2), eq_false (nb l3), Option.map_some]
   refine ⟨rfl, ?_⟩
   have res : Tryz.f17.results.toList = [] := by rw [Tryz.f17.eq_1]
   simp only [res, jj9, j6c]
   refine ⟨trivial, x, y, z, H3, _, rfl, ((f3.up _ _).up _ _).up _ _, ?_, ?_, ?_⟩
   · rw [ja3, if_neg n4, ja3, if_neg n2, ja3, if_pos rfl, lkk l2]; rfl
   · rw [ja3, if_neg n3, ja3, if_pos rfl, ja3, if_neg n2.symm, lkk l3]; rfl
   · rw [ja3, if_pos rfl, ja3, if_neg n3.symm, ja3, if_neg n4.symm, lkk l4]; rfl)
 exact ⟨x, y, z, H', L', h1, h2⟩
structure Tr where
 pos : Nat
 word : Rf
 its : List It
 nds : List Nd
 top : List Nat
def ps0 : PS := ⟨0, 0, tk0, 0, [], []⟩
def parseP (s : List UInt8) : Ou Tr :=
 (mustP s 30 (nextP s ps0)).bind fun _ p => (wordP s p).bind fun f p => (blockP s (ruleP s (s.length + 1) (s.length + 1) 6) (s.length + 1) p).bind fun l p => if p.at_ < s.length then .er .bad else .ok ⟨(nextP s ps0).at_, f, p.its, p.nds, l⟩ p
theorem yb3 {H : Heap} {L : List (Nat × Blk)} {q : Nat} (h : L.lookup q = none) (X : Blk) : H.plus ((q, X) :: L) = (H.set q X).plus L := by
 have : ∀ k, (H.plus ((q, X) :: L)).get k = ((H.set q X).plus L).get k := fun k => by
   rw [ja2, ja2, Heap.get_set]
   by_cases e : k = q
   · subst e; rw [h, if_pos rfl, ja5]; rfl
   · rw [if_neg e, List.lookup, show (k == q) = false by simpa using e]
 show Heap.mk _ _ = Heap.mk _ _
 congr 1
 exact funext this
theorem yl3 {fn : Func} {E : Env} {H H' : Heap} {k : KV} {kp : KP} {g : FuncId} {cap : Array Value} {v : Value} (hn : named PP g = true) (hd : DAns PP g cap .returning H (.ret v) .returning H') (h : retW H' k (resE PP E H' fn.results.toList)) : finW PP fn k kp .ret E [{ target := .fn (.func g) cap, args := #[] }] H := by
 have h' : finW PP fn k kp .ret E [] H' := by rw [jn0]; exact h
 simp only [finW] at h' ⊢
 rw [exitW]
 · exact ⟨hn, .ret v, .returning, H', by simpa using hd, h'⟩
 · intro e; cases e
theorem yl4 {fn : Func} {E : Env} {H H' : Heap} {k : KV} {kp : KP} {g : FuncId} {cap : Array Value} {v : Value} {c : PanicEntry} {l : List Value} (hn : named PP g = true) (hd : DAns PP g cap (.panicking [c]) H (.ret v) (.panicking [{ v := c.v, recovered := true }]) H') (h : resE PP E H' fn.results.toList = some l) (hu : l.any isUndef = false) (hk : k (oneOf l) H') : finW PP fn k kp (.pan [c]) E [{ target := .fn (.func g) cap, args := #[] }] H := by
 simp only [finW]
 rw [exitW]
 · refine ⟨hn, .ret v, _, H', by simpa using hd, ?_⟩
   show exitW PP fn true E [] .returning H' k kp
   simp [exitW, h, hu, hk]
 · intro e; cases e
theorem yt0 (a : Option Addr) (n c : Nat) : buildA PP 62 #[(0, .slice a n c)] = some (.agg #[.slice a n c, .int .i64 0, .int .i64 0, .int .i64 0, .int .u64 0, .string .empty, .int .i64 0, .int .i64 0, .int .i64 0, nil2, .bool false, .bool false, .int .i64 0, .int .i64 0, .string .empty, .int .i64 0, nil2, nil2, nil2, nil2]) := by kernel_rfl
theorem es34 : esT PP 34 = 1 := by decide +kernel
abbrev frL (n : Nat) (src : Value) (t p : List Value) (e : Int) : List (Nat × Blk) := [(n + 3, ⟨[.int .i64 e], true, 1, none⟩), (n + 2, ⟨p, true, 1, none⟩), (n + 1, ⟨t, true, 1, none⟩), (n, ⟨[src], true, 1, none⟩)]
theorem nbq {i j : Nat} (h : i ≠ j) : (i == j) = false := by rw [beq_eq_false_iff_ne]; exact h
theorem lk_1 (n : Nat) (src : Value) (t p : List Value) (e : Int) : (frL n src t p e).lookup (n + 1) = some ⟨t, true, 1, none⟩ := by simp only [List.lookup, nbq (show n + 1 ≠ n + 3 by omega), nbq (show n + 1 ≠ n + 2 by omega), BEq.rfl]
theorem lk_2 (n : Nat) (src : Value) (t p : List Value) (e : Int) : (frL n src t p e).lookup (n + 2) = some ⟨p, true, 1, none⟩ := by simp only [List.lookup, nbq (show n + 2 ≠ n + 3 by omega), BEq.rfl]
theorem lk_3 (n : Nat) (src : Value) (t p : List Value) (e : Int) : (frL n src t p e).lookup (n + 3) = some ⟨[.int .i64 e], true, 1, none⟩ := by simp only [List.lookup, BEq.rfl]
theorem lk_0 (n : Nat) (src : Value) (t p : List Value) (e : Int) : (frL n src t p e).lookup n = some ⟨[src], true, 1, none⟩ := by simp only [List.lookup, nbq (show n ≠ n + 3 by omega), nbq (show n ≠ n + 2 by omega), nbq (show n ≠ n + 1 by omega), BEq.rfl]
theorem lk_4 (n : Nat) (src : Value) (t p : List Value) (e : Int) : (frL n src t p e).lookup (n + 4) = none := by simp only [List.lookup, nbq (show n + 4 ≠ n + 3 by omega), nbq (show n + 4 ≠ n + 2 by omega), nbq (show n + 4 ≠ n + 1 by omega), nbq (show n + 4 ≠ n by omega)]
theorem st_t {vs t : List Value} (hv : vs.length = 7) (ht : t.length = 7) (ha : vs.all Value.oneCell' = true) (H : Heap) (n : Nat) (src : Value) (p : List Value) (e : Int) : storeA PP 28 (pt (n + 1)) (.agg vs.toArray) (H.plus (frL n src t p e)) = some (undef, H.plus (frL n src vs p e)) := by
 rw [jb4 (n := 7) (q := n + 1) (off := 0) (cs := t) (by rw [ja2, lk_1]; rfl) tyTree.2.2 hv (by omega) ha, ji2, lk_1]
 have : over t 0 vs = vs := by simp [over, hv, ht]
 rw [this]
 simp [setP, upL]
theorem st_p {vs p : List Value} (hv : vs.length = 3) (ht : p.length = 3) (ha : vs.all Value.oneCell' = true) (H : Heap) (n : Nat) (src : Value) (t : List Value) (e : Int) : storeA PP 30 (pt (n + 2)) (.agg vs.toArray) (H.plus (frL n src t p e)) = some (undef, H.plus (frL n src t vs e)) := by
 rw [jb4 (n := 3) (q := n + 2) (off := 0) (cs := p) (by rw [ja2, lk_2]; rfl) tyPl.2.2 hv (by omega) ha, ji2, lk_2]
 have : over p 0 vs = vs := by simp [over, hv, ht]
 rw [this]
 simp [setP, upL]
theorem st_e (H : Heap) (n : Nat) (src : Value) (t p : List Value) (e e' : Int) : storeA PP 31 (pt (n + 3)) (.int .i64 e') (H.plus (frL n src t p e)) = some (undef, H.plus (frL n src t p e')) := by
 rw [j1l tyErr.2.2 rfl, ja2, lk_3]
 show some (undef, _) = _
 rw [ji2, lk_3]
 simp [setP, upL]
def frzH (H : Heap) : Heap := ⟨fun q => (H.get q).map fun b => { b with rw := false }, H.next⟩
theorem ji9 (H : Heap) (q : Nat) : (frzH H).get q = (H.get q).map fun b => { b with rw := false } := rfl
theorem j2q (H : Heap) : Ghost H (frzH H) := ⟨rfl, fun b y e => by
 rw [ji9] at e
 cases h : H.get b with
 | none => rw [h] at e; cases e
 | some x => rw [h] at e; cases e; exact ⟨x, rfl, rfl, fun c => by cases c⟩⟩
theorem jo5 (H : Heap) : ∀ q cells es, H.get q = some ⟨cells, false, es, none⟩ → (frzH H).get q = some ⟨cells, false, es, none⟩ := fun q cells es e => by rw [ji9, e]; rfl
theorem yb4 {H0 H : Heap} (f : Fle H0 H) : Fle H0 (frzH H) := ⟨f.next, fun q c es e => jo5 _ _ _ _ (f.keep _ _ _ e), fun q hq e => by rw [ji9, f.gap q hq e]; rfl, fun q hq => by rw [ji9, f.fresh q hq]; rfl⟩
theorem j4v {H : Heap} {v : Value} {es n : Nat} {l : List DV} (o : OwnD H v es n l) (hn : l.length = n * es) (h0 : 0 < es) : Vd (frzH H) (.r es l) v := by
 obtain ⟨cells, o1, o2, o3⟩ := o
 have o2 := o2.mono (jo5 H)
 by_cases hl : l = []
 · rw [o3 hl, hl]; exact .z es
 · rcases o1 with ⟨rfl, rfl, _⟩ | ⟨q, m, cs, rfl, h1, h2, h3, rfl⟩
   · exact absurd (List.length_eq_zero_iff.1 (by simpa using hn)) hl
   · have hm : n * es ≤ m * es := Nat.mul_le_mul_right _ h3
     have hq : (frzH H).get q = some ⟨cs, false, es, none⟩ := by rw [ji9, h1]; rfl
     exact .row hq hl hn (by omega) (by rw [List.drop_zero, hn]; exact o2)
theorem yl5 : buildA PP 30 #[] = some (.agg #[.int .i64 0, .int .i64 0, .int .i64 0]) := by kernel_rfl
theorem j4w {H H' : Heap} {v : Value} {es n : Nat} {l : List DV} (o : OwnD H v es n l) (e : Hle H H') : OwnD H' v es n l := by
 obtain ⟨cells, o1, o2, o3⟩ := o
 refine ⟨cells, ?_, o2.mono e.frz, o3⟩
 rcases o1 with r | ⟨q, m, cs, rfl, h1, h2⟩
 · exact .inl r
 · exact .inr ⟨q, m, cs, rfl, e.keep _ _ h1, h2⟩
theorem j4x : ∀ l : List Nd, (l.flatMap Nd.dv).length = l.length * 5
 | [] => rfl
 | x :: l => by rw [List.flatMap_cons, List.length_append, j4x l, List.length_cons, show x.dv.length = 5 from rfl]; omega
theorem es62 : esT PP 62 = 1 := by decide +kernel
theorem Rd.tc {z : Cx} {T : Tc} {H : Heap} {p : PS} {w : Nat} (x : Rd z T H p w) (T' : Tc) {nm nu : Bool} {f t bad : Int} {wv iv nv : Value} (hb : H.get z.b = some (rdB z T p f t bad wv nm nu iv nv)) : Rd z T' (H.set z.b (rdB z T' p f t bad wv nm nu iv nv)) p w := by
 obtain ⟨h1, h2, f', t', bad', wv', nm'', nu'', iv', nv', h3, h4⟩ := x
 rw [h3] at hb
 simp only [Option.some.injEq, Blk.mk.injEq, List.cons.injEq, Value.int.injEq, Value.bool.injEq, true_and, and_true] at hb
 obtain ⟨rfl, rfl, rfl, rfl, rfl, rfl, rfl, rfl⟩ := hb
 exact Rd.set h1 h2 h3 h4 rfl
def Tc0 : Tc := ⟨.int .i64 0, .string .empty, .int .i64 0, nil2, nil2⟩
theorem yl6 {H : Heap} (tabs : Tabs H) {a : Option Addr} {s : List UInt8} {c : Nat} (row : Brow H a s) (frz : ∀ y, a = some y → ∃ cs, H.get y.block = some ⟨cs, false, 1, none⟩) (cap : s.length ≤ c) (sh : s.length ≤ 1048576) :
   Fle H ((H.to (H.next + 1)).set H.next (rdB ⟨a, c, s, H.next⟩ Tc0 ps0 0 0 0 nil2 false false nil2 nil2)) ∧ Rd ⟨a, c, s, H.next⟩ Tc0 ((H.to (H.next + 1)).set H.next (rdB ⟨a, c, s, H.next⟩ Tc0 ps0 0 0 0 nil2 false false nil2 nil2)) ps0 0 := by
 have c1 : Ch none H ((H.to (H.next + 1)).set H.next (rdB ⟨a, c, s, H.next⟩ Tc0 ps0 0 0 0 nil2 false false nil2 nil2)) := Ch.alloc tabs.fresh 1 (rdB ⟨a, c, s, H.next⟩ Tc0 ps0 0 0 0 nil2 false false nil2 nil2).cells
 have f1 := c1.fle fun q e => by cases e
 have bs : Base ⟨a, c, s, H.next⟩ H := ⟨tabs, row, frz, cap, sh⟩
 refine ⟨f1, bs.fle f1, tabs.next, 0, 0, 0, nil2, false, false, nil2, nil2, Heap.get_self _ _ _, ⟨by simp [blkOf], [], Nat.le_refl _, .nil _ _⟩, ⟨[], .nil _ _, .nil _, fun _ => rfl⟩, ⟨[], .nil _ _, .nil _, fun _ => rfl⟩, ⟨Nat.zero_le _, Nat.zero_le _, Nat.zero_le _, Nat.zero_le _, Nat.zero_le _⟩, fun h => absurd rfl h⟩
section
variable {k : KV} {kp : KP}
theorem jj0 {H H1 : Heap} {n0 : Nat} {a : Option Addr} {s : List UInt8} {c : Nat} (fr : Fr H H1 (frL n0 (.slice a s.length c) tree0 [.int .i64 0, .int .i64 0, .int .i64 0] 0)) (row : Brow H1 a s) (frz : ∀ y, a = some y → ∃ cs, H1.get y.block = some ⟨cs, false, 1, none⟩) (cap : s.length ≤ c) {E : Env} (e2 : E 2 = pt (n0 + 1)) (e3 : E 3 = pt (n0 + 2)) (e4 : E 4 = pt (n0 + 3)) {i e : Int}
   (hk : ∀ (x y z : Int) H', Fle H H' → k (.tuple #[.agg tree0.toArray, .agg #[.int .i64 x, .int .i64 y, .int .i64 z], .int .i64 e]) H') : finW PP Tryz.f8 k kp (.pan [haltE i e]) E [{ target := .fn (.func 17) #[pt n0, pt (n0 + 1), pt (n0 + 2), pt (n0 + 3)], args := #[] }] (H1.plus (frL n0 (.slice a s.length c) tree0 [.int .i64 0, .int .i64 0, .int .i64 0] 0)) := by
 obtain ⟨x, y, z, H', L', d, f', l2, l3, l4⟩ := ys9 fr row frz cap (by omega) (by omega) (by omega) (by omega) (by omega) (by omega) (lk_0 ..) (lk_1 ..) (lk_2 ..) (lk_3 ..) i e
 have res := (zf8.o).2.2
 refine yl4 (c := haltE i e) (by decide +kernel) d (l := [.agg tree0.toArray, .agg #[.int .i64 x, .int .i64 y, .int .i64 z], .int .i64 e]) ?_ rfl (hk x y z _ f'.out)
 simp +decide only [res, ↓GW.o, e2, e3, e4, l2, l3, l4, tyTree, tyPl, tyErr]
theorem yb5 {H : Heap} (tabs : Tabs H) {a : Option Addr} {s : List UInt8} {c : Nat} (row : Brow H a s) (frz : ∀ y, a = some y → ∃ cs, H.get y.block = some ⟨cs, false, 1, none⟩) (cap : s.length ≤ c)
   (he : ∀ (e x y z : Int) H', Fle H H' → (1048576 < s.length ∧ e = 3 ∨ s.length ≤ 1048576 ∧ ∃ r, parseP s = .er r ∧ e = r.code) → k (.tuple #[.agg tree0.toArray, .agg #[.int .i64 x, .int .i64 y, .int .i64 z], .int .i64 e]) H')
   (ho : ∀ tr p, s.length ≤ 1048576 → parseP s = .ok tr p → ∀ H' iv nv top, Fle H H' → Vd H' (.r 21 (tr.its.flatMap It.dv)) iv → Vd H' (.r 5 (tr.nds.flatMap Nd.dv)) nv → Vd H' (rowD tr.top) top → k (.tuple #[.agg #[.int .i64 (tr.pos : Int), .string tr.word.word, .int .i64 (tr.word.at_ : Int), nil2, iv, nv, top], .agg #[.int .i64 0, .int .i64 0, .int .i64 0], .int .i64 0]) H') :
   callW PP 8 #[.slice a s.length c] H k kp := by
 refine ja4 (H0 := H.plus []) (.refl _) (run 1 rfl Tryz.func8 (pr := noPr) (by decide +kernel) (by kernel_rfl) ?_)
 simp +decide only [zf8.o, ↓GW.o, reduceIte, je5 zrTree, je5 zrPl, je5 zrErr, tyTree, tyPl, tyErr, Nat.add_assoc, Nat.reduceAdd, es34]
 generalize hn0 : H.next = n0
 have fr0 : Fr H (H.to (n0 + 4)) [(n0 + 3, ⟨[.int .i64 0], true, 1, none⟩), (n0 + 2, ⟨[.int .i64 0, .int .i64 0, .int .i64 0], true, 1, none⟩), (n0 + 1, ⟨tree0, true, 1, none⟩), (n0, ⟨[.slice a s.length c], true, 1, none⟩)] := by
   subst hn0
   exact (((Fr.start tabs.fresh).new _).new _).new _ |>.new _
 by_cases hl : 1048576 < s.length
 · have hl' : (1048576 : Int) < (s.length : Int) := by omega
   simp +decide only [zf8.o, ↓GW.o, reduceIte, gt_iff_lt, hl', decide_true, j4u]
   refine fr0.in (at_w fr0.fresh (row.keep fun y hy => by rw [Heap.get_to]) frz cap 0 fun x y z H1 f1 => ?_)
   have fr1 := fr0.call f1
   simp +decide only [zf8.o, ↓GW.o, reduceIte, st_t (vs := tree0) (t := tree0) rfl rfl rfl, st_p (vs := [.int .i64 x, .int .i64 y, .int .i64 z]) (p := [.int .i64 0, .int .i64 0, .int .i64 0]) rfl rfl rfl, st_e, tyTree, tyPl, tyErr]
   exact ⟨_, .refl _, he 3 x y z _ (fr1.as (by rfl)).out (.inl ⟨hl, rfl⟩)⟩
 · have hl' : ¬ (1048576 : Int) < (s.length : Int) := by omega
   simp +decide only [zf8.o, ↓GW.o, reduceIte, gt_iff_lt, hl', decide_false]
   rw [j51 (.tmp 12) #[] #[] 17 #[] #[pt n0, pt (n0 + 1), pt (n0 + 2), pt (n0 + 3)] (by simp +decide only [↓G.o, reduceIte])]
   simp +decide only [zf8.o, ↓GW.o, reduceIte, yt0, jn5, es62]
   have t4 : Tabs (H.to (n0 + 4)) := tabs.to (by omega)
   obtain ⟨f1, x0⟩ := yl6 t4 (row.keep fun y hy => by rw [Heap.get_to]) frz cap (by omega)
   have fr1 := fr0.call f1
   replace x0 : Rd ⟨a, c, s, n0 + 4⟩ Tc0 ((H.to (n0 + 4 + 1)).set (n0 + 4) (rdB ⟨a, c, s, n0 + 4⟩ Tc0 ps0 0 0 0 nil2 false false nil2 nil2)) ps0 0 := x0
   rw [yb3 (q := n0 + 4) (lk_4 ..)]
   refine fr1.in (jn9 x0 fun H1 f1 x1 => ?_)
   replace x1 : Rd ⟨a, c, s, n0 + 4⟩ Tc0 H1 (nextP s ps0) 0 := x1
   have fr1 := fr1.call f1
   obtain ⟨f, t, bad, wv, nm, nu, iv, nv, hb, _⟩ := x1.ex
   have y1 := x1.tc ⟨.int .i64 ((nextP s ps0).at_ : Int), .string .empty, .int .i64 0, nil2, nil2⟩ hb
   have g1 := Fle.set x1.fresh hb (rdB ⟨a, c, s, n0 + 4⟩ ⟨.int .i64 ((nextP s ps0).at_ : Int), .string .empty, .int .i64 0, nil2, nil2⟩ (nextP s ps0) f t bad wv nm nu iv nv)
   have hb' : H1.get (n0 + 4) = some (rdB ⟨a, c, s, n0 + 4⟩ Tc0 (nextP s ps0) f t bad wv nm nu iv nv) := hb
   simp +decide only [zf8.o, ↓GW.o, reduceIte, hb']
   have sl : s.length ≤ 1048576 := by omega
   have fr2 := fr1.call g1
   replace y1 : Rd ⟨a, c, s, n0 + 4⟩ ⟨.int .i64 ((nextP s ps0).at_ : Int), .string .empty, .int .i64 0, nil2, nil2⟩ (H1.set (n0 + 4) (rdB ⟨a, c, s, n0 + 4⟩ ⟨.int .i64 ((nextP s ps0).at_ : Int), .string .empty, .int .i64 0, nil2, nil2⟩ (nextP s ps0) f t bad wv nm nu iv nv)) (nextP s ps0) 0 := y1
   clear x1 g1 f1 hb hb' fr1
   have pe : ∀ r, parseP s = .er r → ∀ (x y z : Int) H', Fle H H' → ∃ H'', Ghost H' H'' ∧ k (.tuple #[.agg tree0.toArray, .agg #[.int .i64 x, .int .i64 y, .int .i64 z], .int .i64 r.code]) H'' := fun r hr x y z H' f => ⟨H', .refl _, he _ x y z H' f (.inr ⟨sl, r, hr, rfl⟩)⟩
   unfold parseP at pe ho
   refine fr2.in (jo1 y1 (by omega) 30 ?_)
   change An _ _ _ _ _ _ _ _ _ (mustP s 30 (nextP s ps0))
   cases hm : mustP s 30 (nextP s ps0) with
   | er er =>
     intro i H2 f2
     simp +decide only [↓GW.o]
     have b2 := y1.base.fle f2
     exact jj0 (fr2.call f2) b2.row b2.frz cap (by simp +decide only [↓G.o, reduceIte]) (by simp +decide only [↓G.o, reduceIte]) (by simp +decide only [↓G.o, reduceIte]) (pe er (by rw [hm]; rfl))
   | ok u p2 =>
     rw [hm, Ou.bind_ok] at pe ho
     rintro H2 _ f2 x2 _ o2 rfl
     have fr3 := fr2.call f2
     simp +decide only [zf8.o, ↓GW.o, reduceIte]
     refine fr3.in (je7 x2 (by omega) ?_)
     change An _ _ _ _ _ _ _ _ _ (wordP s p2)
     cases hw : wordP s p2 with
     | er er =>
       intro i H3 f3
       simp +decide only [↓GW.o]
       have b2 := x2.base.fle f3
       exact jj0 (fr3.call f3) b2.row b2.frz cap (by simp +decide only [↓G.o, reduceIte]) (by simp +decide only [↓G.o, reduceIte]) (by simp +decide only [↓G.o, reduceIte]) (pe er (by rw [hw]; rfl))
     | ok fw p3 =>
       rw [hw, Ou.bind_ok] at pe ho
       rintro H3 _ f3 x3 _ o3 rfl
       obtain ⟨f, t, bad, wv, nm, nu, iv, nv, hb, _⟩ := x3.ex
       have y3 := x3.tc ⟨.int .i64 ((nextP s ps0).at_ : Int), .string fw.word, .int .i64 (fw.at_ : Int), nil2, nil2⟩ hb
       have g3 := Fle.set x3.fresh hb (rdB ⟨a, c, s, n0 + 4⟩ ⟨.int .i64 ((nextP s ps0).at_ : Int), .string fw.word, .int .i64 (fw.at_ : Int), nil2, nil2⟩ p3 f t bad wv nm nu iv nv)
       have hb' : H3.get (n0 + 4) = some (rdB ⟨a, c, s, n0 + 4⟩ ⟨.int .i64 ((nextP s ps0).at_ : Int), .string .empty, .int .i64 0, nil2, nil2⟩ p3 f t bad wv nm nu iv nv) := hb
       have fr4 := (fr3.call f3).call g3
       simp +decide only [zf8.o, ↓GW.o, reduceIte, hb']
       have RU : RuOk ⟨a, c, s, n0 + 4⟩ ⟨.int .i64 ((nextP s ps0).at_ : Int), .string fw.word, .int .i64 (fw.at_ : Int), nil2, nil2⟩ (fnK 6) (ruleP s (s.length + 1) (s.length + 1) 6) (s.length + 1) := j4t (z := ⟨a, c, s, n0 + 4⟩) (n := s.length + 1) (Nat.lt_succ_self _) (s.length + 1) 6
       refine fr4.in (ju2 RU y3 (by omega) (m := s.length + 1) (by show s.length < _; omega) (by show s.length < _; omega) ?_)
       change An _ _ _ _ _ _ _ _ _ (blockP s (ruleP s (s.length + 1) (s.length + 1) 6) (s.length + 1) p3)
       cases hk : blockP s (ruleP s (s.length + 1) (s.length + 1) 6) (s.length + 1) p3 with
       | er er =>
         intro i H4 f4
         simp +decide only [↓GW.o]
         have b2 := y3.base.fle f4
         exact jj0 (fr4.call f4) b2.row b2.frz cap (by simp +decide only [↓G.o, reduceIte]) (by simp +decide only [↓G.o, reduceIte]) (by simp +decide only [↓G.o, reduceIte]) (pe er (by rw [hk]; rfl))
       | ok l p4 =>
         rw [hk, Ou.bind_ok] at pe ho
         rintro H4 _ f4 x4 _ o4 ⟨ta, tn, tm, rfl, tv⟩
         clear hb hb' x3 g3 f3 fr3 x2 y3 y1
         obtain ⟨f, t, bad, wv, nm, nu, iv, nv, hb, r4⟩ := x4.ex
         obtain ⟨⟨ia, im, rfl⟩, _⟩ : (∃ a m, iv = .slice a p4.its.length m) ∧ _ := let ⟨_, o, _⟩ := r4.its; o.sc
         obtain ⟨⟨na, nm', rfl⟩, _⟩ : (∃ a m, nv = .slice a p4.nds.length m) ∧ _ := let ⟨_, o, _⟩ := r4.nds; o.sc
         have y4 := x4.tc ⟨.int .i64 ((nextP s ps0).at_ : Int), .string fw.word, .int .i64 (fw.at_ : Int), nil2, .slice ta tn tm⟩ hb
         have g4 := Fle.set x4.fresh hb (rdB ⟨a, c, s, n0 + 4⟩ ⟨.int .i64 ((nextP s ps0).at_ : Int), .string fw.word, .int .i64 (fw.at_ : Int), nil2, .slice ta tn tm⟩ p4 f t bad wv nm nu (.slice ia p4.its.length im) (.slice na p4.nds.length nm'))
         have hb' : H4.get (n0 + 4) = some (rdB ⟨a, c, s, n0 + 4⟩ ⟨.int .i64 ((nextP s ps0).at_ : Int), .string fw.word, .int .i64 (fw.at_ : Int), nil2, nil2⟩ p4 f t bad wv nm nu (.slice ia p4.its.length im) (.slice na p4.nds.length nm')) := hb
         have fr5 := (fr4.call f4).call g4
         have hb4 : (H4.set (n0 + 4) (rdB ⟨a, c, s, n0 + 4⟩ ⟨.int .i64 ((nextP s ps0).at_ : Int), .string fw.word, .int .i64 (fw.at_ : Int), nil2, .slice ta tn tm⟩ p4 f t bad wv nm nu (.slice ia p4.its.length im) (.slice na p4.nds.length nm'))).get (n0 + 4) = some (rdB ⟨a, c, s, n0 + 4⟩ ⟨.int .i64 ((nextP s ps0).at_ : Int), .string fw.word, .int .i64 (fw.at_ : Int), nil2, .slice ta tn tm⟩ p4 f t bad wv nm nu (.slice ia p4.its.length im) (.slice na p4.nds.length nm')) := Heap.get_self _ _ _
         by_cases hlt : p4.at_ < s.length
         · rw [if_pos hlt] at pe
           simp +decide only [zf8.o, ↓GW.o, reduceIte, hb', hlt, decide_true]
           refine fr5.in (jo0 y4 (by omega) fun i H5 f5 => ?_)
           simp +decide only [↓GW.o]
           have b2 := y4.base.fle f5
           exact jj0 (fr5.call f5) b2.row b2.frz cap (by simp +decide only [↓G.o, reduceIte]) (by simp +decide only [↓G.o, reduceIte]) (by simp +decide only [↓G.o, reduceIte]) (pe .bad rfl)
         · rw [if_neg hlt] at ho
           simp +decide only [zf8.o, ↓GW.o, reduceIte, hb', hlt, decide_false, tyTree, yl5, st_t (vs := [.int .i64 ((nextP s ps0).at_ : Int), .string fw.word, .int .i64 (fw.at_ : Int), nil2, .slice ia p4.its.length im, .slice na p4.nds.length nm', .slice ta tn tm]) (t := tree0) rfl rfl rfl, st_p (vs := [.int .i64 0, .int .i64 0, .int .i64 0]) (p := [.int .i64 0, .int .i64 0, .int .i64 0]) rfl rfl rfl, st_e]
           have fr6 := fr5.as (L' := frL n0 (.slice a s.length c) [.int .i64 ((nextP s ps0).at_ : Int), .string fw.word, .int .i64 (fw.at_ : Int), nil2, .slice ia p4.its.length im, .slice na p4.nds.length nm', .slice ta tn tm] [.int .i64 0, .int .i64 0, .int .i64 0] 0) (by rfl)
           refine yl3 (by decide +kernel) (ys8 _ _ _ _) ?_
           have res := (zf8.o).2.2
           simp +decide only [res, ↓GW.o, reduceIte, tyTree, tyPl, tyErr]
           have o1 := j4w (r4.its.chE (e := 1) (Ch.set x4.fresh hb _) (by decide) fun q e => by cases e; exact ⟨_, hb⟩) fr6.hle
           have o2 := j4w (r4.nds.chE (e := 1) (Ch.set x4.fresh hb _) (by decide) fun q e => by cases e; exact ⟨_, hb⟩) fr6.hle
           exact ⟨_, j2q _, ho _ p4 sl rfl _ _ _ _ (yb4 fr6.out) (j4v o1 (j1r _) (by decide)) (j4v o2 (j4x _) (by decide)) (((tv.mono g4.keep).mono fr6.hle.frz).mono (jo5 _))⟩
end
abbrev Cu := Nat × Nat × Tk
def core (p : PS) : Cu := (p.at_, p.to_, p.k)
inductive Eat (s : List UInt8) : Cu → Cu → List Int → Prop
 | nil (a : Cu) : Eat s a a []
 | cons {p : PS} {a b : Cu} {l : List Int} : core p = a → p.k.kind ≠ 0 → Eat s (core (nextP s p)) b l → Eat s a b (p.k.kind :: l)
theorem Eat.app {s : List UInt8} {a b c : Cu} {l l' : List Int} (h : Eat s a b l) (h' : Eat s b c l') : Eat s a c (l ++ l') := by
 induction h with
 | nil => exact h'
 | cons h1 h2 _ ih => exact .cons h1 h2 (ih h')
structure Ps (s : List UInt8) (p : PS) : Prop where
 le : p.at_ ≤ p.to_
 to_ : p.to_ ≤ s.length
 tok : p.k.kind ≠ 0 → p.at_ < p.to_
 word : p.k.kind = 1 → p.k.w ≠ .empty
def posL : List It → Nat → Nat → Prop
 | [], a, b => a ≤ b
 | x :: l, a, b => a ≤ x.pos ∧ posL l (x.pos + 1) b
theorem jo6 : ∀ {l : List It} {a a' b : Nat}, a' ≤ a → posL l a b → posL l a' b
 | [], _, _, _, h, g => Nat.le_trans h g
 | x :: l, _, _, _, h, g => ⟨Nat.le_trans h g.1, g.2⟩
theorem j1t : ∀ {l l' : List It} {a b d : Nat}, posL l a b → posL l' b d → posL (l ++ l') a d
 | [], _, _, _, _, h, g => jo6 h g
 | x :: l, _, _, _, _, h, g => ⟨h.1, j1t h.2 g⟩
def kidsN (l : List Nd) : List Nat := l.flatMap Nd.kids
def rowsI (x : It) : List Nat := x.e ++ (x.name.index ++ (x.from_.index ++ (x.to_.index ++ (x.over_.index ++ x.params.flatMap Rf.index))))
def kidsI (x : It) : List Nat := x.kids ++ x.els
def rowsIs (l : List It) : List Nat := l.flatMap rowsI
def kidsIs (l : List It) : List Nat := l.flatMap kidsI
def rng (a b j : Nat) : Nat := if a ≤ j ∧ j < b then 1 else 0
def NdOk (i : Nat) (x : Nd) : Prop := (x.op = 1 ∨ x.op = 2) ∧ x.kids = [] ∨ (14 ≤ x.op ∧ x.op ≤ 29) ∧ ∃ a b, x.kids = [a, b] ∧ a < b ∧ b + 1 = i
def ItOk (i n : Nat) (x : It) : Prop := (kidsI x).Pairwise (· < ·) ∧ (∀ j ∈ kidsI x, i < j ∧ j < n) ∧ ∀ f ∈ x.params, f.word ≠ .empty
structure Mv (s : List UInt8) (p q : PS) (nn : List Nd) (ii : List It) (l : List Int) : Prop where
 eat : Eat s (core p) (core q) l
 ps : Ps s q
 le : p.at_ ≤ q.at_
 nds : q.nds = p.nds ++ nn
 its : q.its = p.its ++ ii
 nok : ∀ i (h : i < nn.length), NdOk (p.nds.length + i) nn[i]
 iok : ∀ i (h : i < ii.length), ItOk (p.its.length + i) q.its.length ii[i]
 pos : posL ii p.at_ q.at_
theorem Mv.refl {s : List UInt8} {p : PS} (h : Ps s p) : Mv s p p [] [] [] := ⟨.nil _, h, Nat.le_refl _, by simp, by simp, (fun i h => by cases h), (fun i h => by cases h), Nat.le_refl _⟩
theorem Mv.app {s : List UInt8} {p q r : PS} {nn nn' : List Nd} {ii ii' : List It} {l l' : List Int} (h : Mv s p q nn ii l) (g : Mv s q r nn' ii' l') : Mv s p r (nn ++ nn') (ii ++ ii') (l ++ l') := by
 refine ⟨h.eat.app g.eat, g.ps, Nat.le_trans h.le g.le, by rw [g.nds, h.nds, List.append_assoc], by rw [g.its, h.its, List.append_assoc], fun i hi => ?_, fun i hi => ?_, j1t h.pos g.pos⟩
 · rw [List.getElem_append]
   split
   · exact h.nok _ _
   · rename_i hh
     have := g.nok (i - nn.length) (by simp at hi; omega)
     rw [h.nds, List.length_append] at this
     rwa [show p.nds.length + nn.length + (i - nn.length) = p.nds.length + i by omega] at this
 · rw [List.getElem_append]
   split
   · rename_i hh
     obtain ⟨a, b, d⟩ := h.iok i hh
     refine ⟨a, fun j hj => ⟨(b j hj).1, Nat.lt_of_lt_of_le (b j hj).2 ?_⟩, d⟩
     rw [g.its, List.length_append]; omega
   · rename_i hh
     have := g.iok (i - ii.length) (by simp at hi; omega)
     rw [h.its, List.length_append] at this
     rwa [show p.its.length + ii.length + (i - ii.length) = p.its.length + i by omega] at this
theorem jd2 (l l' : List Nd) : kidsN (l ++ l') = kidsN l ++ kidsN l' := by simp [kidsN]
theorem je9 (l l' : List It) : rowsIs (l ++ l') = rowsIs l ++ rowsIs l' := by simp [rowsIs]
theorem jg8 (l l' : List It) : kidsIs (l ++ l') = kidsIs l ++ kidsIs l' := by simp [kidsIs]
def Cls (c : Int → Bool) : Prop := ∀ k, c k = true → k = 1 ∨ k = 2 ∨ 14 ≤ k ∧ k ≤ 29
def okk (k : Int) : Bool := !(k == 0) && (!(k == 1) && (!(k == 2) && !(decide (14 ≤ k) && decide (k ≤ 29))))
theorem jh5 {k : Int} (h : okk k = true) : k ≠ 0 ∧ k ≠ 1 ∧ k ≠ 2 ∧ ¬ (14 ≤ k ∧ k ≤ 29) := by
 simp [okk] at h
 obtain ⟨a, b, c, d⟩ := h
 exact ⟨a, b, c, fun e => by omega⟩
theorem Cls.no {c : Int → Bool} (hc : Cls c) {k : Int} (h : okk k = true) : c k = false := by
 obtain ⟨h0, h1, h2, h3⟩ := jh5 h
 cases e : c k with
 | false => rfl
 | true => rcases hc k e with e | e | e <;> contradiction
def wN (c : Int → Bool) (l : List Nd) : Nat := l.countP fun x => c x.op
def wF (c : Int → Bool) (f : Rf) : Nat := if f.word = .empty then 0 else (c 1).toNat
def wFs (c : Int → Bool) (l : List Rf) : Nat := (l.map (wF c)).sum
def wI (c : Int → Bool) (x : It) : Nat := wF c x.name + (wF c x.from_ + (wF c x.to_ + (wF c x.over_ + wFs c x.params)))
def wIs (c : Int → Bool) (l : List It) : Nat := (l.map (wI c)).sum
theorem j4y (c : Int → Bool) (l l' : List Nd) : wN c (l ++ l') = wN c l + wN c l' := by simp [wN]
theorem ju8 (c : Int → Bool) (l l' : List It) : wIs c (l ++ l') = wIs c l + wIs c l' := by simp [wIs]
theorem j4z (c : Int → Bool) (l l' : List Rf) : wFs c (l ++ l') = wFs c l + wFs c l' := by simp [wFs]
theorem j40 (u : Nat) : singleT u ≠ 1 := by unfold singleT; split <;> decide
theorem j7c (u v : Int) : (signR u v).1 ≠ 1 := by
 unfold signR
 repeat' split
 all_goals first | decide | exact j40 _
theorem j7d {s : List UInt8} {n i : Nat} (h : isW s i = true) (hn : 0 < n) : i < runTo s n i := by
 obtain ⟨n, rfl⟩ : ∃ m, n = m + 1 := ⟨n - 1, by omega⟩
 rw [runTo, if_pos h]
 have := (ji3 s n (i + 1)).1
 omega
theorem j41 {s : List UInt8} {i : Nat} {tk : Tk} (hi : i < s.length) (h : lexI s i = .good tk) (hk : tk.kind = 1) : tk.w ≠ .empty := by
 unfold lexI at h
 split at h
 · unfold intR at h
   split at h
   · cases h
   · cases h; cases hk
 split at h
 · rename_i h3 h4
   unfold wordI at h
   split at h
   · cases h
     have hw : isW s i = true := by simp [isW, clsW hi h4]
     have hg := j7d hw (n := s.length - i) (by omega)
     simp only [wordKT] at hk ⊢
     split
     · intro e
       have : ((s.drop i).take (runTo s (s.length - i) i - i)).length = 0 := by
         have := congrArg (fun b : ByteArray => b.data.toList.length) e
         simpa using this
       simp at this
       omega
     · rename_i hr
       rw [if_neg hr] at hk
       unfold resI at hk hr
       split at hk
       · exfalso
         have hk : 30 + findI ((s.drop i).take (runTo s (s.length - i) i - i)) wordsL 0 = 1 := hk
         omega
       · cases hk
   · cases h
 split at h
 · unfold textR at h
   split at h
   · cases h
   · cases h; cases hk
 split at h
 · unfold signI at h
   split at h
   · cases h
   · cases h
     exact absurd hk (j7c _ _)
 · cases h
theorem j42 {w : List UInt8} {tk : Tk} (h : lex1 w = some tk) : ∃ i, i < w.length ∧ lexI w i = .good tk := by
 unfold lex1 toksI at h
 split at h
 · rename_i hl
   cases hx : lexI w (skipTo w (w.length - 0) 0) with
   | bad e => rw [hx] at h; cases h
   | good t =>
     rw [hx] at h
     refine ⟨_, hl, ?_⟩
     have : t = tk := by
       dsimp only at h
       generalize (toksI w w.length t.to_).1 = a at h
       generalize (toksI w w.length t.to_).2 = b at h
       cases a with
       | nil => cases b with
         | none => exact Option.some.inj h
         | some b => cases h
       | cons y a => cases b <;> cases h
     rw [hx, this]
 · cases h
theorem jo7 {s : List UInt8} {p : PS} (h : Ps s p) : Ps s (nextP s p) ∧ p.to_ ≤ (nextP s p).at_ := by
 have hb := ji8 s (s.length + 1 - p.to_) p.to_ (by have := h.to_; omega)
 unfold nextP jb2
 split
 · rename_i hl
   obtain ⟨r1, r2⟩ := ji6 s hl
   refine ⟨⟨Nat.le_of_lt r1, r2, fun _ => r1, fun hk => ?_⟩, hb.1⟩
   simp only at hk ⊢
   cases hx : lex1 ((s.drop (skipP s (s.length + 1 - p.to_) p.to_)).take (reachI s (skipP s (s.length + 1 - p.to_) p.to_) - skipP s (s.length + 1 - p.to_) p.to_)) with
   | none => rw [hx] at hk; cases hk
   | some tk =>
     rw [hx] at hk
     obtain ⟨i, hi, hg⟩ := j42 hx
     exact j41 hi hg hk
 · exact ⟨⟨Nat.le_refl _, hb.2, fun hk => absurd rfl hk, fun hk => by cases hk⟩, hb.1⟩
theorem jy6 {s : List UInt8} {p q : PS} (h : core p = core q) : core (nextP s p) = core (nextP s q) := by
 have h2 : p.to_ = q.to_ := congrArg (fun c : Cu => c.2.1) h
 unfold nextP
 rw [h2]
 split <;> rfl
theorem Mv.next {s : List UInt8} {p : PS} (h : Ps s p) (hk : p.k.kind ≠ 0) : Mv s p (nextP s p) [] [] [p.k.kind] := by
 obtain ⟨h1, h2⟩ := jo7 h
 have := h.tok hk
 obtain ⟨_, e2, e3⟩ := jd1 s p
 exact ⟨.cons rfl hk (.nil _), h1, by omega, by simp [e3], by simp [e2], (fun i h => by cases h), (fun i h => by cases h), by show p.at_ ≤ _; omega⟩
theorem yb6 {s : List UInt8} {p : PS} (h : Ps s p) (hk : p.k.kind ≠ 0) : p.at_ < (nextP s p).at_ := by
 have := (jo7 h).2
 have := h.tok hk
 omega
theorem Mv.opened {s : List UInt8} {p q : PS} {nn : List Nd} {ii : List It} {l : List Int} (h : Mv s p q nn ii l) (o : Nat) : Mv s p { q with opened := o } nn ii l := ⟨h.eat, ⟨h.ps.le, h.ps.to_, h.ps.tok, h.ps.word⟩, h.le, h.nds, h.its, h.nok, h.iok, h.pos⟩
theorem Mv.opened' {s : List UInt8} {p q : PS} {nn : List Nd} {ii : List It} {l : List Int} {o : Nat} (h : Mv s { p with opened := o } q nn ii l) : Mv s p q nn ii l := ⟨h.eat, h.ps, h.le, h.nds, h.its, h.nok, h.iok, h.pos⟩
section
variable {s : List UInt8} {p q : PS} {k : Int}
theorem jo8 (h : Ps s p) (hk : k ≠ 0) (e : mustP s k p = .ok () q) : Mv s p q [] [] [k] := by
 unfold mustP at e
 split at e
 · rename_i hp
   cases e
   have := Mv.next h (by rw [hp]; exact hk)
   rwa [hp] at this
 · cases e
theorem ju9 (h : Ps s p) (hk : k ≠ 0) {t : Bool} (e : takeP s k p = .ok t q) : Mv s p q [] [] (cond t [k] []) := by
 unfold takeP at e
 split at e
 · rename_i hp
   cases e
   have := Mv.next h (by rw [hp]; exact hk)
   rwa [hp] at this
 · cases e; exact .refl h
theorem Ps.open {o : Nat} (h : Ps s p) : Ps s { p with opened := o } := ⟨h.le, h.to_, h.tok, h.word⟩
theorem jo9 (h : Ps s p) (hk : k ≠ 0) (e : openP s k p = .ok () q) : Mv s p q [] [] [k] := by
 unfold openP at e
 split at e
 · rename_i hp
   split at e
   · cases e
   · cases e
     have := Mv.next (h.open (o := p.opened + 1)) (by show p.k.kind ≠ 0; rw [hp]; exact hk)
     have := this.opened'
     rwa [show ({ p with opened := p.opened + 1 } : PS).k.kind = k from hp] at this
 · cases e
theorem jp0 (h : Ps s p) (hk : k ≠ 0) (e : shutP s k p = .ok () q) : Mv s p q [] [] [k] := by
 unfold shutP at e
 split at e
 · rename_i hp
   cases e
   have := (Mv.next h (by rw [hp]; exact hk)).opened (p.opened - 1)
   rwa [hp] at this
 · cases e
theorem jv0 (h : Ps s p) {f : Rf} (e : wordP s p = .ok f q) : Mv s p q [] [] [1] ∧ f.word ≠ .empty ∧ f.index = [] := by
 unfold wordP at e
 split at e
 · rename_i hp
   cases e
   have := Mv.next h (by rw [hp]; decide)
   rw [hp] at this
   exact ⟨this, h.word hp, rfl⟩
 · cases e
end
end Go.Am
