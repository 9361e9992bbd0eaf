/- A block of items that a rule reads. -/
import Derived.Test.YtmliebodadgpbaaGreatDoorM12
import Derived.Test.YtmliebodadgpbaaGreatDoorM10
open Go.Proofs
namespace Go.Am
set_option maxRecDepth 100000
variable {s : List UInt8} {p q : PS} {k : Int} {a : Option Addr} {c b : Nat} {H : Heap}
theorem jd1 {α β : Type} {x : Option (Ou α)} {f : α → PS → Option (Ou β)} {o : Ou β} (h : bindM x f = some o) : (∃ e, x = some (.er e) ∧ o = .er e) ∨ (∃ v p, x = some (.ok v p) ∧ f v p = some o) := by
 unfold bindM at h
 split at h
 · exact .inr ⟨_, _, rfl, h⟩
 · injection h with h; exact .inl ⟨_, rfl, h.symm⟩
 · cases h
theorem je1 {α β γ : Type} (x : Option (Ou α)) (f : α → PS → Option (Ou β)) (g : β → PS → Option (Ou γ)) : bindM (bindM x f) g = bindM x fun v p => bindM (f v p) g := by
 cases x with
 | none => rfl
 | some x => cases x <;> rfl
structure Ky (s : List UInt8) (p q : PS) : Prop where
 wf : Wf s q
 le : p.at_ ≤ q.at_
 its : p.its.length ≤ q.its.length
 opened : q.opened = p.opened
theorem Ky.refl (w : Wf s p) : Ky s p p := ⟨w, Nat.le_refl _, Nat.le_refl _, rfl⟩
theorem Ky.trans {r : PS} (h : Ky s p q) (k : Ky s q r) : Ky s p r := ⟨k.wf, Nat.le_trans h.le k.le, Nat.le_trans h.its k.its, k.opened.trans h.opened⟩
theorem Kx.y (h : Kx s p q) : Ky s p q := ⟨h.wf, Nat.le_of_lt h.lt, by rw [h.its]; exact Nat.le_refl _, h.opened⟩
theorem j4y (w : Wf s p) : Ky s p (nextP s p) := by
 have n := ju5 (s := s) (p := p) w.len
 have r := jb0 s p
 have := w.le
 exact ⟨n.1, by have := n.2; omega, by rw [r.2.1]; exact Nat.le_refl _, r.1⟩
theorem y4x {u : Unit} (w : Wf s p) (h : mustP s k p = some (.ok u q)) : Ky s p q := by rw [(y08 h).2]; exact j4y w
theorem yr8 {f : Rf} (w : Wf s p) (h : wordP s p = some (.ok f q)) : Ky s p q := by rw [(y09 h).2.2]; exact j4y w
theorem y4y {t : Bool} (w : Wf s p) (h : takeP s k p = some (.ok t q)) : Ky s p q := by
 unfold takeP at h
 split at h
 · injection h with h; injection h with _ h; rw [← h]; exact j4y w
 · injection h with h; injection h with _ h; rw [← h]; exact .refl w
theorem yr9 {k' : Int} {p1 p2 : PS} {u u' : Unit} (w : Wf s p) (h1 : openP s k p = some (.ok u p1)) (h2 : Wf s p1 → Ky s p1 p2) (h3 : shutP s k' p2 = some (.ok u' q)) : Ky s p q := by
 obtain ⟨_, _, rfl⟩ := jx1 h1
 obtain ⟨_, rfl⟩ := ya4 h3
 have n1 := ju5 (s := s) (p := opened1 p) w.len
 have r1 := jb0 s (opened1 p)
 have y := h2 n1.1
 have n2 := ju5 (s := s) (p := p2) y.wf.len
 have r2 := jb0 s p2
 have l1 : p.to_ ≤ (nextP s (opened1 p)).at_ := n1.2
 have l0 := w.le
 have l2 := y.le
 have l3 := y.wf.le
 have l4 := n2.2
 refine ⟨⟨n2.1.tok, n2.1.le, n2.1.len⟩, ?_, ?_, ?_⟩
 · show p.at_ ≤ (nextP s p2).at_; omega
 · show p.its.length ≤ (nextP s p2).its.length
   rw [r2.2.1]
   have := y.its
   rw [r1.2.1] at this
   exact this
 · show (nextP s p2).opened - 1 = p.opened
   rw [r2.1, y.opened, r1.1]
   rfl
theorem ys0 {nn : Nat} : ∀ (n : Nat) (f : Rf) (p : PS) (f' : Rf) (q : PS), Wf s p → refL s (exprP s nn) n f p = some (.ok f' q) → Ky s p q
 | 0, _, _, _, _, _, h => by cases h
 | n + 1, f, p, f', q, w, h => by
   unfold refL at h
   split at h
   · obtain ⟨_, p1, h1, h⟩ := jd6 h
     obtain ⟨v, p2, h2, h⟩ := jd6 h
     obtain ⟨_, p3, h3, h⟩ := jd6 h
     have y := yr9 w h1 (fun w1 => (jk8 s nn 0 _ _ _ w1 h2).y) h3
     exact y.trans (ys0 n _ _ _ _ y.wf h)
   · injection h with h; injection h with _ h; rw [← h]; exact .refl w
theorem y6v {nn m : Nat} {f : Rf} (w : Wf s p) (h : refP s (exprP s nn) m p = some (.ok f q)) : Ky s p q := by
 unfold refP at h
 obtain ⟨f1, p1, h1, h⟩ := jd6 h
 have y := yr8 w h1
 exact y.trans (ys0 _ _ _ _ _ y.wf h)
def KR (s : List UInt8) (F : PS → Option (Ou Nat)) : Prop := ∀ p v q, Wf s p → F p = some (.ok v q) → Ky s p q ∧ p.at_ < q.at_
def RuOk (N : Nat) (hk : Hook) (s : List UInt8) (d0 : Nat) (f : FuncId) (F : PS → Option (Ou Nat)) : Prop := ∀ (a : Option Addr) (c b : Nat) (H : Heap) (R : RS) (D : Nat) (o : Ou Nat), Rd a c s b H R → Lv R.ps → R.wl < 100 → d0 ≤ D → F R.ps = some o → An a c s b H R (CH N hk D f #[.pointer (some ⟨b, 0, none⟩)] H) 1 vN o
def blockL (F : PS → Option (Ou Nat)) : Nat → List Nat → PS → Option (Ou (List Nat))
 | 0, _, _ => none
 | n + 1, l, p => if p.k.kind = 5 then some (.ok l p) else bindM (F p) fun v p => blockL F n (l ++ [v]) p
def blockP (s : List UInt8) (F : PS → Option (Ou Nat)) (n : Nat) (p : PS) : Option (Ou (List Nat)) := bindM (openP s 4 p) fun _ p => bindM (blockL F n [] p) fun l p => bindM (shutP s 5 p) fun _ p => some (.ok l p)
theorem j2g {F : PS → Option (Ou Nat)} (hF : KR s F) : ∀ (n : Nat) (l : List Nat) (p : PS) (l' : List Nat) (q : PS), Wf s p → blockL F n l p = some (.ok l' q) → Ky s p q
 | 0, _, _, _, _, _, h => by cases h
 | n + 1, l, p, l', q, w, h => by
   unfold blockL at h
   split at h
   · injection h with h; injection h with _ h; rw [← h]; exact .refl w
   · obtain ⟨v, p1, h1, h⟩ := jd6 h
     have y := (hF _ _ _ w h1).1
     exact y.trans (j2g hF n _ _ _ _ y.wf h)
theorem y1e {F : PS → Option (Ou Nat)} (hF : KR s F) {n : Nat} {p q : PS} {l : List Nat} (w : Wf s p) (h : blockP s F n p = some (.ok l q)) : Ky s p q := by
 unfold blockP at h
 obtain ⟨_, p1, h1, h⟩ := jd6 h
 obtain ⟨l1, p2, h2, h⟩ := jd6 h
 obtain ⟨_, p3, h3, h⟩ := jd6 h
 injection h with h; injection h with _ h
 rw [← h]
 exact yr9 w h1 (fun w1 => j2g hF _ _ _ _ _ w1 h2) h3
theorem y4z {H0 : Heap} {R0 R : RS} {w : Value} {l : List Nat} (x0 : Rd a c s b H0 R0) (g : Gx a c s b H0 R0 H R) (h : Ints H (fun z => H0.next ≤ z ∧ z < H.next ∧ ¬ R.own z) w l) (hl : l.length ≤ 1048576) (k : Nat) :
   ∃ w2 H2, appendA PP #[22, 22] w (.slice (some ⟨H.next, 0, none⟩) 1 1) (H.alloc 1 [.int .i64 (k : Int)]) = some (w2, H2) ∧ Gx a c s b H0 R0 H2 R ∧ Ints H2 (fun z => H0.next ≤ z ∧ z < H2.next ∧ ¬ R.own z) w2 (l ++ [k]) := by
 obtain ⟨H2, a1, a2, a3, a4, a5⟩ := j2d h g.fr.fresh hl k
 refine ⟨_, H2, a1, g.loc x0 (by omega) a4 (fun z => blkOf w = some z) a5 (fun z hz => ⟨(h.blk hz).1, (h.blk hz).2.2⟩), .inr ⟨H.next + 1, ⟨by have := g.fr.next; omega, by omega, fun ho => by have := g.rd.lt _ ho; omega⟩, rfl, a2, by simp⟩⟩
theorem y1f {P : Program} {X : Xf} {K : Kf} {d : Option Tmp} {t : TypeId} {p : String} {af : Array Edge} {E : Env} {ds : List Deferred} {H : Heap} {k : KE} {kp : List PanicEntry → KE} {g : Option (Nat × Bool)} (i : Tmp) (ts : Array TypeId) (f : FuncId) (v : Value) (h : E i = .func (.func f) #[v] #[]) :
   opE P X K ⟨d, .call { callee := .value (.tmp i), args := #[], argTypes := ts }, t, p, af, g⟩ E ds H k kp = callK P X K f #[v] H (putK E d ds k) (panK E ds kp) := by
 rw [jg2 i #[] ts f #[v] #[] h]
 have e : (#[v] ++ Array.map (evalE E) #[] ++ #[] : Array Value) = #[v] := by simp
 rw [e]
structure FnOk (f : FuncId) : Prop where
 ex : ∃ fn, PP.funcs[f]? = some fn ∧ (fn.name == "runtime.NumGoroutine") = false ∧ fn.body.isNone = false
theorem code21 : codeOf Tryz.f21 = .seq (rF Tryz.f21 0) (.seq (rF Tryz.f21 1) (.seq (rF Tryz.f21 2) (.seq (.block 0 (.loop (.seq (.seq (rF Tryz.f21 3) (.cond (.tmp 10) .skip (.exit 0))) (.block 1 (rF Tryz.f21 4))))) (.seq (rF Tryz.f21 5) (.seq (rF Tryz.f21 6) .ret))))) := by kernel_rfl
theorem ys1 {N : Nat} {hk : Hook} {D d0 : Nat} {f : FuncId} {G : PS → Option (Ou Nat)} {H0 : Heap} {R0 : RS} {Q : Am.R → Prop} {k : KOE} {o : Ou (List Nat)} (P : PK N hk) (fo : FnOk f) (hr : RuOk N hk s d0 f G) (kr : KR s G) (x0 : Rd a c s b H0 R0) (hD : d0 ≤ D) (hD2 : 17 ≤ D)
   (hok : ∀ E' H' R' w l, E' 0 = .pointer (some ⟨b, 0, none⟩) ∧ E' 1 = .func (.func f) #[.pointer (some ⟨b, 0, none⟩)] #[] ∧ E' 5 = w → Gx a c s b H0 R0 H' R' → Ints H' (fun z => H0.next ≤ z ∧ z < H'.next ∧ ¬ R'.own z) w l → Lv R'.ps → Rs R0 R' → R'.wl ≤ 2 → o = .ok l R'.ps → Q (k (.exit 0) E' [] H'))
   (hpan : ∀ E' H' pe e, PanA s b H0 R0 (some (.pan pe, H')) e → o = .er e → Q (k (.pan pe) E' [] H')) : ∀ (n m : Nat) (_ : n < m) {w : Value} {l : List Nat} {H : Heap} {R : RS} {E : Env} (_ : Gx a c s b H0 R0 H R) (_ : Ints H (fun z => H0.next ≤ z ∧ z < H.next ∧ ¬ R.own z) w l) (_ : l.length ≤ R.at_) (_ : Lv R.ps) (_ : Rs R0 R) (_ : R.wl ≤ 1) (_ : E 0 = .pointer (some ⟨b, 0, none⟩) ∧ E 1 = .func (.func f) #[.pointer (some ⟨b, 0, none⟩)] #[] ∧ E 5 = w) (_ : blockL G n l R.ps = some o),
   Q (loopE (execG PP XX (CH N hk D) N noPr (.seq (.seq (rF Tryz.f21 3) (.cond (.tmp 10) .skip (.exit 0))) (.block 1 (rF Tryz.f21 4))) none) m E [] H k)
 | 0, m + 1, hm, w, l, H, R, E, g, hI, hl, lv, rs, hw, e, ho => by cases ho
 | n + 1, m + 1, hm, w, l, H, R, E, g, hI, hl, lv, rs, hw, e, ho => by
   obtain ⟨e0, e1, e5⟩ := e
   obtain ⟨fn, hf, hn, hb⟩ := fo.ex
   rw [jb5]
   have lL := lX2 Tryz.f21 3 4
   conv at lL in (occs := *) (rgnX _ _) => all_goals simp only [rX, opsAt, Tryz.f21, dL.o, reduceIte, Nat.reduceEqDiff]
   obtain ⟨l3, l4⟩ := lL
   obtain ⟨H1, R1, _, c1, rfl, g1, p1, lv1, r1, w1⟩ := jx0 (D := D) P g.rd lv (by omega) 5 (by omega)
   have g1' := g.trans x0 g1
   have rs1 := rs.trans r1
   have kk := j2y p1
   have hI1 : Ints H1 (fun z => H0.next ≤ z ∧ z < H1.next ∧ ¬ R1.own z) w l := hI.keep fun z y hz e => by
     have n := g1.nown hz.2.1 hz.2.2
     exact ⟨⟨hz.1, n.1, n.2⟩, g1.stay g.rd hz.2.2 e⟩
   rw [← p1] at ho lv1
   unfold blockL at ho
   by_cases h5 : R1.k.kind = 5
   · have z5 : (R.k.kind == 5) = true := by rw [← kk.2.2.1, h5]; rfl
     rw [z5] at c1
     rw [if_pos (show R1.ps.k.kind = 5 from h5)] at ho
     injection ho with ho
     simp (decide := true) only [↓uR.o, dG.o, ja1, reduceIte, ↓ja0 l3, e0, ja3 Tryz.func38 rfl rfl c1, unNT]
     refine hok _ _ R1 w l ?_ g1' hI1 lv1 rs1 (by omega) ho.symm
     exact ⟨e0, e1, e5⟩
   · have z5 : (R.k.kind == 5) = false := by rw [← kk.2.2.1]; simp [h5]
     rw [z5] at c1
     rw [if_neg (show ¬ R1.ps.k.kind = 5 from h5)] at ho
     simp (decide := true) only [↓uR.o, dG.o, ja1, reduceIte, ↓ja0 l3, ↓ja0 l4, e0, e1, e5, ja3 Tryz.func38 rfl rfl c1, unNF, ↓y1f 12 #[] f (.pointer (some ⟨b, 0, none⟩))]
     rcases jd1 ho with ⟨e2, h2, ho⟩ | ⟨v2, p2, h2, ho⟩
     · obtain ⟨pe, H2, c2, f2⟩ := PanA.out (hr a c b H1 R1 D _ g1'.rd lv1 (by omega) hD h2)
       simp (decide := true) only [jc0 hf hn hb c2, je5, dH.o]
       exact hpan _ _ _ _ (f2 x0 g1') ho
     · have ky := kr R1.ps v2 p2 (g1'.rd.wf lv1) h2
       obtain ⟨H2, R2, _, c2, rfl, g2, rfl, lv2, r2, w2⟩ := hr a c b H1 R1 D _ g1'.rd lv1 (by omega) hD h2
       have g2' := g1'.trans x0 g2
       have hI2 : Ints H2 (fun z => H0.next ≤ z ∧ z < H2.next ∧ ¬ R2.own z) w l := hI1.keep fun z y hz e => by
         have n := g2.nown hz.2.1 hz.2.2
         exact ⟨⟨hz.1, n.1, n.2⟩, g2.stay g1'.rd hz.2.2 e⟩
       have lt2 : R1.at_ < R2.at_ := ky.2
       have hs := x0.short
       have sz2 := g2.rd.sz
       have le1 := r1.le
       obtain ⟨w3, H3, a1, g3, hI3⟩ := y4z x0 g2' hI2 (by omega) v2
       simp (decide := true) only [dG.o, ↓uG.o, ja1, reduceIte, ja3 hf hn hb c2, jh9, jw4, a1]
       refine ys1 P fo hr kr x0 hD hD2 hok hpan n m (by omega) g3 hI3 (by simp; omega) lv2 (rs1.trans r2) (by omega) ?_ ho
       exact ⟨e0, e1, rfl⟩
theorem j4z {N : Nat} {hk : Hook} {D d0 : Nat} {f : FuncId} {G : PS → Option (Ou Nat)} {m : Nat} {R : RS} (P : PK N hk) (fo : FnOk f) (hr : RuOk N hk s d0 f G) (kr : KR s G) (x : Rd a c s b H R) (lv : Lv R.ps) (hw : R.wl < 900) (hD : d0 + 1 ≤ D) (hD2 : 18 ≤ D) (hm : m < N) {o : Ou (List Nat)} (ho : blockP s G m R.ps = some o) :
   An a c s b H R (CH N hk D 21 #[.pointer (some ⟨b, 0, none⟩), .func (.func f) #[.pointer (some ⟨b, 0, none⟩)] #[]] H) 0 (vI H.next) o := by
 obtain ⟨D, rfl⟩ : ∃ q, D = q + 1 := ⟨D - 1, by omega⟩
 have hh := P.hh
 suffices main : ∀ X : Am.R → Prop, (∀ r, An a c s b H R r 0 (vI H.next) o → X r) → X (CH N hk (D + 1) 21 #[.pointer (some ⟨b, 0, none⟩), .func (.func f) #[.pointer (some ⟨b, 0, none⟩)] #[]] H) from main _ fun _ h => h
 intro X hX
 have hU := jb8 (P := PP) (okf := okC) (prf := prS) (X := XX) (N := N) (hk := hk) (d := D) (args := #[.pointer (some ⟨b, 0, none⟩), .func (.func f) #[.pointer (some ⟨b, 0, none⟩)] #[]]) (H := H) (hh _ _ _ rfl) Tryz.func21 (c := codeOf Tryz.f21) rfl rfl rfl (pr := noPr) rfl
 rw [code21] at hU
 generalize hF : finG PP okC prS XX (CH N hk (D)) N Tryz.f21 = F at hU
 refine Eq.mpr (congrArg X hU) ?_
 have lL := lX5 Tryz.f21 0 1 2 5 6
 conv at lL in (occs := *) (rgnX _ _) => all_goals simp only [rX, opsAt, Tryz.f21, dL.o, reduceIte, Nat.reduceEqDiff]
 obtain ⟨l0, l1, l2, l5, l6⟩ := lL
 unfold blockP at ho
 rcases jd1 ho with ⟨e1, h1, ho⟩ | ⟨u1, p1, h1, ho⟩
 · obtain ⟨pe, H1, c1, f1⟩ := PanA.out (j4t (D := D) P x (by omega) 4 (by omega) h1)
   simp (decide := true) only [↓uR.o, dG.o, ja1, reduceIte, ↓ja0 l0, ↓ja0 l1, jc0 Tryz.func37 rfl rfl c1, je5, dH.o]
   rw [← hF, jc5]
   refine hX _ ?_
   rw [ho]
   exact f1 x (Gx.refl x)
 · obtain ⟨_, _, hp1⟩ := jx1 h1
   obtain ⟨H1, R1, _, c1, rfl, g1, rfl, lv1, r1, w1⟩ := j4t (D := D) P x (by omega) 4 (by omega) h1
   simp (decide := true) only [↓uR.o, dG.o, ja1, reduceIte, ↓ja0 l0, ↓ja0 l1, ↓ja0 l2, ja3 Tryz.func37 rfl rfl c1, ↓jc8]
   cases h2 : blockL G m [] R1.ps with
   | none => rw [h2] at ho; cases ho
   | some o2 =>
     rw [h2] at ho
     refine ys1 (o := o2) P fo hr kr x (by omega) (by omega) ?_ ?_ m N hm g1 (.inl ⟨rfl, rfl⟩) (Nat.zero_le _) lv1 r1 (by omega) ?_ h2
     · intro E' H2 R2 w l e' g2 hI lv2 r2 w2 ho2
       obtain ⟨e0, e1, e5⟩ := e'
       subst ho2
       rw [ja6] at ho
       have ky := j2g kr m [] R1.ps l R2.ps (g1.rd.wf lv1) h2
       have hop : 1 ≤ R2.opened := by
         have e1 : R2.opened = R1.opened := ky.opened
         have e3 : R1.opened = (nextP s (opened1 R.ps)).opened := by rw [← hp1]; rfl
         rw [e1, e3, (jb0 s _).1]
         exact Nat.le_add_left _ _
       simp only [jt9, jc4]
       rcases jd1 ho with ⟨e3, h3, ho⟩ | ⟨u3, p3, h3, ho⟩
       · obtain ⟨pe, H3, c3, f3⟩ := PanA.out (j4u (D := D) P g2.rd (by omega) 5 hop (by omega) h3)
         simp (decide := true) only [↓uR.o, dG.o, ja1, reduceIte, ↓ja0 l5, e0, jc0 Tryz.func39 rfl rfl c3, je5, dH.o]
         rw [← hF, jc5]
         refine hX _ ?_
         rw [ho]
         exact f3 x g2
       · obtain ⟨H3, R3, _, c3, rfl, g3, rfl, lv3, r3, w3⟩ := j4u (D := D) P g2.rd (by omega) 5 hop (by omega) h3
         injection ho with ho
         simp (decide := true) only [↓uR.o, dG.o, ja1, reduceIte, ↓ja0 l5, ↓ja0 l6, e0, e5, ja3 Tryz.func39 rfl rfl c3]
         rw [← hF, ja4 (l := [w]) (by simp (decide := true) [Tryz.f21, resE, ja1])]
         refine hX _ ?_
         rw [← ho]
         refine ⟨H3, R3, _, rfl, ?_, g2.trans x g3, rfl, lv3, r2.trans r3, w3⟩
         exact hI.keep fun z y hz e => by
           have n := g3.nown hz.2.1 hz.2.2
           exact ⟨⟨hz.1, n.1, n.2⟩, g3.stay g2.rd hz.2.2 e⟩
     · intro E' H' pe e h' ho2
       subst ho2
       rw [jg6] at ho
       injection ho with ho
       simp only [jn2, jh5]
       rw [← hF, jc5]
       refine hX _ ?_
       rw [← ho]
       exact h'
     · exact ⟨by simp (decide := true) only [ja1, reduceIte, jd4], by simp (decide := true) only [ja1, reduceIte, jf3], rfl⟩
end Go.Am
namespace Go.Am
variable {N nn d0 D c b : Nat} {hk : Hook} {a : Option Addr} {H : Heap} {R : RS}
theorem mapq4 {α β : Type} (f : α → β) (x y z w : α) : (#[x, y, z, w] : Array α).map f = #[f x, f y, f z, f w] := by simp
def fnK : Nat → FuncId
 | 0 => 22
 | 1 => 41
 | 2 => 104
 | 3 => 105
 | 4 => 107
 | 5 => 128
 | _ => 127
structure Pz where
 s : List UInt8
 ex : Nat → PS → Option Ot
 m : Nat
 ru : Nat → PS → Option (Ou Nat)
structure Cz (N : Nat) (hk : Hook) (z : Pz) (nn d0 : Nat) : Prop where
 P : PK N hk
 ex : z.ex = exprP z.s nn
 ih : ExOk N hk z.s nn
 m : z.m < N
 ru : ∀ kd, RuOk N hk z.s d0 (fnK kd) (z.ru kd)
 kr : ∀ kd, KR z.s (z.ru kd)
theorem FnOk.all {f : FuncId} {fn : Func} (h1 : PP.funcs[f]? = some fn) (h2 : (fn.name == "runtime.NumGoroutine") = false) (h3 : fn.body.isNone = false) : FnOk f := ⟨fn, h1, h2, h3⟩
theorem Cz.fo {z : Pz} (_ : Cz N hk z nn d0) : ∀ kd, FnOk (fnK kd)
 | 0 => .all Tryz.func22 rfl rfl
 | 1 => .all Tryz.func41 rfl rfl
 | 2 => .all Tryz.func104 rfl rfl
 | 3 => .all Tryz.func105 rfl rfl
 | 4 => .all Tryz.func107 rfl rfl
 | 5 => .all Tryz.func128 rfl rfl
 | _ + 6 => .all Tryz.func127 rfl rfl
theorem j0n {z : Pz} (C : Cz N hk z nn d0) (x : Rd a c z.s b H R) (lv : Lv R.ps) (hw : R.wl < 500) (hD : 17 + 2 * nn ≤ D) {o : Ot} (ho : z.ex 0 R.ps = some o) :
   An a c z.s b H R (CH N hk D 73 #[.pointer (some ⟨b, 0, none⟩), .int .i64 0] H) 128 vN o := C.ih a c b H R 0 D o x lv hw (by omega) hD (C.ex ▸ ho)
theorem ys2 {z : Pz} (C : Cz N hk z nn d0) (x : Rd a c z.s b H R) (lv : Lv R.ps) (hw : R.wl < 900) (hD : 18 + 2 * nn ≤ D) {o : Ou Rf} (ho : refP z.s z.ex z.m R.ps = some o) :
   An a c z.s b H R (CH N hk D 102 #[.pointer (some ⟨b, 0, none⟩)] H) 1 (vR H.next) o := y6s C.P C.ih x lv (by omega) hD C.m (C.ex ▸ ho)
theorem jx3 {z : Pz} (C : Cz N hk z nn d0) (kd : Nat) {f : FuncId} (hf : fnK kd = f) (x : Rd a c z.s b H R) (lv : Lv R.ps) (hw : R.wl < 900) (hD : d0 + 20 ≤ D) {o : Ou (List Nat)} (ho : blockP z.s (z.ru kd) z.m R.ps = some o) :
   An a c z.s b H R (CH N hk D 21 #[.pointer (some ⟨b, 0, none⟩), .func (.func f) #[.pointer (some ⟨b, 0, none⟩)] #[]] H) 0 (vI H.next) o := by
 subst hf
 exact j4z C.P (C.fo kd) (C.ru kd) (C.kr kd) x lv hw (by omega) (by omega) C.m ho
theorem St.app1 {s : List UInt8} {H0 : Heap} {R0 : RS} {q : Nat} {i : Iv} (x0 : Rd a c s b H0 R0) (h : St a c s b H0 R0 H R q i) (hlt : i.x.e.length < R.at_) (k : Nat) : ∃ w H2, appendA PP #[22, 22] i.ev (.slice (some ⟨H.next, 0, none⟩) 1 1) (H.alloc 1 [.int .i64 (k : Int)]) = some (w, H2) ∧ storeA PP 22 (.pointer (some ⟨q, 15, none⟩)) w H2 = some (undef, H2.set q (ivB { i with x := { i.x with e := i.x.e ++ [k] }, ev := w })) ∧
   St a c s b H0 R0 (H2.set q (ivB { i with x := { i.x with e := i.x.e ++ [k] }, ev := w })) R q { i with x := { i.x with e := i.x.e ++ [k] }, ev := w } := by
 obtain ⟨w, H2, a1, a2, a3, h⟩ := h.app x0 hlt k
 exact ⟨w, H2, a1, y4u a3 _ a2, h⟩
def exE (z : Pz) (p : PS) (it : It) : Option (Ou It) := bindM (z.ex 0 p) fun v p => some (.ok { it with e := it.e ++ [v] } p)
end Go.Am
namespace Go.Am
set_option maxRecDepth 100000
def pickP (z : Pz) (p : PS) (it : It) : Option (Ou It) := bindM (refP z.s z.ex z.m p) fun f p => bindM (mustP z.s 10 p) fun _ p => some (.ok { it with name := f } p)
theorem code82 : codeOf Tryz.f82 = .seq (rF Tryz.f82 0) (rF Tryz.f82 1) := by kernel_rfl
theorem j8i {N : Nat} {hk : Hook} {D d0 nn : Nat} {a : Option Addr} {c b q : Nat} {z : Pz} {H0 H : Heap} {R0 R : RS} {i : Iv} {o : Ou It} (C : Cz N hk z nn d0) (x0 : Rd a c z.s b H0 R0) (hs : St a c z.s b H0 R0 H R q i) (lv : Lv R.ps) (hw : R.wl < 300) (hD : d0 + 2 * nn + 40 ≤ D) (ho : pickP z R.ps i.x = some o) :
   AnI a c z.s b H0 R0 q R (CH N hk D 82 #[.pointer (some ⟨b, 0, none⟩), .pointer (some ⟨q, 0, none⟩)] H) 0 o := by
 obtain ⟨D, rfl⟩ : ∃ y, D = y + 1 := ⟨D - 1, by omega⟩
 have hh := C.P.hh
 suffices main : ∀ X : Am.R → Prop, (∀ r, AnI a c z.s b H0 R0 q R r 0 o → X r) → X (CH N hk (D + 1) 82 #[.pointer (some ⟨b, 0, none⟩), .pointer (some ⟨q, 0, none⟩)] H) from main _ fun _ h => h
 intro X hX
 have hU := jb8 (P := PP) (okf := okC) (prf := prS) (X := XX) (N := N) (hk := hk) (d := D) (args := #[.pointer (some ⟨b, 0, none⟩), .pointer (some ⟨q, 0, none⟩)]) (H := H) (hh _ _ _ rfl) Tryz.func82 (c := codeOf Tryz.f82) rfl rfl rfl (pr := noPr) rfl
 rw [code82] at hU
 generalize hF : finG PP okC prS XX (CH N hk (D)) N Tryz.f82 = F at hU
 refine Eq.mpr (congrArg X hU) ?_
 have lL := lX2 Tryz.f82 0 1
 conv at lL in (occs := *) (rgnX _ _) => all_goals simp only [rX, opsAt, Tryz.f82, dL.o, reduceIte, Nat.reduceEqDiff]
 obtain ⟨l0, l1⟩ := lL
 unfold pickP at ho
 try simp only [exE, je1, ja6] at ho
 rcases jd1 ho with ⟨e1, h1, ho⟩ | ⟨v1, p1, h1, ho⟩
 · obtain ⟨pe, H', c', f'⟩ := PanA.out (ys2 (D := D) C hs.g.rd lv (by omega) (by omega) h1)
   simp (decide := true) only [↓uR.o, dG.o, ja1, reduceIte, ↓ja0 l0, je5, jc0 Tryz.func102 rfl rfl c', dH.o]
   rw [← hF, jc5]
   refine hX _ ?_
   rw [ho]
   exact f' x0 hs.g
 obtain ⟨H1, R1, _, c1, ⟨iv1, rfl, hv1⟩, g1, rfl, lv1, r1, w1⟩ := ys2 (D := D) C hs.g.rd lv (by omega) (by omega) h1
 have t1 := hs.go x0 g1 r1.le
 have hs1 := hs.set_n x0 g1 r1.le hv1
 simp (decide := true) only [↓uR.o, dG.o, ja1, ja5, reduceIte, ↓ja0 l0, xf2, refV, ja3 Tryz.func102 rfl rfl c1, y6t t1.x.blk v1 (v := iv1) hv1.one.1]
 rcases jd1 ho with ⟨e2, h2, ho⟩ | ⟨v2, p2, h2, ho⟩
 · obtain ⟨pe, H', c', f'⟩ := PanA.out (jm4 (D := D) C.P hs1.g.rd (by omega) 10 (by omega) h2)
   simp (decide := true) only [↓uG.o, dG.o, ja1, reduceIte, ↓ja0 l1, je5, jc0 Tryz.func19 rfl rfl c', jr4]
   rw [← hF, jc5]
   refine hX _ ?_
   rw [ho]
   exact f' x0 hs1.g
 obtain ⟨H2, R2, _, c2, rfl, g2, rfl, lv2, r2, w2⟩ := jm4 (D := D) C.P hs1.g.rd (by omega) 10 (by omega) h2
 have hs2 := hs1.go x0 g2 r2.le
 simp (decide := true) only [↓uG.o, dG.o, ja1, reduceIte, ↓ja0 l1, ja3 Tryz.func19 rfl rfl c2]
 injection ho with ho
 rw [← hF, jq3 (l := []) rfl]
 refine hX _ ?_
 rw [← ho]
 exact ⟨_, _, _, rfl, hs2, rfl, rfl, lv2, ((Rs.refl R).trans r1).trans r2, by omega⟩
theorem y6w {z : Pz} {nn : Nat} (hx : z.ex = exprP z.s nn) {p q : PS} {it it' : It} (w : Wf z.s p) (h : exE z p it = some (.ok it' q)) : Ky z.s p q := by
 unfold exE at h
 obtain ⟨v, p1, h1, h⟩ := jd6 h
 injection h with h; injection h with _ h
 rw [← h]
 rw [hx] at h1
 exact (jk8 z.s nn 0 _ _ _ w h1).y
theorem St.fresh {a : Option Addr} {c : Nat} {s : List UInt8} {b : Nat} {H0 H : Heap} {R0 R : RS} (x0 : Rd a c s b H0 R0) (g : Gx a c s b H0 R0 H R) : St a c s b H0 R0 (H.alloc 1 (ivC (iv0 0 0))) R H.next (iv0 0 0) :=
 ⟨g.alloc _ _, ⟨g.fr.next, Nat.lt_succ_self _, fun h => by have := g.rd.lt _ h; omega, jc6 _ _ _, .inl ⟨rfl, rfl⟩, .inl ⟨rfl, rfl⟩, .inl ⟨rfl, rfl⟩, .inl ⟨rfl, rfl⟩, .inl ⟨rfl, rfl⟩, .inl ⟨rfl, rfl⟩, .inl ⟨rfl, rfl⟩, .inl ⟨rfl, rfl⟩⟩, Nat.zero_le _, Nat.zero_le _⟩
def vO : Option Nat → Heap → RS → Value → Prop
 | some k, _, R, w => w = .tuple #[.int .i64 (k : Int), .bool true] ∧ R.wl ≤ 1
 | none, _, _, w => w = .tuple #[.int .i64 0, .bool false]
def innerW (z : Pz) (kd w : Nat) (p : PS) : Option (Ou (Option Nat)) :=
 if p.k.kind = 31 then none
 else if p.k.kind = 36 then bindM (beginP z.s 4 p) fun k p => bindM (z.ex 0 p) fun v p => bindM (mustP z.s 10 p) fun _ p => some (.ok (some k) (setIt p k { it0 4 w with e := [v] }))
 else if p.k.kind = 32 then bindM (beginP z.s 2 p) fun k p => bindM (wordP z.s p) fun f p => bindM (mustP z.s 33 p) fun _ p => bindM (exE z p { it0 2 w with name := f }) fun it p => bindM (mustP z.s 12 p) fun _ p => bindM (exE z p it) fun it p => bindM (blockP z.s (z.ru kd) z.m p) fun l p => some (.ok (some k) (setIt p k { it with kids := l }))
 else if p.k.kind = 34 then bindM (beginP z.s 3 p) fun k p => bindM (z.ex 0 p) fun v p => bindM (blockP z.s (z.ru kd) z.m p) fun l p => bindM (takeP z.s 35 p) fun t p => if t = true then none else some (.ok (some k) (setIt p k { it0 3 w with e := [v], kids := l }))
 else some (.ok none p)
def innerP (z : Pz) (kd : Nat) (p : PS) : Option (Ou (Option Nat)) := innerW z kd p.at_ p
theorem code57 : codeOf Tryz.f57 = .seq (rF Tryz.f57 0) (.seq (rF Tryz.f57 1) (.seq (rF Tryz.f57 2) (.seq (.block 0 (.seq (rF Tryz.f57 4) (.cond (.tmp 8) (.seq (rF Tryz.f57 5) (.seq (rF Tryz.f57 6) (.seq (rF Tryz.f57 7) (.seq (rF Tryz.f57 8) (.seq (rF Tryz.f57 9) (rF Tryz.f57 10)))))) (.seq (rF Tryz.f57 11) (.cond (.tmp 32) (.seq (rF Tryz.f57 12) (.seq (rF Tryz.f57 13) (.seq (rF Tryz.f57 14) (rF Tryz.f57 15)))) (.seq (rF Tryz.f57 16) (.cond (.tmp 51) (.seq (rF Tryz.f57 17) (.seq (rF Tryz.f57 18) (.seq (rF Tryz.f57 19) (.seq (rF Tryz.f57 20) (.seq (rT Tryz.f57 21) (.seq (rF Tryz.f57 22) (.seq (rT Tryz.f57 23) (rF Tryz.f57 24)))))))) (.seq (rF Tryz.f57 25) (.cond (.tmp 89) (.seq (rF Tryz.f57 26) (.seq (rF Tryz.f57 27) (.seq (rF Tryz.f57 28) (.seq (rF Tryz.f57 29) (.seq (rF Tryz.f57 30) (.cond (.tmp 111) (.seq (rF Tryz.f57 31) (rF Tryz.f57 32)) .skip)))))) (.seq (rF Tryz.f57 3) .ret)))))))))) (.seq (rF Tryz.f57 33) .ret)))) := by kernel_rfl
theorem y40 : panAll PP (rgn Tryz.f57 21).toList = true := by decide +kernel
theorem y41 : panAll PP (rgn Tryz.f57 23).toList = true := by decide +kernel
set_option maxHeartbeats 1000000 in
theorem ya8 {N : Nat} {hk : Hook} {D d0 nn : Nat} {a : Option Addr} {c b : Nat} {z : Pz} {H : Heap} {R : RS} {o : Ou (Option Nat)} {kd : Nat} {f : FuncId} (C : Cz N hk z nn d0) (hf : fnK kd = f) (x0 : Rd a c z.s b H R) (lv : Lv R.ps) (hw : R.wl < 300) (hD : d0 + 2 * nn + 40 ≤ D) (ho : innerP z kd R.ps = some o) :
   An a c z.s b H R (CH N hk D 57 #[.pointer (some ⟨b, 0, none⟩), .func (.func f) #[.pointer (some ⟨b, 0, none⟩)] #[]] H) (R.wl + 4) vO o := by
 obtain ⟨D, rfl⟩ : ∃ y, D = y + 1 := ⟨D - 1, by omega⟩
 have hh := C.P.hh
 suffices main : ∀ X : Am.R → Prop, (∀ r, An a c z.s b H R r (R.wl + 4) vO o → X r) → X (CH N hk (D + 1) 57 #[.pointer (some ⟨b, 0, none⟩), .func (.func f) #[.pointer (some ⟨b, 0, none⟩)] #[]] H) from main _ fun _ h => h
 intro X hX
 have hU := jb8 (P := PP) (okf := okC) (prf := prS) (X := XX) (N := N) (hk := hk) (d := D) (args := #[.pointer (some ⟨b, 0, none⟩), .func (.func f) #[.pointer (some ⟨b, 0, none⟩)] #[]]) (H := H) (hh _ _ _ rfl) Tryz.func57 (c := codeOf Tryz.f57) rfl rfl rfl (pr := pr57) rfl
 rw [code57] at hU
 generalize hF : finG PP okC prS XX (CH N hk (D)) N Tryz.f57 = F at hU
 refine Eq.mpr (congrArg X hU) ?_
 have lL : _ ∧ _ ∧ _ ∧ _ ∧ _ := ⟨lX8 Tryz.f57 0 1 2 3 4 5 6 7, lX8 Tryz.f57 8 9 10 11 12 13 14 15, lX8 Tryz.f57 16 17 18 19 20 21 22 23, lX8 Tryz.f57 24 25 26 27 28 29 30 31, lX2 Tryz.f57 32 33⟩
 conv at lL in (occs := *) (rgnX _ _) => all_goals simp only [rX, opsAt, Tryz.f57, dL.o, reduceIte, Nat.reduceEqDiff]
 obtain ⟨⟨l0, l1, l2, l3, l4, l5, l6, l7⟩, ⟨l8, l9, l10, l11, l12, l13, l14, l15⟩, ⟨l16, l17, l18, l19, l20, l21, l22, l23⟩, ⟨l24, l25, l26, l27, l28, l29, l30, l31⟩, ⟨l32, l33⟩⟩ := lL
 have hs := St.fresh x0 (Gx.refl x0)
 unfold innerP innerW at ho
 simp (decide := true) only [↓jb9, ↓uG.o, dG.o, ↓ja0 l0, ↓ja0 l1, ↓ja0 l2, j3q]
 obtain ⟨H1, R1, _, c1, rfl, g1, p1, lv1, r1, w1⟩ := jx0 (D := D) C.P hs.g.rd lv (by omega) 31 (by omega)
 have hs1 := hs.go x0 g1 r1.le
 have kk1 := j2y p1
 rw [← p1] at ho lv1
 by_cases hk1 : R1.k.kind = 31
 · have z1 : (R.k.kind == 31) = true := by rw [← kk1.2.2.1, hk1]; rfl
   rw [z1] at c1
   rw [if_pos (show R1.ps.k.kind = 31 from hk1)] at ho
   try simp only [je1, ja6] at ho
   simp (decide := true) only [↓jb9, ↓uG.o, dG.o, ja1, reduceIte, ↓ja0 l4, ja3 Tryz.func38 rfl rfl c1]
   cases ho
 · have z1 : (R.k.kind == 31) = false := by rw [← kk1.2.2.1]; simp [hk1]
   rw [z1] at c1
   rw [if_neg (show ¬ R1.ps.k.kind = 31 from hk1)] at ho
   try simp only [] at ho
   simp (decide := true) only [↓jb9, ↓uG.o, dG.o, ja1, reduceIte, ↓ja0 l4, ja3 Tryz.func38 rfl rfl c1]
   obtain ⟨H2, R2, _, c2, rfl, g2, p2, lv2, r2, w2⟩ := jx0 (D := D) C.P hs1.g.rd lv1 (by omega) 36 (by omega)
   have hs2 := hs1.go x0 g2 r2.le
   have kk2 := j2y p2
   rw [← p2] at ho lv2
   by_cases hk2 : R2.k.kind = 36
   · have z2 : (R1.k.kind == 36) = true := by rw [← kk2.2.2.1, hk2]; rfl
     rw [z2] at c2
     rw [if_pos (show R2.ps.k.kind = 36 from hk2)] at ho
     try simp only [je1, ja6] at ho
     simp (decide := true) only [↓jb9, ↓uG.o, dG.o, ja1, reduceIte, ↓ja0 l11, ja3 Tryz.func38 rfl rfl c2]
     have hkz : R2.k.kind ≠ 0 := by rw [hk2]; decide
     obtain ⟨H3, R3, _, c3, rfl, g3, p3, lv3, r3, w3⟩ := j02 (D := D) C.P hs2.g.rd lv2 hkz 4 (by omega)
     have gg3 := hs2.g.trans x0 g3
     have hi3 : R3.its = R2.its ++ [it0 4 R2.at_] := by
       have e : R3.its = (nextP z.s (addIt R2.ps (it0 4 R2.at_))).its := by rw [← p3]; rfl
       rw [e, (jb0 z.s _).2.1]; rfl
     have hl3 : R2.its.length < R3.its.length := by rw [hi3]; simp
     have hg3 : R3.its[R2.its.length] = it0 4 R2.at_ := by simp [hi3]
     obtain ⟨qI3, ei3, li3⟩ := jx2 gg3.rd hl3 hg3
     have p3' : R3.ps = nextP z.s (addIt R2.ps (it0 4 R2.ps.at_)) := p3
     rw [← p3] at lv3
     simp only [beginP, ja6] at ho
     rw [← p3'] at ho
     simp (decide := true) only [↓jb9, ↓uG.o, dG.o, ja1, reduceIte, ↓ja0 l12, ja3 Tryz.func55 rfl rfl c3]
     have ha3 := hs2.go x0 g3 r3.le
     have hs3 := St.init x0 ha3.g ha3.x.lo ha3.x.lt ha3.x.no 4 R2.at_
     simp (decide := true) only [↓jb9, ↓uG.o, dG.o, ja1, ja5, reduceIte, ↓ja0 l13, dA.o, jj7 gg3.rd.blk, ei3, (j2e hl3), li3, j4x ha3.x.blk (v := ivC (iv0 4 R2.at_)) rfl (j4w _ _)]
     have sh3 : (⟨ivC (iv0 4 R2.at_), true, 1, none⟩ : Blk) = ivB (iv0 4 R2.at_) := rfl
     rw [sh3]
     rcases jd1 ho with ⟨e4, h4, ho⟩ | ⟨v4, p4, h4, ho⟩
     · obtain ⟨pe, H', c', f'⟩ := PanA.out (j0n (D := D) C hs3.g.rd lv3 (by omega) (by omega) h4)
       simp (decide := true) only [↓uG.o, dG.o, ja1, reduceIte, ↓ja0 l14, je5, jc0 Tryz.func73 rfl rfl c', dH.o]
       rw [← hF, jc5]
       refine hX _ ?_
       rw [ho]
       exact f' x0 hs3.g
     have kx4 := jk8 z.s nn 0 _ _ _ (hs3.g.rd.wf lv3) (C.ex ▸ h4)
     obtain ⟨H4, R4, _, c4, rfl, g4, rfl, lv4, r4, w4⟩ := j0n (D := D) C hs3.g.rd lv3 (by omega) (by omega) h4
     have t4 := hs3.go x0 g4 r4.le
     have lt4 : R3.at_ < R4.at_ := kx4.lt
     have ta4 := t4.alloc x0 1 [.int .i64 (v4 : Int)]
     have hs4 := t4.set_e x0 (by omega) v4
     simp (decide := true) only [↓jb9, dG.o, ↓uG.o, ja1, ja5, reduceIte, ↓ja0 l14, xf7, ja3 Tryz.func73 rfl rfl c4, jh9, y4u ta4.x.blk [v4] (v := .slice (some ⟨H4.next, 0, none⟩) 1 1) rfl]
     rcases jd1 ho with ⟨e5, h5, ho⟩ | ⟨v5, p5, h5, ho⟩
     · obtain ⟨pe, H', c', f'⟩ := PanA.out (jm4 (D := D) C.P hs4.g.rd (by omega) 10 (by omega) h5)
       simp (decide := true) only [↓uG.o, dG.o, ja1, reduceIte, ↓ja0 l15, je5, jc0 Tryz.func19 rfl rfl c', dH.o]
       rw [← hF, jc5]
       refine hX _ ?_
       rw [ho]
       exact f' x0 hs4.g
     obtain ⟨H5, R5, _, c5, rfl, g5, rfl, lv5, r5, w5⟩ := jm4 (D := D) C.P hs4.g.rd (by omega) 10 (by omega) h5
     have hs5 := hs4.go x0 g5 r5.le
     simp (decide := true) only [↓jb9, ↓uG.o, dG.o, ja1, reduceIte, ↓ja0 l15, ja3 Tryz.func19 rfl rfl c5]
     have hk6 : R2.its.length < R5.its.length := by
       have i0 := r4.its
       have i1 := r5.its
       omega
     obtain ⟨H6, R6, c6, g6, p6, r6, w6⟩ := ya7 (D := D) C.P x0 hs5 hk6 (by omega)
     have lv6 : Lv R6.ps := by rw [p6]; exact ⟨lv5.tok, by show (R5.its.set _ _).length ≤ R5.at_; rw [List.length_set]; exact lv5.its, lv5.nds⟩
     injection ho with ho
     simp (decide := true) only [↓uG.o, dG.o, ja1, reduceIte, ↓ja0 l33, j2f hs5.x.blk, ja3 Tryz.func56 rfl rfl c6]
     rw [← hF, ja4 (l := [.int .i64 (R2.its.length : Int), .bool true]) (by simp (decide := true) [Tryz.f57, resE, ja1])]
     refine hX _ ?_
     rw [← ho]
     exact ⟨_, _, _, rfl, ⟨rfl, by omega⟩, g6, p6, p6 ▸ lv6, ((((((Rs.refl R).trans r1).trans r2).trans r3).trans r4).trans r5).trans r6, by omega⟩
   · have z2 : (R1.k.kind == 36) = false := by rw [← kk2.2.2.1]; simp [hk2]
     rw [z2] at c2
     rw [if_neg (show ¬ R2.ps.k.kind = 36 from hk2)] at ho
     try simp only [je1, ja6] at ho
     simp (decide := true) only [↓jb9, ↓uG.o, dG.o, ja1, reduceIte, ↓ja0 l11, ja3 Tryz.func38 rfl rfl c2]
     obtain ⟨H7, R7, _, c7, rfl, g7, p7, lv7, r7, w7⟩ := jx0 (D := D) C.P hs2.g.rd lv2 (by omega) 32 (by omega)
     have hs7 := hs2.go x0 g7 r7.le
     have kk7 := j2y p7
     rw [← p7] at ho lv7
     by_cases hk7 : R7.k.kind = 32
     · have z7 : (R2.k.kind == 32) = true := by rw [← kk7.2.2.1, hk7]; rfl
       rw [z7] at c7
       rw [if_pos (show R7.ps.k.kind = 32 from hk7)] at ho
       try simp only [je1, ja6] at ho
       simp (decide := true) only [↓jb9, ↓uG.o, dG.o, ja1, reduceIte, ↓ja0 l16, ja3 Tryz.func38 rfl rfl c7]
       have hkz : R7.k.kind ≠ 0 := by rw [hk7]; decide
       obtain ⟨H8, R8, _, c8, rfl, g8, p8, lv8, r8, w8⟩ := j02 (D := D) C.P hs7.g.rd lv7 hkz 2 (by omega)
       have gg8 := hs7.g.trans x0 g8
       have hi8 : R8.its = R7.its ++ [it0 2 R7.at_] := by
         have e : R8.its = (nextP z.s (addIt R7.ps (it0 2 R7.at_))).its := by rw [← p8]; rfl
         rw [e, (jb0 z.s _).2.1]; rfl
       have hl8 : R7.its.length < R8.its.length := by rw [hi8]; simp
       have hg8 : R8.its[R7.its.length] = it0 2 R7.at_ := by simp [hi8]
       obtain ⟨qI8, ei8, li8⟩ := jx2 gg8.rd hl8 hg8
       have p8' : R8.ps = nextP z.s (addIt R7.ps (it0 2 R7.ps.at_)) := p8
       rw [← p8] at lv8
       simp only [beginP, ja6] at ho
       rw [← p8'] at ho
       simp (decide := true) only [↓jb9, ↓uG.o, dG.o, ja1, reduceIte, ↓ja0 l17, ja3 Tryz.func55 rfl rfl c8]
       have ha8 := hs7.go x0 g8 r8.le
       have hs8 := St.init x0 ha8.g ha8.x.lo ha8.x.lt ha8.x.no 2 R7.at_
       simp (decide := true) only [↓jb9, ↓uG.o, dG.o, ja1, ja5, reduceIte, ↓ja0 l18, dA.o, jj7 gg8.rd.blk, ei8, (j2e hl8), li8, j4x ha8.x.blk (v := ivC (iv0 2 R7.at_)) rfl (j4w _ _)]
       have sh8 : (⟨ivC (iv0 2 R7.at_), true, 1, none⟩ : Blk) = ivB (iv0 2 R7.at_) := rfl
       rw [sh8]
       simp only [exE, je1, ja6] at ho
       rcases jd1 ho with ⟨e9, h9, ho⟩ | ⟨v9, p9, h9, ho⟩
       · obtain ⟨pe, H', c', f'⟩ := PanA.out (j2c (D := D) C.P hs8.g.rd (by omega) (by omega) h9)
         simp (decide := true) only [↓uG.o, dG.o, ja1, reduceIte, ↓ja0 l19, je5, jc0 Tryz.func20 rfl rfl c', dH.o]
         rw [← hF, jc5]
         refine hX _ ?_
         rw [ho]
         exact f' x0 hs8.g
       obtain ⟨H9, R9, _, c9, ⟨rfl, hx9⟩, g9, rfl, lv9, r9, w9⟩ := j2c (D := D) C.P hs8.g.rd (by omega) (by omega) h9
       have t9 := hs8.go x0 g9 r9.le
       have hs9 := hs8.set_n x0 g9 r9.le (f := v9) (v := .slice none 0 0) (.inl ⟨rfl, hx9⟩)
       simp (decide := true) only [↓jb9, ↓uG.o, dG.o, ja1, ja5, reduceIte, ↓ja0 l19, xf2, refV, ja3 Tryz.func20 rfl rfl c9, y6t t9.x.blk v9 (v := .slice none 0 0) rfl]
       rcases jd1 ho with ⟨e10, h10, ho⟩ | ⟨v10, p10, h10, ho⟩
       · obtain ⟨pe, H', c', f'⟩ := PanA.out (jm4 (D := D) C.P hs9.g.rd (by omega) 33 (by omega) h10)
         simp (decide := true) only [↓uG.o, dG.o, ja1, reduceIte, ↓ja0 l20, je5, jc0 Tryz.func19 rfl rfl c', dH.o]
         rw [← hF, jc5]
         refine hX _ ?_
         rw [ho]
         exact f' x0 hs9.g
       obtain ⟨H10, R10, _, c10, rfl, g10, rfl, lv10, r10, w10⟩ := jm4 (D := D) C.P hs9.g.rd (by omega) 33 (by omega) h10
       have hs10 := hs9.go x0 g10 r10.le
       simp (decide := true) only [jh4, pr57, ↓uG.o, dG.o, ja1, reduceIte, ↓ja0 l20, ja3 Tryz.func19 rfl rfl c10]
       rcases jd1 ho with ⟨e11, h11, ho⟩ | ⟨v11, p11, h11, ho⟩
       · obtain ⟨pe, H', c', f'⟩ := PanA.out (j0n (D := D) C hs10.g.rd lv10 (by omega) (by omega) h11)
         simp (decide := true) only [↓jk6 l21, ↓jp3, jf1, ↓uG.o, dG.o, ja1, reduceIte, xf7, jc0 Tryz.func73 rfl rfl c', j2z hs10.x.blk, yq8 y40, dH.o]
         rw [← hF, jc5]
         refine hX _ ?_
         rw [ho]
         exact f' x0 hs10.g
       have kx11 := jk8 z.s nn 0 _ _ _ (hs10.g.rd.wf lv10) (C.ex ▸ h11)
       obtain ⟨H11, R11, _, c11, rfl, g11, rfl, lv11, r11, w11⟩ := j0n (D := D) C hs10.g.rd lv10 (by omega) (by omega) h11
       have t11 := hs10.go x0 g11 r11.le
       have lt11 : R10.at_ < R11.at_ := kx11.lt
       obtain ⟨ev11, Hx11, ax11, ay11, hs11⟩ := t11.app1 x0 (by have := hs10.le.1; omega) v11
       have tb11 := jb3 t11.g.fr.fresh t11.x.blk 1 [.int .i64 (v11 : Int)]
       simp (decide := true) only [↓jk6 l21, ↓j4i, ↓jp3, jf1, ↓uG.o, dG.o, ja1, ja5, reduceIte, xf7, j2z hs10.x.blk, ja3 Tryz.func73 rfl rfl c11, jh9, jw4, ax11, ay11]
       rw [jo5 (by simp (decide := true) only [List.nil_append, List.cons_append, List.all_cons, List.all_nil, pairChkE, l21, List.getElem?_cons_zero, List.getElem?_cons_succ, guardBE, qval, opK, builtinK, dG.o, ja1, reduceIte, Bool.and_self, j2z hs10.x.blk, j2z t11.x.blk, j2z tb11, hs10.x.e.one.2.1])]
       rcases jd1 ho with ⟨e12, h12, ho⟩ | ⟨v12, p12, h12, ho⟩
       · obtain ⟨pe, H', c', f'⟩ := PanA.out (jm4 (D := D) C.P hs11.g.rd (by omega) 12 (by omega) h12)
         simp (decide := true) only [↓jb9, ↓uG.o, dG.o, ja1, reduceIte, ↓ja0 l22, je5, jc0 Tryz.func19 rfl rfl c', dH.o]
         rw [← hF, jc5]
         refine hX _ ?_
         rw [ho]
         exact f' x0 hs11.g
       obtain ⟨H12, R12, _, c12, rfl, g12, rfl, lv12, r12, w12⟩ := jm4 (D := D) C.P hs11.g.rd (by omega) 12 (by omega) h12
       have hs12 := hs11.go x0 g12 r12.le
       simp (decide := true) only [↓jb9, jh4, pr57, ↓uG.o, dG.o, ja1, reduceIte, ↓ja0 l22, ja3 Tryz.func19 rfl rfl c12]
       rcases jd1 ho with ⟨e13, h13, ho⟩ | ⟨v13, p13, h13, ho⟩
       · obtain ⟨pe, H', c', f'⟩ := PanA.out (j0n (D := D) C hs12.g.rd lv12 (by omega) (by omega) h13)
         simp (decide := true) only [↓jk6 l23, ↓jp3, jf1, ↓uG.o, dG.o, ja1, reduceIte, xf7, jc0 Tryz.func73 rfl rfl c', j2z hs12.x.blk, yq8 y41, dH.o]
         rw [← hF, jc5]
         refine hX _ ?_
         rw [ho]
         exact f' x0 hs12.g
       have kx13 := jk8 z.s nn 0 _ _ _ (hs12.g.rd.wf lv12) (C.ex ▸ h13)
       obtain ⟨H13, R13, _, c13, rfl, g13, rfl, lv13, r13, w13⟩ := j0n (D := D) C hs12.g.rd lv12 (by omega) (by omega) h13
       have t13 := hs12.go x0 g13 r13.le
       have lt13 : R12.at_ < R13.at_ := kx13.lt
       obtain ⟨ev13, Hx13, ax13, ay13, hs13⟩ := t13.app1 x0 (by have := hs12.le.1; omega) v13
       have tb13 := jb3 t13.g.fr.fresh t13.x.blk 1 [.int .i64 (v13 : Int)]
       simp (decide := true) only [↓jk6 l23, ↓j4i, ↓jp3, jf1, ↓uG.o, dG.o, ja1, ja5, reduceIte, xf7, j2z hs12.x.blk, ja3 Tryz.func73 rfl rfl c13, jh9, jw4, ax13, ay13]
       rw [jo5 (by simp (decide := true) only [List.nil_append, List.cons_append, List.all_cons, List.all_nil, pairChkE, l23, List.getElem?_cons_zero, List.getElem?_cons_succ, guardBE, qval, opK, builtinK, dG.o, ja1, reduceIte, Bool.and_self, j2z hs12.x.blk, j2z t13.x.blk, j2z tb13, hs12.x.e.one.2.1])]
       rcases jd1 ho with ⟨e14, h14, ho⟩ | ⟨v14, p14, h14, ho⟩
       · obtain ⟨pe, H', c', f'⟩ := PanA.out (jx3 (D := D) C kd hf hs13.g.rd lv13 (by omega) (by omega) h14)
         simp (decide := true) only [↓jb9, dG.o, ↓uG.o, ja1, reduceIte, ↓ja0 l24, je5, jc0 Tryz.func21 rfl rfl c', dH.o]
         rw [← hF, jc5]
         refine hX _ ?_
         rw [ho]
         exact f' x0 hs13.g
       obtain ⟨H14, R14, kv14, c14, hv14, g14, rfl, lv14, r14, w14⟩ := jx3 (D := D) C kd hf hs13.g.rd lv13 (by omega) (by omega) h14
       have t14 := hs13.go x0 g14 r14.le
       have hs14 := hs13.set_k x0 g14 r14.le hv14
       simp (decide := true) only [↓jb9, ↓uG.o, dG.o, ja1, ja5, reduceIte, ↓ja0 l24, xf11, ja3 Tryz.func21 rfl rfl c14, y6u t14.x.blk v14 hv14.one.1]
       have hk15 : R7.its.length < R14.its.length := by
         have i0 := r9.its
         have i1 := r10.its
         have i2 := r11.its
         have i3 := r12.its
         have i4 := r13.its
         have i5 := r14.its
         omega
       obtain ⟨H15, R15, c15, g15, p15, r15, w15⟩ := ya7 (D := D) C.P x0 hs14 hk15 (by omega)
       have lv15 : Lv R15.ps := by rw [p15]; exact ⟨lv14.tok, by show (R14.its.set _ _).length ≤ R14.at_; rw [List.length_set]; exact lv14.its, lv14.nds⟩
       injection ho with ho
       simp (decide := true) only [↓uG.o, dG.o, ja1, reduceIte, ↓ja0 l33, j2f hs14.x.blk, ja3 Tryz.func56 rfl rfl c15]
       rw [← hF, ja4 (l := [.int .i64 (R7.its.length : Int), .bool true]) (by simp (decide := true) [Tryz.f57, resE, ja1])]
       refine hX _ ?_
       rw [← ho]
       exact ⟨_, _, _, rfl, ⟨rfl, by omega⟩, g15, p15, p15 ▸ lv15, (((((((((((Rs.refl R).trans r1).trans r2).trans r7).trans r8).trans r9).trans r10).trans r11).trans r12).trans r13).trans r14).trans r15, by omega⟩
     · have z7 : (R2.k.kind == 32) = false := by rw [← kk7.2.2.1]; simp [hk7]
       rw [z7] at c7
       rw [if_neg (show ¬ R7.ps.k.kind = 32 from hk7)] at ho
       try simp only [je1, ja6] at ho
       simp (decide := true) only [↓jb9, ↓uG.o, dG.o, ja1, reduceIte, ↓ja0 l16, ja3 Tryz.func38 rfl rfl c7]
       obtain ⟨H16, R16, _, c16, rfl, g16, p16, lv16, r16, w16⟩ := jx0 (D := D) C.P hs7.g.rd lv7 (by omega) 34 (by omega)
       have hs16 := hs7.go x0 g16 r16.le
       have kk16 := j2y p16
       rw [← p16] at ho lv16
       by_cases hk16 : R16.k.kind = 34
       · have z16 : (R7.k.kind == 34) = true := by rw [← kk16.2.2.1, hk16]; rfl
         rw [z16] at c16
         rw [if_pos (show R16.ps.k.kind = 34 from hk16)] at ho
         try simp only [je1, ja6] at ho
         simp (decide := true) only [↓jb9, ↓uG.o, dG.o, ja1, reduceIte, ↓ja0 l25, ja3 Tryz.func38 rfl rfl c16]
         have hkz : R16.k.kind ≠ 0 := by rw [hk16]; decide
         obtain ⟨H17, R17, _, c17, rfl, g17, p17, lv17, r17, w17⟩ := j02 (D := D) C.P hs16.g.rd lv16 hkz 3 (by omega)
         have gg17 := hs16.g.trans x0 g17
         have hi17 : R17.its = R16.its ++ [it0 3 R16.at_] := by
           have e : R17.its = (nextP z.s (addIt R16.ps (it0 3 R16.at_))).its := by rw [← p17]; rfl
           rw [e, (jb0 z.s _).2.1]; rfl
         have hl17 : R16.its.length < R17.its.length := by rw [hi17]; simp
         have hg17 : R17.its[R16.its.length] = it0 3 R16.at_ := by simp [hi17]
         obtain ⟨qI17, ei17, li17⟩ := jx2 gg17.rd hl17 hg17
         have p17' : R17.ps = nextP z.s (addIt R16.ps (it0 3 R16.ps.at_)) := p17
         rw [← p17] at lv17
         simp only [beginP, ja6] at ho
         rw [← p17'] at ho
         simp (decide := true) only [↓jb9, ↓uG.o, dG.o, ja1, reduceIte, ↓ja0 l26, ja3 Tryz.func55 rfl rfl c17]
         have ha17 := hs16.go x0 g17 r17.le
         have hs17 := St.init x0 ha17.g ha17.x.lo ha17.x.lt ha17.x.no 3 R16.at_
         simp (decide := true) only [↓jb9, ↓uG.o, dG.o, ja1, ja5, reduceIte, ↓ja0 l27, dA.o, jj7 gg17.rd.blk, ei17, (j2e hl17), li17, j4x ha17.x.blk (v := ivC (iv0 3 R16.at_)) rfl (j4w _ _)]
         have sh17 : (⟨ivC (iv0 3 R16.at_), true, 1, none⟩ : Blk) = ivB (iv0 3 R16.at_) := rfl
         rw [sh17]
         rcases jd1 ho with ⟨e18, h18, ho⟩ | ⟨v18, p18, h18, ho⟩
         · obtain ⟨pe, H', c', f'⟩ := PanA.out (j0n (D := D) C hs17.g.rd lv17 (by omega) (by omega) h18)
           simp (decide := true) only [↓uG.o, dG.o, ja1, reduceIte, ↓ja0 l28, je5, jc0 Tryz.func73 rfl rfl c', dH.o]
           rw [← hF, jc5]
           refine hX _ ?_
           rw [ho]
           exact f' x0 hs17.g
         have kx18 := jk8 z.s nn 0 _ _ _ (hs17.g.rd.wf lv17) (C.ex ▸ h18)
         obtain ⟨H18, R18, _, c18, rfl, g18, rfl, lv18, r18, w18⟩ := j0n (D := D) C hs17.g.rd lv17 (by omega) (by omega) h18
         have t18 := hs17.go x0 g18 r18.le
         have lt18 : R17.at_ < R18.at_ := kx18.lt
         have ta18 := t18.alloc x0 1 [.int .i64 (v18 : Int)]
         have hs18 := t18.set_e x0 (by omega) v18
         simp (decide := true) only [↓jb9, ↓uG.o, dG.o, ja1, ja5, reduceIte, ↓ja0 l28, xf7, ja3 Tryz.func73 rfl rfl c18, jh9, y4u ta18.x.blk [v18] (v := .slice (some ⟨H18.next, 0, none⟩) 1 1) rfl]
         rcases jd1 ho with ⟨e19, h19, ho⟩ | ⟨v19, p19, h19, ho⟩
         · obtain ⟨pe, H', c', f'⟩ := PanA.out (jx3 (D := D) C kd hf hs18.g.rd lv18 (by omega) (by omega) h19)
           simp (decide := true) only [↓uG.o, dG.o, ja1, reduceIte, ↓ja0 l29, je5, jc0 Tryz.func21 rfl rfl c', dH.o]
           rw [← hF, jc5]
           refine hX _ ?_
           rw [ho]
           exact f' x0 hs18.g
         obtain ⟨H19, R19, kv19, c19, hv19, g19, rfl, lv19, r19, w19⟩ := jx3 (D := D) C kd hf hs18.g.rd lv18 (by omega) (by omega) h19
         have t19 := hs18.go x0 g19 r19.le
         have hs19 := hs18.set_k x0 g19 r19.le hv19
         simp (decide := true) only [↓jb9, ↓uG.o, dG.o, ja1, ja5, reduceIte, ↓ja0 l29, xf11, ja3 Tryz.func21 rfl rfl c19, y6u t19.x.blk v19 hv19.one.1]
         rcases jd1 ho with ⟨e20, h20, ho⟩ | ⟨v20, p20, h20, ho⟩
         · obtain ⟨pe, H', c', f'⟩ := PanA.out (yr0 (D := D) C.P hs19.g.rd lv19 (by omega) 35 (by omega) h20)
           simp (decide := true) only [↓uG.o, dG.o, ja1, reduceIte, ↓ja0 l30, je5, jc0 Tryz.func36 rfl rfl c', dH.o]
           rw [← hF, jc5]
           refine hX _ ?_
           rw [ho]
           exact f' x0 hs19.g
         obtain ⟨H20, R20, _, c20, rfl, g20, rfl, lv20, r20, w20⟩ := yr0 (D := D) C.P hs19.g.rd lv19 (by omega) 35 (by omega) h20
         have hs20 := hs19.go x0 g20 r20.le
         cases v20 with
         | true =>
           try dsimp only at ho
           rw [if_pos rfl] at ho
           try simp only [je1, ja6] at ho
           cases ho
         | false =>
           try dsimp only at ho
           rw [if_neg Bool.false_ne_true] at ho
           try simp only [je1, ja6] at ho
           simp (decide := true) only [↓jb9, ↓uG.o, dG.o, ja1, reduceIte, ↓ja0 l30, ja3 Tryz.func36 rfl rfl c20]
           have hk21 : R16.its.length < R20.its.length := by
             have i0 := r18.its
             have i1 := r19.its
             have i2 := r20.its
             omega
           obtain ⟨H21, R21, c21, g21, p21, r21, w21⟩ := ya7 (D := D) C.P x0 hs20 hk21 (by omega)
           have lv21 : Lv R21.ps := by rw [p21]; exact ⟨lv20.tok, by show (R20.its.set _ _).length ≤ R20.at_; rw [List.length_set]; exact lv20.its, lv20.nds⟩
           injection ho with ho
           simp (decide := true) only [↓uG.o, dG.o, ja1, reduceIte, ↓ja0 l33, j2f hs20.x.blk, ja3 Tryz.func56 rfl rfl c21]
           rw [← hF, ja4 (l := [.int .i64 (R16.its.length : Int), .bool true]) (by simp (decide := true) [Tryz.f57, resE, ja1])]
           refine hX _ ?_
           rw [← ho]
           exact ⟨_, _, _, rfl, ⟨rfl, by omega⟩, g21, p21, p21 ▸ lv21, (((((((((Rs.refl R).trans r1).trans r2).trans r7).trans r16).trans r17).trans r18).trans r19).trans r20).trans r21, by omega⟩
       · have z16 : (R7.k.kind == 34) = false := by rw [← kk16.2.2.1]; simp [hk16]
         rw [z16] at c16
         rw [if_neg (show ¬ R16.ps.k.kind = 34 from hk16)] at ho
         try simp only [je1, ja6] at ho
         simp (decide := true) only [↓jb9, ↓uG.o, dG.o, ja1, reduceIte, ↓ja0 l25, ja3 Tryz.func38 rfl rfl c16]
         injection ho with ho
         simp (decide := true) only [↓uG.o, dG.o, ↓ja0 l3]
         rw [← hF, ja4 (l := [.int .i64 0, .bool false]) (by simp (decide := true) [Tryz.f57, resE, ja1])]
         refine hX _ ?_
         rw [← ho]
         exact ⟨_, _, _, rfl, rfl, hs16.g, rfl, lv16, ((((Rs.refl R).trans r1).trans r2).trans r7).trans r16, by omega⟩
end Go.Am
namespace Go.Am
set_option maxRecDepth 100000
variable {q b : Nat} {H : Heap}
structure Dcl where
 word : Int
 kind : Int
 f : FuncId
 F : PS → It → Option (Ou It)
def dC (b : Nat) (d : Dcl) : List Value := [.int .i64 d.word, .int .i64 d.kind, .func (.func d.f) #[.pointer (some ⟨b, 0, none⟩)] #[]]
def dCs (b : Nat) : List Dcl → List Value
 | [] => []
 | d :: l => dC b d ++ dCs b l
theorem ys3 (b : Nat) : ∀ l, (dCs b l).length = l.length * 3
 | [] => rfl
 | d :: l => by simp only [dCs, List.length_append, ys3 b l, dC, List.length_cons, List.length_nil]; omega
theorem ys4 (b : Nat) (d : Dcl) (l : List Dcl) : ∀ pre, dCs b (pre ++ [d]) ++ dCs b l = dCs b pre ++ dCs b (d :: l)
 | [] => by simp [dCs]
 | p :: pre => by
   have := ys4 b d l pre
   simp only [List.cons_append, dCs, List.append_assoc] at this ⊢
   rw [this]
def declsP (z : Pz) : List Dcl → PS → Option (Ou Nat)
 | [], p => some (.er (.bad p.at_))
 | d :: l, p => if p.k.kind = d.word then bindM (beginP z.s d.kind p) fun k q => bindM (d.F q (it0 d.kind p.at_)) fun it q => some (.ok k (setIt q k it)) else declsP z l p
structure DcOk (N : Nat) (hk : Hook) (z : Pz) (d0 nn : Nat) (d : Dcl) : Prop where
 fo : FnOk d.f
 nz : d.word ≠ 0
 ok : ∀ {D : Nat} {a : Option Addr} {c b q : Nat} {H0 H : Heap} {R0 R : RS} {i : Iv} {o : Ou It} (_ : Rd a c z.s b H0 R0) (_ : St a c z.s b H0 R0 H R q i) (_ : Lv R.ps) (_ : R.wl < 300) (_ : d0 + 2 * nn + 60 ≤ D) (_ : d.F R.ps i.x = some o), AnI a c z.s b H0 R0 q R (CH N hk D d.f #[.pointer (some ⟨b, 0, none⟩), .pointer (some ⟨q, 0, none⟩)] H) 0 o
theorem undDecls : PP.underlying 92 = some (.slice 96) := Tryz.underlying92
theorem szDecl : sizeT PP 96 = some 3 := by decide +kernel
theorem agDecl : aggT PP 96 = some true := by decide +kernel
theorem esDecl : esT PP 96 = 1 := by decide +kernel
theorem agRead : aggT PP 94 = some false := by decide +kernel
theorem zeroDecl : zeroT PP 96 = some [.int .i64 0, .int .i64 0, .nilFunc] := by kernel_rfl
theorem j3r (H : Heap) : allocA PP 96 H = some (.pointer (some ⟨H.next, 0, none⟩), H.alloc 1 [.int .i64 0, .int .i64 0, .nilFunc]) := by simp only [allocA, zeroDecl, esDecl, mk]
theorem y42 {n k : Nat} (hk : k < n) : indexAddrA PP 92 (.slice (some ⟨q, 0, none⟩) n n) (.int .i64 (k : Int)) = some (.pointer (some ⟨q, k * 3, none⟩)) := by
 simp [indexAddrA, szDecl, at_, Addr.add]
 omega
theorem y43 {bd j : Nat} {pre l : List Dcl} {d : Dcl} (h : H.get bd = some ⟨dCs b pre ++ dCs b (d :: l), true, 3, none⟩) (hj : pre.length = j) : loadA PP 96 (.pointer (some ⟨bd, j * 3, none⟩)) H = some (.agg (dC b d).toArray, H) := by
 have h' : H.get bd = some ⟨dCs b pre ++ dC b d ++ dCs b l, true, 3, none⟩ := by rw [h]; simp [dCs]
 simp only [loadA, agDecl, szDecl]
 rw [← hj, ← ys3 b pre]
 exact j4v h'
theorem ys5 {d : Dcl} (h : H.get q = some ⟨[.int .i64 0, .int .i64 0, .nilFunc], true, 1, none⟩) : storeA PP 96 (.pointer (some ⟨q, 0, none⟩)) (.agg (dC b d).toArray) H = some (undef, H.set q ⟨dC b d, true, 1, none⟩) := by
 simp only [storeA, szDecl, stV]
 simp [Value.cells, dC, st, look, h, over, Value.oneCell']
theorem dfa0 (q : Nat) : fieldAddrA PP 96 (.pointer (some ⟨q, 0, none⟩)) 0 = some (.pointer (some ⟨q, 0, none⟩)) := by kernel_rfl
theorem dfa1 (q : Nat) : fieldAddrA PP 96 (.pointer (some ⟨q, 0, none⟩)) 1 = some (.pointer (some ⟨q, 1, none⟩)) := by kernel_rfl
theorem dfa2 (q : Nat) : fieldAddrA PP 96 (.pointer (some ⟨q, 0, none⟩)) 2 = some (.pointer (some ⟨q, 2, none⟩)) := by kernel_rfl
theorem y6x {d : Dcl} (h : H.get q = some ⟨dC b d, true, 1, none⟩) : loadA PP 3 (.pointer (some ⟨q, 0, none⟩)) H = some (.int .i64 d.word, H) := by
 simp only [loadA, jm3]
 simp [ld1, look, h, dC]
theorem y76 {d : Dcl} (h : H.get q = some ⟨dC b d, true, 1, none⟩) : loadA PP 3 (.pointer (some ⟨q, 1, none⟩)) H = some (.int .i64 d.kind, H) := by
 simp only [loadA, jm3]
 simp [ld1, look, h, dC]
theorem y6y {d : Dcl} (h : H.get q = some ⟨dC b d, true, 1, none⟩) : loadA PP 94 (.pointer (some ⟨q, 2, none⟩)) H = some (.func (.func d.f) #[.pointer (some ⟨b, 0, none⟩)] #[], H) := by
 simp only [loadA, agRead]
 simp [ld1, look, h, dC]
theorem ya9 {P : Program} {X : Xf} {K : Kf} {d : Option Tmp} {t : TypeId} {p : String} {af : Array Edge} {E : Env} {ds : List Deferred} {H : Heap} {k : KE} {kp : List PanicEntry → KE} {g : Option (Nat × Bool)} (i : Tmp) (ts : Array TypeId) (x : Operand) (f : FuncId) (v : Value) (h : E i = .func (.func f) #[v] #[]) :
   opE P X K ⟨d, .call { callee := .value (.tmp i), args := #[x], argTypes := ts }, t, p, af, g⟩ E ds H k kp = callK P X K f #[v, evalE E x] H (putK E d ds k) (panK E ds kp) := by
 rw [jg2 i #[x] ts f #[v] #[] h]
 have e : (#[v] ++ Array.map (evalE E) #[x] ++ #[] : Array Value) = #[v, evalE E x] := by simp
 rw [e]
theorem code41 : codeOf Tryz.f41 = .seq (rF Tryz.f41 0) (.seq (.seq (rF Tryz.f41 1) (.seq (rF Tryz.f41 2) (.cond (.tmp 16) (.seq (rF Tryz.f41 3) .ret) .skip))) (.seq (.seq (rF Tryz.f41 4) (.block 0 (.loop (.seq (rF Tryz.f41 5) (.seq (.cond (.tmp 22) .skip (.exit 0)) (.seq (.block 1 (.seq (rF Tryz.f41 6) (.seq (rF Tryz.f41 7) (.cond (.tmp 28) (.seq (rF Tryz.f41 8) (.seq (rF Tryz.f41 9) (.seq (rF Tryz.f41 10) (.seq (rF Tryz.f41 11) .ret)))) .skip)))) (rF Tryz.f41 12))))))) (.seq (rF Tryz.f41 13) (.seq (rF Tryz.f41 14) .ret)))) := by kernel_rfl
theorem j6u {N : Nat} {hk : Hook} {D d0 nn : Nat} {a : Option Addr} {c bd m : Nat} {z : Pz} {H0 : Heap} {R0 Rst : RS} {Q : Am.R → Prop} {k : KOE} {o : Ou Nat} (C : Cz N hk z nn d0) (x0 : Rd a c z.s b H0 R0) (hD2 : d0 + 2 * nn + 60 ≤ D)
   (hok : ∀ E' H' R' (v : Nat), E' 2 = .int .i64 (v : Int) → Gx a c z.s b H0 R0 H' R' → Lv R'.ps → Rs Rst R' → R'.wl ≤ 1 → o = .ok v R'.ps → Q (k .ret E' [] H'))
   (hnone : ∀ E' H' R', E' 0 = .pointer (some ⟨b, 0, none⟩) → Gx a c z.s b H0 R0 H' R' → Lv R'.ps → Rs Rst R' → R'.wl ≤ 250 → o = .er (.bad R'.at_) → Q (k (.exit 0) E' [] H'))
   (hpan : ∀ E' H' pe e, PanA z.s b H0 R0 (some (.pan pe, H')) e → o = .er e → Q (k (.pan pe) E' [] H')) : ∀ (l : List Dcl) (k2 : Nat) (_ : l.length < k2) (pre : List Dcl) {j : Nat} {H : Heap} {R : RS} {E : Env} (hpre : pre.length = j) (hd : ∀ d ∈ l, DcOk N hk z d0 nn d) (g : Gx a c z.s b H0 R0 H R) (lv : Lv R.ps) (rs : Rs Rst R) (hw : R.wl + l.length ≤ 250) (hl : j + l.length = m) (hmm : m ≤ 100) (hbl : bd < H.next) (hbo : ¬ R.own bd) (hrow : H.get bd = some ⟨dCs b pre ++ dCs b l, true, 3, none⟩) (e : E 0 = .pointer (some ⟨b, 0, none⟩) ∧ E 19 = .slice (some ⟨bd, 0, none⟩) m m ∧ E 20 = .int .i64 (m : Int) ∧ E 21 = .int .i64 (j : Int)) (ho : declsP z l R.ps = some o),
   Q (loopE (execG PP XX (CH N hk D) N noPr (.seq (rF Tryz.f41 5) (.seq (.cond (.tmp 22) .skip (.exit 0)) (.seq (.block 1 (.seq (rF Tryz.f41 6) (.seq (rF Tryz.f41 7) (.cond (.tmp 28) (.seq (rF Tryz.f41 8) (.seq (rF Tryz.f41 9) (.seq (rF Tryz.f41 10) (.seq (rF Tryz.f41 11) .ret)))) .skip)))) (rF Tryz.f41 12)))) none) k2 E [] H k)
 | [], k2 + 1, hm, pre, j, H, R, E, hpre, hd, g, lv, rs, hw, hl, hmm, hbl, hbo, hrow, e, ho => by
   obtain ⟨ea, eb, ec, ed⟩ := e
   rw [jb5]
   have l5 := tl (rgn Tryz.f41 5)
   conv at l5 => rhs; simp only [rgn, opsAt, codeOf, Tryz.f41, gS, gN, reduceIte, Nat.reduceEqDiff, tA]
   have zl : decide ((j : Int) < (m : Int)) = false := decide_eq_false (by simp at hl; omega)
   simp (decide := true) only [↓uR.o, dG.o, ja1, reduceIte, ↓ja0 l5, ec, ed, zl]
   exact hnone _ _ R (ea) g lv rs (by simp at hw; omega) (by injection ho with ho; exact ho.symm)
 | d :: l, k2 + 1, hm, pre, j, H, R, E, hpre, hd, g, lv, rs, hw, hl, hmm, hbl, hbo, hrow, e, ho => by
   obtain ⟨ea, eb, ec, ed⟩ := e
   obtain ⟨fn, hf, hn, hb⟩ := (hd d (by simp)).fo.ex
   have hrd := hd d (by simp)
   rw [jb5]
   have lL := lX8 Tryz.f41 5 6 7 8 9 10 11 12
   conv at lL in (occs := *) (rgnX _ _) => all_goals simp only [rX, opsAt, Tryz.f41, dL.o, reduceIte, Nat.reduceEqDiff]
   obtain ⟨l5, l6, l7, l8, l9, l10, l11, l12⟩ := lL
   have hj : j < m := by rw [← hl]; simp
   have zl : decide ((j : Int) < (m : Int)) = true := decide_eq_true (by omega)
   have hix := y42 (q := bd) hj
   have hld := y43 hrow (show pre.length = j from hpre)
   have w : IntKind.i64.wrap ((j : Int) + 1) = ((j + 1 : Nat) : Int) := by rw [jb2 (by omega) (by omega)]; omega
   have ga := g.alloc 1 [.int .i64 0, .int .i64 0, .nilFunc]
   have noq : ¬ R.own H.next := fun h => by have := g.rd.lt _ h; omega
   have gb := ga.other x0 (q := H.next) g.fr.next (Nat.lt_succ_self _) noq ⟨dC b d, true, 1, none⟩
   have hq6 := jb4 (H.alloc 1 [.int .i64 0, .int .i64 0, .nilFunc]) H.next ⟨dC b d, true, 1, none⟩
   obtain ⟨H1, R1, _, c1, rfl, g1, p1, lv1, r1, w1⟩ := jx0 (D := D) C.P gb.rd lv (by omega) d.word (by omega)
   have gg1 := gb.trans x0 g1
   have rs1 := rs.trans r1
   have kk1 := j2y p1
   have h61 := g1.stay gb.rd noq hq6
   rw [← p1] at ho lv1
   unfold declsP at ho
   have hrow1 : H1.get bd = some ⟨dCs b pre ++ dCs b (d :: l), true, 3, none⟩ := by
     refine g1.stay gb.rd hbo ?_
     rw [Heap.get_set, if_neg (by omega)]
     exact jb3 g.fr.fresh hrow _ _
   by_cases hk1 : R1.k.kind = d.word
   · have z1 : (R.k.kind == d.word) = true := by rw [← kk1.2.2.1, hk1]; simp
     rw [z1] at c1
     rw [if_pos (show R1.ps.k.kind = d.word from hk1)] at ho
     have hkz : R1.k.kind ≠ 0 := by rw [hk1]; exact (hd d (by simp)).nz
     simp (decide := true) only [↓uR.o, dG.o, ja1, ja5, reduceIte, ↓ja0 l5, ↓ja0 l6, ↓ja0 l7, ea, eb, ec, ed, zl, hix, hld, j3r, ys5 (jc6 _ _ _), dfa0, y6x hq6, ja3 Tryz.func38 rfl rfl c1]
     obtain ⟨H2, R2, _, c2, rfl, g2, p2, lv2, r2, w2⟩ := j02 (D := D) C.P gg1.rd lv1 hkz d.kind (by omega)
     have gg2 := gg1.trans x0 g2
     have hi2 : R2.its = R1.its ++ [it0 d.kind R1.at_] := by
       have e : R2.its = (nextP z.s (addIt R1.ps (it0 d.kind R1.at_))).its := by rw [← p2]; rfl
       rw [e, (jb0 z.s _).2.1]; rfl
     have hl2 : R1.its.length < R2.its.length := by rw [hi2]; simp
     have hg2 : R2.its[R1.its.length] = it0 d.kind R1.at_ := by simp [hi2]
     obtain ⟨qI2, ei2, li2⟩ := jx2 gg2.rd hl2 hg2
     have p2' : R2.ps = nextP z.s (addIt R1.ps (it0 d.kind R1.ps.at_)) := p2
     rw [← p2] at lv2
     simp only [beginP, ja6] at ho
     rw [← p2'] at ho
     simp (decide := true) only [↓uR.o, dG.o, ja1, reduceIte, ↓ja0 l8, ea, dfa1, y76 h61, ja3 Tryz.func55 rfl rfl c2]
     have ha2 := St.fresh x0 gg2
     have hs2 := St.init x0 ha2.g ha2.x.lo ha2.x.lt ha2.x.no d.kind R1.at_
     simp (decide := true) only [↓uR.o, dG.o, ja1, ja5, reduceIte, ↓ja0 l9, dA.o, ea, jj7 gg2.rd.blk, ei2, (j2e hl2), li2, j3q, j4x ha2.x.blk (v := ivC (iv0 d.kind R1.at_)) rfl (j4w _ _)]
     have sh2 : (⟨ivC (iv0 d.kind R1.at_), true, 1, none⟩ : Blk) = ivB (iv0 d.kind R1.at_) := rfl
     rw [sh2]
     have h62 : (H2.alloc 1 (ivC (iv0 0 0))).get H.next = some ⟨dC b d, true, 1, none⟩ := jb3 gg2.fr.fresh (g2.stay gg1.rd (fun h => by have := gg1.own _ h; have := g.fr.next; exact (g1.nown (Nat.lt_succ_self _) noq).2 h) h61) _ _
     have h72 : ((H2.alloc 1 (ivC (iv0 0 0))).set H2.next (ivB (iv0 d.kind R1.at_))).get H.next = some ⟨dC b d, true, 1, none⟩ := by
       have hlt : H.next < H2.next := by have h1 := g1.fr.next; have h2 := g2.fr.next; have h3 : (H.alloc 1 [.int .i64 0, .int .i64 0, .nilFunc]).next = H.next + 1 := rfl; simp only [Heap.next_set] at h1; omega
       rw [Heap.get_set, if_neg (by omega)]
       exact h62
     rcases jd1 ho with ⟨e3, h3, ho⟩ | ⟨v3, p3, h3, ho⟩
     · obtain ⟨pe, H', c', f'⟩ := PanA.out (hrd.ok (D := D) x0 hs2 lv2 (by omega) hD2 h3)
       simp (decide := true) only [↓uG.o, dG.o, ja1, reduceIte, ↓ja0 l10, je5, dfa2, y6y h72, ↓ya9 42 _ _ d.f (.pointer (some ⟨b, 0, none⟩)), jc0 hf hn hb c', dH.o]
       exact hpan _ _ _ _ (f' x0 (Gx.refl x0)) ho
     obtain ⟨H3, R3, i3, c3, hs3, rfl, rfl, lv3, r3, w3⟩ := hrd.ok (D := D) x0 hs2 lv2 (by omega) hD2 h3
     simp (decide := true) only [↓uR.o, dG.o, ja1, reduceIte, ↓ja0 l10, dfa2, y6y h72, ↓ya9 42 _ _ d.f (.pointer (some ⟨b, 0, none⟩)), ja3 hf hn hb c3]
     have hk4 : R1.its.length < R3.its.length := by
       have i0 := r3.its
       omega
     obtain ⟨H4, R4, c4, g4, p4, r4, w4⟩ := ya7 (D := D) C.P x0 hs3 hk4 (by omega)
     have lv4 : Lv R4.ps := by rw [p4]; exact ⟨lv3.tok, by show (R3.its.set _ _).length ≤ R3.at_; rw [List.length_set]; exact lv3.its, lv3.nds⟩
     injection ho with ho
     simp (decide := true) only [↓uG.o, dG.o, ja1, reduceIte, ↓ja0 l11, ea, j2f hs3.x.blk, ja3 Tryz.func56 rfl rfl c4]
     refine hok _ _ R4 R1.its.length ?_ g4 lv4 ((((rs1).trans r2).trans r3).trans r4) (by omega) ?_
     · simp (decide := true) only [ja1, reduceIte]
     · rw [← ho, p4]
       rfl
   · have z1 : (R.k.kind == d.word) = false := by rw [← kk1.2.2.1]; simp [hk1]
     rw [z1] at c1
     rw [if_neg (show ¬ R1.ps.k.kind = d.word from hk1)] at ho
     simp (decide := true) only [↓uR.o, dG.o, ja1, ja5, reduceIte, ↓ja0 l5, ↓ja0 l6, ↓ja0 l7, ↓ja0 l12, ea, eb, ec, ed, zl, hix, hld, j3r, ys5 (jc6 _ _ _), dfa0, y6x hq6, ja3 Tryz.func38 rfl rfl c1, w]
     have nb := g1.nown (z := bd) (by show bd < H.next + 1; omega) hbo
     refine j6u C x0 hD2 hok hnone hpan l k2 (by simpa using hm) (pre ++ [d]) (j := j + 1) (by simp [hpre]) (fun d' h => hd d' (by simp [h])) gg1 lv1 rs1 (by simp at hw; omega) (by rw [← hl]; simp; omega) hmm nb.1 nb.2 (by rw [hrow1, ys4]) ?_ ho
     exact ⟨ea, eb, ec, rfl⟩
end Go.Am
namespace Go.Am
set_option maxRecDepth 100000
def itemD (z : Pz) : List Dcl := [⟨38, 6, 74, fun _ _ => none⟩, ⟨39, 7, 75, fun _ _ => none⟩, ⟨41, 8, 76, fun _ _ => none⟩, ⟨44, 9, 77, fun _ _ => none⟩, ⟨48, 10, 78, fun _ _ => none⟩, ⟨59, 11, 79, fun _ _ => none⟩, ⟨64, 12, 80, fun _ _ => none⟩, ⟨66, 13, 81, fun _ _ => none⟩, ⟨73, 14, 82, pickP z⟩, ⟨63, 15, 82, pickP z⟩, ⟨74, 22, 83, fun _ _ => none⟩, ⟨75, 23, 84, fun _ _ => none⟩, ⟨78, 24, 82, pickP z⟩, ⟨79, 25, 85, fun _ _ => none⟩]
def onlyP (z : Pz) (kd : Nat) (l : List Dcl) (p : PS) : Option (Ou Nat) := bindM (innerP z kd p) fun k p => match k with
 | some k => some (.ok k p)
 | none => declsP z l p
theorem y44 {N : Nat} {hk : Hook} {z : Pz} {nn d0 : Nat} (C : Cz N hk z nn d0) : ∀ d ∈ itemD z, DcOk N hk z d0 nn d := by
 intro d h
 simp only [itemD, List.mem_cons, List.not_mem_nil, or_false] at h
 rcases h with rfl | rfl | rfl | rfl | rfl | rfl | rfl | rfl | rfl | rfl | rfl | rfl | rfl | rfl
 · exact ⟨.all Tryz.func74 rfl rfl, (by show (38 : Int) ≠ 0; decide), fun _ _ _ _ _ ho => by cases ho⟩
 · exact ⟨.all Tryz.func75 rfl rfl, (by show (39 : Int) ≠ 0; decide), fun _ _ _ _ _ ho => by cases ho⟩
 · exact ⟨.all Tryz.func76 rfl rfl, (by show (41 : Int) ≠ 0; decide), fun _ _ _ _ _ ho => by cases ho⟩
 · exact ⟨.all Tryz.func77 rfl rfl, (by show (44 : Int) ≠ 0; decide), fun _ _ _ _ _ ho => by cases ho⟩
 · exact ⟨.all Tryz.func78 rfl rfl, (by show (48 : Int) ≠ 0; decide), fun _ _ _ _ _ ho => by cases ho⟩
 · exact ⟨.all Tryz.func79 rfl rfl, (by show (59 : Int) ≠ 0; decide), fun _ _ _ _ _ ho => by cases ho⟩
 · exact ⟨.all Tryz.func80 rfl rfl, (by show (64 : Int) ≠ 0; decide), fun _ _ _ _ _ ho => by cases ho⟩
 · exact ⟨.all Tryz.func81 rfl rfl, (by show (66 : Int) ≠ 0; decide), fun _ _ _ _ _ ho => by cases ho⟩
 · exact ⟨.all Tryz.func82 rfl rfl, (by show (73 : Int) ≠ 0; decide), fun x0 hs lv hw hD ho => j8i C x0 hs lv hw (by omega) ho⟩
 · exact ⟨.all Tryz.func82 rfl rfl, (by show (63 : Int) ≠ 0; decide), fun x0 hs lv hw hD ho => j8i C x0 hs lv hw (by omega) ho⟩
 · exact ⟨.all Tryz.func83 rfl rfl, (by show (74 : Int) ≠ 0; decide), fun _ _ _ _ _ ho => by cases ho⟩
 · exact ⟨.all Tryz.func84 rfl rfl, (by show (75 : Int) ≠ 0; decide), fun _ _ _ _ _ ho => by cases ho⟩
 · exact ⟨.all Tryz.func82 rfl rfl, (by show (78 : Int) ≠ 0; decide), fun x0 hs lv hw hD ho => j8i C x0 hs lv hw (by omega) ho⟩
 · exact ⟨.all Tryz.func85 rfl rfl, (by show (79 : Int) ≠ 0; decide), fun _ _ _ _ _ ho => by cases ho⟩
theorem extA0 (x y : Value) : extractA (.tuple #[x, y]) 0 = some x := rfl
theorem extA1 (x y : Value) : extractA (.tuple #[x, y]) 1 = some y := rfl
theorem code58 : codeOf Tryz.f58 = .seq (rF Tryz.f58 0) (.seq (rF Tryz.f58 1) .ret) := by kernel_rfl
theorem prt14 (f : Operand → Value) (x0 x1 x2 x3 x4 x5 x6 x7 x8 x9 x10 x11 x12 x13 : Operand) : (#[(0, x0), (1, x1), (2, x2), (3, x3), (4, x4), (5, x5), (6, x6), (7, x7), (8, x8), (9, x9), (10, x10), (11, x11), (12, x12), (13, x13)] : Array (Nat × Operand)).map (fun (i, x) => (i, f x)) = #[(0, f x0), (1, f x1), (2, f x2), (3, f x3), (4, f x4), (5, f x5), (6, f x6), (7, f x7), (8, f x8), (9, f x9), (10, f x10), (11, f x11), (12, f x12), (13, f x13)] := by simp
theorem y1g (w k : Int) (v : Value) (f : FuncId) (b : Nat) : buildA PP 96 #[(0, .int .i64 w), (1, .int .i64 k), (2, .func (.func f) #[.pointer (some ⟨b, 0, none⟩)] #[])] = some (.agg #[.int .i64 w, .int .i64 k, .func (.func f) #[.pointer (some ⟨b, 0, none⟩)] #[]]) := by kernel_rfl
theorem yg5 (z : Pz) (H : Heap) (b : Nat) : buildSliceA PP 92 14 #[(0, .agg #[.int .i64 38, .int .i64 6, .func (.func 74) #[.pointer (some ⟨b, 0, none⟩)] #[]]), (1, .agg #[.int .i64 39, .int .i64 7, .func (.func 75) #[.pointer (some ⟨b, 0, none⟩)] #[]]), (2, .agg #[.int .i64 41, .int .i64 8, .func (.func 76) #[.pointer (some ⟨b, 0, none⟩)] #[]]), (3, .agg #[.int .i64 44, .int .i64 9, .func (.func 77) #[.pointer (some ⟨b, 0, none⟩)] #[]]), (4, .agg #[.int .i64 48, .int .i64 10, .func (.func 78) #[.pointer (some ⟨b, 0, none⟩)] #[]]), (5, .agg #[.int .i64 59, .int .i64 11, .func (.func 79) #[.pointer (some ⟨b, 0, none⟩)] #[]]), (6, .agg #[.int .i64 64, .int .i64 12, .func (.func 80) #[.pointer (some ⟨b, 0, none⟩)] #[]]), (7, .agg #[.int .i64 66, .int .i64 13, .func (.func 81) #[.pointer (some ⟨b, 0, none⟩)] #[]]), (8, .agg #[.int .i64 73, .int .i64 14, .func (.func 82) #[.pointer (some ⟨b, 0, none⟩)] #[]]), (9, .agg #[.int .i64 63, .int .i64 15, .func (.func 82) #[.pointer (some ⟨b, 0, none⟩)] #[]]), (10, .agg #[.int .i64 74, .int .i64 22, .func (.func 83) #[.pointer (some ⟨b, 0, none⟩)] #[]]), (11, .agg #[.int .i64 75, .int .i64 23, .func (.func 84) #[.pointer (some ⟨b, 0, none⟩)] #[]]), (12, .agg #[.int .i64 78, .int .i64 24, .func (.func 82) #[.pointer (some ⟨b, 0, none⟩)] #[]]), (13, .agg #[.int .i64 79, .int .i64 25, .func (.func 85) #[.pointer (some ⟨b, 0, none⟩)] #[]])] H = some (.slice (some ⟨H.next, 0, none⟩) 14 14, H.alloc 3 (dCs b (itemD z))) := by kernel_rfl
theorem y1h {N : Nat} {hk : Hook} {D b : Nat} {z : Pz} (P : PK N hk) (H : Heap) (hD : 1 ≤ D) : CH N hk D 58 #[.pointer (some ⟨b, 0, none⟩)] H = some (.ret (.slice (some ⟨H.next, 0, none⟩) 14 14), H.alloc 3 (dCs b (itemD z))) := by
 obtain ⟨D, rfl⟩ : ∃ y, D = y + 1 := ⟨D - 1, by omega⟩
 have hh := P.hh
 have hU := jb8 (P := PP) (okf := okC) (prf := prS) (X := XX) (N := N) (hk := hk) (d := D) (args := #[.pointer (some ⟨b, 0, none⟩)]) (H := H) (hh _ _ _ rfl) Tryz.func58 (c := codeOf Tryz.f58) rfl rfl rfl (pr := noPr) rfl
 rw [code58] at hU
 generalize hF : finG PP okC prS XX (CH N hk (D)) N Tryz.f58 = F at hU
 have lL := lX2 Tryz.f58 0 1
 conv at lL in (occs := *) (rgnX _ _) => all_goals simp only [rX, opsAt, Tryz.f58, dL.o, reduceIte, Nat.reduceEqDiff]
 obtain ⟨l0, l1⟩ := lL
 refine hU.trans ?_
 simp (decide := true) only [↓uR.o, dG.o, ja1, reduceIte, ↓ja0 l0, ↓ja0 l1, prt14, (fun w k f => y1g w k .nilFunc f b), yg5 z]
 rw [← hF, ja4 (l := [.slice (some ⟨H.next, 0, none⟩) 14 14]) (by simp (decide := true) [Tryz.f58, resE, ja1])]
 rfl
theorem ys6 {N : Nat} {hk : Hook} {D d0 nn : Nat} {a : Option Addr} {c b : Nat} {z : Pz} {H : Heap} {R : RS} {o : Ou Nat} (C : Cz N hk z nn d0) (x0 : Rd a c z.s b H R) (lv : Lv R.ps) (hw : R.wl < 110) (hD : d0 + 2 * nn + 70 ≤ D) (ho : onlyP z 1 (itemD z) R.ps = some o) :
   An a c z.s b H R (CH N hk D 41 #[.pointer (some ⟨b, 0, none⟩)] H) 1 vN o := by
 obtain ⟨D, rfl⟩ : ∃ y, D = y + 1 := ⟨D - 1, by omega⟩
 have hh := C.P.hh
 suffices main : ∀ X : Am.R → Prop, (∀ r, An a c z.s b H R r 1 vN o → X r) → X (CH N hk (D + 1) 41 #[.pointer (some ⟨b, 0, none⟩)] H) from main _ fun _ h => h
 intro X hX
 have hU := jb8 (P := PP) (okf := okC) (prf := prS) (X := XX) (N := N) (hk := hk) (d := D) (args := #[.pointer (some ⟨b, 0, none⟩)]) (H := H) (hh _ _ _ rfl) Tryz.func41 (c := codeOf Tryz.f41) rfl rfl rfl (pr := noPr) rfl
 rw [code41] at hU
 generalize hF : finG PP okC prS XX (CH N hk (D)) N Tryz.f41 = F at hU
 refine Eq.mpr (congrArg X hU) ?_
 have lL := lX7 Tryz.f41 0 1 2 3 4 13 14
 conv at lL in (occs := *) (rgnX _ _) => all_goals simp only [rX, opsAt, Tryz.f41, dL.o, reduceIte, Nat.reduceEqDiff]
 obtain ⟨l0, l1, l2, l3, l4, l13, l14⟩ := lL
 unfold onlyP at ho
 rcases jd1 ho with ⟨e1, h1, ho⟩ | ⟨v1, p1, h1, ho⟩
 · obtain ⟨pe, H', c', f'⟩ := PanA.out (ya8 (D := D) C (kd := 1) (f := 41) rfl x0 lv (by omega) (by omega) h1)
   simp (decide := true) only [↓uR.o, dG.o, ja1, reduceIte, ↓ja0 l0, ↓ja0 l1, je5, jc0 Tryz.func57 rfl rfl c', dH.o]
   rw [← hF, jc5]
   refine hX _ ?_
   rw [ho]
   exact f' x0 (Gx.refl x0)
 obtain ⟨H1, R1, w0, c1, hv1, g1, rfl, lv1, r1, w1⟩ := ya8 (D := D) C (kd := 1) (f := 41) rfl x0 lv (by omega) (by omega) h1
 cases v1 with
 | some k =>
   dsimp only [vO] at hv1
   obtain ⟨rfl, hwk⟩ := hv1
   injection ho with ho
   simp (decide := true) only [↓uR.o, dG.o, ja1, reduceIte, ↓ja0 l0, ↓ja0 l1, ↓ja0 l2, ↓ja0 l3, ja3 Tryz.func57 rfl rfl c1, extA0, extA1]
   rw [← hF, ja4 (l := [.int .i64 (k : Int)]) (by simp (decide := true) [Tryz.f41, resE, ja1])]
   refine hX _ ?_
   rw [← ho]
   exact ⟨_, _, _, rfl, rfl, g1, rfl, lv1, r1, hwk⟩
 | none =>
   dsimp only [vO] at hv1
   subst hv1
   dsimp only at ho
   have g2 := g1.alloc 3 (dCs b (itemD z))
   have hrow1 := jc6 H1 3 (dCs b (itemD z))
   simp (decide := true) only [↓uR.o, dG.o, ja1, reduceIte, ↓ja0 l0, ↓ja0 l1, ↓ja0 l2, ↓ja0 l4, ja3 Tryz.func57 rfl rfl c1, extA0, extA1, ja3 Tryz.func58 rfl rfl (y1h (D := D) (b := b) C.P (z := z) H1 (by omega)), ja7 (ts := #[92]) rfl undDecls, ↓jc8]
   refine j6u (D := D) (Rst := R) (bd := H1.next) (m := 14) C x0 (by omega) ?_ ?_ ?_ (itemD z) N (by show 14 < N; have := C.P.big; omega) [] (j := 0) rfl (y44 C) g2 lv1 r1 (by show R1.wl + 14 ≤ 250; omega) (by rfl) (by decide) (Nat.lt_succ_self _) (fun h => by have := g1.rd.lt _ h; omega) (by simpa [dCs] using hrow1) ?_ ho
   · intro E' H2 R2 v ev g3 lv3 r3 w3 ho3
     simp only [jn0, ji7]
     rw [← hF, ja4 (l := [.int .i64 (v : Int)]) (by simp (decide := true) [Tryz.f41, resE, ev])]
     refine hX _ ?_
     rw [ho3]
     exact ⟨_, _, _, rfl, rfl, g3, rfl, lv3, r3, w3⟩
   · intro E' H2 R2 ev g3 lv3 r3 w3 ho3
     obtain ⟨pe, H', c', f'⟩ := PanA.out (j8g (D := D) C.P g3.rd (by omega))
     simp only [jt9, jc4]
     simp (decide := true) only [↓uR.o, dG.o, ja1, reduceIte, ↓ja0 l13, je5, ev, jc0 Tryz.func23 rfl rfl c', dH.o]
     rw [← hF, jc5]
     refine hX _ ?_
     rw [ho3]
     exact f' x0 g3
   · intro E' H' pe e h' ho3
     simp only [jn2, jh5]
     rw [← hF, jc5]
     refine hX _ ?_
     rw [ho3]
     exact h'
   · exact ⟨by simp (decide := true) only [ja1, reduceIte, jd4], rfl, by simp (decide := true) only [ja1, reduceIte] <;> rfl, by simp (decide := true) only [ja1, reduceIte] <;> rfl⟩
def ownP (z : Pz) (p : PS) : Option (Ou Nat) := if p.k.kind = 37 then none else onlyP z 1 (itemD z) p
theorem code22 : codeOf Tryz.f22 = .seq (rF Tryz.f22 0) (.seq (.seq (rF Tryz.f22 1) (.cond (.tmp 4) (.seq (rF Tryz.f22 2) .ret) .skip)) (.seq (rF Tryz.f22 3) .ret)) := by kernel_rfl
theorem y6z {N : Nat} {hk : Hook} {D d0 nn : Nat} {a : Option Addr} {c b : Nat} {z : Pz} {H : Heap} {R : RS} {o : Ou Nat} (C : Cz N hk z nn d0) (x0 : Rd a c z.s b H R) (lv : Lv R.ps) (hw : R.wl < 100) (hD : d0 + 2 * nn + 80 ≤ D) (ho : ownP z R.ps = some o) :
   An a c z.s b H R (CH N hk D 22 #[.pointer (some ⟨b, 0, none⟩)] H) 1 vN o := by
 obtain ⟨D, rfl⟩ : ∃ y, D = y + 1 := ⟨D - 1, by omega⟩
 have hh := C.P.hh
 suffices main : ∀ X : Am.R → Prop, (∀ r, An a c z.s b H R r 1 vN o → X r) → X (CH N hk (D + 1) 22 #[.pointer (some ⟨b, 0, none⟩)] H) from main _ fun _ h => h
 intro X hX
 have hU := jb8 (P := PP) (okf := okC) (prf := prS) (X := XX) (N := N) (hk := hk) (d := D) (args := #[.pointer (some ⟨b, 0, none⟩)]) (H := H) (hh _ _ _ rfl) Tryz.func22 (c := codeOf Tryz.f22) rfl rfl rfl (pr := noPr) rfl
 rw [code22] at hU
 generalize hF : finG PP okC prS XX (CH N hk (D)) N Tryz.f22 = F at hU
 refine Eq.mpr (congrArg X hU) ?_
 have lL := lX4 Tryz.f22 0 1 2 3
 conv at lL in (occs := *) (rgnX _ _) => all_goals simp only [rX, opsAt, Tryz.f22, dL.o, reduceIte, Nat.reduceEqDiff]
 obtain ⟨l0, l1, l2, l3⟩ := lL
 obtain ⟨H1, R1, _, c1, rfl, g1, p1, lv1, r1, w1⟩ := jx0 (D := D) C.P x0 lv (by omega) 37 (by omega)
 have kk1 := j2y p1
 rw [← p1] at ho lv1
 unfold ownP at ho
 by_cases hk1 : R1.k.kind = 37
 · have z1 : (R.k.kind == 37) = true := by rw [← kk1.2.2.1, hk1]; rfl
   rw [z1] at c1
   rw [if_pos (show R1.ps.k.kind = 37 from hk1)] at ho
   cases ho
 · have z1 : (R.k.kind == 37) = false := by rw [← kk1.2.2.1]; simp [hk1]
   rw [z1] at c1
   rw [if_neg (show ¬ R1.ps.k.kind = 37 from hk1)] at ho
   have A := ys6 (D := D) C g1.rd lv1 (by omega) (by omega) ho
   cases o with
   | er e =>
     obtain ⟨pe, H', c', f'⟩ := PanA.out A
     simp (decide := true) only [↓uR.o, dG.o, ja1, reduceIte, ↓ja0 l0, ↓ja0 l1, ↓ja0 l3, ja3 Tryz.func38 rfl rfl c1, jc0 Tryz.func41 rfl rfl c', je5, dH.o]
     rw [← hF, jc5]
     exact hX _ (f' x0 g1)
   | ok v q =>
     obtain ⟨H2, R2, _, c2, rfl, g2, rfl, lv2, r2, w2⟩ := A
     simp (decide := true) only [↓uR.o, dG.o, ja1, reduceIte, ↓ja0 l0, ↓ja0 l1, ↓ja0 l3, ja3 Tryz.func38 rfl rfl c1, ja3 Tryz.func41 rfl rfl c2]
     rw [← hF, ja4 (l := [.int .i64 (v : Int)]) (by simp (decide := true) [Tryz.f22, resE, ja1])]
     exact hX _ ⟨_, _, _, rfl, rfl, g1.trans x0 g2, rfl, lv2, r1.trans r2, w2⟩
def KyF {α : Type} (s : List UInt8) (p : PS) (x : Option (Ou α)) : Prop := Wf s p → ∀ v q, x = some (.ok v q) → Ky s p q
structure Zk (z : Pz) (nn : Nat) : Prop where
 ex : z.ex = exprP z.s nn
 kr : ∀ kd, KR z.s (z.ru kd)
section
variable {s : List UInt8} {α β : Type}
theorem KyF.ok (p : PS) (v : α) (w' : True) : KyF s p (some (.ok v p)) := fun w v q h => by injection h with h; injection h with _ h; rw [← h]; exact .refl w
theorem KyF.er (p : PS) (e : Er) (w' : True) : KyF s p (some (.er e) : Option (Ou α)) := fun w v q h => by injection h with h; cases h
theorem KyF.next (p : PS) (v : α) (w' : True) : KyF s p (some (.ok v (nextP s p))) := fun w v q h => by injection h with h; injection h with _ h; rw [← h]; exact j4y w
theorem KyF.bind {p : PS} {x : Option (Ou α)} {f : α → PS → Option (Ou β)} (hx : KyF s p x) (hf : ∀ v q, KyF s q (f v q)) : KyF s p (bindM x f) := fun w v q h => by
 obtain ⟨v1, p1, h1, h⟩ := jd6 h
 have y := hx w _ _ h1
 exact y.trans (hf v1 p1 y.wf _ _ h)
theorem KyF.ite {p : PS} {c : Prop} [Decidable c] {x y : Option (Ou α)} (hx : KyF s p x) (hy : KyF s p y) : KyF s p (if c then x else y) := by split <;> assumption
theorem KyF.must (s : List UInt8) (k : Int) (p : PS) : KyF s p (mustP s k p) := fun w _ _ h => y4x w h
theorem KyF.take (s : List UInt8) (k : Int) (p : PS) : KyF s p (takeP s k p) := fun w _ _ h => y4y w h
theorem KyF.word (s : List UInt8) (p : PS) : KyF s p (wordP s p) := fun w _ _ h => yr8 w h
theorem KyF.ref {z : Pz} {nn : Nat} (Z : Zk z nn) (p : PS) : KyF z.s p (refP z.s z.ex z.m p) := fun w _ _ h => by rw [Z.ex] at h; exact y6v w h
theorem KyF.exE {z : Pz} {nn : Nat} (Z : Zk z nn) (p : PS) (it : It) : KyF z.s p (exE z p it) := fun w _ _ h => y6w Z.ex w h
theorem KyF.ex {z : Pz} {nn : Nat} (Z : Zk z nn) (p : PS) : KyF z.s p (z.ex 0 p) := fun w _ _ h => by rw [Z.ex] at h; exact (jk8 z.s nn 0 _ _ _ w h).y
theorem KyF.block {z : Pz} {nn : Nat} (Z : Zk z nn) (kd : Nat) (p : PS) : KyF z.s p (blockP z.s (z.ru kd) z.m p) := fun w _ _ h => y1e (Z.kr kd) w h
end
theorem j8j {z : Pz} {nn : Nat} (Z : Zk z nn) (p : PS) (it : It) : KyF z.s p (pickP z p it) := by
 unfold pickP
 repeat' first
   | exact KyF.ok _ _ trivial
   | exact KyF.er _ _ trivial
   | exact KyF.next _ _ trivial
   | exact KyF.must _ _ _
   | exact KyF.take _ _ _
   | exact KyF.word _ _
   | exact KyF.ref Z _
   | exact KyF.exE Z _ _
   | exact KyF.ex Z _
   | exact KyF.block Z _ _
   | refine KyF.bind ?_ fun _ _ => ?_
   | refine KyF.ite ?_ ?_
theorem yb0 {s : List UInt8} {kind : Int} {p q : PS} {k : Nat} (w : Wf s p) (hk : p.k.kind ≠ 0) (h : beginP s kind p = some (.ok k q)) : Ky s p q ∧ p.at_ < q.at_ := by
 unfold beginP at h
 injection h with h; injection h with _ h
 subst h
 have n := ju5 (s := s) (p := addIt p (it0 kind p.at_)) w.len
 have r := jb0 s (addIt p (it0 kind p.at_))
 have ht := w.tok hk
 have l1 : p.to_ ≤ (nextP s (addIt p (it0 kind p.at_))).at_ := n.2
 refine ⟨⟨n.1, by omega, ?_, by rw [r.1]; rfl⟩, by omega⟩
 rw [r.2.1]
 show p.its.length ≤ (p.its ++ [_]).length
 simp
theorem y2y {s : List UInt8} {p q : PS} {k : Nat} {it : It} (h : Ky s p q) : Ky s p (setIt q k it) := ⟨⟨h.wf.tok, h.wf.le, h.wf.len⟩, h.le, by show p.its.length ≤ (q.its.set k it).length; rw [List.length_set]; exact h.its, h.opened⟩
theorem yb1 {z : Pz} : ∀ (l : List Dcl) (_ : ∀ d ∈ l, d.word ≠ 0 ∧ ∀ p it, KyF z.s p (d.F p it)) (p : PS) (v : Nat) (q : PS), Wf z.s p → declsP z l p = some (.ok v q) → Ky z.s p q ∧ p.at_ < q.at_
 | [], _, p, v, q, w, h => by injection h with h; cases h
 | d :: l, hl, p, v, q, w, h => by
   unfold declsP at h
   split at h
   · rename_i hk
     obtain ⟨k, p1, h1, h⟩ := jd6 h
     obtain ⟨it, p2, h2, h⟩ := jd6 h
     injection h with h; injection h with _ h
     have hd := hl d (by simp)
     have y := yb0 w (by rw [hk]; exact hd.1) h1
     have y2 := y.1.trans (hd.2 p1 _ y.1.wf _ _ h2)
     rw [← h]
     refine ⟨y2y y2, ?_⟩
     show p.at_ < p2.at_
     have := (hd.2 p1 _ y.1.wf _ _ h2).le
     omega
   · exact yb1 l (fun d hd => hl d (by simp [hd])) p v q w h
def KyB (s : List UInt8) (p : PS) (x : Option (Ou (Option Nat))) : Prop := Wf s p → ∀ v q, x = some (.ok v q) → Ky s p q ∧ (v.isSome = true → p.at_ < q.at_)
theorem KyB.of {s : List UInt8} {p : PS} {kind : Int} {f : Nat → PS → Option (Ou (Option Nat))} (hk : p.k.kind ≠ 0) (hf : ∀ v q, KyF s q (f v q)) : KyB s p (bindM (beginP s kind p) f) := fun w v q h => by
 obtain ⟨k, p1, h1, h⟩ := jd6 h
 have y := yb0 w hk h1
 have y2 := hf k p1 y.1.wf _ _ h
 exact ⟨y.1.trans y2, fun _ => by have := y2.le; omega⟩
theorem KyF.set {s : List UInt8} {α : Type} (p : PS) (v : α) (k : Nat) (it : It) : KyF s p (some (.ok v (setIt p k it))) := fun w v q h => by injection h with h; injection h with _ h; rw [← h]; exact y2y (.refl w)
theorem y1i {z : Pz} {nn : Nat} (Z : Zk z nn) (kd : Nat) (p : PS) : KyB z.s p (innerP z kd p) := by
 unfold innerP innerW
 split
 · rename_i h
   intro w v q h
   cases h
 · split
   · rename_i h
     refine KyB.of (by rw [h]; decide) fun k q => ?_
     exact .bind (.ex Z _) fun _ _ => .bind (.must _ _ _) fun _ _ => .set _ _ _ _
   · split
     · rename_i h
       refine KyB.of (by rw [h]; decide) fun k q => ?_
       exact .bind (.word _ _) fun _ _ => .bind (.must _ _ _) fun _ _ => .bind (.exE Z _ _) fun _ _ => .bind (.must _ _ _) fun _ _ => .bind (.exE Z _ _) fun _ _ => .bind (.block Z _ _) fun _ _ => .set _ _ _ _
     · split
       · rename_i h
         refine KyB.of (by rw [h]; decide) fun k q => ?_
         exact .bind (.ex Z _) fun _ _ => .bind (.block Z _ _) fun _ _ => .bind (.take _ _ _) fun _ _ => .ite (fun _ _ _ h => by cases h) (.set _ _ _ _)
       · intro w v q h
         injection h with h; injection h with h1 h
         subst h1
         rw [← h]
         exact ⟨.refl w, fun h => by cases h⟩
theorem y45 {z : Pz} {nn : Nat} (Z : Zk z nn) (kd : Nat) {l : List Dcl} (hl : ∀ d ∈ l, d.word ≠ 0 ∧ ∀ p it, KyF z.s p (d.F p it)) : KR z.s (onlyP z kd l) := fun p v q w h => by
 unfold onlyP at h
 obtain ⟨k, p1, h1, h⟩ := jd6 h
 have y := y1i Z kd p w _ _ h1
 cases k with
 | some k =>
   injection h with h; injection h with _ h
   rw [← h]
   exact ⟨y.1, y.2 rfl⟩
 | none =>
   have y2 := yb1 l hl p1 v q y.1.wf h
   exact ⟨y.1.trans y2.1, by have := y.1.le; omega⟩
theorem ys7 {z : Pz} {nn : Nat} (Z : Zk z nn) : KR z.s (onlyP z 1 (itemD z)) := y45 Z 1 fun d h => by
 simp only [itemD, List.mem_cons, List.not_mem_nil, or_false] at h
 rcases h with rfl | rfl | rfl | rfl | rfl | rfl | rfl | rfl | rfl | rfl | rfl | rfl | rfl | rfl
 · exact ⟨(by show (38 : Int) ≠ 0; decide), fun _ _ _ _ _ h => by cases h⟩
 · exact ⟨(by show (39 : Int) ≠ 0; decide), fun _ _ _ _ _ h => by cases h⟩
 · exact ⟨(by show (41 : Int) ≠ 0; decide), fun _ _ _ _ _ h => by cases h⟩
 · exact ⟨(by show (44 : Int) ≠ 0; decide), fun _ _ _ _ _ h => by cases h⟩
 · exact ⟨(by show (48 : Int) ≠ 0; decide), fun _ _ _ _ _ h => by cases h⟩
 · exact ⟨(by show (59 : Int) ≠ 0; decide), fun _ _ _ _ _ h => by cases h⟩
 · exact ⟨(by show (64 : Int) ≠ 0; decide), fun _ _ _ _ _ h => by cases h⟩
 · exact ⟨(by show (66 : Int) ≠ 0; decide), fun _ _ _ _ _ h => by cases h⟩
 · exact ⟨(by show (73 : Int) ≠ 0; decide), j8j Z⟩
 · exact ⟨(by show (63 : Int) ≠ 0; decide), j8j Z⟩
 · exact ⟨(by show (74 : Int) ≠ 0; decide), fun _ _ _ _ _ h => by cases h⟩
 · exact ⟨(by show (75 : Int) ≠ 0; decide), fun _ _ _ _ _ h => by cases h⟩
 · exact ⟨(by show (78 : Int) ≠ 0; decide), j8j Z⟩
 · exact ⟨(by show (79 : Int) ≠ 0; decide), fun _ _ _ _ _ h => by cases h⟩
theorem y60 {z : Pz} {nn : Nat} (Z : Zk z nn) : KR z.s (ownP z) := fun p v q w h => by
 unfold ownP at h
 split at h
 · cases h
 · exact ys7 Z p v q w h
def ruleP (z : Pz) : Nat → PS → Option (Ou Nat)
 | 0 => ownP z
 | 1 => onlyP z 1 (itemD z)
 | _ => fun _ => none
def ruP (s : List UInt8) (ex : Nat → PS → Option Ot) (m : Nat) : Nat → Nat → PS → Option (Ou Nat)
 | 0, _, _ => none
 | n + 1, kd, p => ruleP ⟨s, ex, m, ruP s ex m n⟩ kd p
theorem y46 {z : Pz} {nn : Nat} (Z : Zk z nn) : ∀ kd, KR z.s (ruleP z kd)
 | 0 => y60 Z
 | 1 => ys7 Z
 | _ + 2 => fun _ _ _ _ h => by cases h
theorem y1j (s : List UInt8) (nn m : Nat) : ∀ n kd, KR s (ruP s (exprP s nn) m n kd)
 | 0, _ => fun _ _ _ _ h => by cases h
 | n + 1, kd => y46 (z := ⟨s, exprP s nn, m, ruP s (exprP s nn) m n⟩) (nn := nn) ⟨rfl, y1j s nn m n⟩ kd
def dpt (nn : Nat) (n : Nat) : Nat := 100 + n * (2 * nn + 100)
theorem y47 {N : Nat} {hk : Hook} {d0 nn : Nat} {z : Pz} (C : Cz N hk z nn d0) {d : Nat} (hd : d0 + 2 * nn + 80 ≤ d) : ∀ kd, RuOk N hk z.s d (fnK kd) (ruleP z kd)
 | 0 => fun a c b H R D o x lv hw hD ho => y6z C x lv hw (by omega) ho
 | 1 => fun a c b H R D o x lv hw hD ho => ys6 C x lv (by omega) (by omega) ho
 | _ + 2 => fun _ _ _ _ _ _ _ _ _ _ _ ho => by cases ho
theorem y48 {N : Nat} {hk : Hook} {s : List UInt8} {nn m : Nat} (P : PK N hk) (hn : nn < N) (hm : m < N) : ∀ n kd, RuOk N hk s (dpt nn n) (fnK kd) (ruP s (exprP s nn) m n kd)
 | 0, _ => fun a c b H R D o x lv hw hD ho => by cases ho
 | n + 1, kd => by
   have C : Cz N hk ⟨s, exprP s nn, m, ruP s (exprP s nn) m n⟩ nn (dpt nn n) := ⟨P, rfl, y6q P nn hn, hm, y48 P hn hm n, y1j s nn m n⟩
   exact y47 C (d := dpt nn (n + 1)) (by unfold dpt; rw [Nat.add_mul]; omega) kd
def isL (l : List UInt8) (k : Int) : Bool := match l with | [] => false | u :: _ => clsI u == k
def isWL (l : List UInt8) : Bool := isL l 4 || isL l 3
theorem ys8 {p : UInt8 → Bool} (h : (List.range 256).all (fun n => p (UInt8.ofNat n)) = true) (u : UInt8) : p u = true := by
 have := List.all_eq_true.mp h u.toNat (List.mem_range.mpr u.toNat_lt)
 have e : UInt8.ofNat u.toNat = u := by simp
 rw [e] at this
 exact this
def wbB (u : UInt8) : Bool := isWL [u]
def legalI (w : List UInt8) : Bool := decide (1 ≤ w.length) && decide (w.length ≤ 32) && decide (clsI (w.headD 0) = 4) && decide (resI w = 0) && w.all wbB
end Go.Am
