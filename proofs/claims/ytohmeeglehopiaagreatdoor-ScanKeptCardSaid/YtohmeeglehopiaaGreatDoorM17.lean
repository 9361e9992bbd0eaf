/- What a book's functions do beside the run's own heap. -/
import Derived.Test.YtohmeeglehopiaaGreatDoorM16
import Derived.Test.YtohmeeglehopiaaGreatDoorM14
open Go.Proofs
namespace Go.Am
theorem RowS.uniq {H : Heap} {V : Value} {vs vs' : List Value} (h : RowS H V vs) (h' : RowS H V vs') : vs = vs' := by
 rcases h with ⟨rfl, rfl⟩ | ⟨r, o, rfl, h2, pre, h3, h4⟩
 · rcases h' with ⟨_, rfl⟩ | ⟨r, o, e, _⟩
   · rfl
   · cases e
 · rcases h' with ⟨e, rfl⟩ | ⟨r', o', e, h2', pre', h3', h4'⟩
   · cases e
   · injection e with e1 e2 e3
     injection e1 with e1
     injection e1 with e4 e5
     subst e4; subst e5
     rw [h4] at h4'
     have e6 := congrArg Blk.cells (Option.some.inj h4')
     exact (List.append_inj e6 (h3.trans h3'.symm)).2
def okB (t : Nat) (G : Heap) : Prop := if t = 0 then BkAtT G 14 else BkAtB G 14
def giveH (H : Heap) : Value → Heap
 | .slice (some a) _ _ => H.drop a.block
 | _ => H
theorem VRa.two {m : Mp} {a b : Value} {args : Array Value} (h : VRa m #[a, b] args) : ∃ x y, args = #[x, y] ∧ VR m a x ∧ VR m b y := by
 obtain ⟨l⟩ := args
 have h1 : VRs m [a, b] l := h.toList
 have hl : l.length = 2 := h1.1.symm
 obtain ⟨x, y, rfl⟩ : ∃ x y, l = [x, y] := by
   match l, hl with
   | [x, y], _ => exact ⟨x, y, rfl⟩
 exact ⟨x, y, rfl, h1.head, h1.tail.head⟩
theorem EndR.undef {m' : Mp} {e : Ending} (h : EndR m' (.ret Go.undef) e) (m : Mp) : EndR m (.ret Go.undef) e := by
 cases e with
 | returned v' =>
   have h : VR m' (.tuple #[]) v' := h
   cases h with
   | atom _ q => exact absurd q (by decide)
   | tuple _ xs' hx _ =>
     obtain rfl : xs' = #[] := Array.eq_empty_of_size_eq_zero hx.symm
     exact .tuple _ _ rfl fun i h => absurd h (Nat.not_lt_zero _)
 | panicked c => exact h.elim
 | outgrown => exact h.elim
theorem EndR.true {m' : Mp} {e : Ending} (h : EndR m' (.ret (.bool true)) e) (m : Mp) : EndR m (.ret (.bool true)) e := by
 cases e with
 | returned v' =>
   have h : VR m' (.bool Bool.true) v' := h
   obtain rfl := VR.eq_of_atomic h rfl
   exact .atom _ rfl
 | panicked c => exact h.elim
 | outgrown => exact h.elim
theorem VR.fun_nil {m : Mp} {f : Fn} {v : Value} (h : VR m (.func f #[] #[]) v) : v = .func f #[] #[] := by
 cases h with
 | atom _ h => cases h
 | func _ _ xs' _ ys' hx hy _ _ =>
   obtain rfl : xs' = #[] := Array.eq_empty_of_size_eq_zero hx.symm
   obtain rfl : ys' = #[] := Array.eq_empty_of_size_eq_zero hy.symm
   rfl
def RowVT (H : Heap) (v : Value) : Prop := v = .slice none 0 0 ∨ ∃ r n cs ex, v = .slice (some ⟨r, 0, none⟩) n n ∧ 0 < n ∧ n ≤ 1000000 ∧ TokC n cs ∧ H.get r = some ⟨cs, true, 5, none, ex⟩
theorem Tok.atomic {n : Nat} {cs : List Value} (h : TokC n cs) : ∀ v ∈ cs, Go.Am.atomic v = true := by
 obtain ⟨s, _, rfl⟩ := h
 intro v hv
 obtain ⟨t, _, ht⟩ := List.mem_flatMap.mp hv
 simp only [Tk.cells, List.mem_cons, List.not_mem_nil, or_false] at ht
 rcases ht with rfl | rfl | rfl | rfl | rfl <;> rfl
theorem BkST.push {G : Heap} {b : Nat} {V W : Value} {h : Int} {vs ws : List Value} (B : BkST G b V W h vs ws) (hf : Fresh G) (x : Blk) : BkST (G.push x) b V W h vs ws := by
 have kp : ∀ z y, G.get z = some y → (G.push x).get z = some y := fun z y h => by
   have := jl2 hf h
   rw [Heap.get_push, if_neg (by omega)]; exact h
 have rw1 : ∀ {V : Value} {vs : List Value}, RowS G V vs → RowS (G.push x) V vs := fun R => R.to fun z hz => by
   have := R.live hf hz
   rw [Heap.get_push, if_neg (by omega)]
 exact ⟨kp _ _ B.here, rw1 B.rv, rw1 B.rw_, B.vb, B.wb, B.vw, B.len, B.small, fun i v w hv hw => (B.two i v w hv hw).to fun z y h _ => kp z y h, B.apart⟩
theorem BkAtT.push {G : Heap} {b : Nat} (B : BkAtT G b) (hf : Fresh G) (x : Blk) : BkAtT (G.push x) b := by
 obtain ⟨V, W, h, vs, ws, B⟩ := B
 exact ⟨V, W, h, vs, ws, B.push hf x⟩
theorem BkST.uniq {G : Heap} {b : Nat} {V W V' W' : Value} {h h' : Int} {vs ws vs' ws' : List Value} (B : BkST G b V W h vs ws) (B' : BkST G b V' W' h' vs' ws') : vs = vs' := by
 have e := B.here.symm.trans B'.here
 obtain rfl : V = V' := by injection e with e; injection e with e; injection e
 exact B.rv.uniq B'.rv
section
variable {N : Nat} {hk : Hook} {d B0 : Nat} {m0 m : Mp} {G0 H : Heap} {w : World} {F : Nat → Mp × Heap} {b g : Nat}
theorem yh4 (hh : NH hk) (hN : 9223372036854775808 < N) (hC : KSnd PP (CG N hk (d + 5))) (f0 : F 0 = (m, H)) (f1 : F 1 = (m0, G0)) (fam : Fam PP B0 w F) (o : Open okB 14 m H F) (hg : H.get g = some (markB 0 b))
   {v : Value} (hv : RowVT H v) {args' : Array Value} (ha : VRa m #[.pointer (some ⟨b, 0, none⟩), v] args') :
   Calls PP 11 args' w fun e w' => ∃ m', EndR m' (.ret undef) e ∧ (sysB PP okB 14 B0 m0 G0).S m H w m' (giveH H v) w' := by
 obtain ⟨⟨L, q1, q2⟩, q3⟩ := o.at_ g b 0 (by decide) hg
 have q3 : BkAtT (F (2 * b + 0 + 2)).2 14 := q3
 generalize hk2 : 2 * b + 0 + 2 = k at q2 q3
 have k0 : (0 : Nat) ≠ k := by omega
 have k1 : (1 : Nat) ≠ k := by omega
 obtain ⟨x, y, rfl, hx, hy⟩ := VRa.two ha
 obtain rfl : x = .pointer (some ⟨L.c, L.base + 0, none⟩) := by
   cases hx with
   | atom _ h => cases h
   | ptr _ _ L' h => rw [q1] at h; obtain rfl := Option.some.inj h; rfl
 rcases hv with rfl | ⟨r, n, cs, ex, rfl, h1, h2, h3, h4⟩
 · obtain rfl : y = .slice none 0 0 := VR.eq_of_atomic hy rfl
   have frk : Fresh (F k).2 := fun z hz => ((fam.rel k).fresh z hz).2
   obtain ⟨G', e1, e2, e3⟩ := j18 (N := N) (d := d) hh q3 frk (.inl rfl) (fun V W h vs ws _ x _ z _ => by intro e; cases e) (by omega)
   have ha2 : VRa (F k).1 #[.pointer (some ⟨14, 0, none⟩), .slice none 0 0] #[.pointer (some ⟨L.c, L.base + 0, none⟩), .slice none 0 0] := (VRs.cons (.ptr 14 0 L q2) (VRs.cons (.atom _ rfl) (VRs.nil _))).toArray
   refine (hC _ _ _ _ _ e1 (F k).1 w _ (fam.rel k) (fam.gl k) ha2).mono fun e w' ⟨m', g1, g2⟩ => ⟨m, EndR.undef g1 m, ?_⟩
   have fam' := fam.run k g2
   have z0 : fput F k (m', G') 0 = (m, H) := by rw [ja8 k0]; exact f0
   refine ⟨by have := fam'.rel 0; rw [z0] at this; exact this, ⟨fput F k (m', G'), z0, by rw [ja8 k1]; exact f1, fam', ⟨fun g' b' t' ht' hg' => ?_⟩⟩, Mp.le_refl m, (fam.own k).below g2 fam.base⟩
   by_cases e : 2 * b' + t' + 2 = k
   · obtain ⟨rfl, rfl⟩ : b' = b ∧ t' = 0 := by omega
     rw [e, jc2]
     exact ⟨⟨L, q1, g2.later.1 _ _ q2⟩, e2⟩
   · rw [ja8 e]; exact o.at_ g' b' t' ht' hg'
 · obtain ⟨a', cap', L1, rfl, p1, p2, p3, p4, p5⟩ : ∃ a' cap' L1, y = .slice (some a') n cap' ∧ m r = some L1 ∧ n ≤ cap' ∧ a'.block = L1.c ∧ a'.spot = none ∧ (cap' = 0 ∨ (a'.off = L1.base + 0 ∧ a'.off + cap' * L1.es ≤ L1.e)) := by
     cases hy with
     | atom _ h => cases h
     | slice _ _ L1 a' _ _ cap' h hl hc hb hs hz => exact ⟨a', cap', L1, rfl, h, hc, hb.resolve_left (by omega), hs.resolve_left (by omega), hz⟩
   obtain ⟨p6, p7⟩ := p5.resolve_left (by omega)
   have h4' : (F 0).2.get r = some ⟨cs, true, 5, none, ex⟩ := by rw [f0]; exact h4
   have p1' : (F 0).1 r = some L1 := by rw [f0]; exact p1
   have les : L1.es = 5 := by
     obtain ⟨L2, u1, u2⟩ := (fam.rel 0).blk r _ h4'
     rw [p1'] at u1; obtain rfl := Option.some.inj u1
     exact u2.es
   have hl : cs.length = n * 5 := Tok.len h3
   obtain ⟨sp, s1, s2, fam2⟩ := fam.row k0 h4' rfl rfl (Tok.atomic h3) p1' (n := n) (c := cap') hl p2 (by rw [les] at p7; show L1.base + cap' * 5 ≤ L1.e; omega) (by show 0 < 5; decide) (by omega)
   have s1 : (cs ++ sp).length = cap' * 5 := s1
   generalize hF2 : fput (fput F 0 ((F 0).1, (F 0).2.drop r)) k ((F k).1.add (F k).2.next ⟨L1.c, L1.base, 5, L1.base + cap' * 5⟩, (F k).2.push ⟨cs ++ sp, true, 5, none, true⟩) = F2 at fam2
   have c0 : F2 0 = (m, H.drop r) := by rw [← hF2, ja8 k0, jc2, f0]
   have c1 : F2 1 = (m0, G0) := by rw [← hF2, ja8 k1, ja8 (by decide)]; exact f1
   have ck : F2 k = ((F k).1.add (F k).2.next ⟨L1.c, L1.base, 5, L1.base + cap' * 5⟩, (F k).2.push ⟨cs ++ sp, true, 5, none, true⟩) := by rw [← hF2, jc2]
   have co : ∀ j, j ≠ 0 → j ≠ k → F2 j = F j := fun j h0 hk => by rw [← hF2, ja8 hk, ja8 h0]
   have frk : Fresh (F k).2 := fun z hz => ((fam.rel k).fresh z hz).2
   have n14 : 14 ≠ (F k).2.next := by
     obtain ⟨V, W, h, vs, ws, B⟩ := q3
     have := jl2 frk B.here; omega
   have q2' : (F2 k).1 14 = some L := by rw [ck]; simp only [Mp.add, if_neg n14]; exact q2
   have q3' : BkAtT (F2 k).2 14 := by rw [ck]; exact q3.push frk _
   have frk2 : Fresh (F2 k).2 := fun z hz => ((fam2.rel k).fresh z hz).2
   have hgr : (F2 k).2.get (F k).2.next = some ⟨cs ++ sp, true, 5, none, true⟩ := by rw [ck]; show ((F k).2.push _).get _ = _; rw [Heap.get_push, if_pos rfl]
   have hnew : NewT (F2 k).2 (.slice (some ⟨(F k).2.next, 0, none⟩) n cap') := .inr ⟨_, n, cap', cs, sp, rfl, h1, p2, h2, s2, h3, s1, hgr⟩
   have hfar : ∀ V W h vs ws, BkST (F2 k).2 14 V W h vs ws → ∀ x ∈ vs, Far x (.slice (some ⟨(F k).2.next, 0, none⟩) n cap') := fun V W h vs ws B x hx z hz hz2 => by
     obtain rfl := Option.some.inj hz2
     have q4 := q3
     obtain ⟨V', W', h', vs', ws', B'⟩ := q4
     have e : vs = vs' := by
       have B2 := B'.push frk ⟨cs ++ sp, true, 5, none, true⟩
       rw [ck] at B
       exact B.uniq B2
     subst e
     obtain ⟨y, hy, _⟩ := (B'.news hx).id hz
     exact Nat.lt_irrefl _ (jl2 frk hy)
   obtain ⟨G', e1, e2, e3⟩ := j18 (N := N) (d := d) hh q3' frk2 hnew hfar (by omega)
   have hvr : VR (F2 k).1 (.slice (some ⟨(F k).2.next, 0, none⟩) n cap') (.slice (some a') n cap') := by
     refine .slice _ 0 ⟨L1.c, L1.base, 5, L1.base + cap' * 5⟩ a' n cap' cap' (by rw [ck]; simp only [Mp.add, if_pos]) p2 (Nat.le_refl _) (.inr p3) (.inr p4) (.inr ⟨p6, ?_⟩)
     show a'.off + cap' * 5 ≤ L1.base + cap' * 5
     omega
   have ha2 : VRa (F2 k).1 #[.pointer (some ⟨14, 0, none⟩), .slice (some ⟨(F k).2.next, 0, none⟩) n cap'] #[.pointer (some ⟨L.c, L.base + 0, none⟩), .slice (some a') n cap'] := (VRs.cons (.ptr 14 0 L q2') (VRs.cons hvr (VRs.nil _))).toArray
   refine (hC _ _ _ _ _ e1 (F2 k).1 w _ (fam2.rel k) (fam2.gl k) ha2).mono fun e w' ⟨m', g1, g2⟩ => ⟨m, EndR.undef g1 m, ?_⟩
   have fam' := fam2.run k g2
   have z0 : fput F2 k (m', G') 0 = (m, H.drop r) := by rw [ja8 k0]; exact c0
   refine ⟨by have := fam'.rel 0; rw [z0] at this; exact this, ⟨fput F2 k (m', G'), z0, by rw [ja8 k1]; exact c1, fam', ⟨fun g' b' t' ht' hg' => ?_⟩⟩, Mp.le_refl m, (fam2.own k).below g2 fam2.base⟩
   have hg' : (H.drop r).get g' = some (markB t' b') := hg'
   have hg2 : H.get g' = some (markB t' b') := by
     rw [Heap.get_drop] at hg'
     by_cases e : g' = r
     · rw [if_pos e] at hg'; cases hg'
     · rw [if_neg e] at hg'; exact hg'
   by_cases e : 2 * b' + t' + 2 = k
   · obtain ⟨rfl, rfl⟩ : b' = b ∧ t' = 0 := by omega
     rw [e, jc2]
     exact ⟨⟨L, q1, g2.later.1 _ _ q2'⟩, e2⟩
   · rw [ja8 e, co _ (by omega) e]; exact o.at_ g' b' t' ht' hg2
theorem yh5 (hh : NH hk) (hN : 9223372036854775808 < N) (hC : KSnd PP (CG N hk (d + 6))) (f0 : F 0 = (m, H)) (f1 : F 1 = (m0, G0)) (fam : Fam PP B0 w F) (o : Open okB 14 m H F) (hg : H.get g = some (markB 0 b))
   {args' : Array Value} (ha : VRa m #[.pointer (some ⟨b, 0, none⟩), .func (.func 19) #[] #[]] args') :
   Calls PP 18 args' w fun e w' => ∃ m', EndR m' (.ret (.bool true)) e ∧ (sysB PP okB 14 B0 m0 G0).S m H w m' H w' := by
 obtain ⟨⟨L, q1, q2⟩, q3⟩ := o.at_ g b 0 (by decide) hg
 have q3 : BkAtT (F (2 * b + 0 + 2)).2 14 := q3
 generalize hk2 : 2 * b + 0 + 2 = k at q2 q3
 have k0 : (0 : Nat) ≠ k := by omega
 have k1 : (1 : Nat) ≠ k := by omega
 obtain ⟨x, y, rfl, hx, hy⟩ := VRa.two ha
 obtain rfl : x = .pointer (some ⟨L.c, L.base + 0, none⟩) := by
   cases hx with
   | atom _ h => cases h
   | ptr _ _ L' h => rw [q1] at h; obtain rfl := Option.some.inj h; rfl
 obtain rfl : y = .func (.func 19) #[] #[] := VR.fun_nil hy
 have frk : Fresh (F k).2 := fun z hz => ((fam.rel k).fresh z hz).2
 obtain ⟨G', e1, e2, e3⟩ := j6l (N := N) (d := d) hh (yh1 hh) q3 frk hN
 have ha2 : VRa (F k).1 #[.pointer (some ⟨14, 0, none⟩), .func (.func 19) #[] #[]] #[.pointer (some ⟨L.c, L.base + 0, none⟩), .func (.func 19) #[] #[]] :=
   (VRs.cons (.ptr 14 0 L q2) (VRs.cons (.func _ _ _ _ _ rfl rfl (fun i h => absurd h (Nat.not_lt_zero _)) (fun i h => absurd h (Nat.not_lt_zero _))) (VRs.nil _))).toArray
 refine (hC _ _ _ _ _ e1 (F k).1 w _ (fam.rel k) (fam.gl k) ha2).mono fun e w' ⟨m', g1, g2⟩ => ⟨m, EndR.true g1 m, ?_⟩
 have fam' := fam.run k g2
 have z0 : fput F k (m', G') 0 = (m, H) := by rw [ja8 k0]; exact f0
 refine ⟨by have := fam'.rel 0; rw [z0] at this; exact this, ⟨fput F k (m', G'), z0, by rw [ja8 k1]; exact f1, fam', ⟨fun g' b' t' ht' hg' => ?_⟩⟩, Mp.le_refl m, (fam.own k).below g2 fam.base⟩
 by_cases e : 2 * b' + t' + 2 = k
 · obtain ⟨rfl, rfl⟩ : b' = b ∧ t' = 0 := by omega
   rw [e, jc2]
   exact ⟨⟨L, q1, g2.later.1 _ _ q2⟩, e2⟩
 · rw [ja8 e]; exact o.at_ g' b' t' ht' hg'
end
def RowVB (H : Heap) (v : Value) : Prop := v = .slice none 0 0 ∨ ∃ r n cs ex, v = .slice (some ⟨r, 0, none⟩) n n ∧ 0 < n ∧ n ≤ 1000000 ∧ ByteC n cs ∧ H.get r = some ⟨cs, true, 1, none, ex⟩
theorem Byte.atomic {n : Nat} {cs : List Value} (h : ByteC n cs) : ∀ v ∈ cs, Go.Am.atomic v = true := by
 obtain ⟨s, _, rfl⟩ := h
 intro v hv
 obtain ⟨u, _, rfl⟩ := List.mem_map.mp hv
 rfl
theorem BkSB.push {G : Heap} {b : Nat} {V W : Value} {h : Int} {vs ws : List Value} (B : BkSB G b V W h vs ws) (hf : Fresh G) (x : Blk) : BkSB (G.push x) b V W h vs ws := by
 have kp : ∀ z y, G.get z = some y → (G.push x).get z = some y := fun z y h => by
   have := jl2 hf h
   rw [Heap.get_push, if_neg (by omega)]; exact h
 have rw1 : ∀ {V : Value} {vs : List Value}, RowS G V vs → RowS (G.push x) V vs := fun R => R.to fun z hz => by
   have := R.live hf hz
   rw [Heap.get_push, if_neg (by omega)]
 exact ⟨kp _ _ B.here, rw1 B.rv, rw1 B.rw_, B.vb, B.wb, B.vw, B.len, B.small, fun i v w hv hw => (B.two i v w hv hw).to fun z y h _ => kp z y h, B.apart⟩
theorem BkAtB.push {G : Heap} {b : Nat} (B : BkAtB G b) (hf : Fresh G) (x : Blk) : BkAtB (G.push x) b := by
 obtain ⟨V, W, h, vs, ws, B⟩ := B
 exact ⟨V, W, h, vs, ws, B.push hf x⟩
theorem BkSB.uniq {G : Heap} {b : Nat} {V W V' W' : Value} {h h' : Int} {vs ws vs' ws' : List Value} (B : BkSB G b V W h vs ws) (B' : BkSB G b V' W' h' vs' ws') : vs = vs' := by
 have e := B.here.symm.trans B'.here
 obtain rfl : V = V' := by injection e with e; injection e with e; injection e
 exact B.rv.uniq B'.rv
section
variable {N : Nat} {hk : Hook} {d B0 : Nat} {m0 m : Mp} {G0 H : Heap} {w : World} {F : Nat → Mp × Heap} {b g : Nat}
theorem yh6 (hh : NH hk) (hN : 9223372036854775808 < N) (hC : KSnd PP (CG N hk (d + 5))) (f0 : F 0 = (m, H)) (f1 : F 1 = (m0, G0)) (fam : Fam PP B0 w F) (o : Open okB 14 m H F) (hg : H.get g = some (markB 1 b))
   {v : Value} (hv : RowVB H v) {args' : Array Value} (ha : VRa m #[.pointer (some ⟨b, 0, none⟩), v] args') :
   Calls PP 17 args' w fun e w' => ∃ m', EndR m' (.ret undef) e ∧ (sysB PP okB 14 B0 m0 G0).S m H w m' (giveH H v) w' := by
 obtain ⟨⟨L, q1, q2⟩, q3⟩ := o.at_ g b 1 (by decide) hg
 have q3 : BkAtB (F (2 * b + 1 + 2)).2 14 := q3
 generalize hk2 : 2 * b + 1 + 2 = k at q2 q3
 have k0 : (0 : Nat) ≠ k := by omega
 have k1 : (1 : Nat) ≠ k := by omega
 obtain ⟨x, y, rfl, hx, hy⟩ := VRa.two ha
 obtain rfl : x = .pointer (some ⟨L.c, L.base + 0, none⟩) := by
   cases hx with
   | atom _ h => cases h
   | ptr _ _ L' h => rw [q1] at h; obtain rfl := Option.some.inj h; rfl
 rcases hv with rfl | ⟨r, n, cs, ex, rfl, h1, h2, h3, h4⟩
 · obtain rfl : y = .slice none 0 0 := VR.eq_of_atomic hy rfl
   have frk : Fresh (F k).2 := fun z hz => ((fam.rel k).fresh z hz).2
   obtain ⟨G', e1, e2, e3⟩ := j19 (N := N) (d := d) hh q3 frk (.inl rfl) (fun V W h vs ws _ x _ z _ => by intro e; cases e) (by omega)
   have ha2 : VRa (F k).1 #[.pointer (some ⟨14, 0, none⟩), .slice none 0 0] #[.pointer (some ⟨L.c, L.base + 0, none⟩), .slice none 0 0] := (VRs.cons (.ptr 14 0 L q2) (VRs.cons (.atom _ rfl) (VRs.nil _))).toArray
   refine (hC _ _ _ _ _ e1 (F k).1 w _ (fam.rel k) (fam.gl k) ha2).mono fun e w' ⟨m', g1, g2⟩ => ⟨m, EndR.undef g1 m, ?_⟩
   have fam' := fam.run k g2
   have z0 : fput F k (m', G') 0 = (m, H) := by rw [ja8 k0]; exact f0
   refine ⟨by have := fam'.rel 0; rw [z0] at this; exact this, ⟨fput F k (m', G'), z0, by rw [ja8 k1]; exact f1, fam', ⟨fun g' b' t' ht' hg' => ?_⟩⟩, Mp.le_refl m, (fam.own k).below g2 fam.base⟩
   by_cases e : 2 * b' + t' + 2 = k
   · obtain ⟨rfl, rfl⟩ : b' = b ∧ t' = 1 := by omega
     rw [e, jc2]
     exact ⟨⟨L, q1, g2.later.1 _ _ q2⟩, e2⟩
   · rw [ja8 e]; exact o.at_ g' b' t' ht' hg'
 · obtain ⟨a', cap', L1, rfl, p1, p2, p3, p4, p5⟩ : ∃ a' cap' L1, y = .slice (some a') n cap' ∧ m r = some L1 ∧ n ≤ cap' ∧ a'.block = L1.c ∧ a'.spot = none ∧ (cap' = 0 ∨ (a'.off = L1.base + 0 ∧ a'.off + cap' * L1.es ≤ L1.e)) := by
     cases hy with
     | atom _ h => cases h
     | slice _ _ L1 a' _ _ cap' h hl hc hb hs hz => exact ⟨a', cap', L1, rfl, h, hc, hb.resolve_left (by omega), hs.resolve_left (by omega), hz⟩
   obtain ⟨p6, p7⟩ := p5.resolve_left (by omega)
   have h4' : (F 0).2.get r = some ⟨cs, true, 1, none, ex⟩ := by rw [f0]; exact h4
   have p1' : (F 0).1 r = some L1 := by rw [f0]; exact p1
   have les : L1.es = 1 := by
     obtain ⟨L2, u1, u2⟩ := (fam.rel 0).blk r _ h4'
     rw [p1'] at u1; obtain rfl := Option.some.inj u1
     exact u2.es
   have hl : cs.length = n * 1 := Byte.len h3
   obtain ⟨sp, s1, s2, fam2⟩ := fam.row k0 h4' rfl rfl (Byte.atomic h3) p1' (n := n) (c := cap') hl p2 (by rw [les] at p7; show L1.base + cap' * 1 ≤ L1.e; omega) (by show 0 < 1; decide) (by omega)
   have s1 : (cs ++ sp).length = cap' * 1 := s1
   generalize hF2 : fput (fput F 0 ((F 0).1, (F 0).2.drop r)) k ((F k).1.add (F k).2.next ⟨L1.c, L1.base, 1, L1.base + cap' * 1⟩, (F k).2.push ⟨cs ++ sp, true, 1, none, true⟩) = F2 at fam2
   have c0 : F2 0 = (m, H.drop r) := by rw [← hF2, ja8 k0, jc2, f0]
   have c1 : F2 1 = (m0, G0) := by rw [← hF2, ja8 k1, ja8 (by decide)]; exact f1
   have ck : F2 k = ((F k).1.add (F k).2.next ⟨L1.c, L1.base, 1, L1.base + cap' * 1⟩, (F k).2.push ⟨cs ++ sp, true, 1, none, true⟩) := by rw [← hF2, jc2]
   have co : ∀ j, j ≠ 0 → j ≠ k → F2 j = F j := fun j h0 hk => by rw [← hF2, ja8 hk, ja8 h0]
   have frk : Fresh (F k).2 := fun z hz => ((fam.rel k).fresh z hz).2
   have n14 : 14 ≠ (F k).2.next := by
     obtain ⟨V, W, h, vs, ws, B⟩ := q3
     have := jl2 frk B.here; omega
   have q2' : (F2 k).1 14 = some L := by rw [ck]; simp only [Mp.add, if_neg n14]; exact q2
   have q3' : BkAtB (F2 k).2 14 := by rw [ck]; exact q3.push frk _
   have frk2 : Fresh (F2 k).2 := fun z hz => ((fam2.rel k).fresh z hz).2
   have hgr : (F2 k).2.get (F k).2.next = some ⟨cs ++ sp, true, 1, none, true⟩ := by rw [ck]; show ((F k).2.push _).get _ = _; rw [Heap.get_push, if_pos rfl]
   have hnew : NewB (F2 k).2 (.slice (some ⟨(F k).2.next, 0, none⟩) n cap') := .inr ⟨_, n, cap', cs, sp, rfl, h1, p2, h2, s2, h3, s1, hgr⟩
   have hfar : ∀ V W h vs ws, BkSB (F2 k).2 14 V W h vs ws → ∀ x ∈ vs, Far x (.slice (some ⟨(F k).2.next, 0, none⟩) n cap') := fun V W h vs ws B x hx z hz hz2 => by
     obtain rfl := Option.some.inj hz2
     have q4 := q3
     obtain ⟨V', W', h', vs', ws', B'⟩ := q4
     have e : vs = vs' := by
       have B2 := B'.push frk ⟨cs ++ sp, true, 1, none, true⟩
       rw [ck] at B
       exact B.uniq B2
     subst e
     obtain ⟨y, hy, _⟩ := (B'.news hx).id hz
     exact Nat.lt_irrefl _ (jl2 frk hy)
   obtain ⟨G', e1, e2, e3⟩ := j19 (N := N) (d := d) hh q3' frk2 hnew hfar (by omega)
   have hvr : VR (F2 k).1 (.slice (some ⟨(F k).2.next, 0, none⟩) n cap') (.slice (some a') n cap') := by
     refine .slice _ 0 ⟨L1.c, L1.base, 1, L1.base + cap' * 1⟩ a' n cap' cap' (by rw [ck]; simp only [Mp.add, if_pos]) p2 (Nat.le_refl _) (.inr p3) (.inr p4) (.inr ⟨p6, ?_⟩)
     show a'.off + cap' * 1 ≤ L1.base + cap' * 1
     omega
   have ha2 : VRa (F2 k).1 #[.pointer (some ⟨14, 0, none⟩), .slice (some ⟨(F k).2.next, 0, none⟩) n cap'] #[.pointer (some ⟨L.c, L.base + 0, none⟩), .slice (some a') n cap'] := (VRs.cons (.ptr 14 0 L q2') (VRs.cons hvr (VRs.nil _))).toArray
   refine (hC _ _ _ _ _ e1 (F2 k).1 w _ (fam2.rel k) (fam2.gl k) ha2).mono fun e w' ⟨m', g1, g2⟩ => ⟨m, EndR.undef g1 m, ?_⟩
   have fam' := fam2.run k g2
   have z0 : fput F2 k (m', G') 0 = (m, H.drop r) := by rw [ja8 k0]; exact c0
   refine ⟨by have := fam'.rel 0; rw [z0] at this; exact this, ⟨fput F2 k (m', G'), z0, by rw [ja8 k1]; exact c1, fam', ⟨fun g' b' t' ht' hg' => ?_⟩⟩, Mp.le_refl m, (fam2.own k).below g2 fam2.base⟩
   have hg' : (H.drop r).get g' = some (markB t' b') := hg'
   have hg2 : H.get g' = some (markB t' b') := by
     rw [Heap.get_drop] at hg'
     by_cases e : g' = r
     · rw [if_pos e] at hg'; cases hg'
     · rw [if_neg e] at hg'; exact hg'
   by_cases e : 2 * b' + t' + 2 = k
   · obtain ⟨rfl, rfl⟩ : b' = b ∧ t' = 1 := by omega
     rw [e, jc2]
     exact ⟨⟨L, q1, g2.later.1 _ _ q2'⟩, e2⟩
   · rw [ja8 e, co _ (by omega) e]; exact o.at_ g' b' t' ht' hg2
theorem yh7 (hh : NH hk) (hN : 9223372036854775808 < N) (hC : KSnd PP (CG N hk (d + 6))) (f0 : F 0 = (m, H)) (f1 : F 1 = (m0, G0)) (fam : Fam PP B0 w F) (o : Open okB 14 m H F) (hg : H.get g = some (markB 1 b))
   {args' : Array Value} (ha : VRa m #[.pointer (some ⟨b, 0, none⟩), .func (.func 21) #[] #[]] args') :
   Calls PP 20 args' w fun e w' => ∃ m', EndR m' (.ret (.bool true)) e ∧ (sysB PP okB 14 B0 m0 G0).S m H w m' H w' := by
 obtain ⟨⟨L, q1, q2⟩, q3⟩ := o.at_ g b 1 (by decide) hg
 have q3 : BkAtB (F (2 * b + 1 + 2)).2 14 := q3
 generalize hk2 : 2 * b + 1 + 2 = k at q2 q3
 have k0 : (0 : Nat) ≠ k := by omega
 have k1 : (1 : Nat) ≠ k := by omega
 obtain ⟨x, y, rfl, hx, hy⟩ := VRa.two ha
 obtain rfl : x = .pointer (some ⟨L.c, L.base + 0, none⟩) := by
   cases hx with
   | atom _ h => cases h
   | ptr _ _ L' h => rw [q1] at h; obtain rfl := Option.some.inj h; rfl
 obtain rfl : y = .func (.func 21) #[] #[] := VR.fun_nil hy
 have frk : Fresh (F k).2 := fun z hz => ((fam.rel k).fresh z hz).2
 obtain ⟨G', e1, e2, e3⟩ := j6m (N := N) (d := d) (zf := zfB) hh (j9p hh) q3 frk hN
 have ha2 : VRa (F k).1 #[.pointer (some ⟨14, 0, none⟩), .func (.func 21) #[] #[]] #[.pointer (some ⟨L.c, L.base + 0, none⟩), .func (.func 21) #[] #[]] :=
   (VRs.cons (.ptr 14 0 L q2) (VRs.cons (.func _ _ _ _ _ rfl rfl (fun i h => absurd h (Nat.not_lt_zero _)) (fun i h => absurd h (Nat.not_lt_zero _))) (VRs.nil _))).toArray
 refine (hC _ _ _ _ _ e1 (F k).1 w _ (fam.rel k) (fam.gl k) ha2).mono fun e w' ⟨m', g1, g2⟩ => ⟨m, EndR.true g1 m, ?_⟩
 have fam' := fam.run k g2
 have z0 : fput F k (m', G') 0 = (m, H) := by rw [ja8 k0]; exact f0
 refine ⟨by have := fam'.rel 0; rw [z0] at this; exact this, ⟨fput F k (m', G'), z0, by rw [ja8 k1]; exact f1, fam', ⟨fun g' b' t' ht' hg' => ?_⟩⟩, Mp.le_refl m, (fam.own k).below g2 fam.base⟩
 by_cases e : 2 * b' + t' + 2 = k
 · obtain ⟨rfl, rfl⟩ : b' = b ∧ t' = 1 := by omega
   rw [e, jc2]
   exact ⟨⟨L, q1, g2.later.1 _ _ q2⟩, e2⟩
 · rw [ja8 e]; exact o.at_ g' b' t' ht' hg'
end
end Go.Am
namespace Go.Am
variable {G : Heap} {b : Nat}
def nilB : Blk := bkB (.slice none 0 0) (.slice none 0 0) 0
def Marked (t b : Nat) (H : Heap) : Prop := ∃ g, H.get g = some (markB t b)
def Opens (t b : Nat) (H : Heap) : Prop := Marked t b H ∨ (H.get b = some nilB ∧ ∃ x, H.get 0 = some x ∧ x.rw = false ∧ x.o = none)
open Classical in
noncomputable def opn (t b : Nat) (H : Heap) : Heap := if Marked t b H then H else (H.drop b).push (markB t b)
theorem Lies.plain {m m' : Mp} {w : World} {x : Blk} {L : Loc} (h : Lies m w x L) (ho : x.o = none) (hat : ∀ v ∈ x.cells, atomic v = true) : Lies m' w x L := by
 refine ⟨h.es, h.fits, fun _ => ?_, fun o e => ?_, h.sp, h.full⟩
 · obtain ⟨cs, t, fz, h1, h2, h3, h4⟩ := h.ex ho
   refine ⟨cs, t, fz, h1, h2, fun i a b => ?_, h4⟩
   have ha := hat _ (List.getElem_mem a)
   rw [VR.eq_of_atomic (h3 i a b) ha]
   exact .atom _ ha
 · rw [ho] at e; cases e
theorem BkAtT.nil (h : G.get b = some nilB) : BkAtT G b :=
 ⟨_, _, _, [], [], h, .inl ⟨rfl, rfl⟩, .inl ⟨rfl, rfl⟩, (fun e => nomatch e), (fun e => nomatch e), (fun z e => nomatch e), rfl, Nat.zero_le _, (fun i v w e => nomatch e), .nil⟩
theorem BkAtB.nil (h : G.get b = some nilB) : BkAtB G b :=
 ⟨_, _, _, [], [], h, .inl ⟨rfl, rfl⟩, .inl ⟨rfl, rfl⟩, (fun e => nomatch e), (fun e => nomatch e), (fun z e => nomatch e), rfl, Nat.zero_le _, (fun i v w e => nomatch e), .nil⟩
theorem okB.nil {t : Nat} (h : G.get 14 = some nilB) : okB t G := by
 unfold okB
 split
 · exact .nil h
 · exact .nil h
theorem yh8 {B0 : Nat} {m0 m : Mp} {G0 H : Heap} {w : World} {F : Nat → Mp × Heap} {t : Nat} (hn : ∀ z, G0.get z = none) (hx : G0.next = 14) (ht : t < 2) (f0 : F 0 = (m, H)) (f1 : F 1 = (m0, G0)) (fam : Fam PP B0 w F) (o : Open okB 14 m H F) (ho : Opens t b H) :
   ∃ m1 F', m.le m1 ∧ F' 0 = (m1, opn t b H) ∧ F' 1 = (m0, G0) ∧ Fam PP B0 w F' ∧ Open okB 14 m1 (opn t b H) F' ∧ Marked t b (opn t b H) := by
 by_cases hm : Marked t b H
 · have e : opn t b H = H := if_pos hm
   rw [e]
   exact ⟨m, F, Mp.le_refl m, f0, f1, fam, o, hm⟩
 · have e : opn t b H = (H.drop b).push (markB t b) := if_neg hm
   rw [e]
   obtain ⟨hb, x, h0, hrw, hobj⟩ := ho.resolve_left hm
   generalize hk : 2 * b + t + 2 = k
   have k0 : (0 : Nat) ≠ k := by omega
   have k1 : (1 : Nat) ≠ k := by omega
   have fam2 := fam.clean 1 k (by rw [f1]; exact hn)
   have c0 : fput F k (F 1) 0 = (m, H) := by rw [ja8 k0]; exact f0
   have c1 : fput F k (F 1) 1 = (m0, G0) := by rw [ja8 k1]; exact f1
   have ck : fput F k (F 1) k = (m0, G0) := by rw [jc2]; exact f1
   have co : ∀ j, j ≠ k → fput F k (F 1) j = F j := fun j hj => ja8 hj
   generalize fput F k (F 1) = F2 at *
   have hR0 := fam2.rel 0
   rw [c0] at hR0
   obtain ⟨L, q1, q2⟩ := hR0.blk b _ hb
   have fam3 := fam2.give k0 (i := b) (x := nilB) (x2 := nilB) (L := L) (L2 := L) (by rw [c0]; exact hb) rfl (by rw [c0]; exact q1) rfl
     (by rw [ck]; exact q2.plain rfl fun v hv => by simp only [nilB, bkB, List.mem_cons, List.not_mem_nil, or_false] at hv; rcases hv with rfl | rfl | rfl | rfl <;> rfl)
   have d0 : fput (fput F2 0 ((F2 0).1, (F2 0).2.drop b)) k ((F2 k).1.add (F2 k).2.next L, (F2 k).2.push nilB) 0 = (m, H.drop b) := by rw [ja8 k0, jc2, c0]
   have d1 : fput (fput F2 0 ((F2 0).1, (F2 0).2.drop b)) k ((F2 k).1.add (F2 k).2.next L, (F2 k).2.push nilB) 1 = (m0, G0) := by rw [ja8 k1, ja8 (by decide)]; exact c1
   have dk : fput (fput F2 0 ((F2 0).1, (F2 0).2.drop b)) k ((F2 k).1.add (F2 k).2.next L, (F2 k).2.push nilB) k = (m0.add 14 L, G0.push nilB) := by rw [jc2, ck, hx]
   have dd : ∀ j, j ≠ 0 → j ≠ k → fput (fput F2 0 ((F2 0).1, (F2 0).2.drop b)) k ((F2 k).1.add (F2 k).2.next L, (F2 k).2.push nilB) j = F j := fun j h0 hk => by rw [ja8 hk, ja8 h0]; exact co j hk
   generalize fput (fput F2 0 ((F2 0).1, (F2 0).2.drop b)) k ((F2 k).1.add (F2 k).2.next L, (F2 k).2.push nilB) = F3 at *
   have b0 : b ≠ 0 := fun e => by subst e; rw [hb] at h0; obtain rfl := Option.some.inj h0; cases hrw
   have h0' : (F3 0).2.get 0 = some x := by rw [d0]; show (H.drop b).get 0 = _; rw [Heap.get_drop, if_neg (Ne.symm b0)]; exact h0
   obtain ⟨Lm, fam4⟩ := fam3.mark h0' hrw hobj (2 * b + t + 100)
   rw [d0] at fam4
   have hle : m.le (m.add H.next Lm) := Mp.le_add (hR0.fresh _ (Nat.le_refl _)).1
   refine ⟨m.add H.next Lm, fput F3 0 (m.add H.next Lm, (H.drop b).push (markB t b)), hle, jc2 .., (ja8 (by decide)).trans d1, fam4, ⟨fun g' b' t' ht' hg' => ?_⟩, ⟨H.next, ?_⟩⟩
   · rcases jq4 hg' with ⟨_, e2⟩ | ⟨_, h2⟩
     · have e3 : 2 * b' + t' + 100 = 2 * b + t + 100 := congrArg Blk.es e2
       obtain ⟨rfl, rfl⟩ : b' = b ∧ t' = t := by omega
       rw [hk, ja8 (Ne.symm k0), dk]
       refine ⟨⟨L, hle _ _ q1, by simp [Mp.add]⟩, .nil ?_⟩
       show (G0.push nilB).get 14 = _
       rw [Heap.get_push, if_pos hx.symm]
     · have h3 : H.get g' = some (markB t' b') := by
         rw [Heap.get_drop] at h2
         by_cases e : g' = b
         · rw [if_pos e] at h2; cases h2
         · rw [if_neg e] at h2; exact h2
       have hne : 2 * b' + t' + 2 ≠ k := fun e => by
         obtain ⟨rfl, rfl⟩ : b' = b ∧ t' = t := by omega
         exact hm ⟨g', h3⟩
       rw [ja8 (by omega), dd _ (by omega) hne]
       obtain ⟨⟨L', u1, u2⟩, u3⟩ := o.at_ g' b' t' ht' h3
       exact ⟨⟨L', hle _ _ u1, u2⟩, u3⟩
   · show ((H.drop b).push _).get H.next = _
     rw [Heap.get_push]; exact if_pos rfl
open Classical in
noncomputable def hkB (K : Kf) : Kf := fun f args H =>
 match args.toList with
 | [.pointer (some ⟨b, 0, none⟩), v] =>
   if f = 11 then (if Opens 0 b H ∧ RowVT (opn 0 b H) v then some (.ret undef, giveH (opn 0 b H) v) else none)
   else if f = 17 then (if Opens 1 b H ∧ RowVB (opn 1 b H) v then some (.ret undef, giveH (opn 1 b H) v) else none)
   else if f = 18 then (if Opens 0 b H ∧ v = .func (.func 19) #[] #[] then some (.ret (.bool true), opn 0 b H) else none)
   else if f = 20 then (if Opens 1 b H ∧ v = .func (.func 21) #[] #[] then some (.ret (.bool true), opn 1 b H) else none)
   else K f args H
 | _ => if f = 11 ∨ f = 17 ∨ f = 18 ∨ f = 20 then none else K f args H
theorem jg4 (K : Kf) {f : FuncId} {args : Array Value} {H : Heap} (h : f ≠ 11 ∧ f ≠ 17 ∧ f ≠ 18 ∧ f ≠ 20) : hkB K f args H = K f args H := by
 unfold hkB
 split
 · rw [if_neg h.1, if_neg h.2.1, if_neg h.2.2.1, if_neg h.2.2.2]
 · rw [if_neg (fun e => e.elim h.1 fun e => e.elim h.2.1 fun e => e.elim h.2.2.1 h.2.2.2)]
theorem yh9 {K : Kf} {N : Nat} {hk : Hook} {d B0 : Nat} {m0 : Mp} {G0 : Heap} (hn : ∀ z, G0.get z = none) (hx : G0.next = 14) (hh : NH hk) (hN : 9223372036854775808 < N) (hC : KSnd PP (CG N hk (d + 5))) (hC6 : KSnd PP (CG N hk (d + 6)))
   (hK : KSnd PP K) : KSndS (sysB PP okB 14 B0 m0 G0) PP (hkB K) := by
 intro f args H r H' he m w args' hr hi hg ha
 have other : K f args H = some (r, H') → Calls PP f args' w fun e w' => ∃ m', EndR m' r e ∧ (sysB PP okB 14 B0 m0 G0).S m H w m' H' w' := fun e => KSndS.of hK f args H r H' e m w args' hr hi hg ha
 obtain ⟨F, f0, f1, fam, o⟩ := hi
 -- a book is opened ahead of the run
 have ahead : ∀ (t b : Nat), t < 2 → Opens t b H → ∀ {f : FuncId} {args : Array Value} {r : End} {H' : Heap}, VRa m args args' →
     (∀ (m1 : Mp) (F' : Nat → Mp × Heap) (g : Nat), F' 0 = (m1, opn t b H) → F' 1 = (m0, G0) → Fam PP B0 w F' → Open okB 14 m1 (opn t b H) F' → (opn t b H).get g = some (markB t b) → VRa m1 args args' →
       Calls PP f args' w fun e w' => ∃ m', EndR m' r e ∧ (sysB PP okB 14 B0 m0 G0).S m1 (opn t b H) w m' H' w') →
     Calls PP f args' w fun e w' => ∃ m', EndR m' r e ∧ (sysB PP okB 14 B0 m0 G0).S m H w m' H' w' := fun t b ht ho f args r H' ha k => by
   obtain ⟨m1, F', q1, q2, q3, q4, q5, g, q6⟩ := yh8 hn hx ht f0 f1 fam o ho
   exact (k m1 F' g q2 q3 q4 q5 q6 (ha.mono q1)).mono fun e w' ⟨m', h1, h2⟩ => ⟨m', h1, h2.1, h2.2.1, Mp.le_trans q1 h2.2.2.1, h2.2.2.2⟩
 unfold hkB at he
 split at he
 · rename_i b v hargs
   obtain rfl : args = #[.pointer (some ⟨b, 0, none⟩), v] := by
     obtain ⟨l⟩ := args
     simp only at hargs
     rw [hargs]
   by_cases c1 : f = 11
   · subst c1
     rw [if_pos rfl] at he
     split at he
     · rename_i hc
       injection he with he; injection he with e1 e2; subst e1; subst e2
       exact ahead 0 b (by decide) hc.1 ha fun m1 F' g z0 z1 z2 z3 z4 z5 => yh4 hh hN hC z0 z1 z2 z3 z4 hc.2 z5
     · cases he
   rw [if_neg c1] at he
   by_cases c2 : f = 17
   · subst c2
     rw [if_pos rfl] at he
     split at he
     · rename_i hc
       injection he with he; injection he with e1 e2; subst e1; subst e2
       exact ahead 1 b (by decide) hc.1 ha fun m1 F' g z0 z1 z2 z3 z4 z5 => yh6 hh hN hC z0 z1 z2 z3 z4 hc.2 z5
     · cases he
   rw [if_neg c2] at he
   by_cases c3 : f = 18
   · subst c3
     rw [if_pos rfl] at he
     split at he
     · rename_i hc
       obtain ⟨hc, rfl⟩ := hc
       injection he with he; injection he with e1 e2; subst e1; subst e2
       exact ahead 0 b (by decide) hc ha fun m1 F' g z0 z1 z2 z3 z4 z5 => yh5 hh hN hC6 z0 z1 z2 z3 z4 z5
     · cases he
   rw [if_neg c3] at he
   by_cases c4 : f = 20
   · subst c4
     rw [if_pos rfl] at he
     split at he
     · rename_i hc
       obtain ⟨hc, rfl⟩ := hc
       injection he with he; injection he with e1 e2; subst e1; subst e2
       exact ahead 1 b (by decide) hc ha fun m1 F' g z0 z1 z2 z3 z4 z5 => yh7 hh hN hC6 z0 z1 z2 z3 z4 z5
     · cases he
   rw [if_neg c4] at he
   exact other he
 · split at he
   · cases he
   · exact other he
end Go.Am
namespace Go.Am
set_option maxRecDepth 100000
theorem code13 : codeOf Tryz.f13 = .seq (rF Tryz.f13 0) (.seq (rF Tryz.f13 1) .ret) := by kernel_rfl
theorem code69 : codeOf Tryz.f69 = .seq (rF Tryz.f69 0) (.seq (rF Tryz.f69 1) (.seq (rF Tryz.f69 2) .ret)) := by kernel_rfl
theorem alloc24 (H : Heap) : allocA PP 102 H = some (.pointer (some ⟨H.next, 0, none⟩), H.alloc 1 zeroV) := by kernel_rfl
theorem yo6 (x : Int) (H : Heap) : convertA PP 40 3 (.int .u64 x) H = some (.int .i64 (IntKind.i64.wrap x), H) := by kernel_rfl
theorem und102 : PP.underlying 102 = some (.array 24 5) := by kernel_rfl
theorem size40 : sizeT PP 40 = some 1 := by decide +kernel
theorem agg40 : aggT PP 40 = some false := by decide +kernel
theorem slice24 {H : Heap} {q i : Nat} {l : List Value} (h : H.get q = some ⟨l, true, 1, none, false⟩) (hl : l.length = 24) (hi : i ≤ 24) : sliceOpA PP 102 (.pointer (some ⟨q, 0, none⟩)) none (some (.int .i64 (i : Int))) none H = some (.slice (some ⟨q, 0, none⟩) i 24) := by
 have hk : look H ⟨q, 0, none⟩ = some ⟨l, true, 1, none, false⟩ := by simp only [look, h]
 simp only [sliceOpA, und102, size5, sliceP, hk]
 rw [if_pos ⟨by omega, by omega, by omega⟩, if_pos (by simp only [hl]; decide)]
 simp [Addr.add]
theorem yz2 {H : Heap} (hG : Ext GE H) : H.get 5 = some (ro powV) := hG.keep 5 _ rfl
theorem yi0 {i : Nat} (h : i < 20) : indexAddrA PP 126 (.pointer (some ⟨5, 0, none⟩)) (.int .i64 (i : Int)) = some (.pointer (some ⟨5, i, none⟩)) := by
 have e : (⟨5, 0, none⟩ : Addr).add i = ⟨5, i, none⟩ := by rw [Addr.add_lit, Nat.zero_add]
 simp [indexAddrA, size40, at_, e]
 omega
theorem yo7 {H : Heap} (hG : Ext GE H) {i : Nat} (h : i < 20) : loadA PP 40 (.pointer (some ⟨5, i, none⟩)) H = some (.int .u64 ((10 ^ i : Nat) : Int), H) := by
 have e : (ro powV).cells[i]? = some (.int .u64 ((10 ^ i : Nat) : Int)) := by
   simp only [ro, powV, Lib.pow10Tab, List.map_map]
   rw [List.getElem?_map, List.getElem?_range h]; rfl
 simp only [loadA, agg40]
 have o : (ro powV).o = none := rfl
 simp only [ld1, look, yz2 hG, o, e]
theorem nd20 (u : Nat) (h : u < 18446744073709551616) : Lib.nDigits u ≤ 20 := by
 by_cases c : u < 10
 · rw [Lib.nDigits_small c]; decide
 · obtain ⟨n1, n2⟩ := Lib.numDigits_eq u (by omega) h
   rw [← n1]; split <;> omega
section
variable {N : Nat} {hk : Hook} {d : Nat} {H : Heap} {u : Nat}
theorem j6p (K : HkOk hk) (B : HkN hk) (hG : Ext GE H) (h1 : 1 ≤ u) (h2 : u < 18446744073709551616) :
   CG N hk (d + 2) 69 #[.int .u64 (u : Int)] H = some (.ret (.int .i64 (Lib.nDigits u : Int)), H) := by
 obtain ⟨n1, n2⟩ := Lib.numDigits_eq u h1 h2
 have hb := Lib.bitLen_le u 64 (Nat.le_refl _) h2
 have h87 : CG N hk (d + 1) 87 #[.int .u64 (u : Int)] H = some (.ret (.int .i64 (Lib.bitLen u : Int)), H) := jc1 (B.len u h2 H)
 have h86 : CG N hk (d + 1) 86 #[.int .i64 (Lib.bitLen u : Int)] H = some (.ret (.int .i64 (Lib.l10 (Lib.bitLen u) : Int)), H) := jc1 (B.log _ hb H)
 have hi := yi0 (i := Lib.l10 (Lib.bitLen u)) (by omega)
 have hl := yo7 hG (i := Lib.l10 (Lib.bitLen u)) (by omega)
 generalize Lib.l10 (Lib.bitLen u) = q at *
 have hge : decide ((u : Int) ≥ ((10 ^ q : Nat) : Int)) = decide (10 ^ q ≤ u) := decide_eq_decide.mpr (by rw [ge_iff_le]; exact Int.ofNat_le)
 have h88 : CG N hk (d + 1) 88 #[.bool (decide (10 ^ q ≤ u))] H = some (.ret (.int .i64 (if decide (10 ^ q ≤ u) then 1 else 0)), H) := jc1 (B.two _ H)
 have hs : IntKind.i64.wrap ((q : Int) + (if decide (10 ^ q ≤ u) then 1 else 0)) = (Lib.nDigits u : Int) := by
   rw [← n1]
   by_cases c : 10 ^ q ≤ u
   · simp only [decide_eq_true c, if_pos c, if_true]; rw [ja4 (by omega) (by omega)]; omega
   · simp only [decide_eq_false c, if_neg c]; rw [if_neg (by decide), ja4 (by omega) (by omega)]; omega
 have main : ∃ R0 : R, CG N hk (d + 2) 69 #[.int .u64 (u : Int)] H = R0 ∧ R0 = some (.ret (.int .i64 (Lib.nDigits u : Int)), H) := by
   refine ⟨_, jb6 (K.nil _ _ _ rfl) Tryz.func69 (c := codeOf Tryz.f69) rfl rfl rfl (pr := noPr) rfl, ?_⟩
   rw [code69]
   generalize hF : finE PP Tryz.f69 = F
   have lL := lX3 Tryz.f69 0 1 2
   conv at lL in (occs := *) (rq _ _) => all_goals simp only [rX, oA, Tryz.f69, dL.o, reduceIte, Nat.reduceEqDiff]
   obtain ⟨l0, l1, l2⟩ := lL
   simp +decide only [↓uR.o, dG.o, ja1, reduceIte, ↓ja0 l0, ↓ja0 l1, ↓ja0 l2, ja3 Tryz.func87 rfl rfl h87, ja3 Tryz.func86 rfl rfl h86, hi, hl, hge, ja3 Tryz.func88 rfl rfl h88, hs]
   rw [← hF, jb0 (l := [.int .i64 (Lib.nDigits u : Int)]) (by simp +decide [Tryz.f69, resE, ja1])]
   rfl
 obtain ⟨R0, m1, m2⟩ := main
 exact m1.trans m2
theorem yz3 (u : Nat) : digV u = (Lib.decDigits u).map f8 := rfl
theorem j9r (K : HkOk hk) (B : HkN hk) (hG : Ext GE H) (h2 : u < 18446744073709551616) :
   ∃ v' H', CG N hk (d + 3) 55 #[.slice none 0 0, .int .u64 (u : Int), .int .i64 10] H = some (.ret v', H') ∧ Ext H H' ∧ BRow H' v' (Lib.decDigits u) H.next := by
 have z10 : ((10 : Int) == 10) = true := rfl
 have hb : ∃ e, PP.underlying 22 = some (.slice e) := ⟨_, und34⟩
 by_cases c : u < 100
 · have hlt : decide ((u : Int) < 100) = true := decide_eq_true (by omega)
   have hw : IntKind.i64.wrap (u : Int) = (u : Int) := ja4 (by omega) (by omega)
   have h68 : CG N hk (d + 2) 68 #[.int .i64 (u : Int)] H = some (.ret (.string ⟨⟨Lib.decDigits u⟩⟩), H) := jc1 (B.small u c H)
   have hlen : (Lib.decDigits u).length ≤ 20 := by rw [Lib.decDigits_length]; exact nd20 u h2
   obtain ⟨v', H', q1, q2, q3, q4, q5⟩ := jp8 (H := H) (v := .slice none 0 0) (o := []) (lo := H.next) (.inl ⟨rfl, rfl⟩) hG.fresh (Nat.le_refl _) (.inr undStr) (yv9 H (Lib.decDigits u)) (by simp; omega)
   rw [List.nil_append] at q2
   refine ⟨v', H', ?_, ⟨q4, fun z y hy => q3 z y (js7 hG.fresh hy) hy, q5⟩, q2⟩
   have main : ∃ R0 : R, CG N hk (d + 3) 55 #[.slice none 0 0, .int .u64 (u : Int), .int .i64 10] H = R0 ∧ R0 = some (.ret v', H') := by
     refine ⟨_, jb6 (K.nil _ _ _ rfl) Tryz.func55 (c := codeOf Tryz.f55) rfl rfl rfl (pr := noPr) rfl, ?_⟩
     rw [code55]
     generalize hF : finE PP Tryz.f55 = F
     have lL := lX4 Tryz.f55 0 1 2 3
     conv at lL in (occs := *) (rq _ _) => all_goals simp only [rX, oA, Tryz.f55, dL.o, reduceIte, Nat.reduceEqDiff]
     obtain ⟨l0, l1, l2, l3⟩ := lL
     simp +decide only [↓uR.o, dG.o, ja1, reduceIte, ↓ja0 l0, ↓ja0 l1, ↓ja0 l2, ↓ja0 l3, z10, hlt, yo6, hw, ja3 Tryz.func68 rfl rfl h68, jc3, q1]
     rw [← hF, jb0 (l := [v']) (by simp +decide [Tryz.f55, resE, ja1])]
     rfl
   obtain ⟨R0, m1, m2⟩ := main
   exact m1.trans m2
 · have hlt : decide ((u : Int) < 100) = false := decide_eq_false (by omega)
   have x1 : Ext H (H.alloc 1 zeroV) := Ext.alloc hG.fresh 1 _
   have hd := j6p (N := N) (d := d) K B (hG.trans x1) (u := u) (by omega) h2
   have hnd := nd20 u h2
   have hnl := Lib.decDigits_length u
   have g1 : (H.alloc 1 zeroV).get H.next = some ⟨zeroV, true, 1, none, false⟩ := by rw [Heap.get_alloc, if_pos rfl]
   have s1 := slice24 (i := Lib.nDigits u) g1 rfl (by omega)
   have h70 : CG N hk (d + 2) 70 #[.slice (some ⟨H.next, 0, none⟩) (Lib.nDigits u) 24, .int .u64 (u : Int)] (H.alloc 1 zeroV) = some (.ret undef, (H.alloc 1 zeroV).set H.next ⟨over zeroV 0 (digV u), true, 1, none, false⟩) := jc1 (B.fmt u H.next 24 _ (by omega) h2 g1)
   have x2 := j05 hG.fresh ⟨Nat.le_refl _, fun _ _ h => h, hG.fresh⟩ zeroV (⟨over zeroV 0 (digV u), true, 1, none, false⟩ : Blk)
   have g2 := jc6 (H.alloc 1 zeroV) H.next (⟨over zeroV 0 (digV u), true, 1, none, false⟩ : Blk)
   have hov : over zeroV 0 (digV u) = (Lib.decDigits u).map f8 ++ zeroV.drop (Lib.nDigits u) := by
     rw [yz3]; simp [over, hnl]
   have l2 : (over zeroV 0 (digV u)).length = 24 := by
     rw [hov, List.length_append, List.length_map, hnl, List.length_drop]; have : zeroV.length = 24 := rfl; omega
   have s2 := slice24 (i := Lib.nDigits u) g2 l2 (by omega)
   have src : srcCells ((H.alloc 1 zeroV).set H.next ⟨over zeroV 0 (digV u), true, 1, none, false⟩) 1 (.slice (some ⟨H.next, 0, none⟩) (Lib.nDigits u) 24) = some ((Lib.decDigits u).length, (Lib.decDigits u).map f8) := by
     simp only [srcCells, look, g2]
     rw [if_pos (by show 0 + Lib.nDigits u * 1 ≤ (over zeroV 0 (digV u)).length; rw [l2]; omega), hov, hnl, List.drop_zero, Nat.mul_one]
     have e : Lib.nDigits u = ((Lib.decDigits u).map f8).length := by rw [List.length_map, hnl]
     congr 2
     conv => lhs; rw [e]
     exact List.take_left' rfl
   obtain ⟨v', H', q1, q2, q3, q4, q5⟩ := jp8 (v := .slice none 0 0) (o := []) (lo := H.next) (.inl ⟨rfl, rfl⟩) x2.fresh x2.next (.inl hb) src (by simp; omega)
   rw [List.nil_append] at q2
   refine ⟨v', H', ?_, ⟨Nat.le_trans x2.next q4, fun z y hy => q3 z y (js7 hG.fresh hy) (x2.keep z y hy), q5⟩, q2⟩
   have main : ∃ R0 : R, CG N hk (d + 3) 55 #[.slice none 0 0, .int .u64 (u : Int), .int .i64 10] H = R0 ∧ R0 = some (.ret v', H') := by
     refine ⟨_, jb6 (K.nil _ _ _ rfl) Tryz.func55 (c := codeOf Tryz.f55) rfl rfl rfl (pr := noPr) rfl, ?_⟩
     rw [code55]
     generalize hF : finE PP Tryz.f55 = F
     have lL := lX7 Tryz.f55 0 1 2 4 5 6 7
     conv at lL in (occs := *) (rq _ _) => all_goals simp only [rX, oA, Tryz.f55, dL.o, reduceIte, Nat.reduceEqDiff]
     obtain ⟨l0, l1, l2, l4, l5, l6, l7⟩ := lL
     simp +decide only [↓uR.o, dG.o, ja1, reduceIte, ↓ja0 l0, ↓ja0 l1, ↓ja0 l2, ↓ja0 l4, ↓ja0 l5, ↓ja0 l6, ↓ja0 l7, z10, hlt, alloc24, ja3 Tryz.func69 rfl rfl hd, Option.map_some, Option.map_none, s1, ja3 Tryz.func70 rfl rfl h70, s2, jc3, q1]
     rw [← hF, jb0 (l := [v']) (by simp +decide [Tryz.f55, resE, ja1])]
     rfl
   obtain ⟨R0, m1, m2⟩ := main
   exact m1.trans m2
theorem yo8 (K : HkOk hk) (B : HkN hk) (hG : Ext GE H) (h2 : u < 18446744073709551616) :
   ∃ v' H', CG N hk (d + 5) 13 #[.int .u64 (u : Int)] H = some (.ret v', H') ∧ Ext H H' ∧ BRow H' v' (Lib.decDigits u) H.next := by
 obtain ⟨v', H', h, x, r⟩ := j9r (N := N) (d := d) K B hG h2
 refine ⟨v', H', ?_, x, r⟩
 have h31 : CG N hk (d + 4) 31 #[.slice none 0 0, .int .u64 (u : Int), .int .i64 10] H = some (.ret v', H') := by
   have main : ∃ R0 : R, CG N hk (d + 4) 31 #[.slice none 0 0, .int .u64 (u : Int), .int .i64 10] H = R0 ∧ R0 = some (.ret v', H') := by
     refine ⟨_, jb6 (K.nil _ _ _ rfl) Tryz.func31 (c := codeOf Tryz.f31) rfl rfl rfl (pr := noPr) rfl, ?_⟩
     rw [code31]
     generalize hF : finE PP Tryz.f31 = F
     have lL := lX2 Tryz.f31 0 1
     conv at lL in (occs := *) (rq _ _) => all_goals simp only [rX, oA, Tryz.f31, dL.o, reduceIte, Nat.reduceEqDiff]
     obtain ⟨l0, l1⟩ := lL
     simp +decide only [↓uR.o, dG.o, ja1, reduceIte, ↓ja0 l0, ↓ja0 l1, ja3 Tryz.func55 rfl rfl h]
     rw [← hF, jb0 (l := [v']) (by simp +decide [Tryz.f31, resE, ja1])]
     rfl
   obtain ⟨R0, m1, m2⟩ := main
   exact m1.trans m2
 have main : ∃ R0 : R, CG N hk (d + 5) 13 #[.int .u64 (u : Int)] H = R0 ∧ R0 = some (.ret v', H') := by
   refine ⟨_, jb6 (K.nil _ _ _ rfl) Tryz.func13 (c := codeOf Tryz.f13) rfl rfl rfl (pr := noPr) rfl, ?_⟩
   rw [code13]
   generalize hF : finE PP Tryz.f13 = F
   have lL := lX2 Tryz.f13 0 1
   conv at lL in (occs := *) (rq _ _) => all_goals simp only [rX, oA, Tryz.f13, dL.o, reduceIte, Nat.reduceEqDiff]
   obtain ⟨l0, l1⟩ := lL
   simp +decide only [↓uR.o, dG.o, ja1, reduceIte, ↓ja0 l0, ↓ja0 l1, ja3 Tryz.func31 rfl rfl h31]
   rw [← hF, jb0 (l := [v']) (by simp +decide [Tryz.f13, resE, ja1])]
   rfl
 obtain ⟨R0, m1, m2⟩ := main
 exact m1.trans m2
end
structure LawSt (G0 H : Heap) : Prop where
 ext : Ext G0 H
 o0 : Opens 0 G0.next H
 o1 : Opens 1 (G0.next + 1) H
 buf : ∃ l : List UInt8, l.length = 3000 ∧ H.get (G0.next + 2) = some (rowL l)
theorem Opens.ext {t b : Nat} {H H' : Heap} (o : Opens t b H) (x : Ext H H') : Opens t b H' :=
 o.imp (fun ⟨g, h⟩ => ⟨g, x.keep _ _ h⟩) fun ⟨h, y, h1, h2⟩ => ⟨x.keep _ _ h, y, x.keep _ _ h1, h2⟩
theorem Opens.but {t b r : Nat} {H H' : Heap} {y : Blk} (o : Opens t b H) (hr : H.get r = some y) (hy : y.rw = true) (hb : b ≠ r) (k : ∀ z x, z ≠ r → H.get z = some x → H'.get z = some x) : Opens t b H' := by
 have ne : ∀ z x, H.get z = some x → x.rw = false → z ≠ r := fun z x hz hx e => by subst e; rw [hr] at hz; obtain rfl := Option.some.inj hz; rw [hy] at hx; cases hx
 rcases o with ⟨g, h⟩ | ⟨h, x, h1, h2, h3⟩
 · exact .inl ⟨g, k g _ (ne g _ h rfl) h⟩
 · exact .inr ⟨k b _ hb h, x, k 0 _ (ne 0 _ h1 h2) h1, h2, h3⟩
theorem j2a {H : Heap} (hf : Fresh H) (r : Nat) : Fresh (H.drop r) := fun z hz => by
 have hz' : H.next ≤ z := hz
 rw [Heap.get_drop]; split
 · rfl
 · exact hf z hz'
theorem j9s {H : Heap} (hf : Fresh H) (x : Blk) : Fresh (H.push x) := fun z hz => by
 have hz' : H.next + 1 ≤ z := hz
 rw [Heap.get_push, if_neg (by omega)]; exact hf z (by omega)
theorem jq5 {t b z : Nat} {H : Heap} {x : Blk} (hf : Fresh H) (hz : z ≠ b) (h : H.get z = some x) : (opn t b H).get z = some x := by
 unfold opn
 split
 · exact h
 · have := jl2 hf h
   rw [Heap.get_push, if_neg (by show ¬ z = H.next; omega), Heap.get_drop, if_neg hz]; exact h
theorem yi1 {t b : Nat} {H : Heap} (hf : Fresh H) : Fresh (opn t b H) := by
 unfold opn
 split
 · exact hf
 · exact j9s (j2a hf b) _
theorem j3k {t b : Nat} {H : Heap} : H.next ≤ (opn t b H).next := by
 unfold opn
 split
 · exact Nat.le_refl _
 · exact Nat.le_succ _
theorem j9t {t b : Nat} {H : Heap} : Marked t b (opn t b H) := by
 by_cases h : Marked t b H
 · have e : opn t b H = H := if_pos h
   rw [e]; exact h
 · have e : opn t b H = (H.drop b).push (markB t b) := if_neg h
   rw [e]
   exact ⟨H.next, by rw [Heap.get_push]; exact if_pos rfl⟩
section
variable {G0 H : Heap}
theorem LawSt.step {H' : Heap} (s : LawSt G0 H) (x : Ext H H') : LawSt G0 H' :=
 ⟨s.ext.trans x, s.o0.ext x, s.o1.ext x, by obtain ⟨l, h1, h2⟩ := s.buf; exact ⟨l, h1, x.keep _ _ h2⟩⟩
theorem LawSt.drop (s : LawSt G0 H) (hf : Fresh G0) {r : Nat} {y : Blk} (hr : H.get r = some y) (hy : y.rw = true) (hlo : G0.next + 2 < r) : LawSt G0 (H.drop r) := by
 have k : ∀ z x, z ≠ r → H.get z = some x → (H.drop r).get z = some x := fun z x hz h => by rw [Heap.get_drop, if_neg hz]; exact h
 refine ⟨⟨s.ext.next, fun z x h => k z x ?_ (s.ext.keep z x h), j2a s.ext.fresh r⟩, s.o0.but hr hy (by omega) k, s.o1.but hr hy (by omega) k, ?_⟩
 · have := jl2 hf h; omega
 · obtain ⟨l, h1, h2⟩ := s.buf
   exact ⟨l, h1, k _ _ (by omega) h2⟩
theorem LawSt.fill (s : LawSt G0 H) (hf : Fresh G0) {l' : List UInt8} (hl : l'.length = 3000) : LawSt G0 (H.set (G0.next + 2) (rowL l')) := by
 obtain ⟨l, h1, h2⟩ := s.buf
 have k : ∀ z x, z ≠ G0.next + 2 → H.get z = some x → (H.set (G0.next + 2) (rowL l')).get z = some x := fun z x hz h => by rw [Heap.get_set, if_neg hz]; exact h
 refine ⟨⟨s.ext.next, fun z x h => k z x ?_ (s.ext.keep z x h), jf0 s.ext.fresh (jl2 s.ext.fresh h2)⟩, s.o0.but h2 rfl (by omega) k, s.o1.but h2 rfl (by omega) k, ⟨l', hl, jc6 _ _ _⟩⟩
 have := jl2 hf h; omega
theorem LawSt.opn (s : LawSt G0 H) (hf : Fresh G0) {t b : Nat} (hb : b = G0.next ∨ b = G0.next + 1) (ht : t = b - G0.next) : LawSt G0 (opn t b H) := by
 have k : ∀ z x, z ≠ b → H.get z = some x → (Am.opn t b H).get z = some x := fun z x hz h => jq5 s.ext.fresh hz h
 have self : Opens t b (Am.opn t b H) := .inl j9t
 have other : ∀ t' b', b' ≠ b → Opens t b H → Opens t' b' H → Opens t' b' (Am.opn t b H) := fun t' b' hne o o' => by
   by_cases hm : Marked t b H
   · have e : Am.opn t b H = H := if_pos hm
     rw [e]; exact o'
   · obtain ⟨hn, _⟩ := o.resolve_left hm
     exact o'.but hn rfl hne k
 refine ⟨⟨Nat.le_trans s.ext.next j3k, fun z x h => k z x ?_ (s.ext.keep z x h), yi1 s.ext.fresh⟩, ?_, ?_, ?_⟩
 · have := jl2 hf h; omega
 · rcases hb with e | e
   · have e2 : t = 0 := by omega
     subst e2; subst e; exact self
   · have e2 : t = 1 := by omega
     subst e2
     exact other 0 G0.next (by omega) (e ▸ s.o1) s.o0
 · rcases hb with e | e
   · have e2 : t = 0 := by omega
     subst e2
     exact other 1 (G0.next + 1) (by omega) (e ▸ s.o0) s.o1
   · have e2 : t = 1 := by omega
     subst e2; subst e; exact self
 · obtain ⟨l, h1, h2⟩ := s.buf
   exact ⟨l, h1, k _ _ (by omega) h2⟩
theorem keepT (K : Kf) (s : LawSt G0 H) (hf : Fresh G0) {v : Value} {ts : List Tk} {lo : Nat} (hv : TkRow H v ts lo) (hlo : G0.next + 2 < lo) (hn : ts.length ≤ 1000000) :
   ∃ H', hkB K 11 #[.pointer (some ⟨G0.next, 0, none⟩), v] H = some (.ret undef, H') ∧ LawSt G0 H' := by
 have s1 := s.opn hf (t := 0) (b := G0.next) (.inl rfl) (by omega)
 refine ⟨giveH (opn 0 G0.next H) v, ?_, ?_⟩
 · have hr : RowVT (opn 0 G0.next H) v := by
     rcases hv with ⟨_, e⟩ | ⟨hne, q, e, hg, hq⟩
     · exact .inl e
     · have hl : ts.length ≠ 0 := by simpa using hne
       exact .inr ⟨q, ts.length, _, _, e, by omega, hn, ⟨ts, rfl, rfl⟩, jq5 s.ext.fresh (by omega) hg⟩
   unfold hkB
   simp only
   rw [if_pos trivial, if_pos ⟨s.o0, hr⟩]
 · rcases hv with ⟨_, rfl⟩ | ⟨hne, q, rfl, hg, hq⟩
   · exact s1
   · exact s1.drop (r := q) hf (jq5 s.ext.fresh (by omega) hg) rfl (by omega)
theorem keepB (K : Kf) (s : LawSt G0 H) (hf : Fresh G0) {v : Value} {w : List UInt8} {lo : Nat} (hv : BRow H v w lo) (hlo : G0.next + 2 < lo) (hn : w.length ≤ 1000000) :
   ∃ H', hkB K 17 #[.pointer (some ⟨G0.next + 1, 0, none⟩), v] H = some (.ret undef, H') ∧ LawSt G0 H' ∧ H.next ≤ H'.next ∧ ∀ z x, H.get z = some x → z ≠ G0.next + 1 → rowId v ≠ some z → H'.get z = some x := by
 have s1 := s.opn hf (t := 1) (b := G0.next + 1) (.inr rfl) (by omega)
 have k : ∀ z x, z ≠ G0.next + 1 → H.get z = some x → (Am.opn 1 (G0.next + 1) H).get z = some x := fun z x hz h => jq5 s.ext.fresh hz h
 refine ⟨giveH (opn 1 (G0.next + 1) H) v, ?_, ?_⟩
 · have hr : RowVB (opn 1 (G0.next + 1) H) v := by
     rcases hv with ⟨_, e⟩ | ⟨hne, q, e, hg, hq⟩
     · exact .inl e
     · have hl : w.length ≠ 0 := by simpa using hne
       exact .inr ⟨q, w.length, _, _, e, by omega, hn, ⟨w, rfl, rfl⟩, jq5 s.ext.fresh (by omega) hg⟩
   unfold hkB
   simp only
   rw [if_neg (by decide), if_pos trivial, if_pos ⟨s.o1, hr⟩]
 · rcases hv with ⟨_, rfl⟩ | ⟨hne, q, rfl, hg, hq⟩
   · exact ⟨s1, j3k, fun z x h hz _ => k z x hz h⟩
   · refine ⟨s1.drop (r := q) hf (jq5 s.ext.fresh (by omega) hg) rfl (by omega), j3k, fun z x h hz hi => ?_⟩
     show (Heap.drop _ q).get z = _
     rw [Heap.get_drop, if_neg (fun e => hi (by rw [e]; rfl))]
     exact k z x hz h
theorem apartT (K : Kf) (s : LawSt G0 H) (hf : Fresh G0) : ∃ H', hkB K 18 #[.pointer (some ⟨G0.next, 0, none⟩), .func (.func 19) #[] #[]] H = some (.ret (.bool true), H') ∧ LawSt G0 H' := by
 refine ⟨opn 0 G0.next H, ?_, s.opn hf (.inl rfl) (by omega)⟩
 unfold hkB
 simp only
 rw [if_neg (by decide), if_neg (by decide), if_pos trivial, if_pos ⟨s.o0, rfl⟩]
theorem apartB (K : Kf) (s : LawSt G0 H) (hf : Fresh G0) : ∃ H', hkB K 20 #[.pointer (some ⟨G0.next + 1, 0, none⟩), .func (.func 21) #[] #[]] H = some (.ret (.bool true), H') ∧ LawSt G0 H' := by
 refine ⟨opn 1 (G0.next + 1) H, ?_, s.opn hf (.inr rfl) (by omega)⟩
 unfold hkB
 simp only
 rw [if_neg (by decide), if_neg (by decide), if_neg (by decide), if_pos trivial, if_pos ⟨s.o1, rfl⟩]
theorem yo9 (s : LawSt G0 H) (hf : Fresh G0) {a : Option Addr} {t : List UInt8} {c : Nat} (h : Brow H a t) (ht : t.length ≤ 3000) :
   ∃ H' l, (∀ kk : Value → Heap → R, builtinK PP .copy #[22, 22] #[.slice (some ⟨G0.next + 2, 0, none⟩) 3000 3000, .slice a t.length c] H kk = kk (.int .i64 (t.length : Int)) H') ∧ LawSt G0 H' ∧ H'.get (G0.next + 2) = some (rowL l) ∧ l.length = 3000 ∧ t <+: l := by
 obtain ⟨l, h1, h2⟩ := s.buf
 cases a with
 | none =>
   have hs := h.nil rfl
   subst hs
   exact ⟨H, l, fun kk => by simp [builtinK, copyA, srcCells, cpy, size5, bindV], s, h2, h1, List.nil_prefix⟩
 | some a =>
   have e : f8 = fun u : UInt8 => Value.int .u8 (u.toNat : Int) := rfl
   obtain ⟨x, p1, p2, p3, p4⟩ := h.row a rfl
   have hsrc : srcCells H 1 (.slice (some a) t.length c) = some (t.length, t.map f8) := by
     simp only [srcCells, p1, Nat.mul_one]
     rw [if_pos p3, p4, e]
   by_cases h0 : t.length = 0
   · have hs : t = [] := List.length_eq_zero_iff.mp h0
     subst hs
     rw [h0] at hsrc
     exact ⟨H, l, fun kk => by simp [builtinK, copyA, hsrc, cpy, size5, bindV], s, h2, h1, List.nil_prefix⟩
   · have htk : (t.map f8).take (Nat.min t.length 3000) = t.map f8 := by
       have : Nat.min t.length 3000 = (t.map f8).length := by rw [List.length_map]; exact Nat.min_eq_left ht
       rw [this, List.take_length]
     have hall : (t.map f8).all Value.oneCell' = true := j26 t
     have ho : over (l.map f8) 0 (t.map f8) = (t ++ l.drop t.length).map f8 := by
       simp [over, List.map_drop]
     have hst : st H ⟨G0.next + 2, 0, none⟩ (t.map f8) = some (undef, H.set (G0.next + 2) (rowL (t ++ l.drop t.length))) := by
       simp only [st, look, h2]
       simp only [rowL]
       rw [if_pos ⟨trivial, by simp [h1]; omega, hall⟩, ho]
     have hll : (t ++ l.drop t.length).length = 3000 := by simp [h1]; omega
     refine ⟨_, _, fun kk => ?_, s.fill hf hll, jc6 _ _ _, hll, List.prefix_append _ _⟩
     have hm : Nat.min t.length 3000 = t.length := Nat.min_eq_left ht
     rw [hm] at htk
     simp only [builtinK, copyA]
     simp [hsrc, cpy, size5, bindV, hm, h0, htk, hst]
end
noncomputable abbrev cBL27 : Code := .seq (rF Tryz.f4 20) (.cond (.tmp 83) (.seq (rF Tryz.f4 21) .ret) .skip)
noncomputable abbrev cBL26 : Code := .seq (rF Tryz.f4 26) (.cond (.tmp 109) (.seq (rF Tryz.f4 27) .ret) .skip)
noncomputable abbrev cBL25 : Code := .seq (.seq (rF Tryz.f4 16) (.cond (.tmp 58) .skip (.exit 4))) (.seq (.block 5 (rF Tryz.f4 18)) (rF Tryz.f4 17))
noncomputable abbrev cBL24 : Code := .seq cBL26 (.seq (rF Tryz.f4 28) (rF Tryz.f4 29))
noncomputable abbrev cBL23 : Code := .loop cBL25
noncomputable abbrev cBL22 : Code := .block 4 cBL23
noncomputable abbrev cBL21 : Code := .seq (rF Tryz.f4 25) cBL24
noncomputable abbrev cBL20 : Code := .seq (rF Tryz.f4 15) cBL22
noncomputable abbrev cBL19 : Code := .seq (rF Tryz.f4 24) cBL21
noncomputable abbrev cBL18 : Code := .seq (rF Tryz.f4 23) cBL19
noncomputable abbrev cBL17 : Code := .seq (rF Tryz.f4 22) cBL18
noncomputable abbrev cBL16 : Code := .seq cBL27 cBL17
noncomputable abbrev cBL15 : Code := .seq (rF Tryz.f4 19) cBL16
noncomputable abbrev cBL14 : Code := .seq cBL20 cBL15
noncomputable abbrev cBL13 : Code := .seq (rF Tryz.f4 14) cBL14
noncomputable abbrev cBL12 : Code := .seq (rF Tryz.f4 13) cBL13
noncomputable abbrev cBL11 : Code := .block 3 cBL12
noncomputable abbrev cBL10 : Code := .seq cBL11 (rF Tryz.f4 12)
noncomputable abbrev cBL9 : Code := .seq (.seq (rF Tryz.f4 11) (.cond (.tmp 40) .skip (.exit 2))) cBL10
noncomputable abbrev cBL8 : Code := .loop cBL9
noncomputable abbrev cBL7 : Code := .block 2 cBL8
noncomputable abbrev cBL6 : Code := .seq (rF Tryz.f4 10) cBL7
noncomputable abbrev cBL5 : Code := .seq (.seq (rF Tryz.f4 8) (.cond (.tmp 36) (rF Tryz.f4 9) .skip)) cBL6
noncomputable abbrev cBL4 : Code := .seq (rF Tryz.f4 7) cBL5
noncomputable abbrev cBL3 : Code := .block 1 cBL4
noncomputable abbrev cBL2 : Code := .seq cBL3 (rF Tryz.f4 6)
noncomputable abbrev cBL1 : Code := .seq (.seq (rF Tryz.f4 5) (.cond (.tmp 27) .skip (.exit 0))) cBL2
theorem code4 : codeOf Tryz.f4 = .seq (rF Tryz.f4 0) (.seq (rF Tryz.f4 1) (.seq (rF Tryz.f4 2) (.seq (rF Tryz.f4 3) (.seq (.seq (rF Tryz.f4 4) (.block 0 (.loop cBL1))) (.seq (rF Tryz.f4 30) .ret))))) := by kernel_rfl
theorem j3l : ((rgn Tryz.f4 5)[4]?).bind (·.dst) = some 24 := by kernel_rfl
theorem yp0 : ((rgn Tryz.f4 20)[3]?).bind (·.dst) = some 73 := by kernel_rfl
theorem yp1 : ((rgn Tryz.f4 20)[8]?).bind (·.dst) = some 78 := by kernel_rfl
theorem yp2 : ((rgn Tryz.f4 26)[5]?).bind (·.dst) = some 100 := by kernel_rfl
theorem yp3 : ((rgn Tryz.f4 30)[1]?).bind (·.dst) = some 115 := by kernel_rfl
theorem yp4 : ((rgn Tryz.f4 30)[4]?).bind (·.dst) = some 118 := by kernel_rfl
theorem yp5 (x : Int) (H : Heap) : convertA PP 3 40 (.int .i64 x) H = some (.int .u64 (IntKind.u64.wrap x), H) := by kernel_rfl
section
variable {G0 : Heap} {N : Nat} {Q : R → Prop} {k : KOE}
theorem yi2 {K : Kf} (hf : Fresh G0) : ∀ (n j m : Nat) (_ : j + n = 3000) (_ : n < m) {H : Heap} {E : Env} (_ : LawSt G0 H) (_ : E 5 = .slice (some ⟨G0.next + 2, 0, none⟩) 3000 3000) (_ : E 12 = .int .i64 (j : Int))
   (_ : ∀ E' G, (∀ i, i < 12 → E' i = E i) → LawSt G0 G → H.next ≤ G.next → (∀ z x, z ≠ G0.next + 2 → H.get z = some x → G.get z = some x) → Q (k (.exit 4) E' [] G)), Q (loopE (execG PP XX K N noPr cBL25 none) m E [] H k)
 | 0, j, m + 1, hn, hm, H, E, s, e5, e12, hx => by
   rw [ja5]
   have hlt : decide ((j : Int) < ((3000 : Nat) : Int)) = false := decide_eq_false (by omega)
   have l16 := tl (rgn Tryz.f4 16)
   conv at l16 => rhs; simp only [rgn, oA, codeOf, Tryz.f4, gS, gN, reduceIte, Nat.reduceEqDiff, tA]
   simp +decide only [↓uR.o, dG.o, ja1, reduceIte, ↓ja0 l16, e5, e12, ja6 (ts := #[22]) rfl und34, hlt]
   exact hx _ H (by intro i hi; simp only [ja1]; repeat rw [if_neg (by omega)]) s (Nat.le_refl _) fun _ _ _ h => h
 | n + 1, j, m + 1, hn, hm, H, E, s, e5, e12, hx => by
   rw [ja5]
   have hj : j < 3000 := by omega
   have hlt : decide ((j : Int) < ((3000 : Nat) : Int)) = true := decide_eq_true (by omega)
   have w : IntKind.i64.wrap ((j : Int) + 1) = ((j + 1 : Nat) : Int) := by rw [ja4 (by omega) (by omega)]; omega
   obtain ⟨l, hl, hb⟩ := s.buf
   have hix := jc4 (a := ⟨G0.next + 2, 0, none⟩) (c := 3000) hj
   have hst := j9n hb (i := j) (by omega) 55 (n := 55) rfl
   have s1 := s.fill hf (l' := l.set j 55) (by simpa using hl)
   have lL := lX3 Tryz.f4 16 17 18
   conv at lL in (occs := *) (rq _ _) => all_goals simp only [rX, oA, Tryz.f4, dL.o, reduceIte, Nat.reduceEqDiff]
   obtain ⟨l16, l17, l18⟩ := lL
   simp +decide only [↓uR.o, dG.o, ja1, jb1, reduceIte, ↓ja0 l16, ↓ja0 l17, ↓ja0 l18, e5, e12, ja6 (ts := #[22]) rfl und34, hlt, hix, hst, w]
   refine yi2 hf n (j + 1) m (by omega) (by omega) s1 (by simp +decide only [ja1, reduceIte, e5]) (by simp +decide only [ja1, reduceIte]) fun E' G q0 s2 nx kp => hx E' G (fun i hi => (q0 i hi).trans ?_) s2 nx fun z x hz h => kp z x hz (by rw [Heap.get_set, if_neg hz]; exact h)
   simp only [ja1]
   repeat rw [if_neg (by omega)]
set_option maxHeartbeats 2000000 in
theorem j6q {hk : Hook} {d : Nat} (KO : HkOk hk) (KR : HkR hk) (KN : HkN hk) (hG : Ext GE G0) {a : Option Addr} {t : List UInt8} {c : Nat} (ht : Brow G0 a t) (hl : t.length ≤ 3000) (hN : 1000000 < N) :
   ∀ (n j m : Nat) (_ : j + n = 2) (_ : n < m) {H : Heap} {E : Env} (_ : LawSt G0 H) (_ : E 3 = .pointer (some ⟨G0.next, 0, none⟩)) (_ : E 4 = .pointer (some ⟨G0.next + 1, 0, none⟩)) (_ : E 5 = .slice (some ⟨G0.next + 2, 0, none⟩) 3000 3000) (_ : E 7 = .slice a t.length c) (_ : E 8 = .int .i64 (j : Int))
     (_ : ∀ E' G, (∀ i, i < 8 → E' i = E i) → LawSt G0 G → Q (k (.exit 2) E' [] G)), Q (loopE (execG PP XX (hkB (CG N hk (d + 6))) N noPr cBL9 none) m E [] H k)
 | 0, j, m + 1, hn, hm, H, E, s, e3, e4, e5, e7, e8, hx => by
   rw [ja5]
   have hlt : decide ((j : Int) < 2) = false := decide_eq_false (by omega)
   have l11 := tl (rgn Tryz.f4 11)
   conv at l11 => rhs; simp only [rgn, oA, codeOf, Tryz.f4, gS, gN, reduceIte, Nat.reduceEqDiff, tA]
   simp +decide only [↓uR.o, dG.o, ja1, reduceIte, ↓ja0 l11, e8, hlt]
   exact hx _ H (by intro i hi; simp only [ja1]; repeat rw [if_neg (by omega)]) s
 | n + 1, j, m + 1, hn, hm, H, E, s, e3, e4, e5, e7, e8, hx => by
   rw [ja5]
   have hlt : decide ((j : Int) < 2) = true := decide_eq_true (by omega)
   have w : IntKind.i64.wrap ((j : Int) + 1) = ((j + 1 : Nat) : Int) := by rw [ja4 (by omega) (by omega)]; omega
   have hf : Fresh G0 := hG.fresh
   obtain ⟨H1, l1, cp, s1, b1, l1n, lp⟩ := yo9 s hf (c := c) (ht.ext s.ext) hl
   have hb := yf9 b1 lp (by omega)
   obtain ⟨H2, x2, v, e, q, h8, r8⟩ := j9d (N := N) (hk := hk) (d := d + 1) (c := 3000) KO (hG.trans s1.ext) hb (by omega) (by omega) hl
   have k8 : hkB (CG N hk (d + 6)) 8 #[.slice (some ⟨G0.next + 2, 0, none⟩) t.length 3000] H1 = _ := (jg4 _ (by decide)).trans h8
   have sl := yo1 b1 (n := 3000) (c := 3000) (k := t.length) hl
   have s2 := s1.step x2
   have q0 : ∀ (u v w : Value), extractA (.tuple #[u, v, w]) 0 = some u := fun _ _ _ => rfl
   have q1 : ∀ (u v w : Value), extractA (.tuple #[u, v, w]) 1 = some v := fun _ _ _ => rfl
   have q2 : ∀ (u v w : Value), extractA (.tuple #[u, v, w]) 2 = some w := fun _ _ _ => rfl
   have lL := lX4 Tryz.f4 11 13 14 15
   conv at lL in (occs := *) (rq _ _) => all_goals simp only [rX, oA, Tryz.f4, dL.o, reduceIte, Nat.reduceEqDiff]
   obtain ⟨l11, l13, l14, l15⟩ := lL
   simp +decide only [↓uR.o, dG.o, ja1, reduceIte, ↓ja0 l11, ↓ja0 l13, ↓ja0 l14, ↓ja0 l15, ↓jb4, e5, e7, e8, hlt, cp, ja6 (ts := #[22]) rfl und34, Option.map_some, Option.map_none, sl, ja3 Tryz.func8 rfl rfl k8, q0, q1, q2]
   refine yi2 hf 3000 0 N (by omega) (by omega) s2 (by simp +decide only [ja1, reduceIte, e5]) (by simp +decide only [ja1, reduceIte]; rfl) fun E' H3 qE s3 n3 kp3 => ?_
   have f3 := (qE 3 (by decide)).trans (show _ = Value.pointer (some ⟨G0.next, 0, none⟩) by simp +decide only [ja1, reduceIte, e3])
   have f4 := (qE 4 (by decide)).trans (show _ = Value.pointer (some ⟨G0.next + 1, 0, none⟩) by simp +decide only [ja1, reduceIte, e4])
   have f5 := (qE 5 (by decide)).trans (show _ = Value.slice (some ⟨G0.next + 2, 0, none⟩) 3000 3000 by simp +decide only [ja1, reduceIte, e5])
   have f7 := (qE 7 (by decide)).trans (show _ = Value.slice a t.length c by simp +decide only [ja1, reduceIte, e7])
   have f8 := (qE 8 (by decide)).trans (show _ = Value.int .i64 (j : Int) by simp +decide only [ja1, reduceIte, e8])
   have f9 := (qE 9 (by decide)).trans (show _ = v by simp +decide only [ja1, reduceIte])
   have f10 := (qE 10 (by decide)).trans (show _ = Value.int .i64 e by simp +decide only [ja1, reduceIte])
   have f11 := (qE 11 (by decide)).trans (show _ = Value.int .i64 q by simp +decide only [ja1, reduceIte])
   have qF : ∀ i, i < 8 → E' i = E i := fun i hi => (qE i (by omega)).trans (by simp only [ja1]; repeat rw [if_neg (by omega)])
   clear qE
   have n0 : G0.next + 2 < H1.next := jl2 s1.ext.fresh b1
   obtain ⟨H4, x4, v', e', q', h9, r9⟩ := j40 (N := N) (hk := hk) (d := d + 2) (c := c) KR (hG.trans s3.ext) (ht.ext s3.ext) (by omega) (by omega)
   have k9 : hkB (CG N hk (d + 6)) 9 #[.slice a t.length c] H3 = _ := (jg4 _ (by decide)).trans h9
   have hts := (j27 (N := N) (hk := hk) (d := d) (a := a) (s := t) (c := t.length) KO (by omega) (by omega) (Nat.le_refl _) t.length 0 (Nat.zero_le _) (by omega)).2
   obtain ⟨ts, rv, rw', hn', rfl, rfl⟩ : ∃ ts, TkRow H4 v ts (H1.next + 1) ∧ TkRow H4 v' ts 0 ∧ ts.length ≤ 3000 ∧ e' = e ∧ q' = q := by
     rcases r8 with ⟨n1, r1, rfl, rfl⟩ | ⟨x, n1, rfl, rfl, rfl⟩
     · rcases r9 with ⟨_, r2, rfl, rfl⟩ | ⟨x, n2, _⟩
       · refine ⟨(toksI t (t.length + 1) 0).1, ?_, ?_, by omega, rfl, rfl⟩
         · rcases r1 with o | ⟨o1, z, o2, o3, o4⟩
           · exact .inl o
           · exact .inr ⟨o1, z, o2, x4.keep _ _ (kp3 z _ (by omega) o3), o4⟩
         · rcases r2 with o | ⟨o1, z, o2, o3, _⟩
           · exact .inl o
           · exact .inr ⟨o1, z, o2, o3, Nat.zero_le _⟩
       · rw [n1] at n2; cases n2
     · rcases r9 with ⟨n2, _⟩ | ⟨y, n2, rfl, rfl, rfl⟩
       · rw [n1] at n2; cases n2
       · rw [n1] at n2
         injection n2 with n2
         subst n2
         exact ⟨[], .inl ⟨rfl, rfl⟩, .inl ⟨rfl, rfl⟩, by decide, rfl, rfl⟩
   have h10 : CG N hk (d + 6) 10 #[v, v'] H4 = some (.ret (.bool true), H4) := jx0 (d := d + 5) KO.nil (TkRow.x rv) (TkRow.x rw') (by omega) (by omega)
   have k10 : hkB (CG N hk (d + 6)) 10 #[v, v'] H4 = _ := (jg4 _ (by decide)).trans h10
   obtain ⟨H5, k11, s5⟩ := keepT (CG N hk (d + 6)) (s3.step x4) hf rv (by omega) (by omega)
   have hcv := j4z (c := c) (ht.ext s5.ext)
   obtain ⟨vq, H6, x6, rwq, h12⟩ := j9h (N := N) (hk := hk) (d := d + 1) (t := t) KO KN (hG.trans s5.ext) (by omega) (by omega)
   have k12 : hkB (CG N hk (d + 6)) 12 #[.string ⟨⟨t⟩⟩] H5 = _ := (jg4 _ (by decide)).trans h12
   have wu : IntKind.u64.wrap (t.length : Int) = (t.length : Int) := jd9 (by omega) (by omega)
   have wm : IntKind.u64.wrap ((t.length : Int) * 12345678901) = ((t.length * 12345678901 : Nat) : Int) := by rw [jd9 (by omega) (by omega)]; omega
   have hu : t.length * 12345678901 < 18446744073709551616 := by omega
   generalize hnu : t.length * 12345678901 = nu at wm hu
   obtain ⟨vn, H7, h13, x7, rn⟩ := yo8 (N := N) (hk := hk) (d := d + 1) (u := nu) KO KN (hG.trans (s5.ext.trans x6)) hu
   have k13 : hkB (CG N hk (d + 6)) 13 #[.int .u64 (nu : Int)] H6 = _ := (jg4 _ (by decide)).trans h13
   have e7' := s5.ext.trans (x6.trans x7)
   obtain ⟨vr, H8, x8, rr, h15⟩ := j6f (N := N) (hk := hk) (d := d + 5) (t := t) KO.nil (hG.trans e7') (by omega) (by omega)
   have k15 : hkB (CG N hk (d + 6)) 15 #[.string ⟨⟨t⟩⟩] H7 = _ := (jg4 _ (by decide)).trans h15
   obtain ⟨vm, H9, x9, rm, h16⟩ := yg7 (N := N) (hk := hk) (d := d + 5) (n := nu) KO.nil (hG.trans (e7'.trans x8)) hu (by omega)
   have k16 : hkB (CG N hk (d + 6)) 16 #[.int .u64 (nu : Int)] H8 = _ := (jg4 _ (by decide)).trans h16
   have lq : (quoteB t).length ≤ 12002 := by
     have := (jp9 t).2
     simp only [quoteB, List.length_append, List.length_cons, List.length_nil]; omega
   have ln : (Lib.decDigits nu).length ≤ 20 := by rw [Lib.decDigits_length]; exact nd20 nu hu
   have k14 : hkB (CG N hk (d + 6)) 14 #[vq, vr] H8 = some (.ret (.bool true), H8) := by
     obtain ⟨a1, rfl, y1⟩ := ((rwq.ext x7).ext x8).brow (by omega)
     obtain ⟨a2, rfl, y2⟩ := rr.brow (by omega)
     exact (jg4 _ (by decide)).trans (jq2 (d := d + 5) KO.nil y1 y2 (by omega) (by omega))
   have k14' : hkB (CG N hk (d + 6)) 14 #[vn, vm] H9 = some (.ret (.bool true), H9) := by
     obtain ⟨a1, rfl, y1⟩ := ((rn.ext x8).ext x9).brow (by omega)
     obtain ⟨a2, rfl, y2⟩ := rm.brow (by omega)
     exact (jg4 _ (by decide)).trans (jq2 (d := d + 5) KO.nil y1 y2 (by omega) (by omega))
   have s9 := s5.step (x6.trans (x7.trans (x8.trans x9)))
   have n5 : G0.next + 2 < H5.next := by obtain ⟨l, _, h2⟩ := s5.buf; exact jl2 s5.ext.fresh h2
   obtain ⟨H10, k17, s10, n10, kp10⟩ := keepB (CG N hk (d + 6)) s9 hf (((rwq.ext x7).ext x8).ext x9) n5 (by omega)
   have rn' : BRow H10 vn (Lib.decDigits nu) H6.next := by
     rcases (rn.ext x8).ext x9 with o | ⟨o1, z, o2, o3, o4⟩
     · exact .inl o
     · refine .inr ⟨o1, z, o2, kp10 z _ o3 (by have := x6.next; omega) fun hi => ?_, o4⟩
       rcases rwq with ⟨_, o⟩ | ⟨_, y, o, p3, _⟩
       · rw [o] at hi; cases hi
       · rw [o] at hi
         have hi : y = z := Option.some.inj hi
         have := jl2 x6.fresh p3
         omega
   obtain ⟨H11, k17b, s11, _, _⟩ := keepB (CG N hk (d + 6)) s10 hf rn' (by have := x6.next; omega) (by omega)
   have zq : ∀ z : Int, (z != z) = false := fun z => by simp
   have lL : _ ∧ _ := ⟨lX8 Tryz.f4 12 19 20 22 23 24 25 26, lX2 Tryz.f4 28 29⟩
   conv at lL in (occs := *) (rq _ _) => all_goals simp only [rX, oA, Tryz.f4, dL.o, reduceIte, Nat.reduceEqDiff]
   obtain ⟨⟨l12, l19, l20, l22, l23, l24, l25, l26⟩, ⟨l28, l29⟩⟩ := lL
   simp +decide only [↓uR.o, dG.o, ja1, reduceIte, ↓ja0 l12, ↓ja0 l19, ↓ja0 l20, ↓ja0 l22, ↓ja0 l23, ↓ja0 l24, ↓ja0 l25, ↓ja0 l26, ↓ja0 l28, ↓ja0 l29, ↓jb8 _ 3 false 73 _ yp0, ↓jb8 _ 8 false 78 _ yp1, ↓jb8 _ 5 false 100 _ yp2, f3, f4, f7, f8, f9, f10, f11, ja3 Tryz.func9 rfl rfl k9, q0, q1, q2, zq, ja3 Tryz.func10 rfl rfl k10, ja3 Tryz.func11 rfl rfl k11, hcv, ja3 Tryz.func12 rfl rfl k12, ja6 (ts := #[22]) rfl und34, yp5, wu, jk8, wm, ja3 Tryz.func13 rfl rfl k13, ja3 Tryz.func15 rfl rfl k15, ja3 Tryz.func14 rfl rfl k14, jq8, ja3 Tryz.func16 rfl rfl k16, ja3 Tryz.func14 rfl rfl k14', ja3 Tryz.func17 rfl rfl k17, ja3 Tryz.func17 rfl rfl k17b, w]
   refine j6q (c := c) KO KR KN hG ht hl hN n (j + 1) m (by omega) (by omega) s11 (by simp +decide only [ja1, reduceIte, f3]) (by simp +decide only [ja1, reduceIte, f4]) (by simp +decide only [ja1, reduceIte, f5]) (by simp +decide only [ja1, reduceIte, f7]) (by simp +decide only [ja1, reduceIte]) fun E2 G g0 sG => hx E2 G (fun i hi => (g0 i hi).trans ?_) sG
   simp only [ja1]
   repeat rw [if_neg (by omega)]
   exact qF i hi
end
def TextAt (G0 : Heap) (a0 : Option Addr) (n c0 i : Nat) : Prop := ∃ p a t c, indexAddrA PP 27 (.slice a0 n c0) (.int .i64 (i : Int)) = some (.pointer p) ∧ (∀ H, Ext G0 H → loadA PP 22 (.pointer p) H = some (.slice a (t : List UInt8).length c, H)) ∧ Brow G0 a t ∧ t.length ≤ c
theorem y07 {H : Heap} {a : Option Addr} {t : List UInt8} {c : Nat} (h : Brow H a t) (hx : 3000 < t.length) (hc : t.length ≤ c) : sliceOpA PP 22 (.slice a t.length c) none (some (.int .i64 3000)) none H = some (.slice a 3000 c) := by
 simp only [sliceOpA, und34, size5, sliceA]
 cases a with
 | none =>
   have hs := h.nil rfl
   subst hs
   simp at hx
 | some a =>
   obtain ⟨z, h1, h2, h3, _⟩ := h.row a rfl
   have e : a.add 0 = a := by
     obtain ⟨b, o, sp⟩ := a
     rfl
   rw [if_pos ⟨by omega, by omega, by omega⟩]
   simp [h1, h2, e]
theorem und27 : PP.underlying 27 = some (.slice 22) := by kernel_rfl
section
variable {G0 : Heap} {N : Nat} {Q : R → Prop} {k : KOE} {hk : Hook} {d : Nat}
set_option maxHeartbeats 2000000 in
theorem j6r (KO : HkOk hk) (KR : HkR hk) (KN : HkN hk) (hG : Ext GE G0) (hN : 1000000 < N) {a0 : Option Addr} {len c0 : Nat} (hT : ∀ i, i < len → i < 20 → TextAt G0 a0 len c0 i) :
   ∀ (n i m : Nat) (_ : i + n = 20) (_ : n < m) {H : Heap} {E : Env} (_ : LawSt G0 H) (_ : E 0 = .slice a0 len c0) (_ : E 3 = .pointer (some ⟨G0.next, 0, none⟩)) (_ : E 4 = .pointer (some ⟨G0.next + 1, 0, none⟩)) (_ : E 5 = .slice (some ⟨G0.next + 2, 0, none⟩) 3000 3000) (_ : E 6 = .int .i64 (i : Int))
     (_ : ∀ E' G, E' 3 = .pointer (some ⟨G0.next, 0, none⟩) → E' 4 = .pointer (some ⟨G0.next + 1, 0, none⟩) → LawSt G0 G → Q (k (.exit 0) E' [] G)), Q (loopE (execG PP XX (hkB (CG N hk (d + 6))) N noPr cBL1 none) m E [] H k)
 | n, i, m + 1, hn, hm, H, E, s, e0, e3, e4, e5, e6, hx => by
   rw [ja5]
   have lL := lX6 Tryz.f4 5 6 7 8 9 10
   conv at lL in (occs := *) (rq _ _) => all_goals simp only [rX, oA, Tryz.f4, dL.o, reduceIte, Nat.reduceEqDiff]
   obtain ⟨l5, l6, l7, l8, l9, l10⟩ := lL
   by_cases c1 : i < len
   · have d1 : decide ((i : Int) < (len : Int)) = true := decide_eq_true (by omega)
     by_cases c2 : i < 20
     · have d2 : decide ((i : Int) < 20) = true := decide_eq_true (by omega)
       have w : IntKind.i64.wrap ((i : Int) + 1) = ((i + 1 : Nat) : Int) := by rw [ja4 (by omega) (by omega)]; omega
       obtain ⟨n, rfl⟩ : ∃ n', n = n' + 1 := ⟨n - 1, by omega⟩
       obtain ⟨p, a, t, c, hi, hl, ht, htc⟩ := hT i c1 c2
       have hl := hl H s.ext
       by_cases c3 : 3000 < t.length
       · have d3 : decide ((t.length : Int) > 3000) = true := decide_eq_true (by omega)
         have hct := y07 (ht.ext s.ext) c3 htc
         have l3 : (t.take 3000).length = 3000 := by rw [List.length_take]; omega
         simp +decide only [↓uR.o, dG.o, ja1, reduceIte, ↓ja0 l5, ↓ja0 l7, ↓ja0 l8, ↓ja0 l9, ↓ja0 l10, ↓jb8 _ 4 true 24 _ j3l, ↓jb4, e0, e6, ja6 (ts := #[27]) rfl und27, d1, d2, hi, hl, ja6 (ts := #[22]) rfl und34, d3, Option.map_some, Option.map_none, hct]
         refine j6q (c := c) KO KR KN hG (t := t.take 3000) (ht.take (by omega)) (by omega) hN 2 0 N (by omega) (by omega) s (by simp +decide only [ja1, reduceIte, e3]) (by simp +decide only [ja1, reduceIte, e4]) (by simp +decide only [ja1, reduceIte, e5]) (by rw [l3]; simp +decide only [ja1, reduceIte]) (by simp +decide only [ja1, reduceIte]; rfl) fun E' G q0 s1 => ?_
         have g0 := (q0 0 (by decide)).trans (show _ = Value.slice a0 len c0 by simp +decide only [ja1, reduceIte, e0])
         have g3 := (q0 3 (by decide)).trans (show _ = Value.pointer (some ⟨G0.next, 0, none⟩) by simp +decide only [ja1, reduceIte, e3])
         have g4 := (q0 4 (by decide)).trans (show _ = Value.pointer (some ⟨G0.next + 1, 0, none⟩) by simp +decide only [ja1, reduceIte, e4])
         have g5 := (q0 5 (by decide)).trans (show _ = Value.slice (some ⟨G0.next + 2, 0, none⟩) 3000 3000 by simp +decide only [ja1, reduceIte, e5])
         have g6 := (q0 6 (by decide)).trans (show _ = Value.int .i64 (i : Int) by simp +decide only [ja1, reduceIte, e6])
         clear q0
         simp +decide only [↓uR.o, dG.o, ja1, reduceIte, ↓ja0 l6, g6, w]
         exact j6r KO KR KN hG hN hT n (i + 1) m (by omega) (by omega) s1 (by simp +decide only [ja1, reduceIte, g0]) (by simp +decide only [ja1, reduceIte, g3]) (by simp +decide only [ja1, reduceIte, g4]) (by simp +decide only [ja1, reduceIte, g5]) (by simp +decide only [ja1, reduceIte]) hx
       · have d3 : decide ((t.length : Int) > 3000) = false := decide_eq_false (by omega)
         simp +decide only [↓uR.o, dG.o, ja1, reduceIte, ↓ja0 l5, ↓ja0 l7, ↓ja0 l8, ↓ja0 l10, ↓jb8 _ 4 true 24 _ j3l, ↓jb4, e0, e6, ja6 (ts := #[27]) rfl und27, d1, d2, hi, hl, ja6 (ts := #[22]) rfl und34, d3]
         refine j6q (c := c) KO KR KN hG ht (by omega) hN 2 0 N (by omega) (by omega) s (by simp +decide only [ja1, reduceIte, e3]) (by simp +decide only [ja1, reduceIte, e4]) (by simp +decide only [ja1, reduceIte, e5]) (by simp +decide only [ja1, reduceIte]) (by simp +decide only [ja1, reduceIte]; rfl) fun E' G q0 s1 => ?_
         have g0 := (q0 0 (by decide)).trans (show _ = Value.slice a0 len c0 by simp +decide only [ja1, reduceIte, e0])
         have g3 := (q0 3 (by decide)).trans (show _ = Value.pointer (some ⟨G0.next, 0, none⟩) by simp +decide only [ja1, reduceIte, e3])
         have g4 := (q0 4 (by decide)).trans (show _ = Value.pointer (some ⟨G0.next + 1, 0, none⟩) by simp +decide only [ja1, reduceIte, e4])
         have g5 := (q0 5 (by decide)).trans (show _ = Value.slice (some ⟨G0.next + 2, 0, none⟩) 3000 3000 by simp +decide only [ja1, reduceIte, e5])
         have g6 := (q0 6 (by decide)).trans (show _ = Value.int .i64 (i : Int) by simp +decide only [ja1, reduceIte, e6])
         clear q0
         simp +decide only [↓uR.o, dG.o, ja1, reduceIte, ↓ja0 l6, g6, w]
         exact j6r KO KR KN hG hN hT n (i + 1) m (by omega) (by omega) s1 (by simp +decide only [ja1, reduceIte, g0]) (by simp +decide only [ja1, reduceIte, g3]) (by simp +decide only [ja1, reduceIte, g4]) (by simp +decide only [ja1, reduceIte, g5]) (by simp +decide only [ja1, reduceIte]) hx
     · have d2 : decide ((i : Int) < 20) = false := decide_eq_false (by omega)
       simp +decide only [↓uR.o, dG.o, ja1, reduceIte, ↓ja0 l5, ↓jb8 _ 4 true 24 _ j3l, e0, e6, ja6 (ts := #[27]) rfl und27, d1, d2]
       exact hx _ H (by simp +decide only [ja1, reduceIte, e3]) (by simp +decide only [ja1, reduceIte, e4]) s
   · have d1 : decide ((i : Int) < (len : Int)) = false := decide_eq_false (by omega)
     simp +decide only [↓uR.o, dG.o, ja1, reduceIte, Bool.not_true, ↓ja0 l5, ↓r_no _ 4 true 24 _ j3l, e0, e6, ja6 (ts := #[27]) rfl und27, d1]
     exact hx _ H (by simp +decide only [ja1, reduceIte, e3]) (by simp +decide only [ja1, reduceIte, e4]) s
end
def nilC : List Value := [.slice none 0 0, .slice none 0 0, .int .i64 0, .bool false]
theorem allocBT (H : Heap) : allocA PP 30 H = some (.pointer (some ⟨H.next, 0, none⟩), H.alloc 1 nilC) := by kernel_rfl
theorem allocBB (H : Heap) : allocA PP 32 H = some (.pointer (some ⟨H.next, 0, none⟩), H.alloc 1 nilC) := by kernel_rfl
theorem LawSt.start {G0 : Heap} (hG : Ext GE G0) : LawSt G0 (((G0.alloc 1 nilC).alloc 1 nilC).alloc 1 ((List.replicate 3000 0).map Go.Am.f8)) := by
 have x1 : Ext G0 (G0.alloc 1 nilC) := Ext.alloc hG.fresh 1 _
 have x2 : Ext (G0.alloc 1 nilC) ((G0.alloc 1 nilC).alloc 1 nilC) := Ext.alloc x1.fresh 1 _
 have x3 : Ext ((G0.alloc 1 nilC).alloc 1 nilC) (((G0.alloc 1 nilC).alloc 1 nilC).alloc 1 ((List.replicate 3000 0).map f8)) := Ext.alloc x2.fresh 1 _
 have b0 : G0.get 0 = some (ro asciiV) := hG.keep 0 _ rfl
 have b0' := x3.keep _ _ (x2.keep _ _ (x1.keep _ _ b0))
 have g1 : (G0.alloc 1 nilC).get G0.next = some nilB := by rw [Heap.get_alloc, if_pos rfl]; rfl
 have g2 : ((G0.alloc 1 nilC).alloc 1 nilC).get (G0.next + 1) = some nilB := by rw [Heap.get_alloc]; exact if_pos rfl
 refine ⟨x1.trans (x2.trans x3), .inr ⟨x3.keep _ _ (x2.keep _ _ g1), _, b0', rfl, rfl⟩, .inr ⟨x3.keep _ _ g2, _, b0', rfl, rfl⟩, ⟨List.replicate 3000 0, by rw [List.length_replicate], ?_⟩⟩
 exact j9m ((G0.alloc 1 nilC).alloc 1 nilC) (List.replicate 3000 0)
theorem yi3 {G0 : Heap} {N : Nat} {hk : Hook} {d : Nat} (KO : HkOk hk) (KR : HkR hk) (KN : HkN hk) (hkn : ∀ H, Ext GE H → hk 7 #[] H = some (some (.ret (.bool true), H))) (hG : Ext GE G0) (hN : 1000000 < N) {a0 : Option Addr} {len c0 : Nat} (hT : ∀ i, i < len → i < 20 → TextAt G0 a0 len c0 i) :
   ∃ H', execG PP XX (hkB (CG N hk (d + 6))) N noPr (codeOf Tryz.f4) none (startE #[.slice a0 len c0]) [] G0 (finE PP Tryz.f4) = some (.ret (.bool true), H') := by
 have main : ∃ R0 : R, execG PP XX (hkB (CG N hk (d + 6))) N noPr (codeOf Tryz.f4) none (startE #[.slice a0 len c0]) [] G0 (finE PP Tryz.f4) = R0 ∧ ∃ H', R0 = some (.ret (.bool true), H') := by
   refine ⟨_, rfl, ?_⟩
   rw [code4]
   generalize hF : finE PP Tryz.f4 = F
   have s0 := LawSt.start hG
   have mk := yg0 ((G0.alloc 1 nilC).alloc 1 nilC) 3000 (by decide)
   have mk : makeSliceA PP 22 (.int .i64 3000) (.int .i64 3000) ((G0.alloc 1 nilC).alloc 1 nilC) = some (.slice (some ⟨G0.next + 2, 0, none⟩) 3000 3000, ((G0.alloc 1 nilC).alloc 1 nilC).alloc 1 ((List.replicate 3000 0).map f8)) := mk
   have a2 := allocBB (G0.alloc 1 nilC)
   have a2 : allocA PP 32 (G0.alloc 1 nilC) = some (.pointer (some ⟨G0.next + 1, 0, none⟩), (G0.alloc 1 nilC).alloc 1 nilC) := a2
   have a1 := allocBT G0
   generalize ((G0.alloc 1 nilC).alloc 1 nilC).alloc 1 ((List.replicate 3000 0).map f8) = H3 at *
   generalize (G0.alloc 1 nilC).alloc 1 nilC = H2 at *
   generalize G0.alloc 1 nilC = H1 at *
   have lL := lX6 Tryz.f4 0 1 2 3 4 30
   conv at lL in (occs := *) (rq _ _) => all_goals simp only [rX, oA, Tryz.f4, dL.o, reduceIte, Nat.reduceEqDiff]
   obtain ⟨l0, l1, l2, l3, l4, l30⟩ := lL
   simp +decide only [↓uR.o, dG.o, ja1, reduceIte, ↓ja0 l0, ↓ja0 l1, ↓ja0 l2, ↓ja0 l3, ↓ja0 l4, ↓jb4, a1, a2, mk]
   refine j6r (Q := fun r => ∃ H', r = some (.ret (.bool true), H')) KO KR KN hG hN hT 20 0 N (by omega) (by omega) s0 (by simp +decide only [ja1, reduceIte, jc7]) (by simp +decide only [ja1, reduceIte]) (by simp +decide only [ja1, reduceIte]) (by simp +decide only [ja1, reduceIte]) (by simp +decide only [ja1, reduceIte]; rfl) fun E' G e3 e4 s1 => ?_
   have hf : Fresh G0 := hG.fresh
   obtain ⟨H5, k18, s5⟩ := apartT (CG N hk (d + 6)) s1 hf
   obtain ⟨H6, k20, s6⟩ := apartB (CG N hk (d + 6)) s5 hf
   have h7 : CG N hk (d + 6) 7 #[] H6 = some (.ret (.bool true), H6) := jc1 (hkn H6 (hG.trans s6.ext))
   have k7 : hkB (CG N hk (d + 6)) 7 #[] H6 = _ := (jg4 _ (by decide)).trans h7
   simp +decide only [↓uR.o, dG.o, ja1, reduceIte, ↓ja0 l30, ↓jb8 _ 1 true 115 _ yp3, ↓jb8 _ 4 true 118 _ yp4, e3, e4, ja3 Tryz.func18 rfl rfl k18, ja3 Tryz.func20 rfl rfl k20, ja3 Tryz.func7 rfl rfl k7]
   refine ⟨H6, ?_⟩
   rw [← hF, jb0 (l := [.bool true]) (by simp +decide [Tryz.f4, resE, ja1])]
   rfl
 obtain ⟨R0, m1, H', m2⟩ := main
 exact ⟨H', m1.trans m2⟩
theorem good4 : goodG PP noPr Tryz.f4.ntmps (codeOf Tryz.f4) = true := by decide +kernel
theorem plain4 : noDraw (codeOf Tryz.f4) = true := by decide +kernel
end Go.Am
