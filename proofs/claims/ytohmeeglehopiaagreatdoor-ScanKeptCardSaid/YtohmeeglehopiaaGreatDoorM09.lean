/- An integer: hex digits, and all of it. -/
import Derived.Test.YtohmeeglehopiaaGreatDoorM08
open Go.Proofs
namespace Go.Am
set_option maxRecDepth 100000
theorem y0f {s : List UInt8} {fr f i n : Nat} {u : UInt8} (hu : s.getD i 0 = u) (hq : hexT u.toNat < 16) (ov : n * 16 + (hexT u.toNat).toNat < m64) : hexI s fr (f + 1) i n = hexI s fr f (i + 1) (n * 16 + (hexT u.toNat).toNat) := by
 subst hu
 rw [hexI, if_pos hq, if_pos ov]
theorem y0g {s : List UInt8} {fr f i n : Nat} {u : UInt8} (hu : s.getD i 0 = u) (hq : hexT u.toNat < 16) (ov : ¬ n * 16 + (hexT u.toNat).toNat < m64) : hexI s fr (f + 1) i n = .bad i := by
 subst hu
 rw [hexI, if_pos hq, if_neg ov]
theorem y0h {N : Nat} {H0 : Heap} {a : Option Addr} {c : Nat} {s : List UInt8} {b t : Nat} {Q : R → Prop} {k : KOE} {hk : Hook} {d : Nat} {kd f0 t0 : Int} {w : ByteArray} {n0 : Int} {fr : Nat} (x : Ctx H0 a c s b) (hbt : t ≠ b) (ht : H0.get t = some (tok kd n0 w f0 t0)) (hh : NH hk) (htl : t < H0.next) (htg : GE.next ≤ t) (hrt : ∀ q, a = some q → q.block ≠ t) (hm : ∀ x y H, x < m64 → y < m64 → hk 83 #[.int .u64 ((x : Nat) : Int), .int .u64 ((y : Nat) : Int)] H = some (some (.ret (mulV x y), H))) {H : Heap} {E : Env} {i n m : Nat} (h : Curs H0 H b a s.length c i) (hn : n < m64) (hnh : ¬ (i < s.length ∧ hexT (s.getD i 0).toNat < 16)) (hhex : ∀ (u : UInt8) H, Ext GE H → hk 64 #[.int .u8 (u.toNat : Int)] H = some (some (.ret (.int .u64 (hexT u.toNat)), H))) (he : (E 0 = .pointer (some ⟨b, 0, none⟩) ∧ E 1 = .pointer (some ⟨t, 0, none⟩) ∧ E 6 = .int .i64 (fr : Int) ∧ E 7 = .int .u64 (n : Int)))
   (hx : ∀ E' H', Fin H0 a s.length c b t kd w f0 t0 (endH s fr i n) E' H' → Q (k .ret E' [] H')) : Q (execG PP XX (CG N hk (d + 2)) N noPr cST8 none E [] H (scopeK cST1 (execG PP XX (CG N hk (d + 2)) N noPr cST1) m k)) := by
 obtain ⟨e0, e1, e6, e7⟩ := he
 have two := h.two hbt ht
 have hz : ((i : Int) == (fr : Int)) = decide (i = fr) := by
   rw [Bool.eq_iff_iff, beq_iff_eq, decide_eq_true_eq]; omega
 have lL := lX3 Tryz.f44 11 16 17
 conv at lL in (occs := *) (rq _ _) => all_goals simp only [rX, oA, Tryz.f44, dL.o, reduceIte, Nat.reduceEqDiff]
 obtain ⟨l11, l16, l17⟩ := lL
 by_cases hi : i < s.length
 · have hlt : decide ((i : Int) < (s.length : Int)) = true := decide_eq_true (by omega)
   have hgd : s.getD i 0 = s[i] := by simp [List.getD, hi]
   obtain ⟨y, rfl, hl⟩ := (h.row x).bts.cell i hi
   have hix := jc4 (n := s.length) (c := c) (a := y) hi
   have h16 : decide (hexT s[i].toNat < 16) = false := decide_eq_false (fun q => hnh ⟨hi, by rw [hgd]; exact q⟩)
   have hc : CG N hk (d + 2) 64 #[.int .u8 (s[i].toNat : Int)] H = some (.ret (.int .u64 (hexT s[i].toNat)), H) := jc1 (hhex s[i] H (h.gg x))
   by_cases hf : i = fr
   · rw [decide_eq_true hf] at hz
     rw [endH, if_pos hf] at hx
     simp +decide only [↓uR.o, dG.o, ja1, reduceIte, ↓ja0 l11, ↓ja0 l16, ↓ja0 l17, ↓jb8 _ 10 true 100 _ jj3, e0, e6, fld0, fld1, jc0 h.here, jb3 h.here, ja6 (ts := #[22]) rfl und34, hlt, hix, jb7 hl, ja3 Tryz.func64 rfl rfl hc, h16, hz, je1]
     exact hx _ _ ⟨by simp +decide only [ja1, reduceIte], _, two⟩
   · rw [decide_eq_false hf] at hz
     rw [endH, if_neg hf] at hx
     simp +decide only [↓uR.o, dG.o, ja1, reduceIte, ↓ja0 l11, ↓ja0 l16, ↓jb8 _ 10 true 100 _ jj3, ↓jh7, e0, e6, fld0, fld1, jc0 h.here, jb3 h.here, ja6 (ts := #[22]) rfl und34, hlt, hix, jb7 hl, ja3 Tryz.func64 rfl rfl hc, h16, hz]
     exact j68 x hbt ht hh htl htg hrt hm h hn ⟨by simp +decide only [ja1, reduceIte, e0], by simp +decide only [ja1, reduceIte, e1], by simp +decide only [ja1, reduceIte, e7]⟩ hx
 · have hlt : decide ((i : Int) < (s.length : Int)) = false := decide_eq_false (by omega)
   by_cases hf : i = fr
   · rw [decide_eq_true hf] at hz
     rw [endH, if_pos hf] at hx
     simp +decide only [↓uR.o, dG.o, ja1, reduceIte, Bool.not_true, ↓ja0 l11, ↓ja0 l16, ↓ja0 l17, ↓r_no _ 10 true 100 _ jj3, e0, e6, fld0, fld1, jc0 h.here, jb3 h.here, ja6 (ts := #[22]) rfl und34, hlt, hz, je1]
     exact hx _ _ ⟨by simp +decide only [ja1, reduceIte], _, two⟩
   · rw [decide_eq_false hf] at hz
     rw [endH, if_neg hf] at hx
     simp +decide only [↓uR.o, dG.o, ja1, reduceIte, Bool.not_true, ↓ja0 l11, ↓ja0 l16, ↓r_no _ 10 true 100 _ jj3, ↓jh7, e0, e6, fld0, fld1, jc0 h.here, jb3 h.here, ja6 (ts := #[22]) rfl und34, hlt, hz]
     exact j68 x hbt ht hh htl htg hrt hm h hn ⟨by simp +decide only [ja1, reduceIte, e0], by simp +decide only [ja1, reduceIte, e1], by simp +decide only [ja1, reduceIte, e7]⟩ hx
theorem yq5 {N : Nat} {H0 : Heap} {a : Option Addr} {c : Nat} {s : List UInt8} {b t : Nat} {Q : R → Prop} {k : KOE} {hk : Hook} {d : Nat} {kd f0 t0 : Int} {w : ByteArray} {n0 : Int} {fr : Nat} (x : Ctx H0 a c s b) (hbt : t ≠ b) (ht : H0.get t = some (tok kd n0 w f0 t0)) (hh : NH hk) (htl : t < H0.next) (htg : GE.next ≤ t) (hrt : ∀ q, a = some q → q.block ≠ t) (hm : ∀ x y H, x < m64 → y < m64 → hk 83 #[.int .u64 ((x : Nat) : Int), .int .u64 ((y : Nat) : Int)] H = some (some (.ret (mulV x y), H))) (hhex : ∀ (u : UInt8) H, Ext GE H → hk 64 #[.int .u8 (u.toNat : Int)] H = some (some (.ret (.int .u64 (hexT u.toNat)), H))) :
   ∀ (f i n m : Nat) (_ : i + f = s.length) (_ : f < m) (_ : n < m64) {H : Heap} {E : Env} (_ : Curs H0 H b a s.length c i) (_ : (E 0 = .pointer (some ⟨b, 0, none⟩) ∧ E 1 = .pointer (some ⟨t, 0, none⟩) ∧ E 6 = .int .i64 (fr : Int) ∧ E 7 = .int .u64 (n : Int)))
     (_ : ∀ E' H', Fin H0 a s.length c b t kd w f0 t0 (hexI s fr f i n) E' H' → Q (k .ret E' [] H')), Q (execG PP XX (CG N hk (d + 2)) N noPr cST8 none E [] H (scopeK cST1 (execG PP XX (CG N hk (d + 2)) N noPr cST1) m k))
 | 0, i, n, m, hf, hmm, hn, H, E, h, he, hx => y0h x hbt ht hh htl htg hrt hm h hn (fun q => by omega) hhex he hx
 | f + 1, i, n, m + 1, hf, hmm, hn, H, E, h, he, hx => by
   have a1 : i + 1 + f = s.length := by omega
   have a2 : f < m := by omega
   have hi : i < s.length := by omega
   by_cases hq : hexT (s.getD i 0).toNat < 16
   · obtain ⟨e0, e1, e6, e7⟩ := he
     have hsm := x.row.small
     have hlt : decide ((i : Int) < (s.length : Int)) = true := decide_eq_true (by omega)
     have hgd : s.getD i 0 = s[i] := by simp [List.getD, hi]
     rw [hgd] at hq
     obtain ⟨y, rfl, hl⟩ := (h.row x).bts.cell i hi
     have hix := jc4 (n := s.length) (c := c) (a := y) hi
     have h16 : decide (hexT s[i].toNat < 16) = true := decide_eq_true hq
     have hc : CG N hk (d + 2) 64 #[.int .u8 (s[i].toNat : Int)] H = some (.ret (.int .u64 (hexT s[i].toNat)), H) := jc1 (hhex s[i] H (h.gg x))
     have hnn := jn1 s[i].toNat
     have w1 : IntKind.i64.wrap ((i : Int) + 1) = ((i + 1 : Nat) : Int) := by rw [ja4 (by omega) (by omega)]; omega
     have hd : (hexT s[i].toNat).toNat < m64 := by unfold m64; omega
     have m16 : (16 : Nat) < m64 := by decide
     have q0 : ∀ (u v : Value), extractA (.tuple #[u, v]) 0 = some u := fun _ _ => rfl
     have q1 : ∀ (u v : Value), extractA (.tuple #[u, v]) 1 = some v := fun _ _ => rfl
     have hti : (((hexT s[i].toNat).toNat : Nat) : Int) = hexT s[i].toNat := by omega
     have lL := lX5 Tryz.f44 11 12 13 14 15
     conv at lL in (occs := *) (rq _ _) => all_goals simp only [rX, oA, Tryz.f44, dL.o, reduceIte, Nat.reduceEqDiff]
     obtain ⟨l11, l12, l13, l14, l15⟩ := lL
     by_cases ov : n * 16 + (hexT s[i].toNat).toNat < m64
     · have hmo := j24 (N := N) (hk := hk) (d := d) (H := H) n 16 (hexT s[i].toNat).toNat (n * 16 + (hexT s[i].toNat).toNat) 16 (hexT s[i].toNat) (by omega) hti hn m16 hd rfl ov hh hm
       have es : hexI s fr (f + 1) i n = hexI s fr f (i + 1) (n * 16 + (hexT s[i].toNat).toNat) := by exact y0f hgd hq ov
       rw [es] at hx
       simp +decide only [↓uR.o, dG.o, ja1, jb1, reduceIte, ↓ja0 l11, ↓ja0 l12, ↓ja0 l13, ↓ja0 l15, ↓jb8 _ 10 true 100 _ jj3, ↓jf1, jh8, e0, e7, fld0, fld1, jc0 h.here, jb3 h.here, ja6 (ts := #[22]) rfl und34, hlt, hix, jb7 hl, ja3 Tryz.func64 rfl rfl hc, h16, ja3 Tryz.func63 rfl rfl hmo, q0, q1, jq8, w1, jd1 h.here]
       clear w1 hmo
       rw [jh1 lab0]
       rw [je6, jmp0]
       exact yq5 x hbt ht hh htl htg hrt hm hhex f (i + 1) (n * 16 + (hexT s[i].toNat).toNat) m a1 a2 ov (h.set (i + 1)) ⟨by simp +decide only [ja1, reduceIte, e0], by simp +decide only [ja1, reduceIte, e1], by simp +decide only [ja1, reduceIte, e6], by simp +decide only [ja1, reduceIte, e7]⟩ hx
     · obtain ⟨vv, hmo⟩ := j25 (N := N) (hk := hk) (d := d) (H := H) n 16 (hexT s[i].toNat).toNat (n * 16 + (hexT s[i].toNat).toNat) 16 (hexT s[i].toNat) (by omega) hti hn m16 hd rfl ov hh hm
       have es : hexI s fr (f + 1) i n = .bad i := by exact y0g hgd hq ov
       rw [es] at hx
       simp +decide only [↓uR.o, dG.o, ja1, reduceIte, ↓ja0 l11, ↓ja0 l12, ↓ja0 l13, ↓ja0 l14, ↓jb8 _ 10 true 100 _ jj3, e0, e7, fld0, fld1, jc0 h.here, jb3 h.here, ja6 (ts := #[22]) rfl und34, hlt, hix, jb7 hl, ja3 Tryz.func64 rfl rfl hc, h16, ja3 Tryz.func63 rfl rfl hmo, q0, q1, j23, je1]
       exact hx _ _ ⟨by simp +decide only [ja1, reduceIte], _, h.two hbt ht⟩
   · have es : hexI s fr (f + 1) i n = endH s fr i n := by rw [hexI, if_neg hq]
     rw [es] at hx
     exact y0h x hbt ht hh htl htg hrt hm h hn (fun q => hq q.2) hhex he hx
def intI (s : List UInt8) (i : Nat) : IR := if s.getD i 0 = 48 ∧ i + 1 < s.length ∧ s.getD (i + 1) 0 = 120 then hexI s (i + 2) (s.length - (i + 2)) (i + 2) 0 else decI s (s.length - i) i 0
theorem ym2 {N : Nat} {H0 : Heap} {a : Option Addr} {c : Nat} {s : List UInt8} {b t : Nat} {Q : R → Prop} {k : KOE} {hk : Hook} {d : Nat} {kd f0 t0 : Int} {w : ByteArray} {n0 : Int} {H : Heap} {i : Nat} (x : Ctx H0 a c s b) (hbt : t ≠ b) (ht : H0.get t = some (tok kd n0 w f0 t0)) (hh : NH hk) (htl : t < H0.next) (htg : GE.next ≤ t) (hrt : ∀ q, a = some q → q.block ≠ t) (hm : ∀ x y H, x < m64 → y < m64 → hk 83 #[.int .u64 ((x : Nat) : Int), .int .u64 ((y : Nat) : Int)] H = some (some (.ret (mulV x y), H))) (hhex : ∀ (u : UInt8) H, Ext GE H → hk 64 #[.int .u8 (u.toNat : Int)] H = some (some (.ret (.int .u64 (hexT u.toNat)), H))) (h : Curs H0 H b a s.length c i) (hi : i < s.length) (hN : s.length + 4 < N) :
   ∃ E' H', Fin H0 a s.length c b t kd w f0 t0 (intI s i) E' H' ∧ ∃ v, E' 4 = v ∧ CG N hk (d + 3) 44 #[.pointer (some ⟨b, 0, none⟩), .pointer (some ⟨t, 0, none⟩)] H = some (.ret v, H') := by
 have main : ∃ R0 : R, CG N hk (d + 3) 44 #[.pointer (some ⟨b, 0, none⟩), .pointer (some ⟨t, 0, none⟩)] H = R0 ∧ ∃ E' H', Fin H0 a s.length c b t kd w f0 t0 (intI s i) E' H' ∧ ∃ v, E' 4 = v ∧ R0 = some (.ret v, H') := by
   refine ⟨_, jb6 (hh _ _ _ rfl) Tryz.func44 (c := codeOf Tryz.f44) rfl rfl rfl (pr := noPr) rfl, ?_⟩
   rw [code44]
   generalize hF : finE PP Tryz.f44 = F
   obtain ⟨M, rfl⟩ : ∃ q, N = q + 1 := ⟨N - 1, by omega⟩
   have hsm := x.row.small
   obtain ⟨y, rfl, hl⟩ := (h.row x).bts.cell i hi
   have hix := jc4 (n := s.length) (c := c) (a := y) hi
   have hgd : s.getD i 0 = s[i] := by simp [List.getD, hi]
   have z48 : ((s[i].toNat : Int) == 48) = decide (s[i] = 48) := ja7 s[i] 48
   have w1 : IntKind.i64.wrap ((i : Int) + 1) = ((i + 1 : Nat) : Int) := by rw [ja4 (by omega) (by omega)]; omega
   have fin : ∀ E' H', Fin H0 (some y) s.length c b t kd w f0 t0 (intI s i) E' H' → ∃ E'' H'', Fin H0 (some y) s.length c b t kd w f0 t0 (intI s i) E'' H'' ∧ ∃ v, E'' 4 = v ∧ F .ret E' [] H' = some (.ret v, H'') := fun E' H' hf => by
     refine ⟨E', H', hf, E' 4, rfl, ?_⟩
     rw [← hF, jb0 (l := [E' 4]) (by simp +decide [Tryz.f44, resE])]
     rfl
   have m0 : (0 : Nat) < m64 := by decide
   have lL := lX6 Tryz.f44 0 1 2 3 4 5
   conv at lL in (occs := *) (rq _ _) => all_goals simp only [rX, oA, Tryz.f44, dL.o, reduceIte, Nat.reduceEqDiff]
   obtain ⟨l0, l1, l2, l3, l4, l5⟩ := lL
   by_cases c48 : s[i] = 48
   · rw [decide_eq_true c48] at z48
     by_cases h1 : i + 1 < s.length
     · have hlt : decide (((i + 1 : Nat) : Int) < (s.length : Int)) = true := decide_eq_true (by omega)
       obtain ⟨y2, e2, hl1⟩ := (h.row x).bts.cell (i + 1) h1
       obtain rfl := Option.some.inj e2
       have hix1 := jc4 (n := s.length) (c := c) (a := y) h1
       have hgd1 : s.getD (i + 1) 0 = s[i + 1] := by simp [List.getD, h1]
       have z120 : ((s[i + 1].toNat : Int) == 120) = decide (s[i + 1] = 120) := ja7 s[i + 1] 120
       by_cases c120 : s[i + 1] = 120
       · rw [decide_eq_true c120] at z120
         have w2 : IntKind.i64.wrap ((i : Int) + 2) = ((i + 2 : Nat) : Int) := by rw [ja4 (by omega) (by omega)]; omega
         have es : intI s i = hexI s (i + 2) (s.length - (i + 2)) (i + 2) 0 := by rw [intI, if_pos ⟨by rw [hgd]; exact c48, h1, by rw [hgd1]; exact c120⟩]
         have h2 := h.set (i + 2)
         simp +decide only [↓uR.o, dG.o, ja1, jb1, reduceIte, ↓ja0 l0, ↓ja0 l1, ↓ja0 l2, ↓ja0 l3, ↓ja0 l4, ↓ja0 l5, ↓jb8 _ 11 true 24 _ ju1, ↓jb8 _ 24 true 37 _ ju2, ↓jk0, ↓jf1, jh8, ↓je6, fld0, fld1, jc0 h.here, jb3 h.here, hix, jb7 hl, z48, w1, w2, ja6 (ts := #[22]) rfl und34, hlt, hix1, jb7 hl1, z120, jd1 h.here, jb3 h2.here]
         rw [jh1 lab0]
         obtain ⟨M', rfl⟩ : ∃ q, M = q + 1 := ⟨M - 1, by omega⟩
         rw [je6, jmp0]
         refine yq5 (fr := i + 2) (Q := fun r => ∃ E' H', Fin H0 (some y) s.length c b t kd w f0 t0 (intI s i) E' H' ∧ ∃ v, E' 4 = v ∧ r = some (.ret v, H')) x hbt ht hh htl htg hrt hm hhex (s.length - (i + 2)) (i + 2) 0 M' (by omega) (by omega) m0 h2 ⟨?_, ?_, ?_, ?_⟩ (fun E' H' hf => ?_)
         · simp +decide only [ja1, reduceIte, jc7]
         · simp +decide only [ja1, reduceIte, je4]
         · simp +decide only [ja1, reduceIte]
         · simp +decide only [ja1, reduceIte]; rfl
         · rw [← es] at hf
           try simp only [jl6, je1]
           exact fin E' H' hf
       · rw [decide_eq_false c120] at z120
         have es : intI s i = decI s (s.length - i) i 0 := by rw [intI, if_neg (fun q => c120 (by rw [← hgd1]; exact q.2.2))]
         simp +decide only [↓uR.o, dG.o, ja1, reduceIte, ↓ja0 l0, ↓ja0 l1, ↓ja0 l2, ↓ja0 l3, ↓jb8 _ 11 true 24 _ ju1, ↓jb8 _ 24 true 37 _ ju2, ↓jk0, ↓jh7, ↓je6, fld0, fld1, jc0 h.here, jb3 h.here, hix, jb7 hl, z48, w1, ja6 (ts := #[22]) rfl und34, hlt, hix1, jb7 hl1, z120]
         refine j69 (Q := fun r => ∃ E' H', Fin H0 (some y) s.length c b t kd w f0 t0 (intI s i) E' H' ∧ ∃ v, E' 4 = v ∧ r = some (.ret v, H')) x hbt ht hh htl htg hrt hm (s.length - i) i 0 M (by omega) (by omega) m0 h ⟨?_, ?_, ?_⟩ (fun E' H' hf => ?_)
         · simp +decide only [ja1, reduceIte, jc7]
         · simp +decide only [ja1, reduceIte, je4]
         · simp +decide only [ja1, reduceIte]; rfl
         · rw [← es] at hf
           try simp only [jl6, je1]
           exact fin E' H' hf
     · have hlt : decide (((i + 1 : Nat) : Int) < (s.length : Int)) = false := decide_eq_false (by omega)
       have es : intI s i = decI s (s.length - i) i 0 := by rw [intI, if_neg (fun q => h1 q.2.1)]
       simp +decide only [↓uR.o, dG.o, ja1, reduceIte, Bool.not_true, ↓ja0 l0, ↓ja0 l1, ↓ja0 l2, ↓ja0 l3, ↓jb8 _ 11 true 24 _ ju1, ↓r_no _ 24 true 37 _ ju2, ↓jk0, ↓jh7, ↓je6, fld0, fld1, jc0 h.here, jb3 h.here, hix, jb7 hl, z48, w1, ja6 (ts := #[22]) rfl und34, hlt]
       refine j69 (Q := fun r => ∃ E' H', Fin H0 (some y) s.length c b t kd w f0 t0 (intI s i) E' H' ∧ ∃ v, E' 4 = v ∧ r = some (.ret v, H')) x hbt ht hh htl htg hrt hm (s.length - i) i 0 M (by omega) (by omega) m0 h ⟨?_, ?_, ?_⟩ (fun E' H' hf => ?_)
       · simp +decide only [ja1, reduceIte, jc7]
       · simp +decide only [ja1, reduceIte, je4]
       · simp +decide only [ja1, reduceIte]; rfl
       · rw [← es] at hf
         try simp only [jl6, je1]
         exact fin E' H' hf
   · rw [decide_eq_false c48] at z48
     have es : intI s i = decI s (s.length - i) i 0 := by rw [intI, if_neg (fun q => c48 (by rw [← hgd]; exact q.1))]
     simp +decide only [↓uR.o, dG.o, ja1, reduceIte, Bool.not_true, ↓ja0 l0, ↓ja0 l1, ↓ja0 l2, ↓ja0 l3, ↓r_no _ 11 true 24 _ ju1, ↓r_no _ 24 true 37 _ ju2, ↓jk0, ↓jh7, ↓je6, fld0, fld1, jc0 h.here, jb3 h.here, hix, jb7 hl, z48]
     refine j69 (Q := fun r => ∃ E' H', Fin H0 (some y) s.length c b t kd w f0 t0 (intI s i) E' H' ∧ ∃ v, E' 4 = v ∧ r = some (.ret v, H')) x hbt ht hh htl htg hrt hm (s.length - i) i 0 M (by omega) (by omega) m0 h ⟨?_, ?_, ?_⟩ (fun E' H' hf => ?_)
     · simp +decide only [ja1, reduceIte, jc7]
     · simp +decide only [ja1, reduceIte, je4]
     · simp +decide only [ja1, reduceIte]; rfl
     · rw [← es] at hf
       try simp only [jl6, je1]
       exact fin E' H' hf
 obtain ⟨R0, m1, E', H', m2, v, m3, m4⟩ := main
 exact ⟨E', H', m2, v, m3, m1.trans m4⟩
noncomputable abbrev cSW36 : Code := .seq (rF Tryz.f46 25) (.cond (.tmp 96) .skip (rF Tryz.f46 26))
noncomputable abbrev cSW35 : Code := .seq (rF Tryz.f46 8) (.seq (rF Tryz.f46 9) (.seq (rF Tryz.f46 10) .ret))
noncomputable abbrev cSW34 : Code := .seq (rT Tryz.f46 4) (.cond (.tmp 24) (.seq (rF Tryz.f46 5) .ret) .skip)
noncomputable abbrev cSW33 : Code := .seq (rT Tryz.f46 16) (.cond (.tmp 80) (.seq (rF Tryz.f46 17) .ret) .skip)
noncomputable abbrev cSW32 : Code := .seq (rF Tryz.f46 12) (.cond (.tmp 53) (.seq (rF Tryz.f46 13) .ret) .skip)
noncomputable abbrev cSW31 : Code := .seq (rT Tryz.f46 32) (.cond (.tmp 133) (.seq (rF Tryz.f46 33) .ret) .skip)
noncomputable abbrev cSW30 : Code := .seq cSW31 (rT Tryz.f46 34)
noncomputable abbrev cSW29 : Code := .seq (rF Tryz.f46 31) cSW30
noncomputable abbrev cSW28 : Code := .seq (rF Tryz.f46 11) (.cond (.tmp 50) (.goto 1) cSW32)
noncomputable abbrev cSW27 : Code := .block 3 cSW29
noncomputable abbrev cSW26 : Code := .seq cSW27 (rF Tryz.f46 35)
noncomputable abbrev cSW25 : Code := .seq (.cond (.tmp 102) .skip (.exit 2)) cSW26
noncomputable abbrev cSW24 : Code := .seq (rF Tryz.f46 30) cSW25
noncomputable abbrev cSW23 : Code := .loop cSW24
noncomputable abbrev cSW22 : Code := .seq (rF Tryz.f46 7) (.cond (.tmp 35) cSW35 cSW28)
noncomputable abbrev cSW21 : Code := .block 2 cSW23
noncomputable abbrev cSW20 : Code := .block 0 cSW22
noncomputable abbrev cSW19 : Code := .seq (rF Tryz.f46 29) cSW21
noncomputable abbrev cSW18 : Code := .seq (rT Tryz.f46 6) cSW20
noncomputable abbrev cSW17 : Code := .seq cSW19 (rF Tryz.f46 36)
noncomputable abbrev cSW16 : Code := .seq (rF Tryz.f46 28) cSW17
noncomputable abbrev cSW15 : Code := .seq (rF Tryz.f46 27) (.cond (.tmp 99) cSW16 (.seq (rF Tryz.f46 20) .ret))
noncomputable abbrev cSW14 : Code := .seq cSW36 (.cond (.tmp 96) .skip cSW15)
noncomputable abbrev cSW13 : Code := .seq (rF Tryz.f46 23) (.cond (.tmp 94) (rF Tryz.f46 24) cSW14)
noncomputable abbrev cSW12 : Code := .seq (rF Tryz.f46 21) (.cond (.tmp 92) (rF Tryz.f46 22) cSW13)
noncomputable abbrev cSW11 : Code := .block 1 cSW12
noncomputable abbrev cSW10 : Code := .seq (rF Tryz.f46 19) cSW11
noncomputable abbrev cSW9 : Code := .seq (rT Tryz.f46 18) cSW10
noncomputable abbrev cSW8 : Code := .seq cSW9 (.seq (rF Tryz.f46 37) (.goto 0))
noncomputable abbrev cSW7 : Code := .seq cSW33 cSW8
noncomputable abbrev cSW6 : Code := .seq (rF Tryz.f46 15) cSW7
noncomputable abbrev cSW5 : Code := .seq (.label 1) cSW6
noncomputable abbrev cSW4 : Code := .seq (.goto 0) cSW5
noncomputable abbrev cSW3 : Code := .seq (rF Tryz.f46 14) cSW4
noncomputable abbrev cSW2 : Code := .seq cSW18 cSW3
noncomputable abbrev cSW1 : Code := .seq cSW34 cSW2
def f8 (u : UInt8) : Value := .int .u8 (u.toNat : Int)
def BRow (H : Heap) (v : Value) (o : List UInt8) (lo : Nat) : Prop :=
 (o = [] ∧ v = .slice none 0 0) ∨ (o ≠ [] ∧ ∃ q, v = .slice (some ⟨q, 0, none⟩) o.length o.length ∧ H.get q = some ⟨o.map f8, true, 1, none, false⟩ ∧ lo ≤ q)
theorem j26 : ∀ o : List UInt8, (o.map f8).all Value.oneCell' = true
 | [] => rfl
 | u :: o => by simp only [List.map_cons, List.all_cons, j26 o, Bool.and_true]; rfl
theorem infoB : ∃ i, PP.info? 5 = some i ∧ i.size = 1 ∧ i.bytes = 1 := by
 have h : (PP.info? 5).map (fun i => (i.size, i.bytes)) = some (1, 1) := by kernel_rfl
 cases hi : PP.info? 5 with
 | none => rw [hi] at h; cases h
 | some i => rw [hi] at h; simp at h; exact ⟨i, rfl, h.1, h.2⟩
theorem zeroB : zeroT PP 5 = some [.int .u8 0] := by kernel_rfl
theorem j0x {H : Heap} {v : Value} {o : List UInt8} {lo q1 : Nat} (ho : BRow H v o lo) (hf : Fresh H) (hlo : lo ≤ H.next) (u : UInt8) (hq : H.get q1 = some ⟨[f8 u], true, 1, none, false⟩) (hn : o.length ≤ 1048576) :
   ∃ v' H', appendA PP #[22, 22] v (.slice (some ⟨q1, 0, none⟩) 1 1) H = some (v', H') ∧ BRow H' v' (o ++ [u]) lo ∧ (∀ z w, z < lo → H.get z = some w → H'.get z = some w) ∧ H.next ≤ H'.next ∧ Fresh H' := by
 obtain ⟨i, h1, h2, h3⟩ := infoB
 have src : srcCells H 1 (.slice (some ⟨q1, 0, none⟩) 1 1) = some (1, [f8 u]) := by simp [srcCells, look, hq]
 have hA : appendA PP #[22, 22] v (.slice (some ⟨q1, 0, none⟩) 1 1) H = app H 1 1 v 1 [f8 u] := by
   simp only [appendA]
   simp [h1, h2, h3, zeroB, src]
 rw [hA]
 have al : ∀ (G : Heap) (cells : List Value), Fresh G → Fresh (G.alloc 1 cells) := fun G cells hG z hz => by
   have hz' : G.next + 1 ≤ z := hz
   rw [Heap.get_alloc, if_neg (by omega)]; exact hG z (by omega)
 rcases ho with ⟨rfl, rfl⟩ | ⟨hne, q, rfl, hg, hlq⟩
 · refine ⟨_, _, by simp only [app]; rw [if_neg (by decide), if_pos (by decide)]; rfl, .inr ⟨by simp, H.next, rfl, ?_, hlo⟩, fun z w hz hg => ?_, Nat.le_succ _, al _ _ hf⟩
   · rw [Heap.get_alloc, if_pos rfl]; simp
   · rw [Heap.get_alloc, if_neg (by omega)]; exact hg
 · have hlen : o.length ≠ 0 := by simpa using hne
   have hl1 : (o.map f8).length = o.length := by simp
   have hlk : look H ⟨q, 0, none⟩ = some ⟨o.map f8, true, 1, none, false⟩ := by simp [look, hg]
   have hp : [f8 u].all Value.oneCell' = true := rfl
   have fd : Fresh (H.drop q) := fun z hz => by
     have hz' : H.next ≤ z := hz
     rw [Heap.get_drop]; split
     · rfl
     · exact hf z hz'
   refine ⟨_, (H.drop q).alloc 1 ((o ++ [u]).map f8), ?_, .inr ⟨by simp, H.next, rfl, ?_, hlo⟩, fun z w hz hg => ?_, Nat.le_succ _, al (H.drop q) _ fd⟩
   · simp only [app, hlk]
     rw [if_pos ⟨trivial, trivial, by simp, hp, by unfold most; omega, by unfold most; omega⟩, if_neg (by omega), if_pos (by first | omega | (simp; omega))]
     have e1 : (List.drop 0 (o.map f8)).take (o.length * 1) = o.map f8 := by rw [List.drop_zero, Nat.mul_one, ← hl1, List.take_length]
     simp only [e1, mkRow, List.map_append, List.length_append, List.length_cons, List.length_nil, List.map_cons, List.map_nil]
     rfl
   · rw [Heap.get_alloc]; exact if_pos rfl
   · rw [Heap.get_alloc, if_neg (by show ¬ z = H.next; omega), Heap.get_drop, if_neg (by omega)]; exact hg
theorem bslice1 (H : Heap) (n : Int) : buildSliceA PP 22 1 #[(0, .int .u8 n)] H = some (.slice (some ⟨H.next, 0, none⟩) 1 1, H.alloc 1 [.int .u8 n]) := by
 have hf : Instr.fill (fun i => some (i * 1, 1)) (zeroRow [.int .u8 0] (1 * 1)).toArray [(0, .int .u8 n)] = some #[.int .u8 n] := by rfl
 simp only [buildSliceA, und34, size5, zeroB, mkRow, hf]
 simp
theorem jf5 (s x : Value) (H : Heap) (k : Value → Heap → R) : builtinK PP .append #[22, 22] #[s, x] H k = bindV (appendA PP #[22, 22] s x H) k := by simp [builtinK]
theorem j7a {H : Heap} {v : Value} {o : List UInt8} {lo : Nat} (h : BRow H v o lo) : convertA PP 22 9 v H = some (.string ⟨⟨o⟩⟩, H) := by
 rcases h with ⟨rfl, rfl⟩ | ⟨hne, q, rfl, hg, _⟩
 · simp only [convertA, und34, undStr, undU8, strOf]; rfl
 · have hl : (o.map f8).length = o.length := by simp
   have e : strOf H (some ⟨q, 0, none⟩) o.length = some ⟨⟨o⟩⟩ := by
     have hlen : o.length ≠ 0 := by simpa using hne
     have hb : bytesOf (o.map f8) = some o := js4 o
     have ht : (o.map f8).take o.length = o.map f8 := by rw [← hl, List.take_length]
     simp [strOf, hlen, look, hg, hb, ht]
   simp only [convertA, und34, undStr, undU8, e]
structure Txt (H0 H : Heap) (b : Nat) (a : Option Addr) (n c i : Nat) (v : Value) (o : List UInt8) : Prop where
 next : H0.next ≤ H.next
 here : H.get b = some (cur a n c i)
 there : ∀ z w, z ≠ b → H0.get z = some w → H.get z = some w
 fresh : Fresh H
 out : BRow H v o H0.next
theorem Txt.set {H0 H : Heap} {b : Nat} {a : Option Addr} {n c i : Nat} {v : Value} {o : List UInt8} (h : Txt H0 H b a n c i v o) (hb : b < H0.next) (j : Nat) : Txt H0 (H.set b (cur a n c j)) b a n c j v o := by
 refine ⟨h.next, jc6 _ _ _, fun z w h1 h2 => by rw [Heap.get_set, if_neg h1]; exact h.there z w h1 h2, fun z hz => ?_, ?_⟩
 · have hz' : H.next ≤ z := hz
   have := h.next
   rw [Heap.get_set, if_neg (by omega)]; exact h.fresh z hz'
 · rcases h.out with o1 | ⟨o1, q, o2, o3, o4⟩
   · exact .inl o1
   · exact .inr ⟨o1, q, o2, by rw [Heap.get_set, if_neg (by omega)]; exact o3, o4⟩
theorem Txt.gg {H0 H : Heap} {b : Nat} {a : Option Addr} {n c i : Nat} {v : Value} {o : List UInt8} {s : List UInt8} (h : Txt H0 H b a n c i v o) (x : Ctx H0 a c s b) : Ext GE H :=
 ⟨Nat.le_trans x.gg.next h.next, fun z w hz => h.there z w (fun e => by rw [e, jy9 b x.low] at hz; cases hz) (x.gg.keep z w hz), h.fresh⟩
theorem Txt.row {H0 H : Heap} {b : Nat} {a : Option Addr} {n c i : Nat} {v : Value} {o : List UInt8} {s : List UInt8} (h : Txt H0 H b a n c i v o) (x : Ctx H0 a c s b) : Brow H a s := by
 refine ⟨fun q hq => ?_, x.row.nil, x.row.small⟩
 obtain ⟨z, h1, h2⟩ := x.row.row q hq
 refine ⟨z, ?_, h2⟩
 unfold look at h1 ⊢
 split at h1
 · cases h1
 · cases hg : H0.get q.block with
   | none => rw [hg] at h1; cases h1
   | some w => rw [hg] at h1; rw [h.there _ _ (x.ne q hq) hg]; exact h1
theorem Txt.add {H0 H : Heap} {b : Nat} {a : Option Addr} {n c i : Nat} {v : Value} {o : List UInt8} (h : Txt H0 H b a n c i v o) (hf : Fresh H0) (hb : b < H0.next) (u : UInt8) (hn : o.length ≤ 1048576) :
   ∃ v' H', appendA PP #[22, 22] v (.slice (some ⟨H.next, 0, none⟩) 1 1) (H.alloc 1 [.int .u8 (u.toNat : Int)]) = some (v', H') ∧ Txt H0 H' b a n c i v' (o ++ [u]) := by
 have hn0 := h.next
 have q1 : (H.alloc 1 [.int .u8 (u.toNat : Int)]).get H.next = some ⟨[f8 u], true, 1, none, false⟩ := by rw [Heap.get_alloc, if_pos rfl]; rfl
 have f1 : Fresh (H.alloc 1 [.int .u8 (u.toNat : Int)]) := (Ext.alloc h.fresh 1 _).fresh
 have b1 : BRow (H.alloc 1 [.int .u8 (u.toNat : Int)]) v o H0.next := by
   rcases h.out with o1 | ⟨o1, q, o2, o3, o4⟩
   · exact .inl o1
   · exact .inr ⟨o1, q, o2, (Ext.alloc h.fresh 1 _).keep _ _ o3, o4⟩
 obtain ⟨v', H', a1, a2, a3, a4, a5⟩ := j0x (lo := H0.next) b1 f1 (by show H0.next ≤ H.next + 1; omega) u q1 hn
 refine ⟨v', H', a1, ⟨?_, ?_, fun z w h1 h2 => ?_, a5, a2⟩⟩
 · have n6 : H.next + 1 ≤ H'.next := a4
   omega
 · exact a3 b _ hb ((Ext.alloc h.fresh 1 _).keep _ _ h.here)
 · have hz : z < H0.next := by
     by_cases cz : H0.next ≤ z
     · rw [hf z cz] at h2; cases h2
     · omega
   exact a3 z w hz ((Ext.alloc h.fresh 1 _).keep _ _ (h.there z w h1 h2))
theorem code46 : codeOf Tryz.f46 = .seq (rF Tryz.f46 0) (.scope (.seq (rF Tryz.f46 1) (.seq (rF Tryz.f46 2) (.seq (.label 0) (.seq (rF Tryz.f46 3) cSW1))))) := by kernel_rfl
theorem j0y : ((rgn Tryz.f46 12)[2]?).bind (·.dst) = some 56 := by kernel_rfl
theorem jw7 : ((rgn Tryz.f46 32)[10]?).bind (·.dst) = some 120 := by kernel_rfl
section
theorem y1o {N : Nat} {H0 H : Heap} {a : Option Addr} {c : Nat} {s : List UInt8} {b t i : Nat} {E : Env} {Q : R → Prop} {k : KOE} {hk : Hook} {d : Nat} {v : Value} {o : List UInt8} (x : Ctx H0 a c s b) (h : Txt H0 H b a s.length c i v o) (hi : i < s.length) (e0 : E 0 = .pointer (some ⟨b, 0, none⟩)) (e1 : E 1 = .pointer (some ⟨t, 0, none⟩)) (e5 : E 5 = v) (hj : i + 1 = s.length) (hx : ∀ E' H', E' 4 = .bool false → Txt H0 H' b a s.length c (i + 1) v o → Q (k .ret E' [] H')) :
   Q (execG PP XX (CG N hk (d + 2)) N noPr (.seq (rF Tryz.f46 3) cSW1) none E [] H k) := by
 have hsm := x.row.small
 have w1 : IntKind.i64.wrap ((i : Int) + 1) = ((i + 1 : Nat) : Int) := by rw [ja4 (by omega) (by omega)]; omega
 have hz : (((i + 1 : Nat) : Int) == (s.length : Int)) = decide (i + 1 = s.length) := by
   rw [Bool.eq_iff_iff, beq_iff_eq, decide_eq_true_eq]; omega
 have h1 := h.set x.lt (i + 1)
 rw [decide_eq_true hj] at hz
 have lL := lX3 Tryz.f46 3 4 5
 conv at lL in (occs := *) (rq _ _) => all_goals simp only [rX, oA, Tryz.f46, dL.o, reduceIte, Nat.reduceEqDiff]
 obtain ⟨l3, l4, l5⟩ := lL
 simp +decide only [↓uR.o, dG.o, ja1, jb1, reduceIte, ↓ja0 l3, ↓ja0 l4, ↓ja0 l5, e0, fld0, fld1, jb3 h.here, w1, jd1 h.here, jb3 h1.here, jc0 h1.here, ja6 (ts := #[22]) rfl und34, hz]
 exact hx _ _ (by simp +decide only [ja1, reduceIte]) h1
theorem yv3 {N : Nat} {H0 H : Heap} {a : Option Addr} {c : Nat} {s : List UInt8} {b t i : Nat} {E : Env} {Q : R → Prop} {k : KOE} {hk : Hook} {d : Nat} {v : Value} {o : List UInt8} {kd n0 f0 t0 : Int} (x : Ctx H0 a c s b) (h : Txt H0 H b a s.length c i v o) (hi : i < s.length) (e0 : E 0 = .pointer (some ⟨b, 0, none⟩)) (e1 : E 1 = .pointer (some ⟨t, 0, none⟩)) (e5 : E 5 = v) (hj : ¬ i + 1 = s.length) (hc : s.getD (i + 1) 0 = 34) (hbt : t ≠ b) (ht : H0.get t = some (tok kd n0 .empty f0 t0))
   (hx : ∀ E' H', E' 4 = .bool true → Lexd H0 H' b (cur a s.length c (i + 2)) t (tok kd n0 ⟨⟨o⟩⟩ f0 t0) → Q (k .ret E' [] H')) :
   Q (execG PP XX (CG N hk (d + 2)) N noPr (.seq (rF Tryz.f46 3) cSW1) none E [] H k) := by
 have hsm := x.row.small
 have w1 : IntKind.i64.wrap ((i : Int) + 1) = ((i + 1 : Nat) : Int) := by rw [ja4 (by omega) (by omega)]; omega
 have hz : (((i + 1 : Nat) : Int) == (s.length : Int)) = decide (i + 1 = s.length) := by
   rw [Bool.eq_iff_iff, beq_iff_eq, decide_eq_true_eq]; omega
 have h1 := h.set x.lt (i + 1)
 have hj : i + 1 < s.length := by omega
 have hgd : s.getD (i + 1) 0 = s[i + 1] := by simp [List.getD, hj]
 rw [decide_eq_false (by omega)] at hz
 obtain ⟨y, rfl, hl⟩ := (h1.row x).bts.cell (i + 1) hj
 have hix := jc4 (n := s.length) (c := c) (a := y) hj
 have hc34 : ((s[i + 1].toNat : Int) == 34) = true := by rw [← hgd, hc]; rfl
 have w2 : IntKind.i64.wrap (((i + 1 : Nat) : Int) + 1) = ((i + 2 : Nat) : Int) := by rw [ja4 (by omega) (by omega)]; omega
 have h2 := h1.set x.lt (i + 2)
 have hcv := j7a h2.out
 have hbl := x.lt
 have htl : t < H0.next := by
   by_cases q : H0.next ≤ t
   · rw [x.gg.fresh t q] at ht; cases ht
   · omega
 have ld2 : Lexd H0 ((H.set b (cur (some y) s.length c (i + 1))).set b (cur (some y) s.length c (i + 2))) b (cur (some y) s.length c (i + 2)) t (tok kd n0 .empty f0 t0) := ⟨h2.next, h2.here, h2.there t _ hbt ht, fun z w z1 z2 z3 => h2.there z w z1 z3, h2.fresh⟩
 have ld3 := ld2.set2 hbt (by have := h2.next; omega) (tok kd n0 ⟨⟨o⟩⟩ f0 t0)
 have lL := lX7 Tryz.f46 3 4 6 7 8 9 10
 conv at lL in (occs := *) (rq _ _) => all_goals simp only [rX, oA, Tryz.f46, dL.o, reduceIte, Nat.reduceEqDiff]
 obtain ⟨l3, l4, l6, l7, l8, l9, l10⟩ := lL
 simp +decide only [↓uR.o, dG.o, ja1, jb1, reduceIte, ↓ja0 l3, ↓ja0 l4, ↓ja0 l6, ↓ja0 l7, ↓ja0 l8, ↓ja0 l9, ↓ja0 l10, e1, e5, hc34, w2, jd1 h1.here, hcv, tf2, jj2 ld2.two, e0, fld0, fld1, jb3 h.here, w1, jd1 h.here, jb3 h1.here, jc0 h1.here, ja6 (ts := #[22]) rfl und34, hz, hix, jb7 hl]
 exact hx _ _ (by simp +decide only [ja1, reduceIte]) ld3
theorem y1p {N : Nat} {H0 H : Heap} {a : Option Addr} {c : Nat} {s : List UInt8} {b t i : Nat} {E : Env} {Q : R → Prop} {k : KOE} {hk : Hook} {d : Nat} {v : Value} {o : List UInt8} (x : Ctx H0 a c s b) (h : Txt H0 H b a s.length c i v o) (hi : i < s.length) (e0 : E 0 = .pointer (some ⟨b, 0, none⟩)) (e1 : E 1 = .pointer (some ⟨t, 0, none⟩)) (e5 : E 5 = v) (hj : ¬ i + 1 = s.length) (hc : ¬ s.getD (i + 1) 0 = 34) (hc2 : ¬ s.getD (i + 1) 0 = 92) (hr : (s.getD (i + 1) 0).toNat < 32 ∨ 126 < (s.getD (i + 1) 0).toNat)
   (hx : ∀ E' H', E' 4 = .bool false → Txt H0 H' b a s.length c (i + 1) v o → Q (k .ret E' [] H')) :
   Q (execG PP XX (CG N hk (d + 2)) N noPr (.seq (rF Tryz.f46 3) cSW1) none E [] H k) := by
 have hsm := x.row.small
 have w1 : IntKind.i64.wrap ((i : Int) + 1) = ((i + 1 : Nat) : Int) := by rw [ja4 (by omega) (by omega)]; omega
 have hz : (((i + 1 : Nat) : Int) == (s.length : Int)) = decide (i + 1 = s.length) := by
   rw [Bool.eq_iff_iff, beq_iff_eq, decide_eq_true_eq]; omega
 have h1 := h.set x.lt (i + 1)
 have hj : i + 1 < s.length := by omega
 have hgd : s.getD (i + 1) 0 = s[i + 1] := by simp [List.getD, hj]
 rw [decide_eq_false (by omega)] at hz
 obtain ⟨y, rfl, hl⟩ := (h1.row x).bts.cell (i + 1) hj
 have hix := jc4 (n := s.length) (c := c) (a := y) hj
 rw [hgd] at hc hc2 hr
 have z1 : ((s[i + 1].toNat : Int) == 34) = false := (ja7 s[i + 1] 34).trans (decide_eq_false hc)
 have z2 : ((s[i + 1].toNat : Int) == 92) = false := (ja7 s[i + 1] 92).trans (decide_eq_false hc2)
 have lL := lX7 Tryz.f46 3 4 6 7 11 12 13
 conv at lL in (occs := *) (rq _ _) => all_goals simp only [rX, oA, Tryz.f46, dL.o, reduceIte, Nat.reduceEqDiff]
 obtain ⟨l3, l4, l6, l7, l11, l12, l13⟩ := lL
 by_cases lo : s[i + 1].toNat < 32
 · have z3 : decide ((s[i + 1].toNat : Int) < 32) = true := decide_eq_true (by omega)
   simp +decide only [↓uR.o, dG.o, ja1, jb1, reduceIte, Bool.not_false, ↓ja0 l3, ↓ja0 l4, ↓ja0 l6, ↓ja0 l7, ↓ja0 l11, ↓ja0 l12, ↓ja0 l13, ↓r_no _ 2 false 56 _ j0y, z1, z2, z3, e0, fld0, fld1, jb3 h.here, w1, jd1 h.here, jb3 h1.here, jc0 h1.here, ja6 (ts := #[22]) rfl und34, hz, hix, jb7 hl]
   exact hx _ _ (by simp +decide only [ja1, reduceIte]) h1
 · have z3 : decide ((s[i + 1].toNat : Int) < 32) = false := decide_eq_false (by omega)
   have z4 : decide ((s[i + 1].toNat : Int) > 126) = true := decide_eq_true (by omega)
   simp +decide only [↓uR.o, dG.o, ja1, jb1, reduceIte, ↓ja0 l3, ↓ja0 l4, ↓ja0 l6, ↓ja0 l7, ↓ja0 l11, ↓ja0 l12, ↓ja0 l13, ↓jb8 _ 2 false 56 _ j0y, z1, z2, z3, z4, e0, fld0, fld1, jb3 h.here, w1, jd1 h.here, jb3 h1.here, jc0 h1.here, ja6 (ts := #[22]) rfl und34, hz, hix, jb7 hl]
   exact hx _ _ (by simp +decide only [ja1, reduceIte]) h1
theorem y0i {N : Nat} {H0 H : Heap} {a : Option Addr} {c : Nat} {s : List UInt8} {b t i : Nat} {E : Env} {Q : R → Prop} {k : KOE} {hk : Hook} {d : Nat} {v : Value} {o : List UInt8} (x : Ctx H0 a c s b) (h : Txt H0 H b a s.length c i v o) (hi : i < s.length) (e0 : E 0 = .pointer (some ⟨b, 0, none⟩)) (e1 : E 1 = .pointer (some ⟨t, 0, none⟩)) (e5 : E 5 = v) (hj : ¬ i + 1 = s.length) (hc : ¬ s.getD (i + 1) 0 = 34) (hc2 : ¬ s.getD (i + 1) 0 = 92) (hr : ¬ ((s.getD (i + 1) 0).toNat < 32 ∨ 126 < (s.getD (i + 1) 0).toNat)) (hn : o.length ≤ 1048576)
   (hx : ∀ E' H' v', E' 0 = .pointer (some ⟨b, 0, none⟩) → E' 1 = .pointer (some ⟨t, 0, none⟩) → E' 5 = v' → Txt H0 H' b a s.length c (i + 1) v' (o ++ [s.getD (i + 1) 0]) → Q (k (.goto 0) E' [] H')) :
   Q (execG PP XX (CG N hk (d + 2)) N noPr (.seq (rF Tryz.f46 3) cSW1) none E [] H k) := by
 have hsm := x.row.small
 have w1 : IntKind.i64.wrap ((i : Int) + 1) = ((i + 1 : Nat) : Int) := by rw [ja4 (by omega) (by omega)]; omega
 have hz : (((i + 1 : Nat) : Int) == (s.length : Int)) = decide (i + 1 = s.length) := by
   rw [Bool.eq_iff_iff, beq_iff_eq, decide_eq_true_eq]; omega
 have h1 := h.set x.lt (i + 1)
 have hj : i + 1 < s.length := by omega
 have hgd : s.getD (i + 1) 0 = s[i + 1] := by simp [List.getD, hj]
 rw [decide_eq_false (by omega)] at hz
 obtain ⟨y, rfl, hl⟩ := (h1.row x).bts.cell (i + 1) hj
 have hix := jc4 (n := s.length) (c := c) (a := y) hj
 rw [hgd] at hc hc2 hr hx
 have z1 : ((s[i + 1].toNat : Int) == 34) = false := (ja7 s[i + 1] 34).trans (decide_eq_false hc)
 have z2 : ((s[i + 1].toNat : Int) == 92) = false := (ja7 s[i + 1] 92).trans (decide_eq_false hc2)
 have z3 : decide ((s[i + 1].toNat : Int) < 32) = false := decide_eq_false (by omega)
 have z4 : decide ((s[i + 1].toNat : Int) > 126) = false := decide_eq_false (by omega)
 obtain ⟨v', H', a1, a2⟩ := h1.add x.gg.fresh x.lt s[i + 1] hn
 have lL := lX7 Tryz.f46 3 4 6 7 11 12 14
 conv at lL in (occs := *) (rq _ _) => all_goals simp only [rX, oA, Tryz.f46, dL.o, reduceIte, Nat.reduceEqDiff]
 obtain ⟨l3, l4, l6, l7, l11, l12, l14⟩ := lL
 simp +decide only [↓uR.o, dG.o, ja1, jb1, reduceIte, ↓ja0 l3, ↓ja0 l4, ↓ja0 l6, ↓ja0 l7, ↓ja0 l11, ↓ja0 l12, ↓ja0 l14, ↓jb8 _ 2 false 56 _ j0y, ↓jf1, jh8, e5, z1, z2, z3, z4, bslice1, jf5, a1, e0, fld0, fld1, jb3 h.here, w1, jd1 h.here, jb3 h1.here, jc0 h1.here, ja6 (ts := #[22]) rfl und34, hz, hix, jb7 hl]
 exact hx _ H' v' (e0) (e1) (by simp +decide only [ja1, reduceIte]) a2
theorem y1q {N : Nat} {H0 H : Heap} {a : Option Addr} {c : Nat} {s : List UInt8} {b t i : Nat} {E : Env} {Q : R → Prop} {k : KOE} {hk : Hook} {d : Nat} {v : Value} {o : List UInt8} (x : Ctx H0 a c s b) (h : Txt H0 H b a s.length c i v o) (hi : i < s.length) (e0 : E 0 = .pointer (some ⟨b, 0, none⟩)) (e1 : E 1 = .pointer (some ⟨t, 0, none⟩)) (e5 : E 5 = v) (hj : ¬ i + 1 = s.length) (hc : ¬ s.getD (i + 1) 0 = 34) (hc2 : s.getD (i + 1) 0 = 92)
   (hx : ∀ E' H', E' 0 = .pointer (some ⟨b, 0, none⟩) → E' 1 = .pointer (some ⟨t, 0, none⟩) → E' 5 = v → Txt H0 H' b a s.length c (i + 1) v o → Q (k (.goto 1) E' [] H')) :
   Q (execG PP XX (CG N hk (d + 2)) N noPr (.seq (rF Tryz.f46 3) cSW1) none E [] H k) := by
 have hsm := x.row.small
 have w1 : IntKind.i64.wrap ((i : Int) + 1) = ((i + 1 : Nat) : Int) := by rw [ja4 (by omega) (by omega)]; omega
 have hz : (((i + 1 : Nat) : Int) == (s.length : Int)) = decide (i + 1 = s.length) := by
   rw [Bool.eq_iff_iff, beq_iff_eq, decide_eq_true_eq]; omega
 have h1 := h.set x.lt (i + 1)
 have hj : i + 1 < s.length := by omega
 have hgd : s.getD (i + 1) 0 = s[i + 1] := by simp [List.getD, hj]
 rw [decide_eq_false (by omega)] at hz
 obtain ⟨y, rfl, hl⟩ := (h1.row x).bts.cell (i + 1) hj
 have hix := jc4 (n := s.length) (c := c) (a := y) hj
 rw [hgd] at hc hc2
 have z1 : ((s[i + 1].toNat : Int) == 34) = false := (ja7 s[i + 1] 34).trans (decide_eq_false hc)
 have z2 : ((s[i + 1].toNat : Int) == 92) = true := (ja7 s[i + 1] 92).trans (decide_eq_true hc2)
 have lL := lX5 Tryz.f46 3 4 6 7 11
 conv at lL in (occs := *) (rq _ _) => all_goals simp only [rX, oA, Tryz.f46, dL.o, reduceIte, Nat.reduceEqDiff]
 obtain ⟨l3, l4, l6, l7, l11⟩ := lL
 simp +decide only [↓uR.o, dG.o, ja1, jb1, reduceIte, ↓ja0 l3, ↓ja0 l4, ↓ja0 l6, ↓ja0 l7, ↓ja0 l11, ↓jf1, jh8, j6a, z1, z2, e0, fld0, fld1, jb3 h.here, w1, jd1 h.here, jb3 h1.here, jc0 h1.here, ja6 (ts := #[22]) rfl und34, hz, hix, jb7 hl]
 exact hx _ _ (e0) (e1) (e5) h1
end
section
theorem y1r {N : Nat} {H0 H : Heap} {a : Option Addr} {c : Nat} {s : List UInt8} {b t i : Nat} {E : Env} {Q : R → Prop} {k : KOE} {hk : Hook} {d : Nat} {v : Value} {o : List UInt8} (x : Ctx H0 a c s b) (h : Txt H0 H b a s.length c i v o) (hi : i < s.length) (e0 : E 0 = .pointer (some ⟨b, 0, none⟩)) (e1 : E 1 = .pointer (some ⟨t, 0, none⟩)) (e5 : E 5 = v) (hj : i + 1 = s.length) (hx : ∀ E' H', E' 4 = .bool false → Txt H0 H' b a s.length c (i + 1) v o → Q (k .ret E' [] H')) :
   Q (execG PP XX (CG N hk (d + 2)) N noPr cSW6 none E [] H k) := by
 have hsm := x.row.small
 have w1 : IntKind.i64.wrap ((i : Int) + 1) = ((i + 1 : Nat) : Int) := by rw [ja4 (by omega) (by omega)]; omega
 have hz : (((i + 1 : Nat) : Int) == (s.length : Int)) = decide (i + 1 = s.length) := by
   rw [Bool.eq_iff_iff, beq_iff_eq, decide_eq_true_eq]; omega
 have h1 := h.set x.lt (i + 1)
 rw [decide_eq_true hj] at hz
 have lL := lX3 Tryz.f46 15 16 17
 conv at lL in (occs := *) (rq _ _) => all_goals simp only [rX, oA, Tryz.f46, dL.o, reduceIte, Nat.reduceEqDiff]
 obtain ⟨l15, l16, l17⟩ := lL
 simp +decide only [↓uR.o, dG.o, ja1, jb1, reduceIte, ↓ja0 l15, ↓ja0 l16, ↓ja0 l17, e0, fld0, fld1, jb3 h.here, w1, jd1 h.here, jb3 h1.here, jc0 h1.here, ja6 (ts := #[22]) rfl und34, hz]
 exact hx _ _ (by simp +decide only [ja1, reduceIte]) h1
theorem e_n {N : Nat} {H0 H : Heap} {a : Option Addr} {c : Nat} {s : List UInt8} {b t i : Nat} {E : Env} {Q : R → Prop} {k : KOE} {hk : Hook} {d : Nat} {v : Value} {o : List UInt8} (x : Ctx H0 a c s b) (h : Txt H0 H b a s.length c i v o) (hi : i < s.length) (e0 : E 0 = .pointer (some ⟨b, 0, none⟩)) (e1 : E 1 = .pointer (some ⟨t, 0, none⟩)) (e5 : E 5 = v) (hj : ¬ i + 1 = s.length) (hc : s.getD (i + 1) 0 = 110) (hn : o.length ≤ 1048576)
   (hx : ∀ E' H' v', E' 0 = .pointer (some ⟨b, 0, none⟩) → E' 1 = .pointer (some ⟨t, 0, none⟩) → E' 5 = v' → Txt H0 H' b a s.length c (i + 1) v' (o ++ [10]) → Q (k (.goto 0) E' [] H')) :
   Q (execG PP XX (CG N hk (d + 2)) N noPr cSW6 none E [] H k) := by
 have hsm := x.row.small
 have w1 : IntKind.i64.wrap ((i : Int) + 1) = ((i + 1 : Nat) : Int) := by rw [ja4 (by omega) (by omega)]; omega
 have hz : (((i + 1 : Nat) : Int) == (s.length : Int)) = decide (i + 1 = s.length) := by
   rw [Bool.eq_iff_iff, beq_iff_eq, decide_eq_true_eq]; omega
 have h1 := h.set x.lt (i + 1)
 have hj : i + 1 < s.length := by omega
 have hgd : s.getD (i + 1) 0 = s[i + 1] := by simp [List.getD, hj]
 rw [decide_eq_false (by omega)] at hz
 obtain ⟨y, rfl, hl⟩ := (h1.row x).bts.cell (i + 1) hj
 have hix := jc4 (n := s.length) (c := c) (a := y) hj
 have hcv : s[i + 1] = 110 := by rw [← hgd]; exact hc
 have z110 : ((110 : Int) == 110) = true := rfl
 have hcn : (s[i + 1].toNat : Int) = 110 := by rw [hcv]; rfl
 obtain ⟨v', H', a1, a2⟩ := h1.add x.gg.fresh x.lt 10 hn
 have a1 : appendA PP #[22, 22] v (.slice (some ⟨(H.set b (cur (some y) s.length c (i + 1))).next, 0, none⟩) 1 1) ((H.set b (cur (some y) s.length c (i + 1))).alloc 1 [.int .u8 10]) = some (v', H') := a1
 have lL := lX7 Tryz.f46 15 16 18 19 21 22 37
 conv at lL in (occs := *) (rq _ _) => all_goals simp only [rX, oA, Tryz.f46, dL.o, reduceIte, Nat.reduceEqDiff]
 obtain ⟨l15, l16, l18, l19, l21, l22, l37⟩ := lL
 simp +decide only [↓uR.o, dG.o, ja1, jb1, reduceIte, ↓ja0 l15, ↓ja0 l16, ↓ja0 l18, ↓ja0 l19, ↓ja0 l21, ↓ja0 l22, ↓ja0 l37, ↓jf1, beq_self_eq_true, e5, hcn, bslice1, jf5, a1, e0, fld0, fld1, jb3 h.here, w1, jd1 h.here, jb3 h1.here, jc0 h1.here, ja6 (ts := #[22]) rfl und34, hz, hix, jb7 hl]
 exact hx _ H' v' (e0) (e1) (by simp +decide only [ja1, reduceIte]) a2
theorem e_t {N : Nat} {H0 H : Heap} {a : Option Addr} {c : Nat} {s : List UInt8} {b t i : Nat} {E : Env} {Q : R → Prop} {k : KOE} {hk : Hook} {d : Nat} {v : Value} {o : List UInt8} (x : Ctx H0 a c s b) (h : Txt H0 H b a s.length c i v o) (hi : i < s.length) (e0 : E 0 = .pointer (some ⟨b, 0, none⟩)) (e1 : E 1 = .pointer (some ⟨t, 0, none⟩)) (e5 : E 5 = v) (hj : ¬ i + 1 = s.length) (hc : s.getD (i + 1) 0 = 116) (hn : o.length ≤ 1048576)
   (hx : ∀ E' H' v', E' 0 = .pointer (some ⟨b, 0, none⟩) → E' 1 = .pointer (some ⟨t, 0, none⟩) → E' 5 = v' → Txt H0 H' b a s.length c (i + 1) v' (o ++ [9]) → Q (k (.goto 0) E' [] H')) :
   Q (execG PP XX (CG N hk (d + 2)) N noPr cSW6 none E [] H k) := by
 have hsm := x.row.small
 have w1 : IntKind.i64.wrap ((i : Int) + 1) = ((i + 1 : Nat) : Int) := by rw [ja4 (by omega) (by omega)]; omega
 have hz : (((i + 1 : Nat) : Int) == (s.length : Int)) = decide (i + 1 = s.length) := by
   rw [Bool.eq_iff_iff, beq_iff_eq, decide_eq_true_eq]; omega
 have h1 := h.set x.lt (i + 1)
 have hj : i + 1 < s.length := by omega
 have hgd : s.getD (i + 1) 0 = s[i + 1] := by simp [List.getD, hj]
 rw [decide_eq_false (by omega)] at hz
 obtain ⟨y, rfl, hl⟩ := (h1.row x).bts.cell (i + 1) hj
 have hix := jc4 (n := s.length) (c := c) (a := y) hj
 have hcv : s[i + 1] = 116 := by rw [← hgd]; exact hc
 have z110 : ((116 : Int) == 110) = false := rfl
 have z116 : ((116 : Int) == 116) = true := rfl
 have hcn : (s[i + 1].toNat : Int) = 116 := by rw [hcv]; rfl
 obtain ⟨v', H', a1, a2⟩ := h1.add x.gg.fresh x.lt 9 hn
 have a1 : appendA PP #[22, 22] v (.slice (some ⟨(H.set b (cur (some y) s.length c (i + 1))).next, 0, none⟩) 1 1) ((H.set b (cur (some y) s.length c (i + 1))).alloc 1 [.int .u8 9]) = some (v', H') := a1
 have lL := lX8 Tryz.f46 15 16 18 19 21 23 24 37
 conv at lL in (occs := *) (rq _ _) => all_goals simp only [rX, oA, Tryz.f46, dL.o, reduceIte, Nat.reduceEqDiff]
 obtain ⟨l15, l16, l18, l19, l21, l23, l24, l37⟩ := lL
 simp +decide only [↓uR.o, dG.o, ja1, jb1, reduceIte, ↓ja0 l15, ↓ja0 l16, ↓ja0 l18, ↓ja0 l19, ↓ja0 l21, ↓ja0 l23, ↓ja0 l24, ↓ja0 l37, ↓jf1, beq_self_eq_true, e5, z110, hcn, bslice1, jf5, a1, e0, fld0, fld1, jb3 h.here, w1, jd1 h.here, jb3 h1.here, jc0 h1.here, ja6 (ts := #[22]) rfl und34, hz, hix, jb7 hl]
 exact hx _ H' v' (e0) (e1) (by simp +decide only [ja1, reduceIte]) a2
theorem e_q {N : Nat} {H0 H : Heap} {a : Option Addr} {c : Nat} {s : List UInt8} {b t i : Nat} {E : Env} {Q : R → Prop} {k : KOE} {hk : Hook} {d : Nat} {v : Value} {o : List UInt8} (x : Ctx H0 a c s b) (h : Txt H0 H b a s.length c i v o) (hi : i < s.length) (e0 : E 0 = .pointer (some ⟨b, 0, none⟩)) (e1 : E 1 = .pointer (some ⟨t, 0, none⟩)) (e5 : E 5 = v) (hj : ¬ i + 1 = s.length) (hc : s.getD (i + 1) 0 = 34) (hn : o.length ≤ 1048576)
   (hx : ∀ E' H' v', E' 0 = .pointer (some ⟨b, 0, none⟩) → E' 1 = .pointer (some ⟨t, 0, none⟩) → E' 5 = v' → Txt H0 H' b a s.length c (i + 1) v' (o ++ [34]) → Q (k (.goto 0) E' [] H')) :
   Q (execG PP XX (CG N hk (d + 2)) N noPr cSW6 none E [] H k) := by
 have hsm := x.row.small
 have w1 : IntKind.i64.wrap ((i : Int) + 1) = ((i + 1 : Nat) : Int) := by rw [ja4 (by omega) (by omega)]; omega
 have hz : (((i + 1 : Nat) : Int) == (s.length : Int)) = decide (i + 1 = s.length) := by
   rw [Bool.eq_iff_iff, beq_iff_eq, decide_eq_true_eq]; omega
 have h1 := h.set x.lt (i + 1)
 have hj : i + 1 < s.length := by omega
 have hgd : s.getD (i + 1) 0 = s[i + 1] := by simp [List.getD, hj]
 rw [decide_eq_false (by omega)] at hz
 obtain ⟨y, rfl, hl⟩ := (h1.row x).bts.cell (i + 1) hj
 have hix := jc4 (n := s.length) (c := c) (a := y) hj
 have hcv : s[i + 1] = 34 := by rw [← hgd]; exact hc
 have z110 : ((34 : Int) == 110) = false := rfl
 have z116 : ((34 : Int) == 116) = false := rfl
 have z34 : ((34 : Int) == 34) = true := rfl
 have hcn : (s[i + 1].toNat : Int) = 34 := by rw [hcv]; rfl
 obtain ⟨v', H', a1, a2⟩ := h1.add x.gg.fresh x.lt 34 hn
 have a1 : appendA PP #[22, 22] v (.slice (some ⟨(H.set b (cur (some y) s.length c (i + 1))).next, 0, none⟩) 1 1) ((H.set b (cur (some y) s.length c (i + 1))).alloc 1 [.int .u8 34]) = some (v', H') := a1
 have lL := lX8 Tryz.f46 15 16 18 19 21 23 25 37
 conv at lL in (occs := *) (rq _ _) => all_goals simp only [rX, oA, Tryz.f46, dL.o, reduceIte, Nat.reduceEqDiff]
 obtain ⟨l15, l16, l18, l19, l21, l23, l25, l37⟩ := lL
 simp +decide only [↓uR.o, dG.o, ja1, jb1, reduceIte, ↓ja0 l15, ↓ja0 l16, ↓ja0 l18, ↓ja0 l19, ↓ja0 l21, ↓ja0 l23, ↓ja0 l25, ↓ja0 l37, ↓jf1, beq_self_eq_true, e5, z110, z116, hcn, bslice1, jf5, a1, e0, fld0, fld1, jb3 h.here, w1, jd1 h.here, jb3 h1.here, jc0 h1.here, ja6 (ts := #[22]) rfl und34, hz, hix, jb7 hl]
 exact hx _ H' v' (e0) (e1) (by simp +decide only [ja1, reduceIte]) a2
theorem e_b {N : Nat} {H0 H : Heap} {a : Option Addr} {c : Nat} {s : List UInt8} {b t i : Nat} {E : Env} {Q : R → Prop} {k : KOE} {hk : Hook} {d : Nat} {v : Value} {o : List UInt8} (x : Ctx H0 a c s b) (h : Txt H0 H b a s.length c i v o) (hi : i < s.length) (e0 : E 0 = .pointer (some ⟨b, 0, none⟩)) (e1 : E 1 = .pointer (some ⟨t, 0, none⟩)) (e5 : E 5 = v) (hj : ¬ i + 1 = s.length) (hc : s.getD (i + 1) 0 = 92) (hn : o.length ≤ 1048576)
   (hx : ∀ E' H' v', E' 0 = .pointer (some ⟨b, 0, none⟩) → E' 1 = .pointer (some ⟨t, 0, none⟩) → E' 5 = v' → Txt H0 H' b a s.length c (i + 1) v' (o ++ [92]) → Q (k (.goto 0) E' [] H')) :
   Q (execG PP XX (CG N hk (d + 2)) N noPr cSW6 none E [] H k) := by
 have hsm := x.row.small
 have w1 : IntKind.i64.wrap ((i : Int) + 1) = ((i + 1 : Nat) : Int) := by rw [ja4 (by omega) (by omega)]; omega
 have hz : (((i + 1 : Nat) : Int) == (s.length : Int)) = decide (i + 1 = s.length) := by
   rw [Bool.eq_iff_iff, beq_iff_eq, decide_eq_true_eq]; omega
 have h1 := h.set x.lt (i + 1)
 have hj : i + 1 < s.length := by omega
 have hgd : s.getD (i + 1) 0 = s[i + 1] := by simp [List.getD, hj]
 rw [decide_eq_false (by omega)] at hz
 obtain ⟨y, rfl, hl⟩ := (h1.row x).bts.cell (i + 1) hj
 have hix := jc4 (n := s.length) (c := c) (a := y) hj
 have hcv : s[i + 1] = 92 := by rw [← hgd]; exact hc
 have z110 : ((92 : Int) == 110) = false := rfl
 have z116 : ((92 : Int) == 116) = false := rfl
 have z34 : ((92 : Int) == 34) = false := rfl
 have z92 : ((92 : Int) == 92) = true := rfl
 have hcn : (s[i + 1].toNat : Int) = 92 := by rw [hcv]; rfl
 obtain ⟨v', H', a1, a2⟩ := h1.add x.gg.fresh x.lt 92 hn
 have a1 : appendA PP #[22, 22] v (.slice (some ⟨(H.set b (cur (some y) s.length c (i + 1))).next, 0, none⟩) 1 1) ((H.set b (cur (some y) s.length c (i + 1))).alloc 1 [.int .u8 92]) = some (v', H') := a1
 have lL : _ ∧ _ := ⟨lX8 Tryz.f46 15 16 18 19 21 23 25 26, lX Tryz.f46 37⟩
 conv at lL in (occs := *) (rq _ _) => all_goals simp only [rX, oA, Tryz.f46, dL.o, reduceIte, Nat.reduceEqDiff]
 obtain ⟨⟨l15, l16, l18, l19, l21, l23, l25, l26⟩, l37⟩ := lL
 simp +decide only [↓uR.o, dG.o, ja1, jb1, reduceIte, ↓ja0 l15, ↓ja0 l16, ↓ja0 l18, ↓ja0 l19, ↓ja0 l21, ↓ja0 l23, ↓ja0 l25, ↓ja0 l26, ↓ja0 l37, ↓jf1, beq_self_eq_true, e5, z110, z116, z34, hcn, bslice1, jf5, a1, e0, fld0, fld1, jb3 h.here, w1, jd1 h.here, jb3 h1.here, jc0 h1.here, ja6 (ts := #[22]) rfl und34, hz, hix, jb7 hl]
 exact hx _ H' v' (e0) (e1) (by simp +decide only [ja1, reduceIte]) a2
theorem y1s {N : Nat} {H0 H : Heap} {a : Option Addr} {c : Nat} {s : List UInt8} {b t i : Nat} {E : Env} {Q : R → Prop} {k : KOE} {hk : Hook} {d : Nat} {v : Value} {o : List UInt8} (x : Ctx H0 a c s b) (h : Txt H0 H b a s.length c i v o) (hi : i < s.length) (e0 : E 0 = .pointer (some ⟨b, 0, none⟩)) (e1 : E 1 = .pointer (some ⟨t, 0, none⟩)) (e5 : E 5 = v) (hj : ¬ i + 1 = s.length) (c1 : ¬ s.getD (i + 1) 0 = 110) (c2 : ¬ s.getD (i + 1) 0 = 116) (c3 : ¬ s.getD (i + 1) 0 = 34) (c4 : ¬ s.getD (i + 1) 0 = 92) (c5 : ¬ s.getD (i + 1) 0 = 120)
   (hx : ∀ E' H', E' 4 = .bool false → Txt H0 H' b a s.length c (i + 1) v o → Q (k .ret E' [] H')) :
   Q (execG PP XX (CG N hk (d + 2)) N noPr cSW6 none E [] H k) := by
 have hsm := x.row.small
 have w1 : IntKind.i64.wrap ((i : Int) + 1) = ((i + 1 : Nat) : Int) := by rw [ja4 (by omega) (by omega)]; omega
 have hz : (((i + 1 : Nat) : Int) == (s.length : Int)) = decide (i + 1 = s.length) := by
   rw [Bool.eq_iff_iff, beq_iff_eq, decide_eq_true_eq]; omega
 have h1 := h.set x.lt (i + 1)
 have hj : i + 1 < s.length := by omega
 have hgd : s.getD (i + 1) 0 = s[i + 1] := by simp [List.getD, hj]
 rw [decide_eq_false (by omega)] at hz
 obtain ⟨y, rfl, hl⟩ := (h1.row x).bts.cell (i + 1) hj
 have hix := jc4 (n := s.length) (c := c) (a := y) hj
 rw [hgd] at c1 c2 c3 c4 c5
 have z110 : ((s[i + 1].toNat : Int) == 110) = false := (ja7 s[i + 1] 110).trans (decide_eq_false c1)
 have z116 : ((s[i + 1].toNat : Int) == 116) = false := (ja7 s[i + 1] 116).trans (decide_eq_false c2)
 have z34 : ((s[i + 1].toNat : Int) == 34) = false := (ja7 s[i + 1] 34).trans (decide_eq_false c3)
 have z92 : ((s[i + 1].toNat : Int) == 92) = false := (ja7 s[i + 1] 92).trans (decide_eq_false c4)
 have z120 : ((s[i + 1].toNat : Int) == 120) = false := (ja7 s[i + 1] 120).trans (decide_eq_false c5)
 have lL : _ ∧ _ := ⟨lX8 Tryz.f46 15 16 18 19 20 21 23 25, lX2 Tryz.f46 26 27⟩
 conv at lL in (occs := *) (rq _ _) => all_goals simp only [rX, oA, Tryz.f46, dL.o, reduceIte, Nat.reduceEqDiff]
 obtain ⟨⟨l15, l16, l18, l19, l20, l21, l23, l25⟩, ⟨l26, l27⟩⟩ := lL
 simp +decide only [↓uR.o, dG.o, ja1, jb1, reduceIte, ↓ja0 l15, ↓ja0 l16, ↓ja0 l18, ↓ja0 l19, ↓ja0 l20, ↓ja0 l21, ↓ja0 l23, ↓ja0 l25, ↓ja0 l26, ↓ja0 l27, z110, z116, z34, z92, z120, e0, fld0, fld1, jb3 h.here, w1, jd1 h.here, jb3 h1.here, jc0 h1.here, ja6 (ts := #[22]) rfl und34, hz, hix, jb7 hl]
 exact hx _ _ (by simp +decide only [ja1, reduceIte]) h1
theorem y0j {N : Nat} {H0 H : Heap} {a : Option Addr} {c : Nat} {s : List UInt8} {b t i : Nat} {E : Env} {Q : R → Prop} {k : KOE} {hk : Hook} {d : Nat} {v : Value} {o : List UInt8} (x : Ctx H0 a c s b) (h : Txt H0 H b a s.length c i v o) (hi : i < s.length) (e0 : E 0 = .pointer (some ⟨b, 0, none⟩)) (e1 : E 1 = .pointer (some ⟨t, 0, none⟩)) (e5 : E 5 = v) {q : Int} (e101 : E 101 = .int .i64 q) (hq : q < 2) (hj : i + 1 = s.length) (hx : ∀ E' H', E' 4 = .bool false → Txt H0 H' b a s.length c (i + 1) v o → Q (k .ret E' [] H')) :
   Q (execG PP XX (CG N hk (d + 2)) N noPr cSW24 none E [] H k) := by
 have hsm := x.row.small
 have w1 : IntKind.i64.wrap ((i : Int) + 1) = ((i + 1 : Nat) : Int) := by rw [ja4 (by omega) (by omega)]; omega
 have hz : (((i + 1 : Nat) : Int) == (s.length : Int)) = decide (i + 1 = s.length) := by
   rw [Bool.eq_iff_iff, beq_iff_eq, decide_eq_true_eq]; omega
 have h1 := h.set x.lt (i + 1)
 rw [decide_eq_true hj] at hz
 have hlt : decide (q < 2) = true := decide_eq_true hq
 have lL := lX4 Tryz.f46 30 31 32 33
 conv at lL in (occs := *) (rq _ _) => all_goals simp only [rX, oA, Tryz.f46, dL.o, reduceIte, Nat.reduceEqDiff]
 obtain ⟨l30, l31, l32, l33⟩ := lL
 simp +decide only [↓uR.o, dG.o, ja1, jb1, reduceIte, Bool.not_false, ↓ja0 l30, ↓ja0 l31, ↓ja0 l32, ↓ja0 l33, ↓r_no _ 10 false 120 _ jw7, e101, hlt, e0, fld0, fld1, jb3 h.here, w1, jd1 h.here, jb3 h1.here, jc0 h1.here, ja6 (ts := #[22]) rfl und34, hz]
 exact hx _ _ (by simp +decide only [ja1, reduceIte]) h1
theorem y0k {N : Nat} {H0 H : Heap} {a : Option Addr} {c : Nat} {s : List UInt8} {b t i : Nat} {E : Env} {Q : R → Prop} {k : KOE} {hk : Hook} {d : Nat} {v : Value} {o : List UInt8} (x : Ctx H0 a c s b) (h : Txt H0 H b a s.length c i v o) (hi : i < s.length) (e0 : E 0 = .pointer (some ⟨b, 0, none⟩)) (e1 : E 1 = .pointer (some ⟨t, 0, none⟩)) (e5 : E 5 = v) (hhex : ∀ (u : UInt8) H, Ext GE H → hk 64 #[.int .u8 (u.toNat : Int)] H = some (some (.ret (.int .u64 (hexT u.toNat)), H))) {q : Int} (e101 : E 101 = .int .i64 q) (hq : q < 2) (hj : ¬ i + 1 = s.length) (h16 : hexT (s.getD (i + 1) 0).toNat = 16) (hx : ∀ E' H', E' 4 = .bool false → Txt H0 H' b a s.length c (i + 1) v o → Q (k .ret E' [] H')) :
   Q (execG PP XX (CG N hk (d + 2)) N noPr cSW24 none E [] H k) := by
 have hsm := x.row.small
 have w1 : IntKind.i64.wrap ((i : Int) + 1) = ((i + 1 : Nat) : Int) := by rw [ja4 (by omega) (by omega)]; omega
 have hz : (((i + 1 : Nat) : Int) == (s.length : Int)) = decide (i + 1 = s.length) := by
   rw [Bool.eq_iff_iff, beq_iff_eq, decide_eq_true_eq]; omega
 have h1 := h.set x.lt (i + 1)
 have hj : i + 1 < s.length := by omega
 have hgd : s.getD (i + 1) 0 = s[i + 1] := by simp [List.getD, hj]
 rw [decide_eq_false (by omega)] at hz
 obtain ⟨y, rfl, hl⟩ := (h1.row x).bts.cell (i + 1) hj
 have hix := jc4 (n := s.length) (c := c) (a := y) hj
 rw [hgd] at h16
 have hlt : decide (q < 2) = true := decide_eq_true hq
 have hcx : CG N hk (d + 2) 64 #[.int .u8 (s[i + 1].toNat : Int)] (H.set b (cur (some y) s.length c (i + 1))) = some (.ret (.int .u64 (hexT s[i + 1].toNat)), (H.set b (cur (some y) s.length c (i + 1)))) := jc1 (hhex s[i + 1] _ (h1.gg x))
 rw [h16] at hcx
 have z16 : ((16 : Int) == 16) = true := rfl
 have lL := lX4 Tryz.f46 30 31 32 33
 conv at lL in (occs := *) (rq _ _) => all_goals simp only [rX, oA, Tryz.f46, dL.o, reduceIte, Nat.reduceEqDiff]
 obtain ⟨l30, l31, l32, l33⟩ := lL
 simp +decide only [↓uR.o, dG.o, ja1, jb1, reduceIte, ↓ja0 l30, ↓ja0 l31, ↓ja0 l32, ↓ja0 l33, ↓jb8 _ 10 false 120 _ jw7, beq_self_eq_true, e101, hlt, ja3 Tryz.func64 rfl rfl hcx, e0, fld0, fld1, jb3 h.here, w1, jd1 h.here, jb3 h1.here, jc0 h1.here, ja6 (ts := #[22]) rfl und34, hz, hix, jb7 hl]
 exact hx _ _ (by simp +decide only [ja1, reduceIte]) h1
theorem yd4 (x y : Operand) (n : Int) : binA PP .shl 40 x y (.int .u64 n) (.int .u64 4) = some (.int .u64 (IntKind.u64.wrap (n * 16))) := by kernel_rfl
theorem yv4 {x y : Operand} {n m : Nat} (hn : n < 16) (hm : m < 16) : binA PP .or 40 x y (.int .u64 ((n : Int) * 16)) (.int .u64 (m : Int)) = some (.int .u64 (((n * 16 + m : Nat)) : Int)) := by
 have e : binA PP .or 40 x y (.int .u64 ((n : Int) * 16)) (.int .u64 (m : Int)) = some (.int .u64 (IntKind.u64.wrap ((BitVec.ofInt 64 ((n : Int) * 16) ||| BitVec.ofInt 64 (m : Int)).toNat : Int))) := by kernel_rfl
 rw [e]
 have hall : (List.range 16).all (fun n => (List.range 16).all fun m => decide (IntKind.u64.wrap ((BitVec.ofInt 64 ((n : Int) * 16) ||| BitVec.ofInt 64 (m : Int)).toNat : Int) = ((n * 16 + m : Nat) : Int))) = true := by decide +kernel
 have h1 := List.all_eq_true.mp hall n (List.mem_range.mpr hn)
 have h2 := List.all_eq_true.mp h1 m (List.mem_range.mpr hm)
 rw [of_decide_eq_true h2]
theorem yq6 {N : Nat} {H0 H : Heap} {a : Option Addr} {c : Nat} {s : List UInt8} {b t i : Nat} {E : Env} {Q : R → Prop} {k : KOE} {hk : Hook} {d : Nat} {v : Value} {o : List UInt8} (x : Ctx H0 a c s b) (h : Txt H0 H b a s.length c i v o) (hi : i < s.length) (e0 : E 0 = .pointer (some ⟨b, 0, none⟩)) (e1 : E 1 = .pointer (some ⟨t, 0, none⟩)) (e5 : E 5 = v) (hhex : ∀ (u : UInt8) H, Ext GE H → hk 64 #[.int .u8 (u.toNat : Int)] H = some (some (.ret (.int .u64 (hexT u.toNat)), H))) {q : Nat} {g : Nat} (e101 : E 101 = .int .i64 (q : Int)) (hq : (q : Int) < 2) (e7 : E 7 = .int .u64 (g : Int)) (hg : g < 16) (hj : ¬ i + 1 = s.length) (h16 : hexT (s.getD (i + 1) 0).toNat < 16)
   (hx : ∀ E', E' 0 = .pointer (some ⟨b, 0, none⟩) → E' 1 = .pointer (some ⟨t, 0, none⟩) → E' 5 = v → E' 7 = .int .u64 ((g * 16 + (hexT (s.getD (i + 1) 0).toNat).toNat : Nat) : Int) → E' 101 = .int .i64 ((q + 1 : Nat) : Int) → Txt H0 (H.set b (cur a s.length c (i + 1))) b a s.length c (i + 1) v o → Q (k .norm E' [] (H.set b (cur a s.length c (i + 1))))) :
   Q (execG PP XX (CG N hk (d + 2)) N noPr cSW24 none E [] H k) := by
 have hsm := x.row.small
 have w1 : IntKind.i64.wrap ((i : Int) + 1) = ((i + 1 : Nat) : Int) := by rw [ja4 (by omega) (by omega)]; omega
 have hz : (((i + 1 : Nat) : Int) == (s.length : Int)) = decide (i + 1 = s.length) := by
   rw [Bool.eq_iff_iff, beq_iff_eq, decide_eq_true_eq]; omega
 have h1 := h.set x.lt (i + 1)
 have hj : i + 1 < s.length := by omega
 have hgd : s.getD (i + 1) 0 = s[i + 1] := by simp [List.getD, hj]
 rw [decide_eq_false (by omega)] at hz
 obtain ⟨y, rfl, hl⟩ := (h1.row x).bts.cell (i + 1) hj
 have hix := jc4 (n := s.length) (c := c) (a := y) hj
 rw [hgd] at h16 hx
 have hlt : decide ((q : Int) < 2) = true := decide_eq_true hq
 have hnn := jn1 s[i + 1].toNat
 obtain ⟨m, hm⟩ : ∃ m : Nat, hexT s[i + 1].toNat = (m : Int) := ⟨(hexT s[i + 1].toNat).toNat, by omega⟩
 rw [hm] at h16 hx
 have hcx : CG N hk (d + 2) 64 #[.int .u8 (s[i + 1].toNat : Int)] (H.set b (cur (some y) s.length c (i + 1))) = some (.ret (.int .u64 (hexT s[i + 1].toNat)), (H.set b (cur (some y) s.length c (i + 1)))) := jc1 (hhex s[i + 1] _ (h1.gg x))
 rw [hm] at hcx
 have hm16 : m < 16 := by omega
 have z16 : ((m : Int) == 16) = false := by simp; omega
 have w4 : IntKind.u64.wrap ((g : Int) * 16) = (g : Int) * 16 := jd9 (by omega) (by omega)
 have w5 : IntKind.i64.wrap ((q : Int) + 1) = ((q + 1 : Nat) : Int) := by rw [ja4 (by omega) (by omega)]; omega
 have hor := fun o1 o2 => yv4 (x := o1) (y := o2) hg hm16
 have lL := lX5 Tryz.f46 30 31 32 34 35
 conv at lL in (occs := *) (rq _ _) => all_goals simp only [rX, oA, Tryz.f46, dL.o, reduceIte, Nat.reduceEqDiff]
 obtain ⟨l30, l31, l32, l34, l35⟩ := lL
 simp +decide only [↓uR.o, dG.o, ja1, jb1, reduceIte, ↓ja0 l30, ↓ja0 l31, ↓ja0 l32, ↓ja0 l34, ↓ja0 l35, ↓jb8 _ 10 false 120 _ jw7, e101, e7, hlt, ja3 Tryz.func64 rfl rfl hcx, z16, yd4, w4, hor, w5, e0, fld0, fld1, jb3 h.here, w1, jd1 h.here, jb3 h1.here, jc0 h1.here, ja6 (ts := #[22]) rfl und34, hz, hix, jb7 hl]
 exact hx _ (e0) (e1) (e5) (by simp +decide only [ja1, reduceIte, Int.toNat_natCast]) (by simp +decide only [ja1, reduceIte]) h1
end
theorem yv5 (x : Int) (H : Heap) : convertA PP 40 5 (.int .u64 x) H = some (.int .u8 (IntKind.u8.wrap x), H) := by kernel_rfl
section jumps
variable {K : Kf} {N : Nat}
theorem jt0 (E : Env) (ds : List Deferred) (H : Heap) (k : KOE) : execG PP XX K N noPr (.seq (rF Tryz.f46 1) (.seq (rF Tryz.f46 2) (.seq (.label 0) (.seq (rF Tryz.f46 3) cSW1)))) (some 0) E ds H k = execG PP XX K N noPr (.seq (rF Tryz.f46 3) cSW1) none E ds H k := by
 rw [jd8 _ _ _ _ _ _ _ rfl, jd8 _ _ _ _ _ _ _ rfl, j4k _ _ _ _ _ _ _ rfl, j4j, jc9]
theorem jt1 (E : Env) (ds : List Deferred) (H : Heap) (k : KOE) : execG PP XX K N noPr (.seq (rF Tryz.f46 1) (.seq (rF Tryz.f46 2) (.seq (.label 0) (.seq (rF Tryz.f46 3) cSW1)))) (some 1) E ds H k = execG PP XX K N noPr cSW6 none E ds H k := by
 rw [jd8 _ _ _ _ _ _ _ rfl, jd8 _ _ _ _ _ _ _ rfl, jd8 _ _ _ _ _ _ _ rfl, jd8 _ _ _ _ _ _ _ rfl, jd8 _ _ _ _ _ _ _ rfl, jd8 _ _ _ _ _ _ _ rfl, jd8 _ _ _ _ _ _ _ rfl, jd8 _ _ _ _ _ _ _ rfl, j4k _ _ _ _ _ _ _ rfl, j4j, jc9]
end jumps
theorem tab0 : hasLabel 0 (.seq (rF Tryz.f46 1) (.seq (rF Tryz.f46 2) (.seq (.label 0) (.seq (rF Tryz.f46 3) cSW1)))) = true := by rfl
theorem tab1 : hasLabel 1 (.seq (rF Tryz.f46 1) (.seq (rF Tryz.f46 2) (.seq (.label 0) (.seq (rF Tryz.f46 3) cSW1)))) = true := by rfl
def hexN (u : UInt8) : Nat := (hexT u.toNat).toNat
theorem y0l {K : Kf} {N : Nat} {H : Heap} {E : Env} {Q : R → Prop} {k : KOE} (e101 : E 101 = .int .i64 ((2 : Nat) : Int)) (hx : Q (k (.exit 2) (upd E (some 102) (.bool false)) [] H)) : Q (execG PP XX K N noPr cSW24 none E [] H k) := by
 have hlt : decide (((2 : Nat) : Int) < 2) = false := by decide
 have l30 := tl (rgn Tryz.f46 30)
 conv at l30 => rhs; simp only [rgn, oA, codeOf, Tryz.f46, gS, gN, reduceIte, Nat.reduceEqDiff, tA]
 simp +decide only [↓uR.o, dG.o, ↓ja0 l30, e101]
 exact hx
theorem e_x {N : Nat} {H0 H : Heap} {a : Option Addr} {c : Nat} {s : List UInt8} {b t i : Nat} {E : Env} {Q : R → Prop} {k : KOE} {hk : Hook} {d : Nat} {v : Value} {o : List UInt8} (x : Ctx H0 a c s b) (h : Txt H0 H b a s.length c i v o) (hi : i < s.length) (e0 : E 0 = .pointer (some ⟨b, 0, none⟩)) (e1 : E 1 = .pointer (some ⟨t, 0, none⟩)) (e5 : E 5 = v) (hhex : ∀ (u : UInt8) H, Ext GE H → hk 64 #[.int .u8 (u.toNat : Int)] H = some (some (.ret (.int .u64 (hexT u.toNat)), H))) (hN : 4 < N) (hj : ¬ i + 1 = s.length) (hc : s.getD (i + 1) 0 = 120) (hn : o.length ≤ 1048576)
   (hb : ∀ e : Nat, ((e = i + 2 ∧ (i + 2 = s.length ∨ hexT (s.getD (i + 2) 0).toNat = 16)) ∨ (e = i + 3 ∧ i + 2 < s.length ∧ hexT (s.getD (i + 2) 0).toNat < 16 ∧ (i + 3 = s.length ∨ hexT (s.getD (i + 3) 0).toNat = 16))) →
     ∀ E' H', E' 4 = .bool false → Txt H0 H' b a s.length c e v o → Q (k .ret E' [] H'))
   (hg : i + 3 < s.length → hexT (s.getD (i + 2) 0).toNat < 16 → hexT (s.getD (i + 3) 0).toNat < 16 →
     ∀ E' H' v', E' 0 = .pointer (some ⟨b, 0, none⟩) → E' 1 = .pointer (some ⟨t, 0, none⟩) → E' 5 = v' → Txt H0 H' b a s.length c (i + 3) v' (o ++ [UInt8.ofNat (hexN (s.getD (i + 2) 0) * 16 + hexN (s.getD (i + 3) 0))]) → Q (k (.goto 0) E' [] H')) :
   Q (execG PP XX (CG N hk (d + 2)) N noPr cSW6 none E [] H k) := by
 have hsm := x.row.small
 have w1 : IntKind.i64.wrap ((i : Int) + 1) = ((i + 1 : Nat) : Int) := by rw [ja4 (by omega) (by omega)]; omega
 have hz : (((i + 1 : Nat) : Int) == (s.length : Int)) = decide (i + 1 = s.length) := by
   rw [Bool.eq_iff_iff, beq_iff_eq, decide_eq_true_eq]; omega
 have h1 := h.set x.lt (i + 1)
 have hj : i + 1 < s.length := by omega
 have hgd : s.getD (i + 1) 0 = s[i + 1] := by simp [List.getD, hj]
 rw [decide_eq_false (by omega)] at hz
 obtain ⟨y, rfl, hl⟩ := (h1.row x).bts.cell (i + 1) hj
 have hix := jc4 (n := s.length) (c := c) (a := y) hj
 have hcv : s[i + 1] = 120 := by rw [← hgd]; exact hc
 have z110 : ((s[i + 1].toNat : Int) == 110) = false := by rw [hcv]; rfl
 have z116 : ((s[i + 1].toNat : Int) == 116) = false := by rw [hcv]; rfl
 have z34 : ((s[i + 1].toNat : Int) == 34) = false := by rw [hcv]; rfl
 have z92 : ((s[i + 1].toNat : Int) == 92) = false := by rw [hcv]; rfl
 have z120 : ((s[i + 1].toNat : Int) == 120) = true := by rw [hcv]; rfl
 obtain ⟨M, rfl⟩ : ∃ q, N = q + 1 + 1 + 1 := ⟨N - 3, by omega⟩
 have lt2 := fun u : UInt8 => j6b u.toNat
 have lL : _ ∧ _ := ⟨lX8 Tryz.f46 15 16 18 19 21 23 25 26, lX3 Tryz.f46 27 28 29⟩
 conv at lL in (occs := *) (rq _ _) => all_goals simp only [rX, oA, Tryz.f46, dL.o, reduceIte, Nat.reduceEqDiff]
 obtain ⟨⟨l15, l16, l18, l19, l21, l23, l25, l26⟩, ⟨l27, l28, l29⟩⟩ := lL
 simp +decide only [↓uR.o, dG.o, ja1, jb1, reduceIte, ↓ja0 l15, ↓ja0 l16, ↓ja0 l18, ↓ja0 l19, ↓ja0 l21, ↓ja0 l23, ↓ja0 l25, ↓ja0 l26, ↓ja0 l27, ↓ja0 l28, ↓ja0 l29, z110, z116, z34, z92, z120, ↓jb4, e0, fld0, fld1, jb3 h.here, w1, jd1 h.here, jb3 h1.here, jc0 h1.here, ja6 (ts := #[22]) rfl und34, hz, hix, jb7 hl]
 rw [ja5]
 by_cases q1 : i + 1 + 1 = s.length
 · refine y0j (t := t) x h1 hj ?_ ?_ ?_ (q := 0) ?_ (by decide) q1 fun E' H' e4 h' => ?_
   · simp +decide only [ja1, reduceIte, e0]
   · simp +decide only [ja1, reduceIte, e1]
   · simp +decide only [ja1, reduceIte, e5]
   · simp +decide only [ja1, reduceIte]
   · simp +decide only [dG.o]
     exact hb (i + 2) (.inl ⟨rfl, .inl q1⟩) E' H' e4 h'
 by_cases q2 : hexT (s.getD (i + 1 + 1) 0).toNat = 16
 · refine y0k (t := t) x h1 hj ?_ ?_ ?_ hhex (q := 0) ?_ (by decide) q1 q2 fun E' H' e4 h' => ?_
   · simp +decide only [ja1, reduceIte, e0]
   · simp +decide only [ja1, reduceIte, e1]
   · simp +decide only [ja1, reduceIte, e5]
   · simp +decide only [ja1, reduceIte]
   · simp +decide only [dG.o]
     exact hb (i + 2) (.inl ⟨rfl, .inr q2⟩) E' H' e4 h'
 have q2' : hexT (s.getD (i + 1 + 1) 0).toNat < 16 := by have := lt2 (s.getD (i + 1 + 1) 0); omega
 refine yq6 (t := t) x h1 hj ?_ ?_ ?_ hhex (q := 0) (g := 0) ?_ (by decide) ?_ (by decide) q1 q2' fun E2 a0 a1 a5 a7 a101 h2 => ?_
 · simp +decide only [ja1, reduceIte, e0]
 · simp +decide only [ja1, reduceIte, e1]
 · simp +decide only [ja1, reduceIte, e5]
 · simp +decide only [ja1, reduceIte]; rfl
 · simp +decide only [ja1, reduceIte]; rfl
 rw [jc9, ja5]
 by_cases q3 : i + 1 + 1 + 1 = s.length
 · refine y0j (t := t) x h2 (by omega) a0 a1 a5 (q := 1) a101 (by decide) q3 fun E' H' e4 h' => ?_
   simp +decide only [dG.o]
   exact hb (i + 3) (.inr ⟨rfl, by omega, q2', .inl q3⟩) E' H' e4 h'
 by_cases q4 : hexT (s.getD (i + 1 + 1 + 1) 0).toNat = 16
 · refine y0k (t := t) x h2 (by omega) a0 a1 a5 hhex (q := 1) a101 (by decide) q3 q4 fun E' H' e4 h' => ?_
   simp +decide only [dG.o]
   exact hb (i + 3) (.inr ⟨rfl, by omega, q2', .inr q4⟩) E' H' e4 h'
 have q4' : hexT (s.getD (i + 1 + 1 + 1) 0).toNat < 16 := by have := lt2 (s.getD (i + 1 + 1 + 1) 0); omega
 have n2 := jn1 (s.getD (i + 1 + 1) 0).toNat
 have n3 := jn1 (s.getD (i + 1 + 1 + 1) 0).toNat
 have g2 : 0 * 16 + hexN (s.getD (i + 1 + 1) 0) < 16 := by unfold hexN; omega
 refine yq6 (t := t) x h2 (by omega) a0 a1 a5 hhex (q := 1) (g := 0 * 16 + hexN (s.getD (i + 1 + 1) 0)) a101 (by decide) a7 g2 q3 q4' fun E3 b0 b1 b5 b7 b101 h3 => ?_
 rw [jc9, ja5]
 refine y0l b101 ?_
 have hu : ((UInt8.ofNat (hexN (s.getD (i + 1 + 1) 0) * 16 + hexN (s.getD (i + 1 + 1 + 1) 0))).toNat : Int) = (((0 * 16 + hexN (s.getD (i + 1 + 1) 0)) * 16 + hexN (s.getD (i + 1 + 1 + 1) 0) : Nat) : Int) := by
   have l3 : hexN (s.getD (i + 1 + 1 + 1) 0) < 16 := by unfold hexN; omega
   rw [UInt8.toNat_ofNat']; omega
 have wb : IntKind.u8.wrap (((0 * 16 + hexN (s.getD (i + 1 + 1) 0)) * 16 + hexN (s.getD (i + 1 + 1 + 1) 0) : Nat) : Int) = ((UInt8.ofNat (hexN (s.getD (i + 1 + 1) 0) * 16 + hexN (s.getD (i + 1 + 1 + 1) 0))).toNat : Int) := by
   rw [hu]
   have l3 : hexN (s.getD (i + 1 + 1 + 1) 0) < 16 := by unfold hexN; omega
   exact ju3 (by omega) (by omega)
 obtain ⟨v', H', c1, c2⟩ := h3.add x.gg.fresh x.lt (UInt8.ofNat (hexN (s.getD (i + 1 + 1) 0) * 16 + hexN (s.getD (i + 1 + 1 + 1) 0))) hn
 have b7 : E3 7 = .int .u64 (((0 * 16 + hexN (s.getD (i + 1 + 1) 0)) * 16 + hexN (s.getD (i + 1 + 1 + 1) 0) : Nat) : Int) := b7
 have lL := lX2 Tryz.f46 36 37
 conv at lL in (occs := *) (rq _ _) => all_goals simp only [rX, oA, Tryz.f46, dL.o, reduceIte, Nat.reduceEqDiff]
 obtain ⟨l36, l37⟩ := lL
 simp +decide only [↓uR.o, dG.o, ja1, reduceIte, ↓ja0 l36, ↓ja0 l37, ↓jf1, b5, b7, yv5, wb, bslice1, jf5, c1]
 refine hg (by omega) q2' q4' _ H' v' ?_ ?_ ?_ c2
 · simp +decide only [ja1, reduceIte, b0]
 · simp +decide only [ja1, reduceIte, b1]
 · simp +decide only [ja1, reduceIte]
inductive TR where
 | bad (e : Nat)
 | good (w : List UInt8) (e : Nat)
def textI (s : List UInt8) : Nat → Nat → List UInt8 → TR
 | 0, i, _ => .bad i
 | k + 1, i, o =>
   if i + 1 = s.length then .bad (i + 1)
   else if s.getD (i + 1) 0 = 34 then .good o (i + 2)
   else if s.getD (i + 1) 0 = 92 then
     (if i + 2 = s.length then .bad (i + 2)
      else if s.getD (i + 2) 0 = 110 then textI s k (i + 2) (o ++ [10])
      else if s.getD (i + 2) 0 = 116 then textI s k (i + 2) (o ++ [9])
      else if s.getD (i + 2) 0 = 34 then textI s k (i + 2) (o ++ [34])
      else if s.getD (i + 2) 0 = 92 then textI s k (i + 2) (o ++ [92])
      else if s.getD (i + 2) 0 = 120 then
        (if i + 3 = s.length ∨ hexT (s.getD (i + 3) 0).toNat = 16 then .bad (i + 3)
         else if i + 4 = s.length ∨ hexT (s.getD (i + 4) 0).toNat = 16 then .bad (i + 4)
         else textI s k (i + 4) (o ++ [UInt8.ofNat (hexN (s.getD (i + 3) 0) * 16 + hexN (s.getD (i + 4) 0))]))
      else .bad (i + 2))
   else if (s.getD (i + 1) 0).toNat < 32 ∨ 126 < (s.getD (i + 1) 0).toNat then .bad (i + 1)
   else textI s k (i + 1) (o ++ [s.getD (i + 1) 0])
def FinT (H0 : Heap) (a : Option Addr) (l c b t : Nat) (kd n0 f0 t0 : Int) (r : TR) (E' : Env) (H' : Heap) : Prop :=
 match r with
 | .bad e => E' 4 = .bool false ∧ ∃ v o, Txt H0 H' b a l c e v o
 | .good w e => E' 4 = .bool true ∧ Lexd H0 H' b (cur a l c e) t (tok kd n0 ⟨⟨w⟩⟩ f0 t0)
theorem yq7 {N : Nat} {H0 : Heap} {a : Option Addr} {c : Nat} {s : List UInt8} {b t : Nat} {Q : R → Prop} {k : KOE} {hk : Hook} {d : Nat} {kd n0 f0 t0 : Int} (x : Ctx H0 a c s b) (hbt : t ≠ b) (ht : H0.get t = some (tok kd n0 .empty f0 t0)) (hhex : ∀ (u : UInt8) H, Ext GE H → hk 64 #[.int .u8 (u.toNat : Int)] H = some (some (.ret (.int .u64 (hexT u.toNat)), H))) (hN : 4 < N) (hs : s.length ≤ 1048576) :
   ∀ (f i : Nat) (o : List UInt8) (m : Nat) (_ : i < s.length) (_ : s.length ≤ i + f) (_ : o.length ≤ i) (_ : 2 * f < m) {H : Heap} {E : Env} {v : Value} (_ : Txt H0 H b a s.length c i v o) (_ : (E 0 = .pointer (some ⟨b, 0, none⟩) ∧ E 1 = .pointer (some ⟨t, 0, none⟩) ∧ E 5 = v))
     (_ : ∀ E' H', FinT H0 a s.length c b t kd n0 f0 t0 (textI s f i o) E' H' → Q (k .ret E' [] H')), Q (execG PP XX (CG N hk (d + 2)) N noPr (.seq (rF Tryz.f46 3) cSW1) none E [] H (scopeK (.seq (rF Tryz.f46 1) (.seq (rF Tryz.f46 2) (.seq (.label 0) (.seq (rF Tryz.f46 3) cSW1)))) (execG PP XX (CG N hk (d + 2)) N noPr (.seq (rF Tryz.f46 1) (.seq (rF Tryz.f46 2) (.seq (.label 0) (.seq (rF Tryz.f46 3) cSW1))))) m k))
 | 0, i, o, m, hi, hf, ho, hm, H, E, v, h, he, hx => by omega
 | f + 1, i, o, m, hi, hf, ho, hm, H, E, v, h, he, hx => by
   obtain ⟨e0, e1, e5⟩ := he
   obtain ⟨m2, rfl⟩ : ∃ q, m = q + 1 + 1 := ⟨m - 2, by omega⟩
   have hm2 : 2 * f < m2 := by omega
   have hol : o.length ≤ 1048576 := by omega
   have next : ∀ (j : Nat) (u : UInt8) (q : Nat) (E' : Env) (H' : Heap) (v' : Value), i < j → j < s.length → q = m2 ∨ q = m2 + 1 → Txt H0 H' b a s.length c j v' (o ++ [u]) → E' 0 = .pointer (some ⟨b, 0, none⟩) → E' 1 = .pointer (some ⟨t, 0, none⟩) → E' 5 = v' →
       (∀ E' H', FinT H0 a s.length c b t kd n0 f0 t0 (textI s f j (o ++ [u])) E' H' → Q (k .ret E' [] H')) → Q (scopeK (.seq (rF Tryz.f46 1) (.seq (rF Tryz.f46 2) (.seq (.label 0) (.seq (rF Tryz.f46 3) cSW1)))) (execG PP XX (CG N hk (d + 2)) N noPr (.seq (rF Tryz.f46 1) (.seq (rF Tryz.f46 2) (.seq (.label 0) (.seq (rF Tryz.f46 3) cSW1))))) (q + 1) k (.goto 0) E' [] H') := fun j u q E' H' v' h1 h2 hq ht' z0 z1 z5 hx' => by
     rw [jh1 tab0, je6, jt0]
     exact yq7 x hbt ht hhex hN hs f j (o ++ [u]) q h2 (by omega) (by simp; omega) (by omega) ht' ⟨z0, z1, z5⟩ hx'
   unfold textI at hx
   by_cases hj : i + 1 = s.length
   · rw [if_pos hj] at hx
     refine y1o (t := t) x h hi e0 e1 e5 hj fun E' H' e4 h' => ?_
     rw [je1]
     exact hx E' H' ⟨e4, _, _, h'⟩
   rw [if_neg hj] at hx
   by_cases c34 : s.getD (i + 1) 0 = 34
   · rw [if_pos c34] at hx
     refine yv3 x h hi e0 e1 e5 hj c34 hbt ht fun E' H' e4 h' => ?_
     rw [je1]
     exact hx E' H' ⟨e4, h'⟩
   rw [if_neg c34] at hx
   by_cases c92 : s.getD (i + 1) 0 = 92
   · rw [if_pos c92] at hx
     refine y1q (t := t) x h hi e0 e1 e5 hj c34 c92 fun E2 H2 z0 z1 z5 h2 => ?_
     rw [jh1 tab1, je6, jt1]
     have hi2 : i + 1 < s.length := by omega
     by_cases hj2 : i + 2 = s.length
     · rw [if_pos hj2] at hx
       refine y1r (t := t) x h2 hi2 z0 z1 z5 hj2 fun E' H' e4 h' => ?_
       rw [je1]
       exact hx E' H' ⟨e4, _, _, h'⟩
     rw [if_neg hj2] at hx
     by_cases c110 : s.getD (i + 2) 0 = 110
     · rw [if_pos c110] at hx
       exact e_n (t := t) x h2 hi2 z0 z1 z5 hj2 c110 hol fun E' H' v' w0 w1 w5 h' => next (i + 2) 10 m2 E' H' v' (by omega) (by omega) (.inl rfl) h' w0 w1 w5 hx
     rw [if_neg c110] at hx
     by_cases c116 : s.getD (i + 2) 0 = 116
     · rw [if_pos c116] at hx
       exact e_t (t := t) x h2 hi2 z0 z1 z5 hj2 c116 hol fun E' H' v' w0 w1 w5 h' => next (i + 2) 9 m2 E' H' v' (by omega) (by omega) (.inl rfl) h' w0 w1 w5 hx
     rw [if_neg c116] at hx
     by_cases d34 : s.getD (i + 2) 0 = 34
     · rw [if_pos d34] at hx
       exact e_q (t := t) x h2 hi2 z0 z1 z5 hj2 d34 hol fun E' H' v' w0 w1 w5 h' => next (i + 2) 34 m2 E' H' v' (by omega) (by omega) (.inl rfl) h' w0 w1 w5 hx
     rw [if_neg d34] at hx
     by_cases d92 : s.getD (i + 2) 0 = 92
     · rw [if_pos d92] at hx
       exact e_b (t := t) x h2 hi2 z0 z1 z5 hj2 d92 hol fun E' H' v' w0 w1 w5 h' => next (i + 2) 92 m2 E' H' v' (by omega) (by omega) (.inl rfl) h' w0 w1 w5 hx
     rw [if_neg d92] at hx
     by_cases d120 : s.getD (i + 2) 0 = 120
     · rw [if_pos d120] at hx
       refine e_x (t := t) x h2 hi2 z0 z1 z5 hhex hN hj2 d120 hol (fun e hq E' H' e4 h' => ?_) (fun q1 q2 q3 E' H' v' w0 w1 w5 h' => ?_)
       · rw [je1]
         rcases hq with ⟨rfl, hq⟩ | ⟨rfl, q1, q2, hq⟩
         · rw [if_pos hq] at hx
           exact hx E' H' ⟨e4, _, _, h'⟩
         · have n1 : ¬ (i + 3 = s.length ∨ hexT (s.getD (i + 3) 0).toNat = 16) := fun q => by
             rcases q with q | q
             · have : i + 1 + 2 = i + 3 := rfl
               omega
             · have e : s.getD (i + 1 + 2) 0 = s.getD (i + 3) 0 := rfl
               rw [e] at q2; omega
           rw [if_neg n1, if_pos hq] at hx
           exact hx E' H' ⟨e4, _, _, h'⟩
       · have n1 : ¬ (i + 3 = s.length ∨ hexT (s.getD (i + 3) 0).toNat = 16) := fun q => by
           rcases q with q | q
           · omega
           · have e : s.getD (i + 1 + 2) 0 = s.getD (i + 3) 0 := rfl
             rw [e] at q2; omega
         have n2 : ¬ (i + 4 = s.length ∨ hexT (s.getD (i + 4) 0).toNat = 16) := fun q => by
           rcases q with q | q
           · omega
           · have e : s.getD (i + 1 + 3) 0 = s.getD (i + 4) 0 := rfl
             rw [e] at q3; omega
         rw [if_neg n1, if_neg n2] at hx
         exact next (i + 4) _ m2 E' H' v' (by omega) (by omega) (.inl rfl) h' w0 w1 w5 hx
     rw [if_neg d120] at hx
     refine y1s (t := t) x h2 hi2 z0 z1 z5 hj2 c110 c116 d34 d92 d120 fun E' H' e4 h' => ?_
     rw [je1]
     exact hx E' H' ⟨e4, _, _, h'⟩
   rw [if_neg c92] at hx
   by_cases hr : (s.getD (i + 1) 0).toNat < 32 ∨ 126 < (s.getD (i + 1) 0).toNat
   · rw [if_pos hr] at hx
     refine y1p (t := t) x h hi e0 e1 e5 hj c34 c92 hr fun E' H' e4 h' => ?_
     rw [je1]
     exact hx E' H' ⟨e4, _, _, h'⟩
   · rw [if_neg hr] at hx
     exact y0i (t := t) x h hi e0 e1 e5 hj c34 c92 hr hol fun E' H' v' w0 w1 w5 h' => next (i + 1) _ (m2 + 1) E' H' v' (by omega) (by omega) (.inr rfl) h' w0 w1 w5 hx
theorem yd5 {N : Nat} {H : Heap} {a : Option Addr} {c : Nat} {s : List UInt8} {b t i : Nat} {hk : Hook} {d : Nat} {kd n0 f0 t0 : Int} (x : Ctx H a c s b) (hb : H.get b = some (cur a s.length c i)) (hbt : t ≠ b) (ht : H.get t = some (tok kd n0 .empty f0 t0)) (hhex : ∀ (u : UInt8) H, Ext GE H → hk 64 #[.int .u8 (u.toNat : Int)] H = some (some (.ret (.int .u64 (hexT u.toNat)), H))) (hN : 2 * s.length + 8 < N) (hs : s.length ≤ 1048576) (hi : i < s.length) (hh : NH hk) :
   ∃ E' H', FinT H a s.length c b t kd n0 f0 t0 (textI s (s.length - i) i []) E' H' ∧ ∃ v, E' 4 = v ∧ CG N hk (d + 3) 46 #[.pointer (some ⟨b, 0, none⟩), .pointer (some ⟨t, 0, none⟩)] H = some (.ret v, H') := by
 have main : ∃ R0 : R, CG N hk (d + 3) 46 #[.pointer (some ⟨b, 0, none⟩), .pointer (some ⟨t, 0, none⟩)] H = R0 ∧ ∃ E' H', FinT H a s.length c b t kd n0 f0 t0 (textI s (s.length - i) i []) E' H' ∧ ∃ v, E' 4 = v ∧ R0 = some (.ret v, H') := by
   refine ⟨_, jb6 (hh _ _ _ rfl) Tryz.func46 (c := codeOf Tryz.f46) rfl rfl rfl (pr := noPr) rfl, ?_⟩
   rw [code46]
   generalize hF : finE PP Tryz.f46 = F
   obtain ⟨M, rfl⟩ : ∃ q, N = q + 1 := ⟨N - 1, by omega⟩
   have h0 : Txt H H b a s.length c i (.slice none 0 0) [] := ⟨Nat.le_refl _, hb, fun z w _ h => h, x.gg.fresh, .inl ⟨rfl, rfl⟩⟩
   have lL := lX3 Tryz.f46 0 1 2
   conv at lL in (occs := *) (rq _ _) => all_goals simp only [rX, oA, Tryz.f46, dL.o, reduceIte, Nat.reduceEqDiff]
   obtain ⟨l0, l1, l2⟩ := lL
   generalize hp : (.seq (rF Tryz.f46 3) cSW1 : Code) = p0
   simp +decide only [↓uR.o, dG.o, ↓ja0 l0, ↓ja0 l1, ↓ja0 l2, ↓jk0, ↓jh7, ↓je6]
   subst hp
   refine yq7 (N := M + 1) (Q := fun r => ∃ E' H', FinT H a s.length c b t kd n0 f0 t0 (textI s (s.length - i) i []) E' H' ∧ ∃ v, E' 4 = v ∧ r = some (.ret v, H')) x hbt ht hhex (by omega) hs (s.length - i) i [] M hi (by omega) (Nat.zero_le _) (by omega) h0 ⟨?_, ?_, ?_⟩ (fun E' H' hf => ?_)
   · simp +decide only [ja1, reduceIte, jc7]
   · simp +decide only [ja1, reduceIte, je4]
   · simp +decide only [ja1, reduceIte]
   · refine ⟨E', H', hf, E' 4, rfl, ?_⟩
     rw [← hF, jb0 (l := [E' 4]) (by simp +decide [Tryz.f46, resE])]
     rfl
 obtain ⟨R0, m1, E', H', m2, v, m3, m4⟩ := main
 exact ⟨E', H', m2, v, m3, m1.trans m4⟩
end Go.Am
