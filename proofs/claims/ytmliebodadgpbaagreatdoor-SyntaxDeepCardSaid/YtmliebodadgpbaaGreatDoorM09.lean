/- A sign: all of them. -/
import Derived.Test.YtmliebodadgpbaaGreatDoorM07
import Derived.Test.YtmliebodadgpbaaGreatDoorM08
import Derived.Shelf.Bits.Mul64
import Derived.Test.YtmliebodadgpbaaGreatDoorM06
open Go.Proofs
namespace Go.Am
set_option maxRecDepth 100000
theorem jk7 {N : Nat} {hk : Hook} {d : Nat} {H0 H : Heap} {a : Option Addr} {n c b t i n0 : Nat} {kd nn f0 t0 : Int} {w : ByteArray} (h : Lexd H0 H b (cur a n c i) t (tok kd nn w f0 t0)) (hbt : t ≠ b) (hbl : b < H.next) (htl : t < H.next)
   (c0 : H.get n0 = some (one (.pointer (some ⟨b, 0, none⟩)))) (c1 : H.get (n0 + 1) = some (one (.pointer (some ⟨t, 0, none⟩)))) (v : Int) (c2 : H.get (n0 + 2) = some (one (.int .u8 v))) (h1 : n0 + 1 ≠ t) (hn1b : n0 + 1 ≠ b)
   (second double single_ : Int) (heq : (v == second) = true) (hn0t : n0 ≠ t) (hn0b : n0 ≠ b) (hi : i < 9223372036854775806) (hh : NH hk) :
   ∃ H', Lexd H0 H' b (cur a n c (i + 1)) t (tok double nn w f0 t0) ∧ CG N hk (d + 1) 71 #[.int .u8 second, .int .i64 double, .int .i64 single_, .pointer (some ⟨n0 + 1, 0, none⟩), .pointer (some ⟨n0 + 2, 0, none⟩), .pointer (some ⟨n0, 0, none⟩)] H = some (.ret (.bool (double != 0)), H') := by
 have a1 := h.set2 hbt htl (tok single_ nn w f0 t0)
 have a2 := a1.set2 hbt (by exact htl) (tok double nn w f0 t0)
 have a3 := a2.set1 hbt (by exact hbl) (cur a n c (i + 1))
 refine ⟨_, a3, ?_⟩
 refine (jc2 (hh _ _ _ rfl) Tryz.func71 (c := codeOf Tryz.f71) rfl rfl rfl (pr := noPr) rfl).trans ?_
 rw [code71]
 generalize hF : finE PP Tryz.f71 = F
 have h2 : n0 + 2 ≠ t := fun e => by rw [e, h.two] at c2; simp [tok, one] at c2
 have g : ∀ (G : Heap) (q : Nat) (x : Blk) (z : Nat) (y : Option Blk), z ≠ q → G.get z = y → (G.set q x).get z = y := fun G q x z y hz hy => by rw [Heap.get_set, if_neg hz]; exact hy
 have k1 := g H t (tok single_ nn w f0 t0) _ _ h1 c1
 have k2 := g H t (tok single_ nn w f0 t0) _ _ h2 c2
 have k0 := g _ t (tok double nn w f0 t0) _ _ hn0t (g H t (tok single_ nn w f0 t0) _ _ hn0t c0)
 have k3 := g _ b (cur a n c (i + 1)) _ _ hn1b (g _ t (tok double nn w f0 t0) _ _ h1 k1)
 have w1 : IntKind.i64.wrap ((i : Int) + 1) = ((i + 1 : Nat) : Int) := by rw [jb2 (by omega) (by omega)]; omega
 have lL := lX6 Tryz.f71 0 1 2 3 4 5
 conv at lL in (occs := *) (rgnX _ _) => all_goals simp only [rX, opsAt, Tryz.f71, dL.o, reduceIte, Nat.reduceEqDiff]
 obtain ⟨l0, l1, l2, l3, l4, l5⟩ := lL
 simp (decide := true) only [↓uR.o, dG.o, ja1, ja5, reduceIte, ↓ja0 l0, ↓ja0 l1, ↓ja0 l2, ↓ja0 l3, ↓ja0 l4, ↓ja0 l5, j9o, y0g, ju1 c1, tf0, jh1 h.two, jq1 k2, heq, ju1 k1, jh1 a1.two, ju0 k0, fld1, jd0 a2.one, ji5 a2.one, w1, ju1 k3, jv9 a3.two]
 rw [← hF, jb6 (l := [.bool (double != 0)]) (by simp (decide := true) [Tryz.f71, resE, ja1])]
 rfl
section
variable {N : Nat} {hk : Hook} {d : Nat} {H : Heap} {a : Option Addr} {c : Nat} {s : List UInt8} {b t i : Nat} {nn f0 t0 : Int}
theorem y7q (x : Ctx H a c s b) (hb : H.get b = some (cur a s.length c i)) (ht : H.get t = some (tok 0 nn .empty f0 t0)) (hbt : t ≠ b) (htl : t < H.next) (htg : GE.next ≤ t) (hrt : ∀ q, a = some q → q.block ≠ t) (hi : i < s.length) (hh : NH hk) (hsl : s.length < 9223372036854775000) (h46 : ((s[i].toNat : Int) == 46) = true) (hn : ((if i + 1 < s.length then ((s.getD (i + 1) 0).toNat : Int) else 0) == 46) = true) :
   ∃ H', Lexd H H' b (cur a s.length c (i + 1 + 1)) t (tok 12 nn .empty f0 t0) ∧ CG N hk (d + 2) 52 #[.pointer (some ⟨b, 0, none⟩), .pointer (some ⟨t, 0, none⟩)] H = some (.ret (.bool true), H') := by
 have main : ∃ R0 : R, CG N hk (d + 2) 52 #[.pointer (some ⟨b, 0, none⟩), .pointer (some ⟨t, 0, none⟩)] H = R0 ∧ ∃ H', Lexd H H' b (cur a s.length c (i + 1 + 1)) t (tok 12 nn .empty f0 t0) ∧ R0 = some (.ret (.bool true), H') := by
   refine ⟨_, jc2 (hh _ _ _ rfl) Tryz.func52 (c := codeOf Tryz.f52) rfl rfl rfl (pr := pr1) rfl, ?_⟩
   rw [code52]
   generalize hF : finE PP Tryz.f52 = F
   refine je7 (Q := fun r => ∃ H', Lexd H H' b (cur a s.length c (i + 1 + 1)) t (tok 12 nn .empty f0 t0) ∧ r = some (.ret (.bool true), H')) x hb ht hbt htl htg hrt hi hh fun E H' e5 e7 e3 e6 hL hnx own hv => ?_
   have hbl := x.lt
   have hsm := x.row.small
   obtain ⟨H2, h2, hcall⟩ := jk7 (N := N) (hk := hk) (d := d) hL hbt (by omega) (by omega) own.c0 own.c1 _ hv (by omega) (by omega) 46 12 0 hn (by omega) (by omega) (by omega) hh
   have lL := lX3 Tryz.f52 6 7 8
   conv at lL in (occs := *) (rgnX _ _) => all_goals simp only [rX, opsAt, Tryz.f52, dL.o, reduceIte, Nat.reduceEqDiff]
   obtain ⟨l6, l7, l8⟩ := lL
   simp (decide := true) only [↓jb9, ↓uG.o, dG.o, ja1, reduceIte, ↓ja0 l6, ↓ja0 l7, ↓ja0 l8, e5, e7, h46, ↓jg2 51 _ _ 71 #[] #[.pointer (some ⟨H.next + 1, 0, none⟩), .pointer (some ⟨H.next + 2, 0, none⟩), .pointer (some ⟨H.next, 0, none⟩)], app33, ja3 Tryz.func71 rfl rfl hcall]
   refine ⟨_, h2, ?_⟩
   rw [← hF, jb6 (l := [.bool ((12 : Int) != 0)]) (by simp (decide := true) [Tryz.f52, resE, ja1])]
   rfl
 obtain ⟨R0, m1, H', m2, m3⟩ := main
 exact ⟨H', m2, m1.trans m3⟩
theorem y7r (x : Ctx H a c s b) (hb : H.get b = some (cur a s.length c i)) (ht : H.get t = some (tok 0 nn .empty f0 t0)) (hbt : t ≠ b) (htl : t < H.next) (htg : GE.next ≤ t) (hrt : ∀ q, a = some q → q.block ≠ t) (hi : i < s.length) (hh : NH hk) (hsl : s.length < 9223372036854775000) (h46 : ((s[i].toNat : Int) == 46) = true) (hn : ((if i + 1 < s.length then ((s.getD (i + 1) 0).toNat : Int) else 0) == 46) = false) :
   ∃ H', Lexd H H' b (cur a s.length c (i + 1)) t (tok 0 nn .empty f0 t0) ∧ CG N hk (d + 2) 52 #[.pointer (some ⟨b, 0, none⟩), .pointer (some ⟨t, 0, none⟩)] H = some (.ret (.bool false), H') := by
 have main : ∃ R0 : R, CG N hk (d + 2) 52 #[.pointer (some ⟨b, 0, none⟩), .pointer (some ⟨t, 0, none⟩)] H = R0 ∧ ∃ H', Lexd H H' b (cur a s.length c (i + 1)) t (tok 0 nn .empty f0 t0) ∧ R0 = some (.ret (.bool false), H') := by
   refine ⟨_, jc2 (hh _ _ _ rfl) Tryz.func52 (c := codeOf Tryz.f52) rfl rfl rfl (pr := pr1) rfl, ?_⟩
   rw [code52]
   generalize hF : finE PP Tryz.f52 = F
   refine je7 (Q := fun r => ∃ H', Lexd H H' b (cur a s.length c (i + 1)) t (tok 0 nn .empty f0 t0) ∧ r = some (.ret (.bool false), H')) x hb ht hbt htl htg hrt hi hh fun E H' e5 e7 e3 e6 hL hnx own hv => ?_
   have hbl := x.lt
   have hsm := x.row.small
   obtain ⟨H2, h2, hcall⟩ := jw1 (N := N) (hk := hk) (d := d) hL hbt (by omega) (by omega) own.c0 own.c1 _ hv (by omega) (by omega) 46 12 0 hn hh
   have lL := lX3 Tryz.f52 6 7 8
   conv at lL in (occs := *) (rgnX _ _) => all_goals simp only [rX, opsAt, Tryz.f52, dL.o, reduceIte, Nat.reduceEqDiff]
   obtain ⟨l6, l7, l8⟩ := lL
   simp (decide := true) only [↓jb9, ↓uG.o, dG.o, ja1, reduceIte, ↓ja0 l6, ↓ja0 l7, ↓ja0 l8, e5, e7, h46, ↓jg2 51 _ _ 71 #[] #[.pointer (some ⟨H.next + 1, 0, none⟩), .pointer (some ⟨H.next + 2, 0, none⟩), .pointer (some ⟨H.next, 0, none⟩)], app33, ja3 Tryz.func71 rfl rfl hcall]
   refine ⟨_, h2, ?_⟩
   rw [← hF, jb6 (l := [.bool ((0 : Int) != 0)]) (by simp (decide := true) [Tryz.f52, resE, ja1])]
   rfl
 obtain ⟨R0, m1, H', m2, m3⟩ := main
 exact ⟨H', m2, m1.trans m3⟩
theorem y7s (x : Ctx H a c s b) (hb : H.get b = some (cur a s.length c i)) (ht : H.get t = some (tok 0 nn .empty f0 t0)) (hbt : t ≠ b) (htl : t < H.next) (htg : GE.next ≤ t) (hrt : ∀ q, a = some q → q.block ≠ t) (hi : i < s.length) (hh : NH hk) (hsl : s.length < 9223372036854775000) (h46 : ((s[i].toNat : Int) == 46) = false) (h33 : ((s[i].toNat : Int) == 33) = true) (hn : ((if i + 1 < s.length then ((s.getD (i + 1) 0).toNat : Int) else 0) == 61) = true) :
   ∃ H', Lexd H H' b (cur a s.length c (i + 1 + 1)) t (tok 15 nn .empty f0 t0) ∧ CG N hk (d + 2) 52 #[.pointer (some ⟨b, 0, none⟩), .pointer (some ⟨t, 0, none⟩)] H = some (.ret (.bool true), H') := by
 have main : ∃ R0 : R, CG N hk (d + 2) 52 #[.pointer (some ⟨b, 0, none⟩), .pointer (some ⟨t, 0, none⟩)] H = R0 ∧ ∃ H', Lexd H H' b (cur a s.length c (i + 1 + 1)) t (tok 15 nn .empty f0 t0) ∧ R0 = some (.ret (.bool true), H') := by
   refine ⟨_, jc2 (hh _ _ _ rfl) Tryz.func52 (c := codeOf Tryz.f52) rfl rfl rfl (pr := pr1) rfl, ?_⟩
   rw [code52]
   generalize hF : finE PP Tryz.f52 = F
   refine je7 (Q := fun r => ∃ H', Lexd H H' b (cur a s.length c (i + 1 + 1)) t (tok 15 nn .empty f0 t0) ∧ r = some (.ret (.bool true), H')) x hb ht hbt htl htg hrt hi hh fun E H' e5 e7 e3 e6 hL hnx own hv => ?_
   have hbl := x.lt
   have hsm := x.row.small
   obtain ⟨H2, h2, hcall⟩ := jk7 (N := N) (hk := hk) (d := d) hL hbt (by omega) (by omega) own.c0 own.c1 _ hv (by omega) (by omega) 61 15 0 hn (by omega) (by omega) (by omega) hh
   have lL := lX4 Tryz.f52 6 7 9 10
   conv at lL in (occs := *) (rgnX _ _) => all_goals simp only [rX, opsAt, Tryz.f52, dL.o, reduceIte, Nat.reduceEqDiff]
   obtain ⟨l6, l7, l9, l10⟩ := lL
   simp (decide := true) only [↓jb9, ↓uG.o, dG.o, ja1, reduceIte, ↓ja0 l6, ↓ja0 l7, ↓ja0 l9, ↓ja0 l10, e5, e7, h46, h33, ↓jg2 55 _ _ 71 #[] #[.pointer (some ⟨H.next + 1, 0, none⟩), .pointer (some ⟨H.next + 2, 0, none⟩), .pointer (some ⟨H.next, 0, none⟩)], app33, ja3 Tryz.func71 rfl rfl hcall]
   refine ⟨_, h2, ?_⟩
   rw [← hF, jb6 (l := [.bool ((15 : Int) != 0)]) (by simp (decide := true) [Tryz.f52, resE, ja1])]
   rfl
 obtain ⟨R0, m1, H', m2, m3⟩ := main
 exact ⟨H', m2, m1.trans m3⟩
theorem y7t (x : Ctx H a c s b) (hb : H.get b = some (cur a s.length c i)) (ht : H.get t = some (tok 0 nn .empty f0 t0)) (hbt : t ≠ b) (htl : t < H.next) (htg : GE.next ≤ t) (hrt : ∀ q, a = some q → q.block ≠ t) (hi : i < s.length) (hh : NH hk) (hsl : s.length < 9223372036854775000) (h46 : ((s[i].toNat : Int) == 46) = false) (h33 : ((s[i].toNat : Int) == 33) = false) (h61 : ((s[i].toNat : Int) == 61) = true) (hn : ((if i + 1 < s.length then ((s.getD (i + 1) 0).toNat : Int) else 0) == 61) = true) :
   ∃ H', Lexd H H' b (cur a s.length c (i + 1 + 1)) t (tok 14 nn .empty f0 t0) ∧ CG N hk (d + 2) 52 #[.pointer (some ⟨b, 0, none⟩), .pointer (some ⟨t, 0, none⟩)] H = some (.ret (.bool true), H') := by
 have main : ∃ R0 : R, CG N hk (d + 2) 52 #[.pointer (some ⟨b, 0, none⟩), .pointer (some ⟨t, 0, none⟩)] H = R0 ∧ ∃ H', Lexd H H' b (cur a s.length c (i + 1 + 1)) t (tok 14 nn .empty f0 t0) ∧ R0 = some (.ret (.bool true), H') := by
   refine ⟨_, jc2 (hh _ _ _ rfl) Tryz.func52 (c := codeOf Tryz.f52) rfl rfl rfl (pr := pr1) rfl, ?_⟩
   rw [code52]
   generalize hF : finE PP Tryz.f52 = F
   refine je7 (Q := fun r => ∃ H', Lexd H H' b (cur a s.length c (i + 1 + 1)) t (tok 14 nn .empty f0 t0) ∧ r = some (.ret (.bool true), H')) x hb ht hbt htl htg hrt hi hh fun E H' e5 e7 e3 e6 hL hnx own hv => ?_
   have hbl := x.lt
   have hsm := x.row.small
   obtain ⟨H2, h2, hcall⟩ := jk7 (N := N) (hk := hk) (d := d) hL hbt (by omega) (by omega) own.c0 own.c1 _ hv (by omega) (by omega) 61 14 13 hn (by omega) (by omega) (by omega) hh
   have lL := lX5 Tryz.f52 6 7 9 11 12
   conv at lL in (occs := *) (rgnX _ _) => all_goals simp only [rX, opsAt, Tryz.f52, dL.o, reduceIte, Nat.reduceEqDiff]
   obtain ⟨l6, l7, l9, l11, l12⟩ := lL
   simp (decide := true) only [↓jb9, ↓uG.o, dG.o, ja1, reduceIte, ↓ja0 l6, ↓ja0 l7, ↓ja0 l9, ↓ja0 l11, ↓ja0 l12, e5, e7, h46, h33, h61, ↓jg2 59 _ _ 71 #[] #[.pointer (some ⟨H.next + 1, 0, none⟩), .pointer (some ⟨H.next + 2, 0, none⟩), .pointer (some ⟨H.next, 0, none⟩)], app33, ja3 Tryz.func71 rfl rfl hcall]
   refine ⟨_, h2, ?_⟩
   rw [← hF, jb6 (l := [.bool ((14 : Int) != 0)]) (by simp (decide := true) [Tryz.f52, resE, ja1])]
   rfl
 obtain ⟨R0, m1, H', m2, m3⟩ := main
 exact ⟨H', m2, m1.trans m3⟩
theorem y7u (x : Ctx H a c s b) (hb : H.get b = some (cur a s.length c i)) (ht : H.get t = some (tok 0 nn .empty f0 t0)) (hbt : t ≠ b) (htl : t < H.next) (htg : GE.next ≤ t) (hrt : ∀ q, a = some q → q.block ≠ t) (hi : i < s.length) (hh : NH hk) (hsl : s.length < 9223372036854775000) (h46 : ((s[i].toNat : Int) == 46) = false) (h33 : ((s[i].toNat : Int) == 33) = false) (h61 : ((s[i].toNat : Int) == 61) = true) (hn : ((if i + 1 < s.length then ((s.getD (i + 1) 0).toNat : Int) else 0) == 61) = false) :
   ∃ H', Lexd H H' b (cur a s.length c (i + 1)) t (tok 13 nn .empty f0 t0) ∧ CG N hk (d + 2) 52 #[.pointer (some ⟨b, 0, none⟩), .pointer (some ⟨t, 0, none⟩)] H = some (.ret (.bool true), H') := by
 have main : ∃ R0 : R, CG N hk (d + 2) 52 #[.pointer (some ⟨b, 0, none⟩), .pointer (some ⟨t, 0, none⟩)] H = R0 ∧ ∃ H', Lexd H H' b (cur a s.length c (i + 1)) t (tok 13 nn .empty f0 t0) ∧ R0 = some (.ret (.bool true), H') := by
   refine ⟨_, jc2 (hh _ _ _ rfl) Tryz.func52 (c := codeOf Tryz.f52) rfl rfl rfl (pr := pr1) rfl, ?_⟩
   rw [code52]
   generalize hF : finE PP Tryz.f52 = F
   refine je7 (Q := fun r => ∃ H', Lexd H H' b (cur a s.length c (i + 1)) t (tok 13 nn .empty f0 t0) ∧ r = some (.ret (.bool true), H')) x hb ht hbt htl htg hrt hi hh fun E H' e5 e7 e3 e6 hL hnx own hv => ?_
   have hbl := x.lt
   have hsm := x.row.small
   obtain ⟨H2, h2, hcall⟩ := jw1 (N := N) (hk := hk) (d := d) hL hbt (by omega) (by omega) own.c0 own.c1 _ hv (by omega) (by omega) 61 14 13 hn hh
   have lL := lX5 Tryz.f52 6 7 9 11 12
   conv at lL in (occs := *) (rgnX _ _) => all_goals simp only [rX, opsAt, Tryz.f52, dL.o, reduceIte, Nat.reduceEqDiff]
   obtain ⟨l6, l7, l9, l11, l12⟩ := lL
   simp (decide := true) only [↓jb9, ↓uG.o, dG.o, ja1, reduceIte, ↓ja0 l6, ↓ja0 l7, ↓ja0 l9, ↓ja0 l11, ↓ja0 l12, e5, e7, h46, h33, h61, ↓jg2 59 _ _ 71 #[] #[.pointer (some ⟨H.next + 1, 0, none⟩), .pointer (some ⟨H.next + 2, 0, none⟩), .pointer (some ⟨H.next, 0, none⟩)], app33, ja3 Tryz.func71 rfl rfl hcall]
   refine ⟨_, h2, ?_⟩
   rw [← hF, jb6 (l := [.bool ((13 : Int) != 0)]) (by simp (decide := true) [Tryz.f52, resE, ja1])]
   rfl
 obtain ⟨R0, m1, H', m2, m3⟩ := main
 exact ⟨H', m2, m1.trans m3⟩
theorem y7v (x : Ctx H a c s b) (hb : H.get b = some (cur a s.length c i)) (ht : H.get t = some (tok 0 nn .empty f0 t0)) (hbt : t ≠ b) (htl : t < H.next) (htg : GE.next ≤ t) (hrt : ∀ q, a = some q → q.block ≠ t) (hi : i < s.length) (hh : NH hk) (hsl : s.length < 9223372036854775000) (h46 : ((s[i].toNat : Int) == 46) = false) (h33 : ((s[i].toNat : Int) == 33) = false) (h61 : ((s[i].toNat : Int) == 61) = false) (h60 : ((s[i].toNat : Int) == 60) = true) (hq : ((if i + 1 < s.length then ((s.getD (i + 1) 0).toNat : Int) else 0) == 60) = true) :
   ∃ H', Lexd H H' b (cur a s.length c (i + 1 + 1)) t (tok 23 nn .empty f0 t0) ∧ CG N hk (d + 2) 52 #[.pointer (some ⟨b, 0, none⟩), .pointer (some ⟨t, 0, none⟩)] H = some (.ret (.bool true), H') := by
 have main : ∃ R0 : R, CG N hk (d + 2) 52 #[.pointer (some ⟨b, 0, none⟩), .pointer (some ⟨t, 0, none⟩)] H = R0 ∧ ∃ H', Lexd H H' b (cur a s.length c (i + 1 + 1)) t (tok 23 nn .empty f0 t0) ∧ R0 = some (.ret (.bool true), H') := by
   refine ⟨_, jc2 (hh _ _ _ rfl) Tryz.func52 (c := codeOf Tryz.f52) rfl rfl rfl (pr := pr1) rfl, ?_⟩
   rw [code52]
   generalize hF : finE PP Tryz.f52 = F
   refine je7 (Q := fun r => ∃ H', Lexd H H' b (cur a s.length c (i + 1 + 1)) t (tok 23 nn .empty f0 t0) ∧ r = some (.ret (.bool true), H')) x hb ht hbt htl htg hrt hi hh fun E H' e5 e7 e3 e6 hL hnx own hv => ?_
   have hbl := x.lt
   have hsm := x.row.small
   obtain ⟨H2, h2, hcall⟩ := jk7 (N := N) (hk := hk) (d := d) hL hbt (by omega) (by omega) own.c0 own.c1 _ hv (by omega) (by omega) 60 23 0 hq (by omega) (by omega) (by omega) hh
   have lL := lX7 Tryz.f52 6 7 9 11 13 14 15
   conv at lL in (occs := *) (rgnX _ _) => all_goals simp only [rX, opsAt, Tryz.f52, dL.o, reduceIte, Nat.reduceEqDiff]
   obtain ⟨l6, l7, l9, l11, l13, l14, l15⟩ := lL
   simp (decide := true) only [↓jb9, ↓uG.o, dG.o, ja1, reduceIte, ↓ja0 l6, ↓ja0 l7, ↓ja0 l9, ↓ja0 l11, ↓ja0 l13, ↓ja0 l14, ↓ja0 l15, e5, e6, e7, h46, h33, h61, h60, hq, jq1 hv, ↓jg2 65 _ _ 71 #[] #[.pointer (some ⟨H.next + 1, 0, none⟩), .pointer (some ⟨H.next + 2, 0, none⟩), .pointer (some ⟨H.next, 0, none⟩)], app33, ja3 Tryz.func71 rfl rfl hcall]
   refine ⟨_, h2, ?_⟩
   rw [← hF, jb6 (l := [.bool ((23 : Int) != 0)]) (by simp (decide := true) [Tryz.f52, resE, ja1])]
   rfl
 obtain ⟨R0, m1, H', m2, m3⟩ := main
 exact ⟨H', m2, m1.trans m3⟩
theorem y7w (x : Ctx H a c s b) (hb : H.get b = some (cur a s.length c i)) (ht : H.get t = some (tok 0 nn .empty f0 t0)) (hbt : t ≠ b) (htl : t < H.next) (htg : GE.next ≤ t) (hrt : ∀ q, a = some q → q.block ≠ t) (hi : i < s.length) (hh : NH hk) (hsl : s.length < 9223372036854775000) (h46 : ((s[i].toNat : Int) == 46) = false) (h33 : ((s[i].toNat : Int) == 33) = false) (h61 : ((s[i].toNat : Int) == 61) = false) (h60 : ((s[i].toNat : Int) == 60) = true) (hq : ((if i + 1 < s.length then ((s.getD (i + 1) 0).toNat : Int) else 0) == 60) = false) (hn : ((if i + 1 < s.length then ((s.getD (i + 1) 0).toNat : Int) else 0) == 61) = true) :
   ∃ H', Lexd H H' b (cur a s.length c (i + 1 + 1)) t (tok 17 nn .empty f0 t0) ∧ CG N hk (d + 2) 52 #[.pointer (some ⟨b, 0, none⟩), .pointer (some ⟨t, 0, none⟩)] H = some (.ret (.bool true), H') := by
 have main : ∃ R0 : R, CG N hk (d + 2) 52 #[.pointer (some ⟨b, 0, none⟩), .pointer (some ⟨t, 0, none⟩)] H = R0 ∧ ∃ H', Lexd H H' b (cur a s.length c (i + 1 + 1)) t (tok 17 nn .empty f0 t0) ∧ R0 = some (.ret (.bool true), H') := by
   refine ⟨_, jc2 (hh _ _ _ rfl) Tryz.func52 (c := codeOf Tryz.f52) rfl rfl rfl (pr := pr1) rfl, ?_⟩
   rw [code52]
   generalize hF : finE PP Tryz.f52 = F
   refine je7 (Q := fun r => ∃ H', Lexd H H' b (cur a s.length c (i + 1 + 1)) t (tok 17 nn .empty f0 t0) ∧ r = some (.ret (.bool true), H')) x hb ht hbt htl htg hrt hi hh fun E H' e5 e7 e3 e6 hL hnx own hv => ?_
   have hbl := x.lt
   have hsm := x.row.small
   obtain ⟨H2, h2, hcall⟩ := jk7 (N := N) (hk := hk) (d := d) hL hbt (by omega) (by omega) own.c0 own.c1 _ hv (by omega) (by omega) 61 17 16 hn (by omega) (by omega) (by omega) hh
   have lL := lX7 Tryz.f52 6 7 9 11 13 14 16
   conv at lL in (occs := *) (rgnX _ _) => all_goals simp only [rX, opsAt, Tryz.f52, dL.o, reduceIte, Nat.reduceEqDiff]
   obtain ⟨l6, l7, l9, l11, l13, l14, l16⟩ := lL
   simp (decide := true) only [↓jb9, ↓uG.o, dG.o, ja1, reduceIte, ↓ja0 l6, ↓ja0 l7, ↓ja0 l9, ↓ja0 l11, ↓ja0 l13, ↓ja0 l14, ↓ja0 l16, e5, e6, e7, h46, h33, h61, h60, hq, jq1 hv, ↓jg2 67 _ _ 71 #[] #[.pointer (some ⟨H.next + 1, 0, none⟩), .pointer (some ⟨H.next + 2, 0, none⟩), .pointer (some ⟨H.next, 0, none⟩)], app33, ja3 Tryz.func71 rfl rfl hcall]
   refine ⟨_, h2, ?_⟩
   rw [← hF, jb6 (l := [.bool ((17 : Int) != 0)]) (by simp (decide := true) [Tryz.f52, resE, ja1])]
   rfl
 obtain ⟨R0, m1, H', m2, m3⟩ := main
 exact ⟨H', m2, m1.trans m3⟩
theorem y7x (x : Ctx H a c s b) (hb : H.get b = some (cur a s.length c i)) (ht : H.get t = some (tok 0 nn .empty f0 t0)) (hbt : t ≠ b) (htl : t < H.next) (htg : GE.next ≤ t) (hrt : ∀ q, a = some q → q.block ≠ t) (hi : i < s.length) (hh : NH hk) (hsl : s.length < 9223372036854775000) (h46 : ((s[i].toNat : Int) == 46) = false) (h33 : ((s[i].toNat : Int) == 33) = false) (h61 : ((s[i].toNat : Int) == 61) = false) (h60 : ((s[i].toNat : Int) == 60) = true) (hq : ((if i + 1 < s.length then ((s.getD (i + 1) 0).toNat : Int) else 0) == 60) = false) (hn : ((if i + 1 < s.length then ((s.getD (i + 1) 0).toNat : Int) else 0) == 61) = false) :
   ∃ H', Lexd H H' b (cur a s.length c (i + 1)) t (tok 16 nn .empty f0 t0) ∧ CG N hk (d + 2) 52 #[.pointer (some ⟨b, 0, none⟩), .pointer (some ⟨t, 0, none⟩)] H = some (.ret (.bool true), H') := by
 have main : ∃ R0 : R, CG N hk (d + 2) 52 #[.pointer (some ⟨b, 0, none⟩), .pointer (some ⟨t, 0, none⟩)] H = R0 ∧ ∃ H', Lexd H H' b (cur a s.length c (i + 1)) t (tok 16 nn .empty f0 t0) ∧ R0 = some (.ret (.bool true), H') := by
   refine ⟨_, jc2 (hh _ _ _ rfl) Tryz.func52 (c := codeOf Tryz.f52) rfl rfl rfl (pr := pr1) rfl, ?_⟩
   rw [code52]
   generalize hF : finE PP Tryz.f52 = F
   refine je7 (Q := fun r => ∃ H', Lexd H H' b (cur a s.length c (i + 1)) t (tok 16 nn .empty f0 t0) ∧ r = some (.ret (.bool true), H')) x hb ht hbt htl htg hrt hi hh fun E H' e5 e7 e3 e6 hL hnx own hv => ?_
   have hbl := x.lt
   have hsm := x.row.small
   obtain ⟨H2, h2, hcall⟩ := jw1 (N := N) (hk := hk) (d := d) hL hbt (by omega) (by omega) own.c0 own.c1 _ hv (by omega) (by omega) 61 17 16 hn hh
   have lL := lX7 Tryz.f52 6 7 9 11 13 14 16
   conv at lL in (occs := *) (rgnX _ _) => all_goals simp only [rX, opsAt, Tryz.f52, dL.o, reduceIte, Nat.reduceEqDiff]
   obtain ⟨l6, l7, l9, l11, l13, l14, l16⟩ := lL
   simp (decide := true) only [↓jb9, ↓uG.o, dG.o, ja1, reduceIte, ↓ja0 l6, ↓ja0 l7, ↓ja0 l9, ↓ja0 l11, ↓ja0 l13, ↓ja0 l14, ↓ja0 l16, e5, e6, e7, h46, h33, h61, h60, hq, jq1 hv, ↓jg2 67 _ _ 71 #[] #[.pointer (some ⟨H.next + 1, 0, none⟩), .pointer (some ⟨H.next + 2, 0, none⟩), .pointer (some ⟨H.next, 0, none⟩)], app33, ja3 Tryz.func71 rfl rfl hcall]
   refine ⟨_, h2, ?_⟩
   rw [← hF, jb6 (l := [.bool ((16 : Int) != 0)]) (by simp (decide := true) [Tryz.f52, resE, ja1])]
   rfl
 obtain ⟨R0, m1, H', m2, m3⟩ := main
 exact ⟨H', m2, m1.trans m3⟩
theorem y7y (x : Ctx H a c s b) (hb : H.get b = some (cur a s.length c i)) (ht : H.get t = some (tok 0 nn .empty f0 t0)) (hbt : t ≠ b) (htl : t < H.next) (htg : GE.next ≤ t) (hrt : ∀ q, a = some q → q.block ≠ t) (hi : i < s.length) (hh : NH hk) (hsl : s.length < 9223372036854775000) (h46 : ((s[i].toNat : Int) == 46) = false) (h33 : ((s[i].toNat : Int) == 33) = false) (h61 : ((s[i].toNat : Int) == 61) = false) (h60 : ((s[i].toNat : Int) == 60) = false) (h62 : ((s[i].toNat : Int) == 62) = true) (hq : ((if i + 1 < s.length then ((s.getD (i + 1) 0).toNat : Int) else 0) == 62) = true) :
   ∃ H', Lexd H H' b (cur a s.length c (i + 1 + 1)) t (tok 24 nn .empty f0 t0) ∧ CG N hk (d + 2) 52 #[.pointer (some ⟨b, 0, none⟩), .pointer (some ⟨t, 0, none⟩)] H = some (.ret (.bool true), H') := by
 have main : ∃ R0 : R, CG N hk (d + 2) 52 #[.pointer (some ⟨b, 0, none⟩), .pointer (some ⟨t, 0, none⟩)] H = R0 ∧ ∃ H', Lexd H H' b (cur a s.length c (i + 1 + 1)) t (tok 24 nn .empty f0 t0) ∧ R0 = some (.ret (.bool true), H') := by
   refine ⟨_, jc2 (hh _ _ _ rfl) Tryz.func52 (c := codeOf Tryz.f52) rfl rfl rfl (pr := pr1) rfl, ?_⟩
   rw [code52]
   generalize hF : finE PP Tryz.f52 = F
   refine je7 (Q := fun r => ∃ H', Lexd H H' b (cur a s.length c (i + 1 + 1)) t (tok 24 nn .empty f0 t0) ∧ r = some (.ret (.bool true), H')) x hb ht hbt htl htg hrt hi hh fun E H' e5 e7 e3 e6 hL hnx own hv => ?_
   have hbl := x.lt
   have hsm := x.row.small
   obtain ⟨H2, h2, hcall⟩ := jk7 (N := N) (hk := hk) (d := d) hL hbt (by omega) (by omega) own.c0 own.c1 _ hv (by omega) (by omega) 62 24 0 hq (by omega) (by omega) (by omega) hh
   have lL := lX8 Tryz.f52 6 7 9 11 13 17 18 19
   conv at lL in (occs := *) (rgnX _ _) => all_goals simp only [rX, opsAt, Tryz.f52, dL.o, reduceIte, Nat.reduceEqDiff]
   obtain ⟨l6, l7, l9, l11, l13, l17, l18, l19⟩ := lL
   simp (decide := true) only [↓jb9, ↓uG.o, dG.o, ja1, reduceIte, ↓ja0 l6, ↓ja0 l7, ↓ja0 l9, ↓ja0 l11, ↓ja0 l13, ↓ja0 l17, ↓ja0 l18, ↓ja0 l19, e5, e6, e7, h46, h33, h61, h60, h62, hq, jq1 hv, ↓jg2 73 _ _ 71 #[] #[.pointer (some ⟨H.next + 1, 0, none⟩), .pointer (some ⟨H.next + 2, 0, none⟩), .pointer (some ⟨H.next, 0, none⟩)], app33, ja3 Tryz.func71 rfl rfl hcall]
   refine ⟨_, h2, ?_⟩
   rw [← hF, jb6 (l := [.bool ((24 : Int) != 0)]) (by simp (decide := true) [Tryz.f52, resE, ja1])]
   rfl
 obtain ⟨R0, m1, H', m2, m3⟩ := main
 exact ⟨H', m2, m1.trans m3⟩
theorem y7z (x : Ctx H a c s b) (hb : H.get b = some (cur a s.length c i)) (ht : H.get t = some (tok 0 nn .empty f0 t0)) (hbt : t ≠ b) (htl : t < H.next) (htg : GE.next ≤ t) (hrt : ∀ q, a = some q → q.block ≠ t) (hi : i < s.length) (hh : NH hk) (hsl : s.length < 9223372036854775000) (h46 : ((s[i].toNat : Int) == 46) = false) (h33 : ((s[i].toNat : Int) == 33) = false) (h61 : ((s[i].toNat : Int) == 61) = false) (h60 : ((s[i].toNat : Int) == 60) = false) (h62 : ((s[i].toNat : Int) == 62) = true) (hq : ((if i + 1 < s.length then ((s.getD (i + 1) 0).toNat : Int) else 0) == 62) = false) (hn : ((if i + 1 < s.length then ((s.getD (i + 1) 0).toNat : Int) else 0) == 61) = true) :
   ∃ H', Lexd H H' b (cur a s.length c (i + 1 + 1)) t (tok 19 nn .empty f0 t0) ∧ CG N hk (d + 2) 52 #[.pointer (some ⟨b, 0, none⟩), .pointer (some ⟨t, 0, none⟩)] H = some (.ret (.bool true), H') := by
 have main : ∃ R0 : R, CG N hk (d + 2) 52 #[.pointer (some ⟨b, 0, none⟩), .pointer (some ⟨t, 0, none⟩)] H = R0 ∧ ∃ H', Lexd H H' b (cur a s.length c (i + 1 + 1)) t (tok 19 nn .empty f0 t0) ∧ R0 = some (.ret (.bool true), H') := by
   refine ⟨_, jc2 (hh _ _ _ rfl) Tryz.func52 (c := codeOf Tryz.f52) rfl rfl rfl (pr := pr1) rfl, ?_⟩
   rw [code52]
   generalize hF : finE PP Tryz.f52 = F
   refine je7 (Q := fun r => ∃ H', Lexd H H' b (cur a s.length c (i + 1 + 1)) t (tok 19 nn .empty f0 t0) ∧ r = some (.ret (.bool true), H')) x hb ht hbt htl htg hrt hi hh fun E H' e5 e7 e3 e6 hL hnx own hv => ?_
   have hbl := x.lt
   have hsm := x.row.small
   obtain ⟨H2, h2, hcall⟩ := jk7 (N := N) (hk := hk) (d := d) hL hbt (by omega) (by omega) own.c0 own.c1 _ hv (by omega) (by omega) 61 19 18 hn (by omega) (by omega) (by omega) hh
   have lL := lX8 Tryz.f52 6 7 9 11 13 17 18 20
   conv at lL in (occs := *) (rgnX _ _) => all_goals simp only [rX, opsAt, Tryz.f52, dL.o, reduceIte, Nat.reduceEqDiff]
   obtain ⟨l6, l7, l9, l11, l13, l17, l18, l20⟩ := lL
   simp (decide := true) only [↓jb9, ↓uG.o, dG.o, ja1, reduceIte, ↓ja0 l6, ↓ja0 l7, ↓ja0 l9, ↓ja0 l11, ↓ja0 l13, ↓ja0 l17, ↓ja0 l18, ↓ja0 l20, e5, e6, e7, h46, h33, h61, h60, h62, hq, jq1 hv, ↓jg2 75 _ _ 71 #[] #[.pointer (some ⟨H.next + 1, 0, none⟩), .pointer (some ⟨H.next + 2, 0, none⟩), .pointer (some ⟨H.next, 0, none⟩)], app33, ja3 Tryz.func71 rfl rfl hcall]
   refine ⟨_, h2, ?_⟩
   rw [← hF, jb6 (l := [.bool ((19 : Int) != 0)]) (by simp (decide := true) [Tryz.f52, resE, ja1])]
   rfl
 obtain ⟨R0, m1, H', m2, m3⟩ := main
 exact ⟨H', m2, m1.trans m3⟩
theorem y70 (x : Ctx H a c s b) (hb : H.get b = some (cur a s.length c i)) (ht : H.get t = some (tok 0 nn .empty f0 t0)) (hbt : t ≠ b) (htl : t < H.next) (htg : GE.next ≤ t) (hrt : ∀ q, a = some q → q.block ≠ t) (hi : i < s.length) (hh : NH hk) (hsl : s.length < 9223372036854775000) (h46 : ((s[i].toNat : Int) == 46) = false) (h33 : ((s[i].toNat : Int) == 33) = false) (h61 : ((s[i].toNat : Int) == 61) = false) (h60 : ((s[i].toNat : Int) == 60) = false) (h62 : ((s[i].toNat : Int) == 62) = true) (hq : ((if i + 1 < s.length then ((s.getD (i + 1) 0).toNat : Int) else 0) == 62) = false) (hn : ((if i + 1 < s.length then ((s.getD (i + 1) 0).toNat : Int) else 0) == 61) = false) :
   ∃ H', Lexd H H' b (cur a s.length c (i + 1)) t (tok 18 nn .empty f0 t0) ∧ CG N hk (d + 2) 52 #[.pointer (some ⟨b, 0, none⟩), .pointer (some ⟨t, 0, none⟩)] H = some (.ret (.bool true), H') := by
 have main : ∃ R0 : R, CG N hk (d + 2) 52 #[.pointer (some ⟨b, 0, none⟩), .pointer (some ⟨t, 0, none⟩)] H = R0 ∧ ∃ H', Lexd H H' b (cur a s.length c (i + 1)) t (tok 18 nn .empty f0 t0) ∧ R0 = some (.ret (.bool true), H') := by
   refine ⟨_, jc2 (hh _ _ _ rfl) Tryz.func52 (c := codeOf Tryz.f52) rfl rfl rfl (pr := pr1) rfl, ?_⟩
   rw [code52]
   generalize hF : finE PP Tryz.f52 = F
   refine je7 (Q := fun r => ∃ H', Lexd H H' b (cur a s.length c (i + 1)) t (tok 18 nn .empty f0 t0) ∧ r = some (.ret (.bool true), H')) x hb ht hbt htl htg hrt hi hh fun E H' e5 e7 e3 e6 hL hnx own hv => ?_
   have hbl := x.lt
   have hsm := x.row.small
   obtain ⟨H2, h2, hcall⟩ := jw1 (N := N) (hk := hk) (d := d) hL hbt (by omega) (by omega) own.c0 own.c1 _ hv (by omega) (by omega) 61 19 18 hn hh
   have lL := lX8 Tryz.f52 6 7 9 11 13 17 18 20
   conv at lL in (occs := *) (rgnX _ _) => all_goals simp only [rX, opsAt, Tryz.f52, dL.o, reduceIte, Nat.reduceEqDiff]
   obtain ⟨l6, l7, l9, l11, l13, l17, l18, l20⟩ := lL
   simp (decide := true) only [↓jb9, ↓uG.o, dG.o, ja1, reduceIte, ↓ja0 l6, ↓ja0 l7, ↓ja0 l9, ↓ja0 l11, ↓ja0 l13, ↓ja0 l17, ↓ja0 l18, ↓ja0 l20, e5, e6, e7, h46, h33, h61, h60, h62, hq, jq1 hv, ↓jg2 75 _ _ 71 #[] #[.pointer (some ⟨H.next + 1, 0, none⟩), .pointer (some ⟨H.next + 2, 0, none⟩), .pointer (some ⟨H.next, 0, none⟩)], app33, ja3 Tryz.func71 rfl rfl hcall]
   refine ⟨_, h2, ?_⟩
   rw [← hF, jb6 (l := [.bool ((18 : Int) != 0)]) (by simp (decide := true) [Tryz.f52, resE, ja1])]
   rfl
 obtain ⟨R0, m1, H', m2, m3⟩ := main
 exact ⟨H', m2, m1.trans m3⟩
end
def signR (u v : Int) : Int × Nat :=
 if u = 46 then (if v = 46 then (12, 2) else (0, 1))
 else if u = 33 then (if v = 61 then (15, 2) else (0, 1))
 else if u = 61 then (if v = 61 then (14, 2) else (13, 1))
 else if u = 60 then (if v = 60 then (23, 2) else if v = 61 then (17, 2) else (16, 1))
 else if u = 62 then (if v = 62 then (24, 2) else if v = 61 then (19, 2) else (18, 1))
 else (singleT u.toNat, 1)
def nextB (s : List UInt8) (i : Nat) : Int := if i + 1 < s.length then ((s.getD (i + 1) 0).toNat : Int) else 0
theorem yg1 (u : Nat) : singleT u ≠ 0 := by unfold singleT; split <;> decide
theorem yn6 {N : Nat} {hk : Hook} {d : Nat} {H : Heap} {a : Option Addr} {c : Nat} {s : List UInt8} {b t i : Nat} {nn f0 t0 : Int} (x : Ctx H a c s b) (hb : H.get b = some (cur a s.length c i)) (ht : H.get t = some (tok 0 nn .empty f0 t0)) (hbt : t ≠ b) (htl : t < H.next) (htg : GE.next ≤ t) (hrt : ∀ q, a = some q → q.block ≠ t) (hi : i < s.length) (hh : NH hk) (hsl : s.length < 9223372036854775000)
   (hs : ∀ (u : UInt8) H, Ext GE H → hk 72 #[.int .u8 (u.toNat : Int)] H = some (some (.ret (.int .i64 (singleT u.toNat)), H))) :
   ∃ H', Lexd H H' b (cur a s.length c (i + (signR (s[i].toNat : Int) (nextB s i)).2)) t (tok (signR (s[i].toNat : Int) (nextB s i)).1 nn .empty f0 t0) ∧ CG N hk (d + 2) 52 #[.pointer (some ⟨b, 0, none⟩), .pointer (some ⟨t, 0, none⟩)] H = some (.ret (.bool ((signR (s[i].toNat : Int) (nextB s i)).1 != 0)), H') := by
 have bt : ∀ (x y : Int), x = y → (x == y) = true := fun x y h => by simp [h]
 have bf : ∀ (x y : Int), ¬ x = y → (x == y) = false := fun x y h => by simp [h]
 unfold signR
 by_cases h46 : (s[i].toNat : Int) = 46
 · rw [if_pos h46]
   by_cases hn : nextB s i = 46
   · rw [if_pos hn]; exact y7q x hb ht hbt htl htg hrt hi hh hsl (bt _ _ h46) (bt _ _ hn)
   · rw [if_neg hn]; exact y7r x hb ht hbt htl htg hrt hi hh hsl (bt _ _ h46) (bf _ _ hn)
 rw [if_neg h46]
 by_cases h33 : (s[i].toNat : Int) = 33
 · rw [if_pos h33]
   by_cases hn : nextB s i = 61
   · rw [if_pos hn]; exact y7s x hb ht hbt htl htg hrt hi hh hsl (bf _ _ h46) (bt _ _ h33) (bt _ _ hn)
   · rw [if_neg hn]; exact ym4 x hb ht hbt htl htg hrt hi hh (bf _ _ h46) (bt _ _ h33) (bf _ _ hn)
 rw [if_neg h33]
 by_cases h61 : (s[i].toNat : Int) = 61
 · rw [if_pos h61]
   by_cases hn : nextB s i = 61
   · rw [if_pos hn]; exact y7t x hb ht hbt htl htg hrt hi hh hsl (bf _ _ h46) (bf _ _ h33) (bt _ _ h61) (bt _ _ hn)
   · rw [if_neg hn]; exact y7u x hb ht hbt htl htg hrt hi hh hsl (bf _ _ h46) (bf _ _ h33) (bt _ _ h61) (bf _ _ hn)
 rw [if_neg h61]
 by_cases h60 : (s[i].toNat : Int) = 60
 · rw [if_pos h60]
   by_cases hn : nextB s i = 60
   · rw [if_pos hn]; exact y7v x hb ht hbt htl htg hrt hi hh hsl (bf _ _ h46) (bf _ _ h33) (bf _ _ h61) (bt _ _ h60) (bt _ _ hn)
   · rw [if_neg hn]
     by_cases hn2 : nextB s i = 61
     · rw [if_pos hn2]; exact y7w x hb ht hbt htl htg hrt hi hh hsl (bf _ _ h46) (bf _ _ h33) (bf _ _ h61) (bt _ _ h60) (bf _ _ hn) (bt _ _ hn2)
     · rw [if_neg hn2]; exact y7x x hb ht hbt htl htg hrt hi hh hsl (bf _ _ h46) (bf _ _ h33) (bf _ _ h61) (bt _ _ h60) (bf _ _ hn) (bf _ _ hn2)
 rw [if_neg h60]
 by_cases h62 : (s[i].toNat : Int) = 62
 · rw [if_pos h62]
   by_cases hn : nextB s i = 62
   · rw [if_pos hn]; exact y7y x hb ht hbt htl htg hrt hi hh hsl (bf _ _ h46) (bf _ _ h33) (bf _ _ h61) (bf _ _ h60) (bt _ _ h62) (bt _ _ hn)
   · rw [if_neg hn]
     by_cases hn2 : nextB s i = 61
     · rw [if_pos hn2]; exact y7z x hb ht hbt htl htg hrt hi hh hsl (bf _ _ h46) (bf _ _ h33) (bf _ _ h61) (bf _ _ h60) (bt _ _ h62) (bf _ _ hn) (bt _ _ hn2)
     · rw [if_neg hn2]; exact y70 x hb ht hbt htl htg hrt hi hh hsl (bf _ _ h46) (bf _ _ h33) (bf _ _ h61) (bf _ _ h60) (bt _ _ h62) (bf _ _ hn) (bf _ _ hn2)
 rw [if_neg h62]
 have hz : (singleT (s[i].toNat : Int).toNat != 0) = true := by simp [yg1]
 rw [hz]
 have hu : ((s[i].toNat : Int)).toNat = s[i].toNat := by omega
 rw [hu]
 exact yf5 x hb ht hbt htl htg hrt hi hh (bf _ _ h46) (bf _ _ h33) (bf _ _ h61) (bf _ _ h60) (bf _ _ h62) (hs s[i])
section
variable {N : Nat} {hk : Hook} {d : Nat} {H0 : Heap} {a : Option Addr} {c : Nat} {s : List UInt8}
theorem y0z {b : Nat} {Q : R → Prop} {k : KOE} (hG : Ext GE H0) (hr : Brow H0 a s) (hh : NH hk) (hN : s.length < N) {i : Nat} {l : List Tk} {r : Option Nat} (run : TRun s (LexOk N hk (d + 4) a c s) (LexBad N hk (d + 4) a c s) i l r) :
   ∀ (m : Nat) (_ : i ≤ s.length) (_ : l.length < m) {H : Heap} {E : Env} {v : Value} {ts : List Tk} (_ : TS H0 H b a s.length c i v ts) (_ : E 5 = .pointer (some ⟨b, 0, none⟩)) (_ : E 6 = v) (_ : ts.length + l.length ≤ 1048576)
     (_ : r = none → ∀ E' H' v' j, E' 6 = v' → TS H0 H' b a s.length c j v' (ts ++ l) → Q (k (.exit 0) E' [] H'))
     (_ : ∀ e : Nat, r = some e → ∀ E' H', E' 2 = .slice none 0 0 → E' 3 = .int .i64 (e : Int) → E' 4 = .int .i64 60 → Ext H0 H' → Q (k .ret E' [] H')),
     Q (loopE (execG PP XX (CG N hk (d + 4)) N noPr (.seq (.seq (rF Tryz.f12 5) (.cond (.tmp 15) .skip (.exit 0))) (.block 1 (.seq (rF Tryz.f12 6) (.seq (.seq (rF Tryz.f12 7) (.cond (.tmp 23) (.seq (rT Tryz.f12 8) .ret) .skip)) (.seq (rF Tryz.f12 9) (rF Tryz.f12 10)))))) none) m E [] H k) := by
 induction run with
 | stop i hs =>
   intro m hi hm H E v ts h e5 e6 hts h1 h2
   obtain ⟨m, rfl⟩ : ∃ q, m = q + 1 := ⟨m - 1, by simp at hm; omega⟩
   rw [jb5]
   exact y3z hG hr hh hN h hi e5 e6 hs fun E' H' e h' => h1 rfl E' H' v _ e (by rw [List.append_nil]; exact h')
 | wrong i e hs hb =>
   intro m hi hm H E v ts h e5 e6 hts h1 h2
   obtain ⟨m, rfl⟩ : ∃ q, m = q + 1 := ⟨m - 1, by simp at hm; omega⟩
   rw [jb5]
   exact y0n hG hr hh hN h hi e5 hs hb fun E' H' a2 a3 a4 x => h2 e rfl E' H' a2 a3 a4 x
 | step i tk l r hs hf ht hl hrun ih =>
   intro m hi hm H E v ts h e5 e6 hts h1 h2
   simp only [List.length_cons] at hm hts
   obtain ⟨m, rfl⟩ : ∃ q, m = q + 1 := ⟨m - 1, by omega⟩
   rw [jb5]
   refine y30 hG hr hh hN h hi e5 e6 (by omega) hs hf hl fun E' H' v' e5' e6' h' => ?_
   rw [jc4]
   refine ih m ht (by omega) h' e5' e6' (by simp only [List.length_append, List.length_cons, List.length_nil]; omega) (fun hn E2 H2 v2 j x y => h1 hn E2 H2 v2 j x ?_) h2
   rw [List.append_assoc] at y
   exact y
theorem yn7 (hf : Fresh H0) : TS H0 (H0.alloc 1 [.slice a s.length c, .int .i64 0]) H0.next a s.length c 0 (.slice none 0 0) [] :=
 ⟨.alloc hf _ _, by rw [Heap.get_alloc, if_pos rfl]; rfl, Nat.le_refl _, by show H0.next < H0.next + 1; omega, .inl ⟨rfl, rfl⟩⟩
theorem j75 (hG : Ext GE H0) (hr : Brow H0 a s) (hh : NH hk) (hN : s.length + 1 < N) (hl : s.length ≤ 1048576) {l : List Tk} {r : Option Nat} (run : TRun s (LexOk N hk (d + 4) a c s) (LexBad N hk (d + 4) a c s) 0 l r) (hlen : l.length ≤ s.length) :
   ∃ H', Ext H0 H' ∧ ∃ v e q, CG N hk (d + 5) 12 #[.slice a s.length c] H0 = some (.ret (.tuple #[v, .int .i64 e, .int .i64 q]), H') ∧
     ((r = none ∧ TkRow H' v l (H0.next + 1) ∧ e = 0 ∧ q = 0) ∨ (∃ w : Nat, r = some w ∧ v = .slice none 0 0 ∧ e = (w : Int) ∧ q = 60)) := by
 have main : ∃ R0 : R, CG N hk (d + 5) 12 #[.slice a s.length c] H0 = R0 ∧ ∃ H', Ext H0 H' ∧ ∃ v e q, R0 = some (.ret (.tuple #[v, .int .i64 e, .int .i64 q]), H') ∧
     ((r = none ∧ TkRow H' v l (H0.next + 1) ∧ e = 0 ∧ q = 0) ∨ (∃ w : Nat, r = some w ∧ v = .slice none 0 0 ∧ e = (w : Int) ∧ q = 60)) := by
   refine ⟨_, jc2 (hh _ _ _ rfl) Tryz.func12 (c := codeOf Tryz.f12) rfl rfl rfl (pr := noPr) rfl, ?_⟩
   rw [code12]
   generalize hF : finE PP Tryz.f12 = F
   have hgt : decide ((s.length : Int) > 1048576) = false := decide_eq_false (by omega)
   have lL := lX6 Tryz.f12 0 1 2 3 4 11
   conv at lL in (occs := *) (rgnX _ _) => all_goals simp only [rX, opsAt, Tryz.f12, dL.o, reduceIte, Nat.reduceEqDiff]
   obtain ⟨l0, l1, l2, l3, l4, l11⟩ := lL
   simp (decide := true) only [↓uR.o, dG.o, ja1, reduceIte, ↓ja0 l0, ↓ja0 l1, ↓ja0 l3, ↓ja0 l4, ↓jc8, ja7 (ts := #[34]) rfl und34, hgt, ym5, y3y]
   refine y0z (Q := fun x => ∃ H', Ext H0 H' ∧ ∃ v e q, x = some (.ret (.tuple #[v, .int .i64 e, .int .i64 q]), H') ∧ ((r = none ∧ TkRow H' v l (H0.next + 1) ∧ e = 0 ∧ q = 0) ∨ (∃ w : Nat, r = some w ∧ v = .slice none 0 0 ∧ e = (w : Int) ∧ q = 60)))
     hG hr hh (by omega) run N (Nat.zero_le _) (by omega) (yn7 hG.fresh) ?_ ?_ (by simp only [List.length_nil]; omega) (fun hn E' H' v' j e6 h' => ?_) (fun e he E' H' e2 e3 e4 x => ?_)
   · simp (decide := true) only [ja1, reduceIte]
   · simp (decide := true) only [ja1, reduceIte]
   · simp (decide := true) only [↓uR.o, dG.o, ja1, reduceIte, ↓ja0 l11, e6]
     refine ⟨H', h'.ext, v', 0, 0, ?_, .inl ⟨hn, h'.out, rfl, rfl⟩⟩
     rw [← hF, jb6 (l := [v', .int .i64 0, .int .i64 0]) (by simp (decide := true) [Tryz.f12, resE, ja1])]
     rfl
   · simp (decide := true) only [dG.o]
     refine ⟨H', x, .slice none 0 0, (e : Int), 60, ?_, .inr ⟨e, he, rfl, rfl, rfl⟩⟩
     rw [← hF, jb6 (l := [.slice none 0 0, .int .i64 (e : Int), .int .i64 60]) (by simp (decide := true) [Tryz.f12, resE, e2, e3, e4])]
     rfl
 obtain ⟨R0, m1, H', m2, v, e, q, m3, m4⟩ := main
 exact ⟨H', m2, v, e, q, m1.trans m3, m4⟩
end
theorem je4 {α β : Type} (P : Program) (s : Sem α) (f : α → Sem β) : pureRun P (s >>= f) = (pureRun P s).bind fun a => pureRun P (f a) := by
 induction s with
 | pure x => rfl
 | program k ih => exact ih P
 | mark m k ih => exact ih
 | _ => rfl
theorem je9 {α : Type} (P : Program) (a : α) : pureRun P (pure a) = some a := rfl
theorem jm1 (P : Program) : pureRun P program = some P := rfl
theorem j0y (o1 o2 : Operand) (a b : List UInt8) : binA PP .eql 9 o1 o2 (.string ⟨⟨a⟩⟩) (.string ⟨⟨b⟩⟩) = some (.bool (decide (a = b))) := by
 unfold binA
 rw [if_pos (by simp [ground, atomic])]
 simp only [eqGuard, binOp, je4, Op.stringOp]
 simp [je9]
 rw [Bool.eq_iff_iff]; simp
def findI (w : List UInt8) : List (List UInt8) → Nat → Int
 | [], _ => -1
 | x :: r, i => if w = x then (i : Int) else findI w r (i + 1)
def resI (w : List UInt8) : Int := if findI w wordsL 0 ≥ 0 then 30 + findI w wordsL 0 else 0
theorem jz8 : wordsL.length = 50 := rfl
theorem j13 (w : List UInt8) : ∀ (l : List (List UInt8)) (i : Nat), -1 ≤ findI w l i ∧ findI w l i < (i + l.length : Nat)
 | [], i => by simp [findI]; omega
 | x :: r, i => by
   unfold findI
   have := j13 w r (i + 1)
   split
   · simp; omega
   · simp only [List.length_cons]; omega
theorem und39 : PP.underlying 47 = some (.slice 9) := Tryz.underlying47
theorem sizeS : sizeT PP 9 = some 1 := by decide +kernel
theorem aggS : aggT PP 9 = some false := by decide +kernel
theorem j76 {q i : Nat} (h : i < 50) : indexAddrA PP 47 (.slice (some ⟨q, 0, none⟩) 50 50) (.int .i64 (i : Int)) = some (.pointer (some ⟨q, i, none⟩)) := by
 have e : (⟨q, 0, none⟩ : Addr).add i = ⟨q, i, none⟩ := by rw [Addr.add_lit, Nat.zero_add]
 simp [indexAddrA, sizeS, at_, e]
 omega
theorem yn8 {H : Heap} {q i : Nat} (h : H.get q = some ⟨wordsV, true, 1, none⟩) (hi : i < 50) : loadA PP 9 (.pointer (some ⟨q, i, none⟩)) H = some (.string ⟨⟨wordsL.getD i []⟩⟩, H) := by
 have hl : i < wordsL.length := by rw [jz8]; exact hi
 simp only [loadA, aggS]
 simp only [ld1, look, h]
 simp [wordsV, strV, List.getD, hl]
theorem code89 : codeOf Tryz.f89 = .seq (rF Tryz.f89 0) (.seq (.seq (rF Tryz.f89 1) (.block 0 (.loop (.seq (rF Tryz.f89 2) (.seq (.cond (.tmp 9) .skip (.exit 0)) (.seq (.block 1 (.seq (rF Tryz.f89 3) (.seq (rF Tryz.f89 4) (.cond (.tmp 16) (.seq (rF Tryz.f89 5) .ret) .skip)))) (rF Tryz.f89 6))))))) (.seq (rF Tryz.f89 7) .ret)) := by kernel_rfl
theorem code60 : codeOf Tryz.f60 = .seq (rF Tryz.f60 0) (.seq (.seq (rF Tryz.f60 1) (.seq (rF Tryz.f60 2) (.cond (.tmp 8) (.seq (rF Tryz.f60 3) .ret) .skip))) (.seq (rF Tryz.f60 4) .ret)) := by kernel_rfl
section
variable {K : Kf} {N : Nat} {H : Heap} {q : Nat} {w : List UInt8} {Q : R → Prop} {k : KOE}
theorem y2p (hq : H.get q = some ⟨wordsV, true, 1, none⟩) : ∀ (n i m : Nat) (_ : i + n = 50) (_ : n < m) {E : Env} (_ : E 0 = .slice (some ⟨q, 0, none⟩) 50 50) (_ : E 1 = .string ⟨⟨w⟩⟩) (_ : E 7 = .int .i64 50) (_ : E 8 = .int .i64 (i : Int))
   (_ : findI w (wordsL.drop i) i = -1 → ∀ E', Q (k (.exit 0) E' [] H)) (_ : findI w (wordsL.drop i) i ≥ 0 → ∀ E', E' 4 = .int .i64 (findI w (wordsL.drop i) i) → Q (k .ret E' [] H)), Q (loopE (execG PP XX K N noPr (.seq (rF Tryz.f89 2) (.seq (.cond (.tmp 9) .skip (.exit 0)) (.seq (.block 1 (.seq (rF Tryz.f89 3) (.seq (rF Tryz.f89 4) (.cond (.tmp 16) (.seq (rF Tryz.f89 5) .ret) .skip)))) (rF Tryz.f89 6)))) none) m E [] H k)
 | 0, i, m + 1, hn, hm, E, e0, e1, e7, e8, h1, h2 => by
   rw [jb5]
   have hi : i = 50 := by omega
   subst hi
   have hlt : decide (((50 : Nat) : Int) < 50) = false := by decide
   have l2 := tl (rgn Tryz.f89 2)
   conv at l2 => rhs; simp only [rgn, opsAt, codeOf, Tryz.f89, gS, gN, reduceIte, Nat.reduceEqDiff, tA]
   simp (decide := true) only [↓uR.o, dG.o, ↓ja0 l2, e7, e8]
   exact h1 rfl _
 | n + 1, i, m + 1, hn, hm, E, e0, e1, e7, e8, h1, h2 => by
   rw [jb5]
   have hi : i < 50 := by omega
   have hlt : decide ((i : Int) < 50) = true := decide_eq_true (by omega)
   have hix := j76 (q := q) hi
   have hld := yn8 hq hi
   have hl : i < wordsL.length := by rw [jz8]; exact hi
   have hd : wordsL.drop i = wordsL.getD i [] :: wordsL.drop (i + 1) := by
     rw [List.drop_eq_getElem_cons hl]; simp [List.getD, hl]
   have wr : IntKind.i64.wrap ((i : Int) + 1) = ((i + 1 : Nat) : Int) := by rw [jb2 (by omega) (by omega)]; omega
   rw [hd] at h1 h2
   unfold findI at h1 h2
   have lL := lX5 Tryz.f89 2 3 4 5 6
   conv at lL in (occs := *) (rgnX _ _) => all_goals simp only [rX, opsAt, Tryz.f89, dL.o, reduceIte, Nat.reduceEqDiff]
   obtain ⟨l2, l3, l4, l5, l6⟩ := lL
   by_cases hw : w = wordsL.getD i []
   · have he : decide (w = wordsL.getD i []) = true := decide_eq_true hw
     rw [if_pos hw] at h2
     simp (decide := true) only [↓uR.o, dG.o, ja1, reduceIte, ↓ja0 l2, ↓ja0 l3, ↓ja0 l4, ↓ja0 l5, e0, e1, e7, e8, hlt, hix, hld, j0y, he]
     exact h2 (by omega) _ (by simp (decide := true) only [ja1, reduceIte])
   · have he : decide (w = wordsL.getD i []) = false := decide_eq_false hw
     rw [if_neg hw] at h1 h2
     simp (decide := true) only [↓uR.o, dG.o, ja1, reduceIte, ↓ja0 l2, ↓ja0 l3, ↓ja0 l4, ↓ja0 l6, e0, e1, e7, e8, hlt, hix, hld, j0y, he, wr]
     exact y2p hq n (i + 1) m (by omega) (by omega) (e0) (e1) (e7) (by simp (decide := true) only [ja1, reduceIte]) h1 h2
end
theorem yn9 {N : Nat} {hk : Hook} {d : Nat} {H : Heap} {q : Nat} (hq : H.get q = some ⟨wordsV, true, 1, none⟩) (w : List UInt8) (hN : 60 < N) (hh : NH hk) :
   CG N hk (d + 1) 89 #[.slice (some ⟨q, 0, none⟩) 50 50, .string ⟨⟨w⟩⟩] H = some (.ret (.int .i64 (findI w wordsL 0)), H) := by
 have main : ∃ R0 : R, CG N hk (d + 1) 89 #[.slice (some ⟨q, 0, none⟩) 50 50, .string ⟨⟨w⟩⟩] H = R0 ∧ R0 = some (.ret (.int .i64 (findI w wordsL 0)), H) := by
   refine ⟨_, jc2 (hh _ _ _ rfl) Tryz.func89 (c := codeOf Tryz.f89) rfl rfl rfl (pr := noPr) rfl, ?_⟩
   rw [code89]
   generalize hF : finE PP Tryz.f89 = F
   have lL := lX3 Tryz.f89 0 1 7
   conv at lL in (occs := *) (rgnX _ _) => all_goals simp only [rX, opsAt, Tryz.f89, dL.o, reduceIte, Nat.reduceEqDiff]
   obtain ⟨l0, l1, l7⟩ := lL
   simp (decide := true) only [↓uR.o, dG.o, ja1, reduceIte, ↓ja0 l0, ↓ja0 l1, ↓jc8, ja7 (ts := #[47]) rfl und39]
   refine y2p (w := w) (Q := fun r => r = some (.ret (.int .i64 (findI w wordsL 0)), H)) hq 50 0 N rfl (by omega) ?_ ?_ ?_ ?_ (fun hf E' => ?_) (fun hf E' e4 => ?_)
   · simp (decide := true) only [ja1, reduceIte, jd4]
   · simp (decide := true) only [ja1, reduceIte, jf3]
   · simp (decide := true) only [ja1, reduceIte]; rfl
   · simp (decide := true) only [ja1, reduceIte]; rfl
   · rw [List.drop_zero] at hf
     simp (decide := true) only [↓uR.o, dG.o, ↓ja0 l7]
     rw [← hF, jb6 (l := [.int .i64 (-1)]) (by simp (decide := true) [Tryz.f89, resE, ja1]), hf]
     rfl
   · rw [List.drop_zero] at e4
     simp (decide := true) only [dG.o]
     rw [← hF, jb6 (l := [.int .i64 (findI w wordsL 0)]) (by simp (decide := true) [Tryz.f89, resE, e4])]
     rfl
 obtain ⟨R0, m1, m2⟩ := main
 exact m1.trans m2
noncomputable def litR : Value := match (rgn Tryz.f60 1).toList.head? with
 | some o => (match o.op with | Op.call c => (match c.args.toList with | .const v :: _ => v | _ => undef) | _ => undef)
 | none => undef
theorem y39 : litR = strV wordsB := by kernel_rfl
theorem j4o {N : Nat} {hk : Hook} {d : Nat} {H : Heap} (hG : Ext GE H) (w : List UInt8) (hN : 60 < N) (hh : NH hk)
   (hfld : ∀ H, Ext GE H → hk 90 #[strV wordsB] H = some (some (.ret (.slice (some ⟨H.next, 0, none⟩) 50 50), H.alloc 1 wordsV))) :
   ∃ H', Ext H H' ∧ CG N hk (d + 2) 60 #[.string ⟨⟨w⟩⟩] H = some (.ret (.int .i64 (resI w)), H') := by
 refine ⟨H.alloc 1 wordsV, .alloc hG.fresh _ _, ?_⟩
 have hq : (H.alloc 1 wordsV).get H.next = some ⟨wordsV, true, 1, none⟩ := by rw [Heap.get_alloc, if_pos rfl]
 have h36 : CG N hk (d + 1) 90 #[strV wordsB] H = some (.ret (.slice (some ⟨H.next, 0, none⟩) 50 50), H.alloc 1 wordsV) := jj9 (hfld H hG)
 rw [← y39] at h36
 simp only [litR, rgn, opsAt, codeOf, Tryz.f60, gS, reduceIte, Nat.reduceEqDiff, tA, List.head?_cons] at h36
 have h35 := yn9 (N := N) (hk := hk) (d := d) hq w hN hh
 have hb := j13 w wordsL 0
 rw [jz8] at hb
 refine (jc2 (hh _ _ _ rfl) Tryz.func60 (c := codeOf Tryz.f60) rfl rfl rfl (pr := noPr) rfl).trans ?_
 rw [code60]
 generalize hF : finE PP Tryz.f60 = F
 have lL := lX5 Tryz.f60 0 1 2 3 4
 conv at lL in (occs := *) (rgnX _ _) => all_goals simp only [rX, opsAt, Tryz.f60, dL.o, reduceIte, Nat.reduceEqDiff]
 obtain ⟨l0, l1, l2, l3, l4⟩ := lL
 by_cases hf : findI w wordsL 0 ≥ 0
 · have hge : decide (findI w wordsL 0 ≥ 0) = true := decide_eq_true hf
   have wr : IntKind.i64.wrap (30 + findI w wordsL 0) = 30 + findI w wordsL 0 := jb2 (by omega) (by omega)
   simp (decide := true) only [↓uR.o, dG.o, ja1, reduceIte, ↓ja0 l0, ↓ja0 l1, ↓ja0 l2, ↓ja0 l3, ja3 Tryz.func90 rfl rfl h36, ja3 Tryz.func89 rfl rfl h35, hge, wr]
   rw [← hF, jb6 (l := [.int .i64 (30 + findI w wordsL 0)]) (by simp (decide := true) [Tryz.f60, resE, ja1])]
   simp [resI, hf, oneOf]
 · have hge : decide (findI w wordsL 0 ≥ 0) = false := decide_eq_false hf
   simp (decide := true) only [↓uR.o, dG.o, ja1, reduceIte, ↓ja0 l0, ↓ja0 l1, ↓ja0 l2, ↓ja0 l4, ja3 Tryz.func90 rfl rfl h36, ja3 Tryz.func89 rfl rfl h35, hge]
   rw [← hF, jb6 (l := [.int .i64 0]) (by simp (decide := true) [Tryz.f60, resE, ja1])]
   simp [resI, hf, oneOf]
end Go.Am
namespace Go.Am
set_option maxRecDepth 100000
variable {N c b t i d : Nat} {H0 H : Heap} {a : Option Addr} {s : List UInt8} {hk : Hook}
theorem y6g {t j : Nat} {E : Env} {Q : R → Prop} {k : KOE} (x : Ctx H0 a c s b) (h : Curs H0 H b a s.length c i) (e0 : E 0 = .pointer (some ⟨b, 0, none⟩)) (e5 : E 5 = .int .i64 (j : Int)) (hh : NH hk) (hw : isW s i = true) (hi : i = j + 32) (hl : i < s.length) (hx : ∀ E', E' 4 = .bool false → Q (k .ret E' [] H)) :
   Q (execG PP XX (CG N hk (d + 2)) N noPr (.seq (.seq (rF Tryz.f50 2) (.cond (.tmp 16) .skip (.exit 0))) (.block 1 (.seq (.seq (rF Tryz.f50 3) (.cond (.tmp 23) (.seq (rF Tryz.f50 4) .ret) .skip)) (rF Tryz.f50 5)))) none E [] H k) := by
 have r1 := jf6 (N := N) (hk := hk) (d := d) (h.gg x) (h.row x) h.here 4 hh
 have r2 := jf6 (N := N) (hk := hk) (d := d) (h.gg x) (h.row x) h.here 3 hh
 have hsm := x.row.small
 have w2 : IntKind.i64.wrap ((i : Int) - (j : Int)) = 32 := by rw [jb2 (by omega) (by omega)]; omega
 have heq : ((32 : Int) == 32) = true := rfl
 have lL := lX3 Tryz.f50 2 3 4
 conv at lL in (occs := *) (rgnX _ _) => all_goals simp only [rX, opsAt, Tryz.f50, dL.o, reduceIte, Nat.reduceEqDiff]
 obtain ⟨l2, l3, l4⟩ := lL
 cases h4 : isI s i 4 with
 | true =>
   rw [h4] at r1
   simp (decide := true) only [↓uR.o, dG.o, ja1, reduceIte, Bool.not_false, ↓ja0 l2, ↓ja0 l3, ↓ja0 l4, ↓r_no _ 2 false 13 _ jw0, e0, e5, ja3 Tryz.func47 rfl rfl r1, fld1, jd0 h.here, w2, heq]
   exact hx _ (by simp (decide := true) only [ja1, reduceIte])
 | false =>
   have h3 : isI s i 3 = true := by simpa [isW, h4] using hw
   rw [h4] at r1
   rw [h3] at r2
   simp (decide := true) only [↓uR.o, dG.o, ja1, reduceIte, ↓ja0 l2, ↓ja0 l3, ↓ja0 l4, ↓jb7 _ 2 false 13 _ jw0, e0, e5, ja3 Tryz.func47 rfl rfl r1, ja3 Tryz.func47 rfl rfl r2, fld1, jd0 h.here, w2, heq]
   exact hx _ (by simp (decide := true) only [ja1, reduceIte])
theorem yo0 {j : Nat} {Q : R → Prop} {k : KOE} (x : Ctx H0 a c s b) (hh : NH hk) :
   ∀ (n i m : Nat) (_ : j ≤ i) (_ : i ≤ j + 32) (_ : i + n = s.length) (_ : n < m) (_ : j + 32 < runTo s n i) {H : Heap} {E : Env} (_ : Curs H0 H b a s.length c i) (_ : E 0 = .pointer (some ⟨b, 0, none⟩) ∧ E 1 = .pointer (some ⟨t, 0, none⟩) ∧ E 5 = .int .i64 (j : Int)) (_ : ∀ E' H', E' 4 = .bool false → Curs H0 H' b a s.length c (j + 32) → Q (k .ret E' [] H')),
     Q (loopE (execG PP XX (CG N hk (d + 2)) N noPr (.seq (.seq (rF Tryz.f50 2) (.cond (.tmp 16) .skip (.exit 0))) (.block 1 (.seq (.seq (rF Tryz.f50 3) (.cond (.tmp 23) (.seq (rF Tryz.f50 4) .ret) .skip)) (rF Tryz.f50 5)))) none) m E [] H k)
 | 0, i, m + 1, hj, hj2, hn, hm, hr, H, E, h, ⟨e0, e1, e5⟩, hx => by
   have : runTo s 0 i = i := rfl
   omega
 | n + 1, i, m + 1, hj, hj2, hn, hm, hr, H, E, h, ⟨e0, e1, e5⟩, hx => by
   rw [jb5]
   by_cases hw : isW s i = true
   · by_cases hf : i = j + 32
     · refine y6g (t := t) x h e0 e5 hh hw hf (by omega) fun E' e' => ?_
       rw [ji7]
       exact hx E' H e' (by rw [← hf]; exact h)
     · have e : runTo s (n + 1) i = runTo s n (i + 1) := by rw [runTo, if_pos hw]
       rw [e] at hr
       refine y2m x h e0 e1 e5 hh hw hj (by omega) (by omega) fun E' e' => ?_
       rw [jc4]
       exact yo0 x hh n (i + 1) m (by omega) (by omega) (by omega) (by omega) hr (h.set (i + 1)) e' hx
   · have e : runTo s (n + 1) i = i := by rw [runTo, if_neg hw]
     omega
theorem Lexd.ext {A B C : Heap} {x y : Blk} (h : Lexd A B b x t y) (k : Ext B C) : Lexd A C b x t y :=
 ⟨Nat.le_trans h.next k.next, k.keep _ _ h.one, k.keep _ _ h.two, fun z w h1 h2 hz => k.keep _ _ (h.there z w h1 h2 hz), k.fresh⟩
theorem yo1 (x : Ctx H0 a c s b) (h : Curs H0 H b a s.length c i)
   (hh : NH hk) (hi : i < s.length) (hN : s.length < N) (he2 : i + 32 < runTo s (s.length - i) i) :
   ∃ H', Curs H0 H' b a s.length c (i + 32) ∧ CG N hk (d + 3) 50 #[.pointer (some ⟨b, 0, none⟩), .pointer (some ⟨t, 0, none⟩)] H = some (.ret (.bool false), H') := by
 have main : ∃ R0 : R, CG N hk (d + 3) 50 #[.pointer (some ⟨b, 0, none⟩), .pointer (some ⟨t, 0, none⟩)] H = R0 ∧ ∃ H', Curs H0 H' b a s.length c (i + 32) ∧ R0 = some (.ret (.bool false), H') := by
   refine ⟨_, jc2 (hh _ _ _ rfl) Tryz.func50 (c := codeOf Tryz.f50) rfl rfl rfl (pr := noPr) rfl, ?_⟩
   rw [code50]
   generalize hF : finE PP Tryz.f50 = F
   have lL := lX2 Tryz.f50 0 1
   conv at lL in (occs := *) (rgnX _ _) => all_goals simp only [rX, opsAt, Tryz.f50, dL.o, reduceIte, Nat.reduceEqDiff]
   obtain ⟨l0, l1⟩ := lL
   simp (decide := true) only [↓uR.o, dG.o, ja1, reduceIte, ↓ja0 l0, ↓ja0 l1, ↓jc8, fld1, jd0 h.here]
   refine yo0 (Q := fun r => ∃ H', Curs H0 H' b a s.length c (i + 32) ∧ r = some (.ret (.bool false), H')) (j := i) (t := t) x hh (s.length - i) i N (Nat.le_refl _) (by omega) (by omega) (by omega) he2 h ?_ fun E' H' e' h' => ?_
   · exact ⟨by simp (decide := true) only [ja1, reduceIte, jd4], by simp (decide := true) only [ja1, reduceIte, jf3], rfl⟩
   refine ⟨H', h', ?_⟩
   simp (decide := true) only [dG.o]
   rw [← hF, jb6 (l := [.bool false]) (by simp (decide := true) [Tryz.f50, resE, e'])]
   rfl
 obtain ⟨R0, m1, H', m2, m3⟩ := main
 exact ⟨H', m2, m1.trans m3⟩
def wordKT (w : List UInt8) : Int × List UInt8 := if resI w = 0 then (1, w) else (resI w, [])
theorem yg2 {e : Nat} {f0 t0 n0 : Int} (x : Ctx H0 a c s b) (h : Curs H0 H b a s.length c i) (hbt : t ≠ b) (htl : t < H0.next) (ht : H0.get t = some (tok 0 n0 .empty f0 t0))
   (hh : NH hk) (hi : i < s.length) (hc : s.length ≤ c) (hN : s.length < N) (hN2 : 60 < N) (he : e = runTo s (s.length - i) i) (he2 : e ≤ i + 32) (w : List UInt8) (hw : w = (s.drop i).take (e - i))
   (hfld : ∀ H, Ext GE H → hk 90 #[strV wordsB] H = some (some (.ret (.slice (some ⟨H.next, 0, none⟩) 50 50), H.alloc 1 wordsV))) :
   ∃ H', Lexd H0 H' b (cur a s.length c e) t (tok (wordKT w).1 n0 ⟨⟨(wordKT w).2⟩⟩ f0 t0) ∧ CG N hk (d + 3) 50 #[.pointer (some ⟨b, 0, none⟩), .pointer (some ⟨t, 0, none⟩)] H = some (.ret (.bool true), H') := by
 have main : ∃ R0 : R, CG N hk (d + 3) 50 #[.pointer (some ⟨b, 0, none⟩), .pointer (some ⟨t, 0, none⟩)] H = R0 ∧ ∃ H', Lexd H0 H' b (cur a s.length c e) t (tok (wordKT w).1 n0 ⟨⟨(wordKT w).2⟩⟩ f0 t0) ∧ R0 = some (.ret (.bool true), H') := by
   refine ⟨_, jc2 (hh _ _ _ rfl) Tryz.func50 (c := codeOf Tryz.f50) rfl rfl rfl (pr := noPr) rfl, ?_⟩
   rw [code50]
   generalize hF : finE PP Tryz.f50 = F
   have lL := lX7 Tryz.f50 0 1 6 7 8 9 10
   conv at lL in (occs := *) (rgnX _ _) => all_goals simp only [rX, opsAt, Tryz.f50, dL.o, reduceIte, Nat.reduceEqDiff]
   obtain ⟨l0, l1, l6, l7, l8, l9, l10⟩ := lL
   simp (decide := true) only [↓uR.o, dG.o, ja1, reduceIte, ↓ja0 l0, ↓ja0 l1, ↓jc8, fld1, jd0 h.here]
   refine y2n (Q := fun r => ∃ H', Lexd H0 H' b (cur a s.length c e) t (tok (wordKT w).1 n0 ⟨⟨(wordKT w).2⟩⟩ f0 t0) ∧ r = some (.ret (.bool true), H')) (j := i) (t := t) x hh (s.length - i) i N (Nat.le_refl _) (by omega) (by omega) (by rw [← he]; exact he2) h ?_ fun E' H' e' h' => ?_
   · exact ⟨by simp (decide := true) only [ja1, reduceIte, jd4], by simp (decide := true) only [ja1, reduceIte, jf3], rfl⟩
   rw [← he] at h'
   obtain ⟨e0, e1, e5⟩ := e'
   have hle := j0w s (s.length - i) i
   rw [← he] at hle
   have hel : e ≤ s.length := by omega
   have two := h'.two hbt ht
   have row := h'.row x
   obtain ⟨y, rfl⟩ : ∃ y, a = some y := by
     cases a with
     | none => exact absurd (row.nil rfl) (by intro e; rw [e] at hi; simp at hi)
     | some y => exact ⟨y, rfl⟩
   obtain ⟨q, hsl⟩ := ym1 row hle.1 hel hc
   have hcv := y0k (q := q) (row.mid hle.1 hel)
   have hlen : ((s.drop i).take (e - i)).length = e - i := by simp; omega
   rw [hlen, ← hw] at hcv
   have hcv : convertA PP 34 9 (.slice (some (y.add i)) (e - i) q) H' = some (.string ⟨⟨w⟩⟩, H') := hcv
   obtain ⟨H2, x2, hcall⟩ := j4o (N := N) (hk := hk) (d := d) (h'.gg x) w hN2 hh hfld
   have lx := (two.lexd x.gg.fresh x.lt htl).ext x2
   have l2 : t < H2.next := Nat.lt_of_lt_of_le htl lx.next
   have lx1 := lx.set2 hbt l2 (tok (resI w) n0 .empty f0 t0)
   by_cases hr : resI w = 0
   · have z0 : ((resI w) == 0) = true := by simp [hr]
     have lx2 := lx1.set2 hbt (by exact l2) (tok 1 n0 .empty f0 t0)
     have lx3 := lx2.set2 hbt (by exact l2) (tok 1 n0 ⟨⟨w⟩⟩ f0 t0)
     have ek : wordKT w = (1, w) := by rw [wordKT, if_pos hr]
     rw [ek]
     refine ⟨_, lx3, ?_⟩
     simp (decide := true) only [↓uR.o, dG.o, ja1, ja5, reduceIte, ↓ja0 l6, ↓ja0 l7, ↓ja0 l8, ↓ja0 l9, ↓ja0 l10, e0, e1, e5, fld0, fld1, tf0, tf2, jd2 h'.here, jd0 h'.here, Option.map_some, Option.map_none, hsl, hcv, ja3 Tryz.func60 rfl rfl hcall, jh1 lx.two, jv9 lx1.two, z0, jh1 lx1.two, yf4 lx2.two]
     rw [← hF, jb6 (l := [.bool true]) (by simp (decide := true) [Tryz.f50, resE, ja1])]
     rfl
   · have z0 : ((resI w) == 0) = false := by simp [hr]
     have ek : wordKT w = (resI w, []) := by rw [wordKT, if_neg hr]
     rw [ek]
     refine ⟨_, lx1, ?_⟩
     simp (decide := true) only [↓uR.o, dG.o, ja1, ja5, reduceIte, ↓ja0 l6, ↓ja0 l7, ↓ja0 l8, ↓ja0 l10, e0, e1, e5, fld0, fld1, tf0, jd2 h'.here, jd0 h'.here, Option.map_some, Option.map_none, hsl, hcv, ja3 Tryz.func60 rfl rfl hcall, jh1 lx.two, jv9 lx1.two, z0]
     rw [← hF, jb6 (l := [.bool true]) (by simp (decide := true) [Tryz.f50, resE, ja1])]
     rfl
 obtain ⟨R0, m1, H', m2, m3⟩ := main
 exact ⟨H', m2, m1.trans m3⟩
end Go.Am
namespace Go.Proofs
open Go.Shelf
def Tryz.lays264_ren : Go.Shelf.Ren := ⟨fun | 264 => 94 | n => n, fun | 53 => 35 | 46 => 101 | n => n, fun | n => n⟩
theorem Tryz.lays264 : Go.Proofs.Lays.n264 Tryz.prog Tryz.lays264_ren := {
 mixed := by kernel_rfl
 f264 := Tryz.func94.trans (congrArg some (by kernel_rfl))
 t46 := Tryz.underlying101
 a46 := Tryz.isAgg101
 z46 := Tryz.sizeOf101
 v46 := Tryz.zeroValue101
 t53 := Tryz.underlying35
 a53 := Tryz.isAgg35
 z53 := Tryz.sizeOf35
 v53 := Tryz.zeroValue35 }
theorem Tryz.bits_Mul64 (x y : Nat) (hx : x < 18446744073709551616) (hy : y < 18446744073709551616) (w : World) :
   Calls Tryz.prog 94 #[.int .u64 x, .int .u64 y] w fun e w' => e = .returned (.tuple #[.int .u64 ((x * y / 18446744073709551616 : Nat) : Int), .int .u64 ((x * y % 18446744073709551616 : Nat) : Int)]) ∧ w' = w := Any.bits_Mul64 Tryz.lays264 x y hx hy w
end Go.Proofs
namespace Go.Am
def mulV (x y : Nat) : Value := .tuple #[.int .u64 ((x * y / 18446744073709551616 : Nat) : Int), .int .u64 ((x * y % 18446744073709551616 : Nat) : Int)]
def hookM : Hook := fun f args H =>
 cond (Nat.beq f 94) (match args.toList with
   | [.int .u64 x, .int .u64 y] => cond (decide (0 ≤ x) && decide (x < 18446744073709551616) && (decide (0 ≤ y) && decide (y < 18446744073709551616))) (some (some (.ret (mulV x.toNat y.toNat), H))) none
   | _ => none) none
theorem j77 : HookSnd PP hookM := by
 intro f args H r H' he m w args' hrel hgl hargs
 unfold hookM at he
 cases hf : Nat.beq f 94 with
 | false => rw [hf] at he; simp at he
 | true =>
 rw [hf] at he
 obtain rfl := Nat.eq_of_beq_eq_true hf
 simp only [cond_true] at he
 split at he
 · rename_i x y hs
   cases h1 : (decide (0 ≤ x) && decide (x < 18446744073709551616) && (decide (0 ≤ y) && decide (y < 18446744073709551616))) with
   | false => rw [h1] at he; simp at he
   | true =>
   rw [h1] at he
   simp only [cond_true, Option.some.injEq, Prod.mk.injEq] at he
   obtain ⟨rfl, rfl⟩ := he
   simp only [Bool.and_eq_true, decide_eq_true_eq] at h1
   have e := hargs.eq_of_atomic (by rw [hs]; rfl)
   subst e
   have ea : args' = #[.int .u64 x, .int .u64 y] := by cases args'; simp_all
   subst ea
   have ex : ((x.toNat : Nat) : Int) = x := by omega
   have ey : ((y.toNat : Nat) : Int) = y := by omega
   have hc := Go.Proofs.Tryz.bits_Mul64 x.toNat y.toNat (by omega) (by omega) w
   rw [ex, ey] at hc
   refine hc.mono fun e w' ⟨he, hw⟩ => ?_
   subst he
   subst hw
   refine ⟨m, ?_, Step.still hrel rfl rfl rfl (Nat.le_refl _) (fun _ _ => rfl)⟩
   refine .tuple _ _ rfl fun i a b => ?_
   have : i = 0 ∨ i = 1 := by simp at a; omega
   rcases this with rfl | rfl <;> exact .atom _ rfl
 · simp at he
set_option maxRecDepth 100000
def m64 : Nat := 18446744073709551616
theorem y4a (x y : Nat) (H : Heap) : XX 95 #[.int .u64 (x : Int), .int .u64 (y : Int), .int .u64 0] H = some (.tuple #[.int .u64 (((x + y) % m64 : Nat) : Int), .int .u64 (((x + y) / m64 : Nat) : Int)], H) := by
 have h : XX 95 #[.int .u64 (x : Int), .int .u64 (y : Int), .int .u64 0] H = some (.tuple #[.int .u64 (Int.ofNat (((x : Int).toNat + (y : Int).toNat + (0 : Int).toNat) % 18446744073709551616)), .int .u64 (Int.ofNat (((x : Int).toNat + (y : Int).toNat + (0 : Int).toNat) / 18446744073709551616))], H) := by kernel_rfl
 rw [h]
 simp [m64]
theorem code69 : codeOf Tryz.f69 = .seq (rF Tryz.f69 0) (.seq (rF Tryz.f69 1) (.seq (rF Tryz.f69 2) (.seq (rF Tryz.f69 3) .ret))) := by kernel_rfl
theorem j93 : ((rgn Tryz.f69 3)[3]?).bind (·.dst) = some 27 := by kernel_rfl
theorem j6i {N : Nat} {hk : Hook} {d : Nat} {H : Heap} (n f g : Nat) (hn : n < m64) (hf : f < m64) (hg : g < m64) (hh : NH hk)
   (hm : ∀ x y H, x < m64 → y < m64 → hk 94 #[.int .u64 ((x : Nat) : Int), .int .u64 ((y : Nat) : Int)] H = some (some (.ret (mulV x y), H))) :
   CG N hk (d + 2) 69 #[.int .u64 (n : Int), .int .u64 (f : Int), .int .u64 (g : Int)] H = some (.ret (.tuple #[.int .u64 (((n * f + g) % m64 : Nat) : Int), .bool (decide (n * f + g < m64))]), H) := by
 have hmul : CG N hk (d + 1) 94 #[.int .u64 (n : Int), .int .u64 (f : Int)] H = some (.ret (mulV n f), H) := jj9 (hm n f H hn hf)
 unfold mulV at hmul
 have hadd := y4a (n * f % 18446744073709551616) g H
 have e0 : ∀ (u v : Value), extractA (.tuple #[u, v]) 0 = some u := fun _ _ => rfl
 have e1 : ∀ (u v : Value), extractA (.tuple #[u, v]) 1 = some v := fun _ _ => rfl
 refine (jc2 (hh _ _ _ rfl) Tryz.func69 (c := codeOf Tryz.f69) rfl rfl rfl (pr := noPr) rfl).trans ?_
 rw [code69]
 generalize hF : finE PP Tryz.f69 = F
 have hs : (n * f % 18446744073709551616 + g) % m64 = (n * f + g) % m64 := by unfold m64; omega
 have z : ∀ q : Nat, (((q : Nat) : Int) == 0) = decide (q = 0) := fun q => by
   rw [Bool.eq_iff_iff, beq_iff_eq, decide_eq_true_eq]; omega
 unfold m64 at hn hf hg
 have lL := lX4 Tryz.f69 0 1 2 3
 conv at lL in (occs := *) (rgnX _ _) => all_goals simp only [rX, opsAt, Tryz.f69, dL.o, reduceIte, Nat.reduceEqDiff]
 obtain ⟨l0, l1, l2, l3⟩ := lL
 by_cases h1 : n * f / 18446744073709551616 = 0
 · have z1 := z (n * f / 18446744073709551616)
   rw [decide_eq_true h1] at z1
   have z2 := z ((n * f % 18446744073709551616 + g) / m64)
   simp (decide := true) only [↓uR.o, dG.o, ja1, reduceIte, ↓ja0 l0, ↓ja0 l1, ↓ja0 l2, ↓ja0 l3, ↓jb7 _ 3 true 27 _ j93, ja3 Tryz.func94 rfl rfl hmul, e0, e1, j1t Tryz.func95 rfl rfl hadd, z1, z2, hs]
   rw [← hF, jb6 (l := [.int .u64 (((n * f + g) % m64 : Nat) : Int), .bool (decide ((n * f % 18446744073709551616 + g) / m64 = 0))]) (by simp (decide := true) [Tryz.f69, resE, ja1])]
   have e : decide ((n * f % 18446744073709551616 + g) / m64 = 0) = decide (n * f + g < m64) := by
     unfold m64
     by_cases q : n * f + g < 18446744073709551616
     · rw [decide_eq_true q]; exact decide_eq_true (by omega)
     · rw [decide_eq_false q]; exact decide_eq_false (by omega)
   rw [e]; rfl
 · have z1 := z (n * f / 18446744073709551616)
   rw [decide_eq_false h1] at z1
   simp (decide := true) only [↓uR.o, dG.o, ja1, reduceIte, Bool.not_true, ↓ja0 l0, ↓ja0 l1, ↓ja0 l2, ↓ja0 l3, ↓r_no _ 3 true 27 _ j93, ja3 Tryz.func94 rfl rfl hmul, e0, e1, j1t Tryz.func95 rfl rfl hadd, z1, hs]
   rw [← hF, jb6 (l := [.int .u64 (((n * f + g) % m64 : Nat) : Int), .bool false]) (by simp (decide := true) [Tryz.f69, resE, ja1])]
   have e : decide (n * f + g < m64) = false := decide_eq_false (by unfold m64; omega)
   rw [e]; rfl
def scopeK (c : Code) (body : Option Nat → Env → List Deferred → Heap → KOE → R) (n : Nat) (k : KOE) : KOE := fun o E ds H => match o with | .goto l => cond (hasLabel l c) (scopeE c body n (some l) E ds H k) (k (.goto l) E ds H) | o => k o E ds H
theorem jg9 (c : Code) (body : Option Nat → Env → List Deferred → Heap → KOE → R) (n : Nat) (s : Option Nat) (E : Env) (ds : List Deferred) (H : Heap) (k : KOE) : scopeE c body (n + 1) s E ds H k = body s E ds H (scopeK c body n k) := id rfl
theorem ji0 (c : Code) (body : Option Nat → Env → List Deferred → Heap → KOE → R) (n : Nat) (k : KOE) (E : Env) (ds : List Deferred) (H : Heap) : scopeK c body n k .ret E ds H = k .ret E ds H := id rfl
theorem ju4 {c : Code} {l : Nat} (h : hasLabel l c = true) (body : Option Nat → Env → List Deferred → Heap → KOE → R) (n : Nat) (k : KOE) (E : Env) (ds : List Deferred) (H : Heap) : scopeK c body n k (.goto l) E ds H = scopeE c body n (some l) E ds H k := by simp only [scopeK, h, cond_true]
section
variable {P : Program} {X : Xf} {K : Kf} {N : Nat} {pr : Nat → List (Nat × Nat)}
theorem jo7 (b : Code) (E : Env) (ds : List Deferred) (H : Heap) (k : KOE) : execG P X K N pr (.scope b) none E ds H k = scopeE b (execG P X K N pr b) N none E ds H k := by rw [execG]
theorem jz9 (l : Nat) (E : Env) (ds : List Deferred) (H : Heap) (k : KOE) : execG P X K N pr (.goto l) none E ds H k = k (.goto l) E ds H := by rw [execG]
theorem jo8 (l : Nat) (E : Env) (ds : List Deferred) (H : Heap) (k : KOE) : execG P X K N pr (.label l) none E ds H k = k .norm E ds H := by rw [execG]
theorem y2q (l : Nat) (E : Env) (ds : List Deferred) (H : Heap) (k : KOE) : execG P X K N pr (.label l) (some l) E ds H k = k .norm E ds H := by rw [execG]; simp
theorem y2r (l : Nat) (x y : Code) (E : Env) (ds : List Deferred) (H : Heap) (k : KOE) (h : hasLabel l x = true) : execG P X K N pr (.seq x y) (some l) E ds H k = execG P X K N pr x (some l) E ds H (thenE (execG P X K N pr y none) k) := by rw [execG, h]; rfl
theorem jj5 (l : Nat) (x y : Code) (E : Env) (ds : List Deferred) (H : Heap) (k : KOE) (h : hasLabel l x = false) : execG P X K N pr (.seq x y) (some l) E ds H k = execG P X K N pr y (some l) E ds H k := by rw [execG, h]; rfl
end
theorem j0a (b2 : Env → List Deferred → Heap → KOE → R) (k : KOE) (l : Nat) (E : Env) (ds : List Deferred) (H : Heap) : thenE b2 k (.goto l) E ds H = k (.goto l) E ds H := id rfl
inductive IR where
 | bad (e : Nat)
 | good (n e : Nat)
def endI (s : List UInt8) (i n : Nat) : IR := if isW s i then .bad i else .good n i
def mulI (s : List UInt8) (i n f : Nat) : IR := if n * f < m64 then endI s (i + 1) (n * f) else .bad i
theorem yo2 {s : List UInt8} {i n f : Nat} (h : n * f < m64) : mulI s i n f = endI s (i + 1) (n * f) := by unfold mulI; exact if_pos h
theorem yo3 {s : List UInt8} {i n f : Nat} (h : ¬ n * f < m64) : mulI s i n f = .bad i := by unfold mulI; exact if_neg h
def sufI (s : List UInt8) (i n : Nat) : IR := if isI s i 4 then (if s.getD i 0 = 77 then mulI s i n 1048576 else if s.getD i 0 = 75 then mulI s i n 1024 else .bad i) else endI s i n
def Fin (H0 : Heap) (a : Option Addr) (l c b t : Nat) (kd : Int) (w : ByteArray) (f0 t0 : Int) (r : IR) (E' : Env) (H' : Heap) : Prop :=
 match r with
 | .bad e => E' 4 = .bool false ∧ ∃ y, Two H0 H' b (cur a l c e) t y
 | .good n e => E' 4 = .bool true ∧ Two H0 H' b (cur a l c e) t (tok kd (n : Int) w f0 t0)
theorem tf1 (b : Nat) : fieldAddrA PP 49 (.pointer (some ⟨b, 0, none⟩)) 1 = some (.pointer (some ⟨b, 1, none⟩)) := by kernel_rfl
theorem size27 : sizeT PP 35 = some 1 := by decide +kernel
theorem j78 {H : Heap} {b : Nat} {k n f e : Int} {w : ByteArray} (h : H.get b = some (tok k n w f e)) (n' : Int) : storeA PP 35 (.pointer (some ⟨b, 1, none⟩)) (.int .u64 n') H = some (undef, H.set b (tok k n' w f e)) := by
 simp only [storeA, size27, stV]
 simp [Value.cells, st, look, h, tok, over, Value.oneCell']
theorem shl1 (x y : Operand) : binA PP .shl 35 x y (.int .u64 1) (.int .u64 10) = some (.int .u64 1024) := by kernel_rfl
theorem shl2 (x y : Operand) : binA PP .shl 35 x y (.int .u64 1024) (.int .u64 10) = some (.int .u64 1048576) := by kernel_rfl
theorem Two.row {H0 H : Heap} {b t : Nat} {x y : Blk} {a : Option Addr} {c : Nat} {s : List UInt8} (h : Two H0 H b x t y) (k : Ctx H0 a c s b) (ht : ∀ q, a = some q → q.block ≠ t) : Brow H a s := by
 refine ⟨fun q hq => ?_, k.row.nil, k.row.small⟩
 obtain ⟨z, h1, h2⟩ := k.row.row q hq
 refine ⟨z, ?_, h2⟩
 have hn := h.there q.block (k.ne q hq) (ht q hq)
 unfold look at h1 ⊢
 rw [hn]; exact h1
theorem Two.gg {H0 H : Heap} {b t : Nat} {x y : Blk} {a : Option Addr} {c : Nat} {s : List UInt8} (h : Two H0 H b x t y) (k : Ctx H0 a c s b) (htl : t < H0.next) (ht : GE.next ≤ t) : Ext GE H :=
 (h.lexd k.gg.fresh k.lt htl).gg k ht
theorem j79 {N : Nat} {hk : Hook} {d : Nat} {H : Heap} (n f g r : Nat) (fi gi : Int) (hfi : (f : Int) = fi) (hgi : (g : Int) = gi) (hn : n < m64) (hf : f < m64) (hg : g < m64) (hr : r = n * f + g) (ov : r < m64) (hh : NH hk)
   (hm : ∀ x y H, x < m64 → y < m64 → hk 94 #[.int .u64 ((x : Nat) : Int), .int .u64 ((y : Nat) : Int)] H = some (some (.ret (mulV x y), H))) :
   CG N hk (d + 2) 69 #[.int .u64 (n : Int), .int .u64 fi, .int .u64 gi] H = some (.ret (.tuple #[.int .u64 (r : Int), .bool true]), H) := by
 subst hfi hgi hr
 have := j6i (N := N) (hk := hk) (d := d) (H := H) n f g hn hf hg hh hm
 rw [decide_eq_true ov, Nat.mod_eq_of_lt ov] at this
 exact this
theorem j8a {N : Nat} {hk : Hook} {d : Nat} {H : Heap} (n f g r : Nat) (fi gi : Int) (hfi : (f : Int) = fi) (hgi : (g : Int) = gi) (hn : n < m64) (hf : f < m64) (hg : g < m64) (hr : r = n * f + g) (ov : ¬ r < m64) (hh : NH hk)
   (hm : ∀ x y H, x < m64 → y < m64 → hk 94 #[.int .u64 ((x : Nat) : Int), .int .u64 ((y : Nat) : Int)] H = some (some (.ret (mulV x y), H))) :
   ∃ v : Int, CG N hk (d + 2) 69 #[.int .u64 (n : Int), .int .u64 fi, .int .u64 gi] H = some (.ret (.tuple #[.int .u64 v, .bool false]), H) := by
 subst hfi hgi hr
 have := j6i (N := N) (hk := hk) (d := d) (H := H) n f g hn hf hg hh hm
 rw [decide_eq_false ov] at this
 exact ⟨_, this⟩
theorem code49 : codeOf Tryz.f49 = .seq (rF Tryz.f49 0) (.scope (.seq (rT Tryz.f49 1) (.seq (rF Tryz.f49 2) (.seq (.seq (rT Tryz.f49 3) (.cond (.tmp 50) (.seq (rF Tryz.f49 4) (.seq (rF Tryz.f49 5) (.goto 0))) .skip)) (.seq (.label 1) (.seq (.seq (rF Tryz.f49 6) (.cond (.tmp 63) (.seq (.seq (rT Tryz.f49 7) (.seq (rF Tryz.f49 8) (.cond (.tmp 82) (.seq (rF Tryz.f49 9) .ret) .skip))) (.seq (rF Tryz.f49 10) (.goto 1))) .skip)) (.seq (.goto 2) (.seq (.label 0) (.seq (.seq (rT Tryz.f49 11) (.cond (.tmp 113) (.seq (.seq (rT Tryz.f49 12) (.seq (rF Tryz.f49 13) (.cond (.tmp 131) (.seq (rF Tryz.f49 14) .ret) .skip))) (.seq (rF Tryz.f49 15) (.goto 0))) .skip)) (.seq (.seq (rF Tryz.f49 16) (.cond (.tmp 144) (.seq (rF Tryz.f49 17) .ret) .skip)) (.seq (.label 2) (.seq (.seq (rF Tryz.f49 18) (.cond (.tmp 146) (.seq (rF Tryz.f49 19) (.seq (.seq (rT Tryz.f49 20) (.block 0 (.seq (.block 3 (.seq (.block 2 (.seq (.block 1 (.seq (.seq (.seq (rF Tryz.f49 21) (.cond (.tmp 157) (.exit 1) .skip)) (.seq (rF Tryz.f49 22) (.cond (.tmp 159) (.exit 2) .skip))) (.exit 3))) (rF Tryz.f49 23))) (.seq (rF Tryz.f49 24) (.exit 0)))) (.seq (.seq (rF Tryz.f49 25) .ret) (.exit 0))))) (.seq (.seq (rF Tryz.f49 26) (.seq (rF Tryz.f49 27) (.cond (.tmp 172) (.seq (rF Tryz.f49 28) .ret) .skip))) (rF Tryz.f49 29)))) .skip)) (.seq (rF Tryz.f49 30) (.seq (rF Tryz.f49 31) .ret)))))))))))))) := by kernel_rfl
theorem j14 : ((rgn Tryz.f49 3)[11]?).bind (·.dst) = some 24 := by kernel_rfl
theorem j15 : ((rgn Tryz.f49 3)[24]?).bind (·.dst) = some 37 := by kernel_rfl
theorem j16 : ((rgn Tryz.f49 31)[3]?).bind (·.dst) = some 187 := by kernel_rfl
section
theorem y4b {N : Nat} {H0 H : Heap} {a : Option Addr} {c : Nat} {s : List UInt8} {b t i n : Nat} {E : Env} {Q : R → Prop} {k : KOE} {hk : Hook} {d : Nat} {kd f0 t0 : Int} {w : ByteArray} {n0 : Int} (x : Ctx H0 a c s b) (h : Curs H0 H b a s.length c i) (hbt : t ≠ b) (ht : H0.get t = some (tok kd n0 w f0 t0)) (hh : NH hk) (htl : t < H0.next) (htg : GE.next ≤ t) (hrt : ∀ q, a = some q → q.block ≠ t) (e0 : E 0 = .pointer (some ⟨b, 0, none⟩)) (e1 : E 1 = .pointer (some ⟨t, 0, none⟩)) (e7 : E 7 = .int .u64 (n : Int))
   (hx : ∀ E' H', Fin H0 a s.length c b t kd w f0 t0 (endI s i n) E' H' → Q (k .ret E' [] H')) :
   Q (execG PP XX (CG N hk (d + 2)) N noPr (.seq (rF Tryz.f49 30) (.seq (rF Tryz.f49 31) .ret)) none E [] H k) := by
 have two := h.two hbt ht
 have two1 := two.set hbt (tok kd (n : Int) w f0 t0)
 have r1 := jf6 (N := N) (hk := hk) (d := d) (two1.gg x htl htg) (two1.row x hrt) two1.one 4 hh
 have r2 := jf6 (N := N) (hk := hk) (d := d) (two1.gg x htl htg) (two1.row x hrt) two1.one 3 hh
 have lL := lX2 Tryz.f49 30 31
 conv at lL in (occs := *) (rgnX _ _) => all_goals simp only [rX, opsAt, Tryz.f49, dL.o, reduceIte, Nat.reduceEqDiff]
 obtain ⟨l30, l31⟩ := lL
 cases h4 : isI s i 4 with
 | true =>
   rw [h4] at r1
   simp (decide := true) only [↓uR.o, dG.o, ja1, ja5, reduceIte, Bool.not_true, ↓ja0 l30, ↓ja0 l31, ↓r_no _ 3 true 187 _ j16, e0, e1, e7, tf1, j78 two.two, ja3 Tryz.func47 rfl rfl r1, yf9]
   refine hx _ _ ?_
   rw [endI, if_pos (by simp [isW, h4])]
   exact ⟨rfl, _, two1⟩
 | false =>
   rw [h4] at r1
   cases h3 : isI s i 3 with
   | true =>
     rw [h3] at r2
     simp (decide := true) only [↓uR.o, dG.o, ja1, ja5, reduceIte, ↓ja0 l30, ↓ja0 l31, ↓jb7 _ 3 true 187 _ j16, e0, e1, e7, tf1, j78 two.two, ja3 Tryz.func47 rfl rfl r1, ja3 Tryz.func47 rfl rfl r2, yf9, yf8]
     refine hx _ _ ?_
     rw [endI, if_pos (by simp [isW, h3])]
     exact ⟨rfl, _, two1⟩
   | false =>
     rw [h3] at r2
     simp (decide := true) only [↓uR.o, dG.o, ja1, ja5, reduceIte, ↓ja0 l30, ↓ja0 l31, ↓jb7 _ 3 true 187 _ j16, e0, e1, e7, tf1, j78 two.two, ja3 Tryz.func47 rfl rfl r1, ja3 Tryz.func47 rfl rfl r2, yf8]
     refine hx _ _ ?_
     rw [endI, if_neg (by simp [isW, h3, h4])]
     exact ⟨rfl, two1⟩
theorem y71 {N : Nat} {H0 H : Heap} {a : Option Addr} {c : Nat} {s : List UInt8} {b t i n : Nat} {E : Env} {Q : R → Prop} {k : KOE} {hk : Hook} {d : Nat} {kd f0 t0 : Int} {w : ByteArray} {n0 : Int} (x : Ctx H0 a c s b) (h : Curs H0 H b a s.length c i) (hbt : t ≠ b) (ht : H0.get t = some (tok kd n0 w f0 t0)) (hh : NH hk) (htl : t < H0.next) (htg : GE.next ≤ t) (hrt : ∀ q, a = some q → q.block ≠ t) (hm : ∀ x y H, x < m64 → y < m64 → hk 94 #[.int .u64 ((x : Nat) : Int), .int .u64 ((y : Nat) : Int)] H = some (some (.ret (mulV x y), H))) (hn : n < m64) (e0 : E 0 = .pointer (some ⟨b, 0, none⟩)) (e1 : E 1 = .pointer (some ⟨t, 0, none⟩)) (e7 : E 7 = .int .u64 (n : Int))
   (hx : ∀ E' H', Fin H0 a s.length c b t kd w f0 t0 (sufI s i n) E' H' → Q (k .ret E' [] H')) :
   Q (execG PP XX (CG N hk (d + 2)) N noPr (.seq (.seq (rF Tryz.f49 18) (.cond (.tmp 146) (.seq (rF Tryz.f49 19) (.seq (.seq (rT Tryz.f49 20) (.block 0 (.seq (.block 3 (.seq (.block 2 (.seq (.block 1 (.seq (.seq (.seq (rF Tryz.f49 21) (.cond (.tmp 157) (.exit 1) .skip)) (.seq (rF Tryz.f49 22) (.cond (.tmp 159) (.exit 2) .skip))) (.exit 3))) (rF Tryz.f49 23))) (.seq (rF Tryz.f49 24) (.exit 0)))) (.seq (.seq (rF Tryz.f49 25) .ret) (.exit 0))))) (.seq (.seq (rF Tryz.f49 26) (.seq (rF Tryz.f49 27) (.cond (.tmp 172) (.seq (rF Tryz.f49 28) .ret) .skip))) (rF Tryz.f49 29)))) .skip)) (.seq (rF Tryz.f49 30) (.seq (rF Tryz.f49 31) .ret))) none E [] H k) := by
 have r1 := jf6 (N := N) (hk := hk) (d := d) (h.gg x) (h.row x) h.here 4 hh
 have hsm := x.row.small
 have two := h.two hbt ht
 have m1 : (1024 : Nat) < m64 := by decide
 have m2 : (1048576 : Nat) < m64 := by decide
 have m0 : (0 : Nat) < m64 := by decide
 have q0 : ∀ (u v : Value), extractA (.tuple #[u, v]) 0 = some u := fun _ _ => rfl
 have q1 : ∀ (u v : Value), extractA (.tuple #[u, v]) 1 = some v := fun _ _ => rfl
 have lL : _ ∧ _ := ⟨lX8 Tryz.f49 18 19 20 21 22 23 24 25, lX4 Tryz.f49 26 27 28 29⟩
 conv at lL in (occs := *) (rgnX _ _) => all_goals simp only [rX, opsAt, Tryz.f49, dL.o, reduceIte, Nat.reduceEqDiff]
 obtain ⟨⟨l18, l19, l20, l21, l22, l23, l24, l25⟩, ⟨l26, l27, l28, l29⟩⟩ := lL
 cases h4 : isI s i 4 with
 | false =>
   rw [h4] at r1
   have es : sufI s i n = endI s i n := by rw [sufI, h4]; rfl
   rw [es] at hx
   simp (decide := true) only [↓uR.o, dG.o, ja1, reduceIte, ↓ja0 l18, e0, ja3 Tryz.func47 rfl rfl r1]
   refine y4b x h hbt ht hh htl htg hrt ?_ ?_ ?_ hx
   all_goals simp (decide := true) only [ja1, reduceIte, e0, e1, e7]
 | true =>
   rw [h4] at r1
   have hi : i < s.length := by
     by_cases q : i < s.length
     · exact q
     · simp [isI, q] at h4
   have w1 : IntKind.i64.wrap ((i : Int) + 1) = ((i + 1 : Nat) : Int) := by rw [jb2 (by omega) (by omega)]; omega
   obtain ⟨y, rfl, hl⟩ := (h.row x).bts.cell i hi
   have hix := jc1 (n := s.length) (c := c) (a := y) hi
   have hgd : s.getD i 0 = s[i] := by simp [List.getD, hi]
   have z77 : ((s[i].toNat : Int) == 77) = decide (s[i] = 77) := jo3 s[i] 77
   have z75 : ((s[i].toNat : Int) == 75) = decide (s[i] = 75) := jo3 s[i] 75
   rw [sufI, h4, hgd] at hx
   simp only [if_true] at hx
   by_cases c77 : s[i] = 77
   · rw [decide_eq_true c77] at z77
     rw [if_pos c77] at hx
     by_cases ov : n * 1048576 < m64
     · have hmo := j79 (N := N) (hk := hk) (d := d) (H := H) n 1048576 0 (n * 1048576) 1048576 0 (by omega) (by omega) hn m2 m0 (Nat.add_zero _).symm ov hh hm
       rw [yo2 (s := s) (i := i) (n := n) (f := 1048576) ov] at hx
       simp (decide := true) only [↓uR.o, dG.o, ja1, ja5, reduceIte, ↓ja0 l18, ↓ja0 l19, ↓ja0 l20, ↓ja0 l21, ↓ja0 l23, ↓ja0 l24, ↓ja0 l26, ↓ja0 l27, ↓ja0 l29, Nat.reduceBEq, e0, e7, ja3 Tryz.func47 rfl rfl r1, fld0, fld1, jd2 h.here, jd0 h.here, hix, ja9 hl, z77, shl1, shl2, ja3 Tryz.func69 rfl rfl hmo, q0, q1, yf9, w1, ji5 h.here]
       refine y4b x (h.set (i + 1)) hbt ht hh htl htg hrt ?_ ?_ ?_ hx
       all_goals simp (decide := true) only [ja1, reduceIte, e0, e1, e7]
     · obtain ⟨vv, hmo⟩ := j8a (N := N) (hk := hk) (d := d) (H := H) n 1048576 0 (n * 1048576) 1048576 0 (by omega) (by omega) hn m2 m0 (Nat.add_zero _).symm ov hh hm
       rw [yo3 (s := s) (i := i) (n := n) (f := 1048576) ov] at hx
       simp (decide := true) only [↓uR.o, dG.o, ja1, reduceIte, ↓ja0 l18, ↓ja0 l19, ↓ja0 l20, ↓ja0 l21, ↓ja0 l23, ↓ja0 l24, ↓ja0 l26, ↓ja0 l27, ↓ja0 l28, Nat.reduceBEq, e0, e7, ja3 Tryz.func47 rfl rfl r1, fld0, fld1, jd2 h.here, jd0 h.here, hix, ja9 hl, z77, shl1, shl2, ja3 Tryz.func69 rfl rfl hmo, q0, q1, yf8]
       exact hx _ _ ⟨rfl, _, two⟩
   · rw [decide_eq_false c77] at z77
     rw [if_neg c77] at hx
     by_cases c75 : s[i] = 75
     · rw [decide_eq_true c75] at z75
       rw [if_pos c75] at hx
       by_cases ov : n * 1024 < m64
       · have hmo := j79 (N := N) (hk := hk) (d := d) (H := H) n 1024 0 (n * 1024) 1024 0 (by omega) (by omega) hn m1 m0 (Nat.add_zero _).symm ov hh hm
         rw [yo2 (s := s) (i := i) (n := n) (f := 1024) ov] at hx
         simp (decide := true) only [↓uR.o, dG.o, ja1, ja5, reduceIte, ↓ja0 l18, ↓ja0 l19, ↓ja0 l20, ↓ja0 l21, ↓ja0 l22, ↓ja0 l24, ↓ja0 l26, ↓ja0 l27, ↓ja0 l29, Nat.reduceBEq, e0, e7, ja3 Tryz.func47 rfl rfl r1, fld0, fld1, jd2 h.here, jd0 h.here, hix, ja9 hl, z77, z75, shl1, ja3 Tryz.func69 rfl rfl hmo, q0, q1, yf9, w1, ji5 h.here]
         refine y4b x (h.set (i + 1)) hbt ht hh htl htg hrt ?_ ?_ ?_ hx
         all_goals simp (decide := true) only [ja1, reduceIte, e0, e1, e7]
       · obtain ⟨vv, hmo⟩ := j8a (N := N) (hk := hk) (d := d) (H := H) n 1024 0 (n * 1024) 1024 0 (by omega) (by omega) hn m1 m0 (Nat.add_zero _).symm ov hh hm
         rw [yo3 (s := s) (i := i) (n := n) (f := 1024) ov] at hx
         simp (decide := true) only [↓uR.o, dG.o, ja1, reduceIte, ↓ja0 l18, ↓ja0 l19, ↓ja0 l20, ↓ja0 l21, ↓ja0 l22, ↓ja0 l24, ↓ja0 l26, ↓ja0 l27, ↓ja0 l28, Nat.reduceBEq, e0, e7, ja3 Tryz.func47 rfl rfl r1, fld0, fld1, jd2 h.here, jd0 h.here, hix, ja9 hl, z77, z75, shl1, ja3 Tryz.func69 rfl rfl hmo, q0, q1, yf8]
         exact hx _ _ ⟨rfl, _, two⟩
     · rw [decide_eq_false c75] at z75
       rw [if_neg c75] at hx
       simp (decide := true) only [↓uR.o, dG.o, ja1, reduceIte, ↓ja0 l18, ↓ja0 l19, ↓ja0 l20, ↓ja0 l21, ↓ja0 l22, ↓ja0 l25, Nat.reduceBEq, e0, ja3 Tryz.func47 rfl rfl r1, fld0, fld1, jd2 h.here, jd0 h.here, hix, ja9 hl, z77, z75]
       exact hx _ _ ⟨rfl, _, two⟩
end
end Go.Am
