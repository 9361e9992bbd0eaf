/- A lexeme: all of them. -/
import Derived.Test.YtohmeeglehopiaaGreatDoorM09
import Derived.Test.YtohmeeglehopiaaGreatDoorM08
import Derived.Lib.ItoaNum
import Derived.Test.YtohmeeglehopiaaGreatDoorM07
import Derived.Shelf.Strconv.AppendInt10
import Derived.Test.YtohmeeglehopiaaGreatDoorProg
open Go.Proofs
namespace Go.Am
set_option maxRecDepth 100000
variable {N d c b t i : Nat} {hk : Hook} {H : Heap} {a : Option Addr} {s : List UInt8}
theorem eq33 : (((3 : Int)) == 3) = true := rfl
theorem eq53 : (((5 : Int)) == 3) = false := rfl
theorem eq54 : (((5 : Int)) == 4) = false := rfl
theorem eq55 : (((5 : Int)) == 5) = true := rfl
theorem yv6 {H' : Heap} {v : Value} {k0 n0 f0 t0 : Int} {w : ByteArray} (x : Ctx H a c s b) (hb : H.get b = some (cur a s.length c i)) (ht : H.get t = some (tok k0 n0 w f0 t0)) (hi : i < s.length) (hcl : clsI s[i] = 3) (hh : NH hk)
   (hr : CG N hk (d + 1) 44 #[.pointer (some ⟨b, 0, none⟩), .pointer (some ⟨t, 0, none⟩)] (H.set t (tok 2 n0 w f0 t0)) = some (.ret v, H')) :
   CG N hk (d + 2) 28 #[.pointer (some ⟨b, 0, none⟩), .pointer (some ⟨t, 0, none⟩)] H = some (.ret v, H') := by
 refine (jb6 (hh _ _ _ rfl) Tryz.func28 (c := codeOf Tryz.f28) rfl rfl rfl (pr := noPr) rfl).trans ?_
 rw [code28]
 generalize hF : finE PP Tryz.f28 = F
 have hcls := jp7 (N := N) (hk := hk) (d := d) x.gg s[i] (fun _ _ => hh _ _ _ rfl)
 rw [hcl] at hcls
 obtain ⟨y, rfl, hl⟩ := x.row.bts.cell i hi
 have hix := jc4 (n := s.length) (c := c) (a := y) hi
 have lL := lX5 Tryz.f28 0 1 2 3 4
 conv at lL in (occs := *) (rq _ _) => all_goals simp only [rX, oA, Tryz.f28, dL.o, reduceIte, Nat.reduceEqDiff]
 obtain ⟨l0, l1, l2, l3, l4⟩ := lL
 simp +decide only [↓uR.o, dG.o, ja1, jb1, reduceIte, ↓ja0 l0, ↓ja0 l1, ↓ja0 l2, ↓ja0 l3, ↓ja0 l4, fld0, fld1, jc0 hb, jb3 hb, hix, jb7 hl, ja3 Tryz.func36 rfl rfl hcls, eq33, tf0, jd0 ht, ja3 Tryz.func44 rfl rfl hr]
 rw [← hF, jb0 (l := [v]) (by simp +decide [Tryz.f28, resE, ja1])]
 rfl
theorem ym3 {H' : Heap} {v : Value} {k0 n0 f0 t0 : Int} {w : ByteArray} (x : Ctx H a c s b) (hb : H.get b = some (cur a s.length c i)) (ht : H.get t = some (tok k0 n0 w f0 t0)) (hi : i < s.length) (hcl : clsI s[i] = 5) (hh : NH hk)
   (hr : CG N hk (d + 1) 46 #[.pointer (some ⟨b, 0, none⟩), .pointer (some ⟨t, 0, none⟩)] (H.set t (tok 3 n0 w f0 t0)) = some (.ret v, H')) :
   CG N hk (d + 2) 28 #[.pointer (some ⟨b, 0, none⟩), .pointer (some ⟨t, 0, none⟩)] H = some (.ret v, H') := by
 refine (jb6 (hh _ _ _ rfl) Tryz.func28 (c := codeOf Tryz.f28) rfl rfl rfl (pr := noPr) rfl).trans ?_
 rw [code28]
 generalize hF : finE PP Tryz.f28 = F
 have hcls := jp7 (N := N) (hk := hk) (d := d) x.gg s[i] (fun _ _ => hh _ _ _ rfl)
 rw [hcl] at hcls
 obtain ⟨y, rfl, hl⟩ := x.row.bts.cell i hi
 have hix := jc4 (n := s.length) (c := c) (a := y) hi
 have lL := lX7 Tryz.f28 0 1 2 5 7 8 9
 conv at lL in (occs := *) (rq _ _) => all_goals simp only [rX, oA, Tryz.f28, dL.o, reduceIte, Nat.reduceEqDiff]
 obtain ⟨l0, l1, l2, l5, l7, l8, l9⟩ := lL
 simp +decide only [↓uR.o, dG.o, ja1, jb1, reduceIte, ↓ja0 l0, ↓ja0 l1, ↓ja0 l2, ↓ja0 l5, ↓ja0 l7, ↓ja0 l8, ↓ja0 l9, fld0, fld1, jc0 hb, jb3 hb, hix, jb7 hl, ja3 Tryz.func36 rfl rfl hcls, eq53, eq54, eq55, tf0, jd0 ht, ja3 Tryz.func46 rfl rfl hr]
 rw [← hF, jb0 (l := [v]) (by simp +decide [Tryz.f28, resE, ja1])]
 rfl
theorem ym4 (x : Ctx H a c s b) (hb : H.get b = some (cur a s.length c i)) (hi : i < s.length) (h3 : ¬ clsI s[i] = 3) (h4 : ¬ clsI s[i] = 4) (h5 : ¬ clsI s[i] = 5) (h6 : ¬ clsI s[i] = 6) (hh : NH hk) :
   CG N hk (d + 2) 28 #[.pointer (some ⟨b, 0, none⟩), .pointer (some ⟨t, 0, none⟩)] H = some (.ret (.bool false), H) := by
 refine (jb6 (hh _ _ _ rfl) Tryz.func28 (c := codeOf Tryz.f28) rfl rfl rfl (pr := noPr) rfl).trans ?_
 rw [code28]
 generalize hF : finE PP Tryz.f28 = F
 have hcls := jp7 (N := N) (hk := hk) (d := d) x.gg s[i] (fun _ _ => hh _ _ _ rfl)
 have z3 : (clsI s[i] == 3) = false := by simp [h3]
 have z4 : (clsI s[i] == 4) = false := by simp [h4]
 have z5 : (clsI s[i] == 5) = false := by simp [h5]
 have z6 : (clsI s[i] == 6) = false := by simp [h6]
 obtain ⟨y, rfl, hl⟩ := x.row.bts.cell i hi
 have hix := jc4 (n := s.length) (c := c) (a := y) hi
 have lL := lX7 Tryz.f28 0 1 2 5 7 10 12
 conv at lL in (occs := *) (rq _ _) => all_goals simp only [rX, oA, Tryz.f28, dL.o, reduceIte, Nat.reduceEqDiff]
 obtain ⟨l0, l1, l2, l5, l7, l10, l12⟩ := lL
 simp +decide only [↓uR.o, dG.o, ja1, reduceIte, ↓ja0 l0, ↓ja0 l1, ↓ja0 l2, ↓ja0 l5, ↓ja0 l7, ↓ja0 l10, ↓ja0 l12, fld0, fld1, jc0 hb, jb3 hb, hix, jb7 hl, ja3 Tryz.func36 rfl rfl hcls, z3, z4, z5, z6]
 rw [← hF, jb0 (l := [.bool false]) (by simp +decide [Tryz.f28, resE, ja1])]
 rfl
inductive LR where
 | bad (e : Nat)
 | good (k : Tk)
def wordI (s : List UInt8) (i : Nat) : LR :=
 if runTo s (s.length - i) i ≤ i + 32 then .good ⟨(wordKT ((s.drop i).take (runTo s (s.length - i) i - i))).1, 0, ⟨⟨(wordKT ((s.drop i).take (runTo s (s.length - i) i - i))).2⟩⟩, i, runTo s (s.length - i) i⟩ else .bad (i + 32)
def signI (s : List UInt8) (i : Nat) : LR :=
 if (signR ((s.getD i 0).toNat : Int) (nextB s i)).1 = 0 then .bad (i + (signR ((s.getD i 0).toNat : Int) (nextB s i)).2) else .good ⟨(signR ((s.getD i 0).toNat : Int) (nextB s i)).1, 0, .empty, i, i + (signR ((s.getD i 0).toNat : Int) (nextB s i)).2⟩
def lexI (s : List UInt8) (i : Nat) : LR :=
 if clsI (s.getD i 0) = 3 then (match intI s i with | .bad e => .bad e | .good n e => .good ⟨2, (n : Int), .empty, i, e⟩)
 else if clsI (s.getD i 0) = 4 then wordI s i
 else if clsI (s.getD i 0) = 5 then (match textI s (s.length - i) i [] with | .bad e => .bad e | .good w e => .good ⟨3, 0, ⟨⟨w⟩⟩, i, e⟩)
 else if clsI (s.getD i 0) = 6 then signI s i
 else .bad i
structure HkOk (hk : Hook) : Prop where
 nil : NH hk
 single : ∀ (u : UInt8) H, Ext GE H → hk 66 #[.int .u8 (u.toNat : Int)] H = some (some (.ret (.int .i64 (singleT u.toNat)), H))
 hex : ∀ (u : UInt8) H, Ext GE H → hk 64 #[.int .u8 (u.toNat : Int)] H = some (some (.ret (.int .u64 (hexT u.toNat)), H))
 mul : ∀ x y H, x < m64 → y < m64 → hk 83 #[.int .u64 ((x : Nat) : Int), .int .u64 ((y : Nat) : Int)] H = some (some (.ret (mulV x y), H))
 fields : ∀ H, Ext GE H → hk 35 #[strV wordsB] H = some (some (.ret (.slice (some ⟨H.next, 0, none⟩) 50 50), H.alloc 1 wordsV))
theorem je7 (s : List UInt8) {i : Nat} (hi : i < s.length) : s.getD i 0 = s[i] := by simp [List.getD, hi]
theorem yv7 (K : HkOk hk) (hN : 2 * s.length + 100 < N) (hs : s.length ≤ 1048576) (hc : s.length ≤ c) {i : Nat} (hi : i < s.length) :
   (∀ tk, lexI s i = .good tk → LexOk N hk (d + 4) a c s tk) ∧ (∀ e, lexI s i = .bad e → LexBad N hk (d + 4) a c s i e) := by
 have hgd := je7 s hi
 unfold lexI
 rw [hgd]
 by_cases c3 : clsI s[i] = 3
 · rw [if_pos c3]
   have key : ∀ H b t, Ctx H a c s b → H.get b = some (cur a s.length c i) → H.get t = some (tok 0 0 .empty (i : Int) 0) → t ≠ b → t < H.next → GE.next ≤ t → (∀ q, a = some q → q.block ≠ t) →
       ∃ E' H', Fin (H.set t (tok 2 0 .empty (i : Int) 0)) a s.length c b t 2 .empty (i : Int) 0 (intI s i) E' H' ∧ CG N hk (d + 4) 28 #[.pointer (some ⟨b, 0, none⟩), .pointer (some ⟨t, 0, none⟩)] H = some (.ret (E' 4), H') := fun H b t x hb ht hbt htl htg hrt => by
     have two : Two H (H.set t (tok 2 0 .empty (i : Int) 0)) b (cur a s.length c i) t (tok 2 0 .empty (i : Int) 0) := (Curs.two ⟨rfl, hb, fun _ _ => rfl⟩ hbt ht).set hbt _
     have x1 : Ctx (H.set t (tok 2 0 .empty (i : Int) 0)) a c s b := ⟨two.gg x htl htg, x.low, x.lt, two.row x hrt, x.ne⟩
     obtain ⟨E', H', h1, v, h2, h3⟩ := ym2 (Q := fun _ => True) (k := fun _ _ _ _ => none) (N := N) (hk := hk) (d := d) (H := H.set t (tok 2 0 .empty (i : Int) 0)) x1 hbt two.two K.nil htl htg hrt K.mul K.hex ⟨rfl, two.one, fun _ _ => rfl⟩ hi (by omega)
     refine ⟨E', H', h1, ?_⟩
     rw [h2]
     exact yv6 (d := d + 2) x hb ht hi c3 K.nil h3
   refine ⟨fun tk h => ?_, fun e h => ?_⟩
   · intro H b t x hb ht hbt htl htg hrt
     cases hq : intI s i with
     | bad e => rw [hq] at h; cases h
     | good n e =>
       rw [hq] at h
       injection h with h
       subst h
       obtain ⟨E', H', h1, h2⟩ := key H b t x hb ht hbt htl htg hrt
       rw [hq] at h1
       obtain ⟨g1, g2⟩ := h1
       rw [g1] at h2
       have l1 : Lexd H (H.set t (tok 2 0 .empty (i : Int) 0)) b (cur a s.length c i) t (tok 2 0 .empty (i : Int) 0) := (((Curs.two ⟨rfl, hb, fun _ _ => rfl⟩ hbt ht).set hbt _).lexd x.gg.fresh x.lt htl)
       exact ⟨H', l1.trans (g2.lexd l1.fresh x.lt htl), h2⟩
   · intro H b t x hb ht hbt htl htg hrt
     cases hq : intI s i with
     | good n e => rw [hq] at h; cases h
     | bad e' =>
       rw [hq] at h
       injection h with h
       subst h
       obtain ⟨E', H', h1, h2⟩ := key H b t x hb ht hbt htl htg hrt
       rw [hq] at h1
       obtain ⟨g1, y, g2⟩ := h1
       rw [g1] at h2
       have l1 : Lexd H (H.set t (tok 2 0 .empty (i : Int) 0)) b (cur a s.length c i) t (tok 2 0 .empty (i : Int) 0) := (((Curs.two ⟨rfl, hb, fun _ _ => rfl⟩ hbt ht).set hbt _).lexd x.gg.fresh x.lt htl)
       exact ⟨H', y, l1.trans (g2.lexd l1.fresh x.lt htl), h2⟩
 rw [if_neg c3]
 by_cases c4 : clsI s[i] = 4
 · rw [if_pos c4]
   unfold wordI
   by_cases hl : runTo s (s.length - i) i ≤ i + 32
   · rw [if_pos hl]
     refine ⟨fun tk h => ?_, fun e h => (by cases h)⟩
     injection h with h
     subst h
     intro H b t x hb ht hbt htl htg hrt
     have hb : H.get b = some (cur a s.length c i) := hb
     have ht : H.get t = some (tok 0 0 .empty (i : Int) 0) := ht
     obtain ⟨H', h1, h2⟩ := j9b (N := N) (hk := hk) (d := d) (H0 := H) (H := H) x ⟨rfl, hb, fun _ _ => rfl⟩ hbt htl ht K.nil hi hc (by omega) (by omega) rfl hl _ rfl K.fields
     exact ⟨H', h1, j65 (d := d + 2) x hb hi c4 K.nil h2⟩
   · rw [if_neg hl]
     refine ⟨fun tk h => (by cases h), fun e h => ?_⟩
     injection h with h
     subst h
     intro H b t x hb ht hbt htl htg hrt
     obtain ⟨H', h1, h2⟩ := yd1 (N := N) (hk := hk) (d := d) (t := t) (H0 := H) (H := H) x ⟨rfl, hb, fun _ _ => rfl⟩ K.nil hi (by omega) (by omega)
     exact ⟨H', _, (h1.two hbt ht).lexd x.gg.fresh x.lt htl, j65 (d := d + 2) x hb hi c4 K.nil h2⟩
 rw [if_neg c4]
 by_cases c5 : clsI s[i] = 5
 · rw [if_pos c5]
   have key : ∀ H b t, Ctx H a c s b → H.get b = some (cur a s.length c i) → H.get t = some (tok 0 0 .empty (i : Int) 0) → t ≠ b → t < H.next → GE.next ≤ t → (∀ q, a = some q → q.block ≠ t) →
       ∃ E' H', FinT (H.set t (tok 3 0 .empty (i : Int) 0)) a s.length c b t 3 0 (i : Int) 0 (textI s (s.length - i) i []) E' H' ∧ CG N hk (d + 4) 28 #[.pointer (some ⟨b, 0, none⟩), .pointer (some ⟨t, 0, none⟩)] H = some (.ret (E' 4), H') := fun H b t x hb ht hbt htl htg hrt => by
     have two : Two H (H.set t (tok 3 0 .empty (i : Int) 0)) b (cur a s.length c i) t (tok 3 0 .empty (i : Int) 0) := (Curs.two ⟨rfl, hb, fun _ _ => rfl⟩ hbt ht).set hbt _
     have x1 : Ctx (H.set t (tok 3 0 .empty (i : Int) 0)) a c s b := ⟨two.gg x htl htg, x.low, x.lt, two.row x hrt, x.ne⟩
     obtain ⟨E', H', h1, v, h2, h3⟩ := yd5 (N := N) (hk := hk) (d := d) (H := H.set t (tok 3 0 .empty (i : Int) 0)) x1 two.one hbt two.two K.hex (by omega) hs hi K.nil
     refine ⟨E', H', h1, ?_⟩
     rw [h2]
     exact ym3 (d := d + 2) x hb ht hi c5 K.nil h3
   refine ⟨fun tk h => ?_, fun e h => ?_⟩
   · intro H b t x hb ht hbt htl htg hrt
     cases hq : textI s (s.length - i) i [] with
     | bad e => rw [hq] at h; cases h
     | good w e =>
       rw [hq] at h
       injection h with h
       subst h
       obtain ⟨E', H', h1, h2⟩ := key H b t x hb ht hbt htl htg hrt
       rw [hq] at h1
       obtain ⟨g1, g2⟩ := h1
       rw [g1] at h2
       have l1 : Lexd H (H.set t (tok 3 0 .empty (i : Int) 0)) b (cur a s.length c i) t (tok 3 0 .empty (i : Int) 0) := (((Curs.two ⟨rfl, hb, fun _ _ => rfl⟩ hbt ht).set hbt _).lexd x.gg.fresh x.lt htl)
       exact ⟨H', l1.trans g2, h2⟩
   · intro H b t x hb ht hbt htl htg hrt
     cases hq : textI s (s.length - i) i [] with
     | good w e => rw [hq] at h; cases h
     | bad e' =>
       rw [hq] at h
       injection h with h
       subst h
       obtain ⟨E', H', h1, h2⟩ := key H b t x hb ht hbt htl htg hrt
       rw [hq] at h1
       obtain ⟨g1, v, o, g2⟩ := h1
       rw [g1] at h2
       have l1 : Lexd H (H.set t (tok 3 0 .empty (i : Int) 0)) b (cur a s.length c i) t (tok 3 0 .empty (i : Int) 0) := (((Curs.two ⟨rfl, hb, fun _ _ => rfl⟩ hbt ht).set hbt _).lexd x.gg.fresh x.lt htl)
       have l2 : Lexd (H.set t (tok 3 0 .empty (i : Int) 0)) H' b (cur a s.length c e') t (tok 3 0 .empty (i : Int) 0) := ⟨g2.next, g2.here, g2.there t _ hbt l1.two, fun z w z1 z2 z3 => g2.there z w z1 z3, g2.fresh⟩
       exact ⟨H', _, l1.trans l2, h2⟩
 rw [if_neg c5]
 by_cases c6 : clsI s[i] = 6
 · rw [if_pos c6]
   have key : ∀ H b t, Ctx H a c s b → H.get b = some (cur a s.length c i) → H.get t = some (tok 0 0 .empty (i : Int) 0) → t ≠ b → t < H.next → GE.next ≤ t → (∀ q, a = some q → q.block ≠ t) → _ := fun H b t x hb ht hbt htl htg hrt =>
     yc4 (N := N) (hk := hk) (d := d + 1) x hb ht hbt htl htg hrt hi K.nil (by omega) K.single
   unfold signI
   rw [hgd]
   by_cases hz : (signR (s[i].toNat : Int) (nextB s i)).1 = 0
   · rw [if_pos hz]
     refine ⟨fun tk h => (by cases h), fun e h => ?_⟩
     injection h with h
     subst h
     intro H b t x hb ht hbt htl htg hrt
     obtain ⟨H', h1, h2⟩ := key H b t x hb ht hbt htl htg hrt
     have e : ((signR (s[i].toNat : Int) (nextB s i)).1 != 0) = false := by simp [hz]
     rw [e] at h2
     exact ⟨H', _, h1, j66 (d := d + 2) x hb hi c6 K.nil h2⟩
   · rw [if_neg hz]
     refine ⟨fun tk h => ?_, fun e h => (by cases h)⟩
     injection h with h
     subst h
     intro H b t x hb ht hbt htl htg hrt
     obtain ⟨H', h1, h2⟩ := key H b t x hb ht hbt htl htg hrt
     have e : ((signR (s[i].toNat : Int) (nextB s i)).1 != 0) = true := by simp [hz]
     rw [e] at h2
     exact ⟨H', h1, j66 (d := d + 2) x hb hi c6 K.nil h2⟩
 rw [if_neg c6]
 refine ⟨fun tk h => (by cases h), fun e h => ?_⟩
 injection h with h
 subst h
 intro H b t x hb ht hbt htl htg hrt
 exact ⟨H, _, ⟨Nat.le_refl _, hb, ht, fun z w _ _ hz => hz, x.gg.fresh⟩, ym4 (d := d + 2) x hb hi c3 c4 c5 c6 K.nil⟩
end Go.Am
namespace Go.Am
variable {s : List UInt8} {i n m e : Nat}
theorem jr2 {q : Int} (h : isI s i q = true) : i < s.length := by
 unfold isI at h
 simp only [Bool.and_eq_true, decide_eq_true_eq] at h
 exact h.1
theorem jo7 (s : List UInt8) : ∀ n i, i ≤ s.length → i ≤ skipTo s n i ∧ skipTo s n i ≤ s.length
 | 0, i, h => by simp [skipTo]; exact h
 | n + 1, i, h => by
   unfold skipTo
   split
   · rename_i h1
     have := jo7 s n (i + 1) (jr2 h1)
     omega
   · split
     · have l := jl7 s (s.length - i) i
       have := jo7 s n (lineEnd s (s.length - i) i) (by omega)
       omega
     · omega
theorem j4l (h : endI s i n = .good m e) : e = i := by
 unfold endI at h
 split at h
 · cases h
 · injection h with h1 h2; exact h2.symm
theorem j4m {f : Nat} (h : mulI s i n f = .good m e) : e = i + 1 := by
 unfold mulI at h
 split at h
 · exact j4l h
 · cases h
theorem ju4 (hi : i ≤ s.length) (h : sufI s i n = .good m e) : i ≤ e ∧ e ≤ s.length := by
 unfold sufI at h
 split at h
 · rename_i h4
   have := jr2 h4
   split at h
   · have := j4m h; omega
   · split at h
     · have := j4m h; omega
     · cases h
 · have := j4l h; omega
theorem j4n : ∀ (f i n m e : Nat), i ≤ s.length → decI s f i n = .good m e → i ≤ e ∧ e ≤ s.length
 | 0, i, n, m, e, hi, h => ju4 hi h
 | f + 1, i, n, m, e, hi, h => by
   unfold decI at h
   split at h
   · rename_i h3
     have := jr2 h3
     split at h
     · have := j4n f (i + 1) _ m e (by omega) h
       omega
     · cases h
   · exact ju4 hi h
theorem j4o {fr : Nat} : ∀ (f i n m e : Nat), i + f ≤ s.length → hexI s fr f i n = .good m e → i ≤ e ∧ e ≤ s.length
 | 0, i, n, m, e, hi, h => by
   unfold hexI endH at h
   split at h
   · cases h
   · exact ju4 (by omega) h
 | f + 1, i, n, m, e, hi, h => by
   unfold hexI at h
   split at h
   · split at h
     · have := j4o f (i + 1) _ m e (by omega) h
       omega
     · cases h
   · unfold endH at h
     split at h
     · cases h
     · exact ju4 (by omega) h
theorem j9c (hi : i < s.length) (h3 : isI s i 3 = true) (h : decI s (s.length - i) i n = .good m e) : i < e ∧ e ≤ s.length := by
 obtain ⟨f, hf⟩ : ∃ f, s.length - i = f + 1 := ⟨s.length - i - 1, by omega⟩
 rw [hf] at h
 unfold decI at h
 rw [if_pos h3] at h
 split at h
 · have := j4n f (i + 1) _ m e (by omega) h
   omega
 · cases h
theorem j0z (hi : i < s.length) (h3 : isI s i 3 = true) (h : intI s i = .good m e) : i < e ∧ e ≤ s.length := by
 unfold intI at h
 split at h
 · rename_i hq
   by_cases h2 : i + 2 ≤ s.length
   · have := j4o (s.length - (i + 2)) (i + 2) 0 m e (by omega) h
     omega
   · omega
 · exact j9c hi h3 h
theorem jh9 : ∀ (k i : Nat) (o w : List UInt8) (e : Nat), i < s.length → textI s k i o = .good w e → i < e ∧ e ≤ s.length
 | 0, i, o, w, e, hi, h => by cases h
 | k + 1, i, o, w, e, hi, h => by
   have g0 : ∀ j, s.length ≤ j → s.getD j 0 = 0 := fun j hj => by simp [List.getD, List.getElem?_eq_none hj]
   have hz : hexT (0 : UInt8).toNat = 16 := by decide
   unfold textI at h
   by_cases hj : i + 1 = s.length
   · rw [if_pos hj] at h; cases h
   rw [if_neg hj] at h
   by_cases c34 : s.getD (i + 1) 0 = 34
   · rw [if_pos c34] at h
     injection h with h1 h2
     omega
   rw [if_neg c34] at h
   by_cases c92 : s.getD (i + 1) 0 = 92
   · rw [if_pos c92] at h
     by_cases hj2 : i + 2 = s.length
     · rw [if_pos hj2] at h; cases h
     rw [if_neg hj2] at h
     by_cases c110 : s.getD (i + 2) 0 = 110
     · rw [if_pos c110] at h
       have := jh9 k (i + 2) _ w e (by omega) h; omega
     rw [if_neg c110] at h
     by_cases c116 : s.getD (i + 2) 0 = 116
     · rw [if_pos c116] at h
       have := jh9 k (i + 2) _ w e (by omega) h; omega
     rw [if_neg c116] at h
     by_cases d34 : s.getD (i + 2) 0 = 34
     · rw [if_pos d34] at h
       have := jh9 k (i + 2) _ w e (by omega) h; omega
     rw [if_neg d34] at h
     by_cases d92 : s.getD (i + 2) 0 = 92
     · rw [if_pos d92] at h
       have := jh9 k (i + 2) _ w e (by omega) h; omega
     rw [if_neg d92] at h
     by_cases d120 : s.getD (i + 2) 0 = 120
     · rw [if_pos d120] at h
       by_cases n1 : i + 3 = s.length ∨ hexT (s.getD (i + 3) 0).toNat = 16
       · rw [if_pos n1] at h; cases h
       rw [if_neg n1] at h
       by_cases n2 : i + 4 = s.length ∨ hexT (s.getD (i + 4) 0).toNat = 16
       · rw [if_pos n2] at h; cases h
       rw [if_neg n2] at h
       have m1 : ¬ i + 3 = s.length := fun q => n1 (.inl q)
       have m2 : ¬ i + 4 = s.length := fun q => n2 (.inl q)
       have q3 : i + 3 < s.length := by
         by_cases q : i + 3 < s.length
         · exact q
         · exact absurd (.inr (by rw [g0 _ (by omega)]; exact hz)) n1
       have := jh9 k (i + 4) _ w e (by omega) h; omega
     rw [if_neg d120] at h
     cases h
   rw [if_neg c92] at h
   by_cases hr : (s.getD (i + 1) 0).toNat < 32 ∨ 126 < (s.getD (i + 1) 0).toNat
   · rw [if_pos hr] at h; cases h
   · rw [if_neg hr] at h
     have := jh9 k (i + 1) _ w e (by omega) h; omega
theorem yd6 (u v : Int) : 1 ≤ (signR u v).2 ∧ (signR u v).2 ≤ 2 := by
 unfold signR
 repeat' split
 all_goals omega
theorem yd7 {u v : Int} (h : (signR u v).2 = 2) : v ≠ 0 := by
 intro hv
 subst hv
 unfold signR at h
 repeat' split at h
 all_goals first
   | omega
   | exact absurd h (by decide)
theorem clsW {q : Int} (hi : i < s.length) (h : clsI (s.getD i 0) = q) : isI s i q = true := by
 unfold isI
 rw [decide_eq_true hi, h]; simp
theorem j4p {tk : Tk} (hi : i < s.length) (h : lexI s i = .good tk) : tk.from_ = i ∧ i < tk.to_ ∧ tk.to_ ≤ s.length := by
 unfold lexI at h
 split at h
 · rename_i c3
   cases hq : intI s i with
   | bad e => rw [hq] at h; cases h
   | good n e =>
     rw [hq] at h
     injection h with h
     subst h
     exact ⟨rfl, j0z hi (clsW hi c3) hq⟩
 · split at h
   · rename_i c4
     unfold wordI at h
     split at h
     · injection h with h
       subst h
       have h4 := clsW hi c4
       have hw : isW s i = true := by unfold isW; rw [h4]; rfl
       obtain ⟨f, hf⟩ : ∃ f, s.length - i = f + 1 := ⟨s.length - i - 1, by omega⟩
       have g := jk7 s f (i + 1)
       have e : runTo s (s.length - i) i = runTo s f (i + 1) := by rw [hf, runTo, if_pos hw]
       refine ⟨rfl, ?_, ?_⟩
       · show i < runTo s (s.length - i) i
         omega
       · show runTo s (s.length - i) i ≤ s.length
         omega
     · cases h
   · split at h
     · cases hq : textI s (s.length - i) i [] with
       | bad e => rw [hq] at h; cases h
       | good w e =>
         rw [hq] at h
         injection h with h
         subst h
         exact ⟨rfl, jh9 _ i [] w e hi hq⟩
     · split at h
       · unfold signI at h
         split at h
         · cases h
         · injection h with h
           subst h
           have l := yd6 ((s.getD i 0).toNat : Int) (nextB s i)
           refine ⟨rfl, ?_, ?_⟩
           · show i < i + (signR ((s.getD i 0).toNat : Int) (nextB s i)).2
             omega
           · show i + (signR ((s.getD i 0).toNat : Int) (nextB s i)).2 ≤ s.length
             by_cases q : (signR ((s.getD i 0).toNat : Int) (nextB s i)).2 = 2
             · have hn := yd7 q
               unfold nextB at hn
               split at hn
               · omega
               · exact absurd rfl hn
             · omega
       · cases h
def toksI (s : List UInt8) : Nat → Nat → List Tk × Option Nat
 | 0, _ => ([], none)
 | k + 1, i =>
   if skipTo s (s.length - i) i < s.length then
     match lexI s (skipTo s (s.length - i) i) with
     | .bad e => ([], some e)
     | .good tk => (tk :: (toksI s k tk.to_).1, (toksI s k tk.to_).2)
   else ([], none)
theorem j27 {N : Nat} {hk : Hook} {d : Nat} {a : Option Addr} {c : Nat} (K : HkOk hk) (hN : 2 * s.length + 100 < N) (hs : s.length ≤ 1048576) (hc : s.length ≤ c) :
   ∀ k i, i ≤ s.length → s.length ≤ i + k → TRun s (LexOk N hk (d + 4) a c s) (LexBad N hk (d + 4) a c s) i (toksI s (k + 1) i).1 (toksI s (k + 1) i).2 ∧ (toksI s (k + 1) i).1.length ≤ s.length - i
 | k, i, hi, hk' => by
   have g := jo7 s (s.length - i) i hi
   unfold toksI
   by_cases hlt : skipTo s (s.length - i) i < s.length
   · rw [if_pos hlt]
     obtain ⟨ok, bad⟩ := yv7 (N := N) (hk := hk) (d := d) (a := a) K hN hs hc hlt
     cases hq : lexI s (skipTo s (s.length - i) i) with
     | bad e => exact ⟨.wrong i e hlt (bad e hq), Nat.zero_le _⟩
     | good tk =>
       obtain ⟨f1, f2, f3⟩ := j4p hlt hq
       obtain ⟨k', rfl⟩ : ∃ q, k = q + 1 := ⟨k - 1, by omega⟩
       obtain ⟨r1, r2⟩ := j27 K hN hs hc k' tk.to_ f3 (by omega)
       refine ⟨.step i tk _ _ hlt f1 f3 (ok tk hq) r1, ?_⟩
       simp only [List.length_cons]
       omega
   · rw [if_neg hlt]
     exact ⟨.stop i hlt, Nat.zero_le _⟩
theorem j9d {N : Nat} {hk : Hook} {d : Nat} {H0 : Heap} {a : Option Addr} {c : Nat} (K : HkOk hk) (hG : Ext GE H0) (hr : Brow H0 a s) (hN : 2 * s.length + 100 < N) (hs : s.length ≤ 1048576) (hc : s.length ≤ c) :
   ∃ H', Ext H0 H' ∧ ∃ v e q, CG N hk (d + 5) 8 #[.slice a s.length c] H0 = some (.ret (.tuple #[v, .int .i64 e, .int .i64 q]), H') ∧
     (((toksI s (s.length + 1) 0).2 = none ∧ TkRow H' v (toksI s (s.length + 1) 0).1 (H0.next + 1) ∧ e = 0 ∧ q = 0) ∨ (∃ w : Nat, (toksI s (s.length + 1) 0).2 = some w ∧ v = .slice none 0 0 ∧ e = (w : Int) ∧ q = 60)) := by
 obtain ⟨run, hl⟩ := j27 (N := N) (hk := hk) (d := d) (a := a) K hN hs hc s.length 0 (Nat.zero_le _) (by omega)
 exact j57 hG hr K.nil (by omega) hs run (by omega)
end Go.Am
namespace Go.Am
variable {H : Heap}
theorem ym5 (l : List Value) (n : Nat) : over l n [] = l := by simp [over]
theorem BRow.brow {v : Value} {o : List UInt8} {lo : Nat} (h : BRow H v o lo) (hs : o.length < 9223372036854775808) : ∃ a, v = .slice a o.length o.length ∧ Brow H a o := by
 rcases h with ⟨rfl, rfl⟩ | ⟨hne, q, rfl, hg, _⟩
 · exact ⟨none, rfl, ⟨fun b hb => (by cases hb), fun _ => rfl, by decide⟩⟩
 · refine ⟨some ⟨q, 0, none⟩, rfl, ⟨fun b hb => ?_, fun e => (by cases e), hs⟩⟩
   obtain rfl := Option.some.inj hb
   refine ⟨_, by simp [look, hg]; rfl, rfl, by simp, ?_⟩
   simp only [List.drop_zero]
   rw [List.take_of_length_le (by simp)]
   rfl
theorem yv8 {a : Option Addr} {w : List UInt8} {c : Nat} (h : Brow H a w) : srcCells H 1 (.slice a w.length c) = some (w.length, w.map f8) := by
 cases a with
 | none =>
   have := h.nil rfl
   subst this; rfl
 | some a =>
   obtain ⟨x, h1, h2, h3, h4⟩ := h.row a rfl
   simp only [srcCells, h1, Nat.mul_one]
   rw [if_pos h3, h4]; rfl
theorem yv9 (H : Heap) (w : List UInt8) : srcCells H 1 (.string ⟨⟨w⟩⟩) = some (w.length, w.map f8) := by
 simp only [srcCells]
 rfl
theorem jp8 {v x : Value} {o w : List UInt8} {lo : Nat} {u : TypeId} (ho : BRow H v o lo) (hf : Fresh H) (hlo : lo ≤ H.next) (hu : (∃ e, PP.underlying u = some (.slice e)) ∨ PP.underlying u = some .string)
   (hx : srcCells H 1 x = some (w.length, w.map f8)) (hn : o.length + w.length ≤ 140737488355328) :
   ∃ v' H', appendA PP #[22, u] v x H = some (v', H') ∧ BRow H' v' (o ++ w) lo ∧ (∀ z y, z < lo → H.get z = some y → H'.get z = some y) ∧ H.next ≤ H'.next ∧ Fresh H' := by
 obtain ⟨i, h1, h2, h3⟩ := infoB
 have hA : appendA PP #[22, u] v x H = app H 1 1 v w.length (w.map f8) := by
   simp only [appendA]
   rcases hu with ⟨e, hu⟩ | hu <;> simp [hu, h1, h2, h3, zeroB, hx]
 rw [hA]
 have al : ∀ (G : Heap) (cells : List Value), Fresh G → Fresh (G.alloc 1 cells) := fun G cells hG z hz => by
   have hz' : G.next + 1 ≤ z := hz
   rw [Heap.get_alloc, if_neg (by omega)]; exact hG z (by omega)
 rcases ho with ⟨rfl, rfl⟩ | ⟨hne, q, rfl, hg, hlq⟩
 · by_cases hw : w.length = 0
   · have e : w = [] := List.length_eq_zero_iff.mp hw
     subst e
     exact ⟨_, H, by simp only [app]; rw [if_pos hw], .inl ⟨rfl, rfl⟩, fun z y _ h => h, Nat.le_refl _, hf⟩
   · refine ⟨_, _, by simp only [app]; rw [if_neg hw, if_pos (by unfold most; simp at hn; omega)]; rfl, .inr ⟨?_, H.next, by rw [List.nil_append], ?_, hlo⟩, fun z y hz hg => ?_, Nat.le_succ _, al _ _ hf⟩
     · intro e; rw [List.nil_append] at e; rw [e] at hw; exact hw rfl
     · rw [Heap.get_alloc, if_pos rfl]; rfl
     · rw [Heap.get_alloc, if_neg (by omega)]; exact hg
 · have hlen : o.length ≠ 0 := by simpa using hne
   have hl1 : (o.map f8).length = o.length := by simp
   have hlk : look H ⟨q, 0, none⟩ = some ⟨o.map f8, true, 1, none, false⟩ := by simp [look, hg]
   have hp : (w.map f8).all Value.oneCell' = true := j26 w
   have fd : Fresh (H.drop q) := fun z hz => by
     have hz' : H.next ≤ z := hz
     rw [Heap.get_drop]; split
     · rfl
     · exact hf z hz'
   by_cases hw : w.length = 0
   · have e : w = [] := List.length_eq_zero_iff.mp hw
     subst e
     refine ⟨.slice (some ⟨q, 0, none⟩) o.length o.length, H.set q ⟨o.map f8, true, 1, none, false⟩, ?_, ?_, fun z y hz hy => ?_, Nat.le_refl _, fun z hz => ?_⟩
     · simp only [app, hlk]
       rw [if_pos ⟨trivial, trivial, by simp, hp, by unfold most; simp at hn ⊢; omega, by unfold most; simp at hn ⊢; omega⟩, if_pos (by simp), if_pos (by simp), List.map_nil, ym5]
       simp
     · rw [List.append_nil]
       exact .inr ⟨hne, q, rfl, by rw [Heap.get_set, if_pos rfl], hlq⟩
     · rw [Heap.get_set, if_neg (by omega)]; exact hy
     · rw [Heap.get_set]
       have hz' : H.next ≤ z := hz
       have hq : q < H.next := by
         rcases Nat.lt_or_ge q H.next with c | c
         · exact c
         · rw [hf q c] at hg; cases hg
       rw [if_neg (by omega)]; exact hf z hz'
   · refine ⟨_, (H.drop q).alloc 1 ((o ++ w).map f8), ?_, .inr ⟨by simp [hne], H.next, rfl, ?_, hlo⟩, fun z y hz hy => ?_, Nat.le_succ _, al (H.drop q) _ fd⟩
     · simp only [app, hlk]
       rw [if_pos ⟨trivial, trivial, by simp, hp, by unfold most; omega, by unfold most; omega⟩, if_neg (by omega), if_pos (by first | omega | (simp; omega))]
       have e1 : (List.drop 0 (o.map f8)).take (o.length * 1) = o.map f8 := by rw [List.drop_zero, Nat.mul_one, ← hl1, List.take_length]
       simp only [e1, mkRow, List.map_append, List.length_append]
       rfl
     · rw [Heap.get_alloc]; exact if_pos rfl
     · rw [Heap.get_alloc, if_neg (by show ¬ z = H.next; omega), Heap.get_drop, if_neg (by omega)]; exact hy
theorem jc3 (u : TypeId) (s x : Value) (H : Heap) (k : Value → Heap → R) : builtinK PP .append #[22, u] #[s, x] H k = bindV (appendA PP #[22, u] s x H) k := by simp [builtinK]
end Go.Am
namespace Go.Am
def hexD (n : Nat) : UInt8 := if n < 10 then UInt8.ofNat (48 + n) else UInt8.ofNat (87 + n)
def escB (c : UInt8) : List UInt8 :=
 if c = 10 then [92, 110] else if c = 9 then [92, 116]
 else if c.toNat < 32 ∨ 126 < c.toNat then [92, 120, hexD (c.toNat / 16), hexD (c.toNat % 16)]
 else if c = 34 ∨ c = 92 then [92, c] else [c]
def bodyB (t : List UInt8) : List UInt8 := t.flatMap escB
def quoteB (t : List UInt8) : List UInt8 := 34 :: bodyB t ++ [34]
theorem yd8 (c : UInt8) : 1 ≤ (escB c).length ∧ (escB c).length ≤ 4 := by
 unfold escB
 repeat' split
 all_goals exact ⟨by simp, by simp⟩
theorem jp9 : ∀ t : List UInt8, t.length ≤ (bodyB t).length ∧ (bodyB t).length ≤ 4 * t.length
 | [] => ⟨Nat.le_refl _, Nat.le_refl _⟩
 | c :: t => by
   have e : bodyB (c :: t) = escB c ++ bodyB t := by simp [bodyB]
   have h1 := yd8 c
   have h2 := jp9 t
   rw [e, List.length_append, List.length_cons]
   omega
def digN (n : Nat) : Bool := decide (48 ≤ n) && decide (n ≤ 57)
def wbN (n : Nat) : Bool := digN n || (decide (97 ≤ n) && decide (n ≤ 122)) || (decide (65 ≤ n) && decide (n ≤ 90)) || decide (n = 95)
def rhN (n : Nat) : Int := if 48 ≤ n ∧ n ≤ 57 then (n : Int) - 48 else if 97 ≤ n ∧ n ≤ 102 then (n : Int) - 87 else if 65 ≤ n ∧ n ≤ 70 then (n : Int) - 55 else -1
theorem split256 {p : Nat → Bool} (h0 : (List.range' 0 100).all p = true) (h1 : (List.range' 100 100).all p = true) (h2 : (List.range' 200 56).all p = true) : (List.range 256).all p = true := by
 rw [List.all_eq_true]
 intro u hu
 rw [List.mem_range] at hu
 by_cases c0 : u < 100
 · exact List.all_eq_true.mp h0 u (by rw [List.mem_range'_1]; omega)
 · by_cases c1 : u < 200
   · exact List.all_eq_true.mp h1 u (by rw [List.mem_range'_1]; omega)
   · exact List.all_eq_true.mp h2 u (by rw [List.mem_range'_1]; omega)
theorem yw0 : (List.range 256).all (fun u => okRow (fast hook0) GE ⟨48, [.int .u8 (u : Int)], .bool (digN u)⟩) = true := split256 (by decide +kernel) (by decide +kernel) (by decide +kernel)
theorem y0m : (List.range 256).all (fun u => okRow (fast hook0) GE ⟨51, [.int .u8 (u : Int)], .bool (wbN u)⟩) = true := split256 (by decide +kernel) (by decide +kernel) (by decide +kernel)
theorem y0n : (List.range 256).all (fun u => okRow (fast hook0) GE ⟨67, [.int .u8 (u : Int)], .int .i64 (rhN u)⟩) = true := split256 (by decide +kernel) (by decide +kernel) (by decide +kernel)
def kn : PureRow := ⟨7, [], .bool true⟩
theorem okKn : okRow (fast hook0) GE kn = true := by decide +kernel
def kPw : PureRow := ⟨89, [.int .i64 16], .bool true⟩
def kTz : PureRow := ⟨90, [.int .u64 16], .int .i64 4⟩
theorem okPw : okRow (fast hook0) GE kPw = true := by decide +kernel
theorem okTz : okRow (fast hook0) GE kTz = true := by decide +kernel
set_option maxRecDepth 100000
noncomputable abbrev cRA4 : Code := .seq (.seq (rF Tryz.f49 1) (.cond (.tmp 14) .skip (.exit 0))) (.block 1 (rF Tryz.f49 2))
noncomputable abbrev cRA3 : Code := .seq (.seq (rF Tryz.f29 4) (.cond (.tmp 24) .skip (.exit 2))) (.block 3 (rF Tryz.f29 5))
noncomputable abbrev cRA2 : Code := .seq (.seq (rF Tryz.f52 2) (.cond (.tmp 5) .skip (.exit 0))) (.seq (.block 1 (.seq (rF Tryz.f52 4) (.cond (.tmp 12) (.seq (rF Tryz.f52 5) .ret) .skip))) (rF Tryz.f52 3))
noncomputable abbrev cRA1 : Code := .seq (.seq (rF Tryz.f29 1) (.cond (.tmp 9) .skip (.exit 0))) (.block 1 (.seq (rF Tryz.f29 2) (.seq (rF Tryz.f29 3) (.cond (.tmp 14) (.block 2 (.loop cRA3)) (.seq (rF Tryz.f29 6) (.cond (.tmp 40) (rF Tryz.f29 7) (.seq (rF Tryz.f29 8) .ret)))))))
theorem r_un {P : Program} {X : Xf} {K : Kf} {A : Array Oper} {d : Option Tmp} {t : TypeId} {p : String} {af : Array Edge} {E : Env} {ds : List Deferred} {H : Heap} {k : KE} {kp : List PanicEntry → KE} (op : Op) (j : Nat) (w : Bool) (e : Tmp) (rest : List Oper) (hd : (A[j]?).bind (·.dst) = some e) (h : E e = undef) :
   execOpsE P X K A (⟨d, op, t, p, af, some (j, w)⟩ :: rest) E ds H k kp = execOpsE P X K A rest (upd E d undef) ds H k kp := by
 show guardE A _ E _ _ = _
 simp [guardE, hd, h, undef]
theorem jg8 {p : UInt8 → Bool} (h : (List.range 256).all (fun n => p (UInt8.ofNat n)) = true) (u : UInt8) : p u = true := by
 have := List.all_eq_true.mp h u.toNat (List.mem_range.mpr u.toNat_lt)
 have e : UInt8.ofNat u.toNat = u := by simp
 rw [e] at this
 exact this
theorem jb5 (s : List UInt8) (H : Heap) (k : Value → Heap → R) : builtinK PP .len #[9] #[.string ⟨⟨s⟩⟩] H k = k (.int .i64 s.length) H := by
 have e : (⟨⟨s⟩⟩ : ByteArray).size = s.length := rfl
 simp [builtinK, lenA, bindO, e]
theorem jc5 {s : List UInt8} {i : Nat} (h : i < s.length) : indexA PP 9 (.string ⟨⟨s⟩⟩) (.int .i64 (i : Int)) = some (.int .u8 (s[i].toNat : Int)) := by
 have e : (⟨⟨s⟩⟩ : ByteArray)[i]? = some s[i] := by
   show (if h : i < (⟨⟨s⟩⟩ : ByteArray).size then some ((⟨⟨s⟩⟩ : ByteArray)[i]) else none) = _
   rw [dif_pos (show i < (⟨⟨s⟩⟩ : ByteArray).size from h)]
   rfl
 simp only [indexA, undStr, byteAt]
 rw [if_pos (by omega)]
 simp only [Int.toNat_natCast, e]
theorem jr3 {s : List UInt8} {i j : Nat} (h1 : i ≤ j) (h2 : j ≤ s.length) (H : Heap) : sliceOpA PP 9 (.string ⟨⟨s⟩⟩) (some (.int .i64 (i : Int))) (some (.int .i64 (j : Int))) none H = some (.string ⟨⟨(s.take j).drop i⟩⟩) := by
 have e : (⟨⟨s⟩⟩ : ByteArray).size = s.length := rfl
 simp only [sliceOpA, undStr, sliceS, e]
 rw [if_pos (by omega)]
 simp only [Int.toNat_natCast]
 congr 2
 apply ByteArray.ext
 apply Array.ext'
 simp [ByteArray.data_extract]
 rw [List.drop_take]
structure HkR (hk : Hook) : Prop where
 nil : NH hk
 dig : ∀ (u : UInt8) H, Ext GE H → hk 48 #[.int .u8 (u.toNat : Int)] H = some (some (.ret (.bool (digN u.toNat)), H))
 wb : ∀ (u : UInt8) H, Ext GE H → hk 51 #[.int .u8 (u.toNat : Int)] H = some (some (.ret (.bool (wbN u.toNat)), H))
 hex : ∀ (u : UInt8) H, Ext GE H → hk 67 #[.int .u8 (u.toNat : Int)] H = some (some (.ret (.int .i64 (rhN u.toNat)), H))
theorem yw1 (u : UInt8) : (decide (clsI u = 1) == (u == 32 || u == 9 || u == 10 || u == 13)) = true := jg8 (p := fun u => decide (clsI u = 1) == (u == 32 || u == 9 || u == 10 || u == 13)) (by decide +kernel) u
theorem yw2 (u : UInt8) : (decide (clsI u = 2) == (u == 35)) = true := jg8 (p := fun u => decide (clsI u = 2) == (u == 35)) (by decide +kernel) u
theorem y0o (u : UInt8) : ((decide (clsI u = 4) || decide (clsI u = 3)) == wbN u.toNat) = true := jg8 (p := fun u => (decide (clsI u = 4) || decide (clsI u = 3)) == wbN u.toNat) (by decide +kernel) u
theorem yw3 (u : UInt8) : (decide (clsI u = 3) == digN u.toNat) = true := jg8 (p := fun u => decide (clsI u = 3) == digN u.toNat) (by decide +kernel) u
theorem j7b (u : UInt8) : (decide (clsI u = 5) == (u == 34)) = true := jg8 (p := fun u => decide (clsI u = 5) == (u == 34)) (by decide +kernel) u
theorem yd9 {s : List UInt8} {i : Nat} (hi : i < s.length) : isI s i 1 = (s[i] == 32 || s[i] == 9 || s[i] == 10 || s[i] == 13) := by
 have := yw1 s[i]
 rw [beq_iff_eq] at this
 rw [isI, je7 s hi, decide_eq_true hi, Bool.true_and, ← this]
 rw [Bool.eq_iff_iff]; simp
theorem ye0 {s : List UInt8} {i : Nat} (hi : i < s.length) : isI s i 2 = (s[i] == 35) := by
 have := yw2 s[i]
 rw [beq_iff_eq] at this
 rw [isI, je7 s hi, decide_eq_true hi, Bool.true_and, ← this]
 rw [Bool.eq_iff_iff]; simp
theorem jw8 {s : List UInt8} {i : Nat} (hi : i < s.length) : isI s i 3 = digN s[i].toNat := by
 have := yw3 s[i]
 rw [beq_iff_eq] at this
 rw [isI, je7 s hi, decide_eq_true hi, Bool.true_and, ← this]
 rw [Bool.eq_iff_iff]; simp
theorem j00 {s : List UInt8} {i : Nat} (hi : i < s.length) : isW s i = wbN s[i].toNat := by
 have := y0o s[i]
 rw [beq_iff_eq] at this
 rw [isW, isI, isI, je7 s hi, decide_eq_true hi, Bool.true_and, Bool.true_and, ← this]
 rw [Bool.eq_iff_iff]; simp
theorem code29 : codeOf Tryz.f29 = .seq (rF Tryz.f29 0) (.seq (.block 0 (.loop cRA1)) (.seq (rF Tryz.f29 9) .ret)) := by kernel_rfl
theorem j28 : ((rgn Tryz.f29 4)[4]?).bind (·.dst) = some 19 := by kernel_rfl
theorem ju5 : ((rgn Tryz.f29 6)[2]?).bind (·.dst) = some 29 := by kernel_rfl
theorem ju6 : ((rgn Tryz.f29 6)[6]?).bind (·.dst) = some 33 := by kernel_rfl
theorem jo8 : ((rgn Tryz.f29 6)[10]?).bind (·.dst) = some 37 := by kernel_rfl
theorem code49 : codeOf Tryz.f49 = .seq (rF Tryz.f49 0) (.seq (.block 0 (.loop cRA4)) (.seq (rF Tryz.f49 3) .ret)) := by kernel_rfl
theorem j29 : ((rgn Tryz.f49 1)[4]?).bind (·.dst) = some 9 := by kernel_rfl
theorem code52 : codeOf Tryz.f52 = .seq (rF Tryz.f52 0) (.seq (.seq (rF Tryz.f52 1) (.block 0 (.loop cRA2))) (.seq (rF Tryz.f52 6) .ret)) := by kernel_rfl
section
theorem j9e {K : Kf} {N : Nat} {H : Heap} {s : List UInt8} {i : Nat} {E : Env} {Q : R → Prop} {k : KOE} (e0 : E 0 = .string ⟨⟨s⟩⟩) (e1 : E 1 = .int .i64 (i : Int)) (hi : i < s.length) (hsm : s.length < 9223372036854775808) (hne : s[i] ≠ 10) (hx : ∀ E', E' 0 = .string ⟨⟨s⟩⟩ → E' 1 = .int .i64 ((i + 1 : Nat) : Int) → Q (k .norm E' [] H)) :
   Q (execG PP XX K N noPr cRA3 none E [] H k) := by
 have w : IntKind.i64.wrap ((i : Int) + 1) = ((i + 1 : Nat) : Int) := by rw [ja4 (by omega) (by omega)]; omega
 have hlt : decide ((i : Int) < (s.length : Int)) = true := decide_eq_true (by omega)
 have hix := jc5 (s := s) hi
 have h10 : ((s[i].toNat : Int) != 10) = true := by
   have := ja7 s[i] 10
   have e : ((10 : UInt8).toNat : Int) = 10 := rfl
   rw [e] at this
   simp only [bne, this, decide_eq_false hne, Bool.not_false]
 have lL := lX2 Tryz.f29 4 5
 conv at lL in (occs := *) (rq _ _) => all_goals simp only [rX, oA, Tryz.f29, dL.o, reduceIte, Nat.reduceEqDiff]
 obtain ⟨l4, l5⟩ := lL
 simp +decide only [↓uR.o, dG.o, ja1, reduceIte, ↓ja0 l4, ↓ja0 l5, ↓jb8 _ 4 true 19 _ j28, e0, e1, jb5, hlt, h10, w, hix]
 exact hx _ (by simp +decide only [ja1, reduceIte, e0]) (by simp +decide only [ja1, reduceIte, e1])
theorem j12 {K : Kf} {N : Nat} {H : Heap} {s : List UInt8} {i : Nat} {E : Env} {Q : R → Prop} {k : KOE} (e0 : E 0 = .string ⟨⟨s⟩⟩) (e1 : E 1 = .int .i64 (i : Int)) (hs : i < s.length → s.getD i 0 = 10) (hx : ∀ E', E' 0 = .string ⟨⟨s⟩⟩ → E' 1 = .int .i64 (i : Int) → Q (k (.exit 2) E' [] H)) :
   Q (execG PP XX K N noPr cRA3 none E [] H k) := by
 by_cases hi : i < s.length
 · have hlt : decide ((i : Int) < (s.length : Int)) = true := decide_eq_true (by omega)
   have hix := jc5 (s := s) hi
   have he : s[i] = 10 := by have := hs hi; simpa [List.getD, hi] using this
   have h10 : ((s[i].toNat : Int) != 10) = false := by rw [he]; rfl
   have lL := lX2 Tryz.f29 4 5
   conv at lL in (occs := *) (rq _ _) => all_goals simp only [rX, oA, Tryz.f29, dL.o, reduceIte, Nat.reduceEqDiff]
   obtain ⟨l4, l5⟩ := lL
   simp +decide only [↓uR.o, dG.o, ja1, reduceIte, ↓ja0 l4, ↓jb8 _ 4 true 19 _ j28, e0, e1, jb5, hlt, h10, hix]
   exact hx _ (by simp +decide only [ja1, reduceIte, e0]) (by simp +decide only [ja1, reduceIte, e1])
 · have hlt : decide ((i : Int) < (s.length : Int)) = false := decide_eq_false (by omega)
   have lL := lX2 Tryz.f29 4 5
   conv at lL in (occs := *) (rq _ _) => all_goals simp only [rX, oA, Tryz.f29, dL.o, reduceIte, Nat.reduceEqDiff]
   obtain ⟨l4, l5⟩ := lL
   simp +decide only [↓uR.o, dG.o, ja1, reduceIte, Bool.not_true, ↓ja0 l4, ↓r_no _ 4 true 19 _ j28, e0, e1, jb5, hlt]
   exact hx _ (by simp +decide only [ja1, reduceIte, e0]) (by simp +decide only [ja1, reduceIte, e1])
theorem j13 {K : Kf} {N : Nat} {H : Heap} {s : List UInt8} {Q : R → Prop} {k : KOE} (hsm : s.length < 9223372036854775808) :
   ∀ (n i m : Nat) (_ : i + n = s.length) (_ : n < m) {E : Env} (_ : E 0 = .string ⟨⟨s⟩⟩) (_ : E 1 = .int .i64 (i : Int)) (_ : ∀ E', E' 0 = .string ⟨⟨s⟩⟩ → E' 1 = .int .i64 (lineEnd s n i : Int) → Q (k (.exit 2) E' [] H)),
     Q (loopE (execG PP XX K N noPr cRA3 none) m E [] H k)
 | 0, i, m + 1, hn, hm, E, e0, e1, hx => by
   rw [ja5]
   exact j12 e0 e1 (fun hi => by omega) fun E' e' e'' => hx E' e' e''
 | n + 1, i, m + 1, hn, hm, E, e0, e1, hx => by
   rw [ja5]
   by_cases h10 : s.getD i 0 = 10
   · have e : lineEnd s (n + 1) i = i := by unfold lineEnd; rw [if_pos h10]
     rw [e] at hx
     exact j12 e0 e1 (fun _ => h10) fun E' e' e'' => hx E' e' e''
   · have e : lineEnd s (n + 1) i = lineEnd s n (i + 1) := by rw [lineEnd, if_neg h10]
     rw [e] at hx
     have hi : i < s.length := by omega
     refine j9e e0 e1 hi hsm (by simpa [List.getD, hi] using h10) fun E' e' e'' => ?_
     rw [jc9]
     exact j13 hsm n (i + 1) m (by omega) (by omega) e' e'' hx
theorem yq8 {K : Kf} {N : Nat} {H : Heap} {s : List UInt8} {i : Nat} {E : Env} {Q : R → Prop} {k : KOE} (e0 : E 0 = .string ⟨⟨s⟩⟩) (e1 : E 1 = .int .i64 (i : Int)) (hi : ¬ i < s.length) (hx : ∀ E', E' 0 = .string ⟨⟨s⟩⟩ → E' 1 = .int .i64 (i : Int) → Q (k (.exit 0) E' [] H)) :
   Q (execG PP XX K N noPr cRA1 none E [] H k) := by
 have hlt : decide ((i : Int) < (s.length : Int)) = false := decide_eq_false (by omega)
 have l1 := tl (rgn Tryz.f29 1)
 conv at l1 => rhs; simp only [rgn, oA, codeOf, Tryz.f29, gS, gN, reduceIte, Nat.reduceEqDiff, tA]
 simp +decide only [↓uR.o, dG.o, ja1, reduceIte, ↓ja0 l1, e0, e1, jb5, hlt]
 exact hx _ (by simp +decide only [ja1, reduceIte, e0]) (by simp +decide only [ja1, reduceIte, e1])
theorem yw4 {K : Kf} {N : Nat} {H : Heap} {s : List UInt8} {i : Nat} {E : Env} {Q : R → Prop} {k : KOE} (e0 : E 0 = .string ⟨⟨s⟩⟩) (e1 : E 1 = .int .i64 (i : Int)) (hi : i < s.length) (hsm : s.length < 9223372036854775808) (hN : s.length < N) (hc : s[i] = 35) (hx : ∀ E', E' 0 = .string ⟨⟨s⟩⟩ → E' 1 = .int .i64 (lineEnd s (s.length - i) i : Int) → Q (k .norm E' [] H)) :
   Q (execG PP XX K N noPr cRA1 none E [] H k) := by
 have hlt : decide ((i : Int) < (s.length : Int)) = true := decide_eq_true (by omega)
 have hix := jc5 (s := s) hi
 have z35 : ((s[i].toNat : Int) == 35) = true := (ja7 s[i] 35).trans (by rw [hc]; rfl)
 have lL := lX3 Tryz.f29 1 2 3
 conv at lL in (occs := *) (rq _ _) => all_goals simp only [rX, oA, Tryz.f29, dL.o, reduceIte, Nat.reduceEqDiff]
 obtain ⟨l1, l2, l3⟩ := lL
 simp +decide only [↓uR.o, dG.o, ja1, reduceIte, ↓ja0 l1, ↓ja0 l2, ↓ja0 l3, e0, e1, jb5, hlt, hix, z35, ↓jb4]
 refine j13 hsm (s.length - i) i N (by omega) (by omega) ?_ ?_ fun E' e' e'' => ?_
 · simp +decide only [ja1, reduceIte, e0]
 · simp +decide only [ja1, reduceIte, e1]
 simp +decide only [dG.o]
 exact hx E' e' e''
theorem y0p {K : Kf} {N : Nat} {H : Heap} {s : List UInt8} {i : Nat} {E : Env} {Q : R → Prop} {k : KOE} (e0 : E 0 = .string ⟨⟨s⟩⟩) (e1 : E 1 = .int .i64 (i : Int)) (hi : i < s.length) (hsm : s.length < 9223372036854775808) (hc : s[i] = 32) (hx : ∀ E', E' 0 = .string ⟨⟨s⟩⟩ → E' 1 = .int .i64 ((i + 1 : Nat) : Int) → Q (k .norm E' [] H)) :
   Q (execG PP XX K N noPr cRA1 none E [] H k) := by
 have w : IntKind.i64.wrap ((i : Int) + 1) = ((i + 1 : Nat) : Int) := by rw [ja4 (by omega) (by omega)]; omega
 have hlt : decide ((i : Int) < (s.length : Int)) = true := decide_eq_true (by omega)
 have hix := jc5 (s := s) hi
 have z35 : ((s[i].toNat : Int) == 35) = false := (ja7 s[i] 35).trans (by rw [hc]; rfl)
 have z32 : ((s[i].toNat : Int) == 32) = true := (ja7 s[i] 32).trans (by rw [hc]; rfl)
 have lL := lX5 Tryz.f29 1 2 3 6 7
 conv at lL in (occs := *) (rq _ _) => all_goals simp only [rX, oA, Tryz.f29, dL.o, reduceIte, Nat.reduceEqDiff]
 obtain ⟨l1, l2, l3, l6, l7⟩ := lL
 simp +decide only [↓uR.o, dG.o, ja1, reduceIte, Bool.not_false, ↓ja0 l1, ↓ja0 l2, ↓ja0 l3, ↓ja0 l6, ↓ja0 l7, ↓r_no _ 2 false 29 _ ju5, ↓r_no _ 6 false 33 _ ju6, ↓r_no _ 10 false 37 _ jo8, e0, e1, jb5, hlt, hix, z35, z32, w]
 exact hx _ (by simp +decide only [ja1, reduceIte, e0]) (by simp +decide only [ja1, reduceIte, e1])
theorem y1t {K : Kf} {N : Nat} {H : Heap} {s : List UInt8} {i : Nat} {E : Env} {Q : R → Prop} {k : KOE} (e0 : E 0 = .string ⟨⟨s⟩⟩) (e1 : E 1 = .int .i64 (i : Int)) (hi : i < s.length) (hsm : s.length < 9223372036854775808) (hc : s[i] = 9) (hx : ∀ E', E' 0 = .string ⟨⟨s⟩⟩ → E' 1 = .int .i64 ((i + 1 : Nat) : Int) → Q (k .norm E' [] H)) :
   Q (execG PP XX K N noPr cRA1 none E [] H k) := by
 have w : IntKind.i64.wrap ((i : Int) + 1) = ((i + 1 : Nat) : Int) := by rw [ja4 (by omega) (by omega)]; omega
 have hlt : decide ((i : Int) < (s.length : Int)) = true := decide_eq_true (by omega)
 have hix := jc5 (s := s) hi
 have z35 : ((s[i].toNat : Int) == 35) = false := (ja7 s[i] 35).trans (by rw [hc]; rfl)
 have z32 : ((s[i].toNat : Int) == 32) = false := (ja7 s[i] 32).trans (by rw [hc]; rfl)
 have z9 : ((s[i].toNat : Int) == 9) = true := (ja7 s[i] 9).trans (by rw [hc]; rfl)
 have lL := lX5 Tryz.f29 1 2 3 6 7
 conv at lL in (occs := *) (rq _ _) => all_goals simp only [rX, oA, Tryz.f29, dL.o, reduceIte, Nat.reduceEqDiff]
 obtain ⟨l1, l2, l3, l6, l7⟩ := lL
 simp +decide only [↓uR.o, dG.o, ja1, reduceIte, Bool.not_false, ↓ja0 l1, ↓ja0 l2, ↓ja0 l3, ↓ja0 l6, ↓ja0 l7, ↓jb8 _ 2 false 29 _ ju5, ↓r_no _ 6 false 33 _ ju6, ↓r_no _ 10 false 37 _ jo8, e0, e1, jb5, hlt, hix, z35, z32, z9, w]
 exact hx _ (by simp +decide only [ja1, reduceIte, e0]) (by simp +decide only [ja1, reduceIte, e1])
theorem y0q {K : Kf} {N : Nat} {H : Heap} {s : List UInt8} {i : Nat} {E : Env} {Q : R → Prop} {k : KOE} (e0 : E 0 = .string ⟨⟨s⟩⟩) (e1 : E 1 = .int .i64 (i : Int)) (hi : i < s.length) (hsm : s.length < 9223372036854775808) (hc : s[i] = 10) (hx : ∀ E', E' 0 = .string ⟨⟨s⟩⟩ → E' 1 = .int .i64 ((i + 1 : Nat) : Int) → Q (k .norm E' [] H)) :
   Q (execG PP XX K N noPr cRA1 none E [] H k) := by
 have w : IntKind.i64.wrap ((i : Int) + 1) = ((i + 1 : Nat) : Int) := by rw [ja4 (by omega) (by omega)]; omega
 have hlt : decide ((i : Int) < (s.length : Int)) = true := decide_eq_true (by omega)
 have hix := jc5 (s := s) hi
 have z35 : ((s[i].toNat : Int) == 35) = false := (ja7 s[i] 35).trans (by rw [hc]; rfl)
 have z32 : ((s[i].toNat : Int) == 32) = false := (ja7 s[i] 32).trans (by rw [hc]; rfl)
 have z9 : ((s[i].toNat : Int) == 9) = false := (ja7 s[i] 9).trans (by rw [hc]; rfl)
 have z10 : ((s[i].toNat : Int) == 10) = true := (ja7 s[i] 10).trans (by rw [hc]; rfl)
 have lL := lX5 Tryz.f29 1 2 3 6 7
 conv at lL in (occs := *) (rq _ _) => all_goals simp only [rX, oA, Tryz.f29, dL.o, reduceIte, Nat.reduceEqDiff]
 obtain ⟨l1, l2, l3, l6, l7⟩ := lL
 simp +decide only [↓uR.o, dG.o, ja1, reduceIte, Bool.not_false, ↓ja0 l1, ↓ja0 l2, ↓ja0 l3, ↓ja0 l6, ↓ja0 l7, ↓jb8 _ 2 false 29 _ ju5, ↓jb8 _ 6 false 33 _ ju6, ↓r_no _ 10 false 37 _ jo8, e0, e1, jb5, hlt, hix, z35, z32, z9, z10, w]
 exact hx _ (by simp +decide only [ja1, reduceIte, e0]) (by simp +decide only [ja1, reduceIte, e1])
theorem y0r {K : Kf} {N : Nat} {H : Heap} {s : List UInt8} {i : Nat} {E : Env} {Q : R → Prop} {k : KOE} (e0 : E 0 = .string ⟨⟨s⟩⟩) (e1 : E 1 = .int .i64 (i : Int)) (hi : i < s.length) (hsm : s.length < 9223372036854775808) (hc : s[i] = 13) (hx : ∀ E', E' 0 = .string ⟨⟨s⟩⟩ → E' 1 = .int .i64 ((i + 1 : Nat) : Int) → Q (k .norm E' [] H)) :
   Q (execG PP XX K N noPr cRA1 none E [] H k) := by
 have w : IntKind.i64.wrap ((i : Int) + 1) = ((i + 1 : Nat) : Int) := by rw [ja4 (by omega) (by omega)]; omega
 have hlt : decide ((i : Int) < (s.length : Int)) = true := decide_eq_true (by omega)
 have hix := jc5 (s := s) hi
 have z35 : ((s[i].toNat : Int) == 35) = false := (ja7 s[i] 35).trans (by rw [hc]; rfl)
 have z32 : ((s[i].toNat : Int) == 32) = false := (ja7 s[i] 32).trans (by rw [hc]; rfl)
 have z9 : ((s[i].toNat : Int) == 9) = false := (ja7 s[i] 9).trans (by rw [hc]; rfl)
 have z10 : ((s[i].toNat : Int) == 10) = false := (ja7 s[i] 10).trans (by rw [hc]; rfl)
 have z13 : ((s[i].toNat : Int) == 13) = true := (ja7 s[i] 13).trans (by rw [hc]; rfl)
 have lL := lX5 Tryz.f29 1 2 3 6 7
 conv at lL in (occs := *) (rq _ _) => all_goals simp only [rX, oA, Tryz.f29, dL.o, reduceIte, Nat.reduceEqDiff]
 obtain ⟨l1, l2, l3, l6, l7⟩ := lL
 simp +decide only [↓uR.o, dG.o, ja1, reduceIte, ↓ja0 l1, ↓ja0 l2, ↓ja0 l3, ↓ja0 l6, ↓ja0 l7, ↓jb8 _ 2 false 29 _ ju5, ↓jb8 _ 6 false 33 _ ju6, ↓jb8 _ 10 false 37 _ jo8, e0, e1, jb5, hlt, hix, z35, z32, z9, z10, z13, w]
 exact hx _ (by simp +decide only [ja1, reduceIte, e0]) (by simp +decide only [ja1, reduceIte, e1])
theorem ym6 {K : Kf} {N : Nat} {H : Heap} {s : List UInt8} {i : Nat} {E : Env} {Q : R → Prop} {k : KOE} (e0 : E 0 = .string ⟨⟨s⟩⟩) (e1 : E 1 = .int .i64 (i : Int)) (hi : i < s.length) (h1 : isI s i 1 = false) (h2 : isI s i 2 = false) (hx : ∀ E', E' 4 = .int .i64 (i : Int) → Q (k .ret E' [] H)) :
   Q (execG PP XX K N noPr cRA1 none E [] H k) := by
 have hlt : decide ((i : Int) < (s.length : Int)) = true := decide_eq_true (by omega)
 have hix := jc5 (s := s) hi
 rw [yd9 hi] at h1
 rw [ye0 hi] at h2
 simp only [Bool.or_eq_false_iff, beq_eq_false_iff_ne] at h1 h2
 obtain ⟨⟨⟨q32, q9⟩, q10⟩, q13⟩ := h1
 have z35 : ((s[i].toNat : Int) == 35) = false := (ja7 s[i] 35).trans (decide_eq_false h2)
 have z32 : ((s[i].toNat : Int) == 32) = false := (ja7 s[i] 32).trans (decide_eq_false q32)
 have z9 : ((s[i].toNat : Int) == 9) = false := (ja7 s[i] 9).trans (decide_eq_false q9)
 have z10 : ((s[i].toNat : Int) == 10) = false := (ja7 s[i] 10).trans (decide_eq_false q10)
 have z13 : ((s[i].toNat : Int) == 13) = false := (ja7 s[i] 13).trans (decide_eq_false q13)
 have lL := lX5 Tryz.f29 1 2 3 6 8
 conv at lL in (occs := *) (rq _ _) => all_goals simp only [rX, oA, Tryz.f29, dL.o, reduceIte, Nat.reduceEqDiff]
 obtain ⟨l1, l2, l3, l6, l8⟩ := lL
 simp +decide only [↓uR.o, dG.o, ja1, reduceIte, ↓ja0 l1, ↓ja0 l2, ↓ja0 l3, ↓ja0 l6, ↓ja0 l8, ↓jb8 _ 2 false 29 _ ju5, ↓jb8 _ 6 false 33 _ ju6, ↓jb8 _ 10 false 37 _ jo8, e0, e1, jb5, hlt, hix, z35, z32, z9, z10, z13]
 exact hx _ (by simp +decide only [ja1, reduceIte])
theorem j6c {K : Kf} {N : Nat} {H : Heap} {s : List UInt8} {Q : R → Prop} {k : KOE} (hsm : s.length < 9223372036854775808) (hN : s.length < N) :
   ∀ (n i m : Nat) (_ : i ≤ s.length) (_ : s.length ≤ i + n) (_ : n < m) {E : Env} (_ : E 0 = .string ⟨⟨s⟩⟩) (_ : E 1 = .int .i64 (i : Int))
     (_ : ∀ E', E' 1 = .int .i64 (skipTo s n i : Int) → Q (k (.exit 0) E' [] H)) (_ : ∀ E', E' 4 = .int .i64 (skipTo s n i : Int) → Q (k .ret E' [] H)),
     Q (loopE (execG PP XX K N noPr cRA1 none) m E [] H k)
 | 0, i, m + 1, hi, hn, hm, E, e0, e1, hx, hy => by
   rw [ja5]
   exact yq8 e0 e1 (by omega) fun E' _ e'' => hx E' e''
 | n + 1, i, m + 1, hi, hn, hm, E, e0, e1, hx, hy => by
   rw [ja5]
   by_cases hl : i < s.length
   · by_cases h1 : isI s i 1 = true
     · have e : skipTo s (n + 1) i = skipTo s n (i + 1) := by rw [skipTo, if_pos h1]
       rw [e] at hx hy
       have go : ∀ E', E' 0 = .string ⟨⟨s⟩⟩ → E' 1 = .int .i64 ((i + 1 : Nat) : Int) → Q (thenE (fun E ds H k => loopE (execG PP XX K N noPr cRA1 none) m E ds H k) k .norm E' [] H) := fun E' e' e'' => by
         rw [jc9]
         exact j6c hsm hN n (i + 1) m (by omega) (by omega) (by omega) e' e'' hx hy
       rw [yd9 hl] at h1
       simp only [Bool.or_eq_true, beq_iff_eq] at h1
       rcases h1 with ((q | q) | q) | q
       · exact y0p e0 e1 hl hsm q go
       · exact y1t e0 e1 hl hsm q go
       · exact y0q e0 e1 hl hsm q go
       · exact y0r e0 e1 hl hsm q go
     · have h1 : isI s i 1 = false := by simpa using h1
       by_cases h2 : isI s i 2 = true
       · have e : skipTo s (n + 1) i = skipTo s n (lineEnd s (s.length - i) i) := by rw [skipTo, h1, if_neg (by decide), if_pos h2]
         rw [e] at hx hy
         rw [ye0 hl] at h2
         have g := jl7 s (s.length - i) i
         have hc : s[i] = 35 := by simpa using h2
         have g2 : i < lineEnd s (s.length - i) i := by
           obtain ⟨f, hf⟩ : ∃ f, s.length - i = f + 1 := ⟨s.length - i - 1, by omega⟩
           rw [hf, lineEnd, if_neg (by rw [je7 s hl, hc]; decide)]
           have := jl7 s f (i + 1)
           omega
         refine yw4 e0 e1 hl hsm hN hc fun E' e' e'' => ?_
         rw [jc9]
         exact j6c hsm hN n _ m (by omega) (by omega) (by omega) e' e'' hx hy
       · have h2 : isI s i 2 = false := by simpa using h2
         have e : skipTo s (n + 1) i = i := by rw [skipTo, h1, h2]; rfl
         rw [e] at hy
         exact ym6 e0 e1 hl h1 h2 hy
   · have z : ∀ q, isI s i q = false := fun q => by simp [isI]; omega
     have e : skipTo s (n + 1) i = i := by rw [skipTo, z 1, z 2]; rfl
     rw [e] at hx
     exact yq8 e0 e1 hl fun E' _ e'' => hx E' e''
end
theorem j01 {N : Nat} {hk : Hook} {d : Nat} {H : Heap} {s : List UInt8} {i : Nat} (hh : NH hk) (hi : i ≤ s.length) (hsm : s.length < 9223372036854775808) (hN : s.length < N) :
   CG N hk (d + 1) 29 #[.string ⟨⟨s⟩⟩, .int .i64 (i : Int)] H = some (.ret (.int .i64 (skipTo s (s.length - i) i : Int)), H) := by
 have main : ∃ R0 : R, CG N hk (d + 1) 29 #[.string ⟨⟨s⟩⟩, .int .i64 (i : Int)] H = R0 ∧ R0 = some (.ret (.int .i64 (skipTo s (s.length - i) i : Int)), H) := by
   refine ⟨_, jb6 (hh _ _ _ rfl) Tryz.func29 (c := codeOf Tryz.f29) rfl rfl rfl (pr := noPr) rfl, ?_⟩
   rw [code29]
   generalize hF : finE PP Tryz.f29 = F
   have lL := lX2 Tryz.f29 0 9
   conv at lL in (occs := *) (rq _ _) => all_goals simp only [rX, oA, Tryz.f29, dL.o, reduceIte, Nat.reduceEqDiff]
   obtain ⟨l0, l9⟩ := lL
   simp +decide only [↓uR.o, dG.o, ↓ja0 l0, ↓jb4]
   refine j6c (s := s) (Q := fun r => r = some (.ret (.int .i64 (skipTo s (s.length - i) i : Int)), H)) hsm hN (s.length - i) i N hi (by omega) (by omega) ?_ ?_ (fun E' e' => ?_) fun E' e' => ?_
   · simp +decide only [ja1, reduceIte, jc7]
   · simp +decide only [ja1, reduceIte, je4]
   · simp +decide only [↓uR.o, dG.o, ja1, reduceIte, ↓ja0 l9, e']
     rw [← hF, jb0 (l := [.int .i64 (skipTo s (s.length - i) i : Int)]) (by simp +decide [Tryz.f29, resE, ja1])]
     rfl
   · simp +decide only [dG.o]
     rw [← hF, jb0 (l := [.int .i64 (skipTo s (s.length - i) i : Int)]) (by simp +decide [Tryz.f29, resE, e'])]
     rfl
 obtain ⟨R0, m1, m2⟩ := main
 exact m1.trans m2
section
variable {N : Nat} {hk : Hook} {d : Nat} {H : Heap} {s : List UInt8} {Q : R → Prop} {k : KOE}
theorem ye1 (K : HkR hk) (hG : Ext GE H) (hsm : s.length < 9223372036854775808) :
   ∀ (n i m : Nat) (_ : i + n = s.length) (_ : n < m) {E : Env} (_ : E 0 = .string ⟨⟨s⟩⟩) (_ : E 1 = .int .i64 (i : Int))
     (_ : ∀ E', E' 1 = .int .i64 (runTo s n i : Int) → Q (k (.exit 0) E' [] H)), Q (loopE (execG PP XX (CG N hk (d + 1)) N noPr cRA4 none) m E [] H k)
 | 0, i, m + 1, hn, hm, E, e0, e1, hx => by
   rw [ja5]
   have hlt : decide ((i : Int) < (s.length : Int)) = false := decide_eq_false (by omega)
   have l1 := tl (rgn Tryz.f49 1)
   conv at l1 => rhs; simp only [rgn, oA, codeOf, Tryz.f49, gS, gN, reduceIte, Nat.reduceEqDiff, tA]
   simp +decide only [↓uR.o, dG.o, ja1, reduceIte, Bool.not_true, ↓ja0 l1, ↓r_no _ 4 true 9 _ j29, e0, e1, jb5, hlt]
   exact hx _ (by simp +decide only [ja1, reduceIte, e1]; rfl)
 | n + 1, i, m + 1, hn, hm, E, e0, e1, hx => by
   rw [ja5]
   have hi : i < s.length := by omega
   have hlt : decide ((i : Int) < (s.length : Int)) = true := decide_eq_true (by omega)
   have hix := jc5 (s := s) hi
   have w : IntKind.i64.wrap ((i : Int) + 1) = ((i + 1 : Nat) : Int) := by rw [ja4 (by omega) (by omega)]; omega
   have hw : CG N hk (d + 1) 51 #[.int .u8 (s[i].toNat : Int)] H = some (.ret (.bool (wbN s[i].toNat)), H) := jc1 (K.wb s[i] H hG)
   rw [← j00 hi] at hw
   have lL := lX2 Tryz.f49 1 2
   conv at lL in (occs := *) (rq _ _) => all_goals simp only [rX, oA, Tryz.f49, dL.o, reduceIte, Nat.reduceEqDiff]
   obtain ⟨l1, l2⟩ := lL
   cases hb : isW s i with
   | true =>
     rw [hb] at hw
     have e : runTo s (n + 1) i = runTo s n (i + 1) := by rw [runTo, if_pos hb]
     rw [e] at hx
     simp +decide only [↓uR.o, dG.o, ja1, reduceIte, ↓ja0 l1, ↓ja0 l2, ↓jb8 _ 4 true 9 _ j29, e0, e1, jb5, hlt, hix, ja3 Tryz.func51 rfl rfl hw, w]
     exact ye1 K hG hsm n (i + 1) m (by omega) (by omega) (by simp +decide only [ja1, reduceIte, e0]) (by simp +decide only [ja1, reduceIte, e1]) hx
   | false =>
     rw [hb] at hw
     have e : runTo s (n + 1) i = i := by rw [runTo, hb]; rfl
     rw [e] at hx
     simp +decide only [↓uR.o, dG.o, ja1, reduceIte, ↓ja0 l1, ↓jb8 _ 4 true 9 _ j29, e0, e1, jb5, hlt, hix, ja3 Tryz.func51 rfl rfl hw]
     exact hx _ (by simp +decide only [ja1, reduceIte, e1])
end
theorem j4q {N : Nat} {hk : Hook} {d : Nat} {H : Heap} {s : List UInt8} {i : Nat} (K : HkR hk) (hG : Ext GE H) (hi : i ≤ s.length) (hsm : s.length < 9223372036854775808) (hN : s.length < N) :
   CG N hk (d + 2) 49 #[.string ⟨⟨s⟩⟩, .int .i64 (i : Int)] H = some (.ret (.int .i64 (runTo s (s.length - i) i : Int)), H) := by
 have main : ∃ R0 : R, CG N hk (d + 2) 49 #[.string ⟨⟨s⟩⟩, .int .i64 (i : Int)] H = R0 ∧ R0 = some (.ret (.int .i64 (runTo s (s.length - i) i : Int)), H) := by
   refine ⟨_, jb6 (K.nil _ _ _ rfl) Tryz.func49 (c := codeOf Tryz.f49) rfl rfl rfl (pr := noPr) rfl, ?_⟩
   rw [code49]
   generalize hF : finE PP Tryz.f49 = F
   have lL := lX2 Tryz.f49 0 3
   conv at lL in (occs := *) (rq _ _) => all_goals simp only [rX, oA, Tryz.f49, dL.o, reduceIte, Nat.reduceEqDiff]
   obtain ⟨l0, l3⟩ := lL
   simp +decide only [↓uR.o, dG.o, ↓ja0 l0, ↓jb4]
   refine ye1 (s := s) (Q := fun r => r = some (.ret (.int .i64 (runTo s (s.length - i) i : Int)), H)) K hG hsm (s.length - i) i N (by omega) (by omega) ?_ ?_ (fun E' e' => ?_)
   · simp +decide only [ja1, reduceIte, jc7]
   · simp +decide only [ja1, reduceIte, je4]
   · simp +decide only [↓uR.o, dG.o, ja1, reduceIte, ↓ja0 l3, e']
     rw [← hF, jb0 (l := [.int .i64 (runTo s (s.length - i) i : Int)]) (by simp +decide [Tryz.f49, resE, ja1])]
     rfl
 obtain ⟨R0, m1, m2⟩ := main
 exact m1.trans m2
theorem ye2 {i : Nat} (h : i < 50) : indexAddrA PP 99 (.pointer (some ⟨2, 0, none⟩)) (.int .i64 (i : Int)) = some (.pointer (some ⟨2, i, none⟩)) := by
 have e : (⟨2, 0, none⟩ : Addr).add i = ⟨2, i, none⟩ := by rw [Addr.add_lit, Nat.zero_add]
 simp [indexAddrA, sizeS, at_, e]
 omega
theorem ym7 {H : Heap} {i : Nat} (hG : Ext GE H) (hi : i < 50) : loadA PP 9 (.pointer (some ⟨2, i, none⟩)) H = some (.string ⟨⟨wordsL.getD i []⟩⟩, H) := by
 have h : H.get 2 = some (ro wordsV) := hG.keep 2 _ rfl
 have hl : i < wordsL.length := by rw [jm2]; exact hi
 simp only [loadA, aggS]
 simp only [ld1, look, h]
 simp [ro, wordsV, strV, List.getD, hl]
section
variable {K : Kf} {N : Nat} {H : Heap} {w : List UInt8} {Q : R → Prop} {k : KOE}
theorem ye3 (hG : Ext GE H) : ∀ (n i m : Nat) (_ : i + n = 50) (_ : n < m) {E : Env} (_ : E 0 = .string ⟨⟨w⟩⟩) (_ : E 3 = .int .i64 (i : Int))
   (_ : findI w (wordsL.drop i) i = -1 → ∀ E', Q (k (.exit 0) E' [] H)) (_ : findI w (wordsL.drop i) i ≥ 0 → ∀ E', E' 2 = .int .i64 (30 + findI w (wordsL.drop i) i) → Q (k .ret E' [] H)), Q (loopE (execG PP XX K N noPr cRA2 none) m E [] H k)
 | 0, i, m + 1, hn, hm, E, e0, e3, h1, h2 => by
   rw [ja5]
   have hi : i = 50 := by omega
   subst hi
   have hlt : decide (((50 : Nat) : Int) < 50) = false := by decide
   have l2 := tl (rgn Tryz.f52 2)
   conv at l2 => rhs; simp only [rgn, oA, codeOf, Tryz.f52, gS, gN, reduceIte, Nat.reduceEqDiff, tA]
   simp +decide only [↓uR.o, dG.o, ja1, reduceIte, ↓ja0 l2, e3]
   exact h1 rfl _
 | n + 1, i, m + 1, hn, hm, E, e0, e3, h1, h2 => by
   rw [ja5]
   have hi : i < 50 := by omega
   have hlt : decide ((i : Int) < 50) = true := decide_eq_true (by omega)
   have hix := ye2 hi
   have hld := ym7 hG hi
   have hl : i < wordsL.length := by rw [jm2]; exact hi
   have hd : wordsL.drop i = wordsL.getD i [] :: wordsL.drop (i + 1) := by
     rw [List.drop_eq_getElem_cons hl]; simp [List.getD, hl]
   have wr : IntKind.i64.wrap ((i : Int) + 1) = ((i + 1 : Nat) : Int) := by rw [ja4 (by omega) (by omega)]; omega
   have w30 : IntKind.i64.wrap (30 + (i : Int)) = 30 + (i : Int) := ja4 (by omega) (by omega)
   rw [hd] at h1 h2
   unfold findI at h1 h2
   have lL := lX4 Tryz.f52 2 3 4 5
   conv at lL in (occs := *) (rq _ _) => all_goals simp only [rX, oA, Tryz.f52, dL.o, reduceIte, Nat.reduceEqDiff]
   obtain ⟨l2, l3, l4, l5⟩ := lL
   by_cases hw : w = wordsL.getD i []
   · have he : decide (wordsL.getD i [] = w) = true := decide_eq_true hw.symm
     rw [if_pos hw] at h2
     simp +decide only [↓uR.o, dG.o, ja1, reduceIte, ↓ja0 l2, ↓ja0 l4, ↓ja0 l5, e0, e3, hlt, hix, hld, jg7, he, w30]
     exact h2 (by omega) _ (by simp +decide only [ja1, reduceIte])
   · have he : decide (wordsL.getD i [] = w) = false := decide_eq_false fun q => hw q.symm
     rw [if_neg hw] at h1 h2
     simp +decide only [↓uR.o, dG.o, ja1, reduceIte, ↓ja0 l2, ↓ja0 l3, ↓ja0 l4, e0, e3, hlt, hix, hld, jg7, he, wr]
     exact ye3 hG n (i + 1) m (by omega) (by omega) (by simp +decide only [ja1, reduceIte, e0]) (by simp +decide only [ja1, reduceIte]) h1 h2
end
theorem ye4 {N : Nat} {hk : Hook} {d : Nat} {H : Heap} (hG : Ext GE H) (w : List UInt8) (hN : 60 < N) (hh : NH hk) :
   CG N hk (d + 1) 52 #[.string ⟨⟨w⟩⟩] H = some (.ret (.int .i64 (resI w)), H) := by
 have main : ∃ R0 : R, CG N hk (d + 1) 52 #[.string ⟨⟨w⟩⟩] H = R0 ∧ R0 = some (.ret (.int .i64 (resI w)), H) := by
   refine ⟨_, jb6 (hh _ _ _ rfl) Tryz.func52 (c := codeOf Tryz.f52) rfl rfl rfl (pr := noPr) rfl, ?_⟩
   rw [code52]
   generalize hF : finE PP Tryz.f52 = F
   have lL := lX3 Tryz.f52 0 1 6
   conv at lL in (occs := *) (rq _ _) => all_goals simp only [rX, oA, Tryz.f52, dL.o, reduceIte, Nat.reduceEqDiff]
   obtain ⟨l0, l1, l6⟩ := lL
   simp +decide only [↓uR.o, dG.o, ↓ja0 l0, ↓ja0 l1, ↓jb4]
   refine ye3 (w := w) (Q := fun r => r = some (.ret (.int .i64 (resI w)), H)) hG 50 0 N rfl (by omega) ?_ ?_ (fun hf E' => ?_) (fun hf E' e2 => ?_)
   · simp +decide only [ja1, reduceIte, jc7]
   · simp +decide only [ja1, reduceIte]; rfl
   · rw [List.drop_zero] at hf
     simp +decide only [↓uR.o, dG.o, ↓ja0 l6]
     rw [← hF, jb0 (l := [.int .i64 0]) (by simp +decide [Tryz.f52, resE, ja1])]
     simp [resI, hf, oneOf]
   · rw [List.drop_zero] at e2 hf
     simp +decide only [dG.o]
     rw [← hF, jb0 (l := [.int .i64 (30 + findI w wordsL 0)]) (by simp +decide [Tryz.f52, resE, e2])]
     simp only [resI, if_pos hf, oneOf]
 obtain ⟨R0, m1, m2⟩ := main
 exact m1.trans m2
end Go.Am
namespace Go.Proofs
open Go.Shelf
def Tryz.laysM288_ren : Go.Shelf.Ren := ⟨fun | 288 => 55 | 283 => 68 | 284 => 69 | 285 => 70 | 286 => 71 | 129 => 87 | 317 => 86 | 318 => 88 | 319 => 89 | 320 => 90 | 337 => 101 | 338 => 102 | n => n, fun | 37 => 22 | 53 => 40 | 3 => 3 | 4 => 4 | 9 => 9 | 171 => 102 | 0 => 0 | 173 => 105 | 212 => 126 | 51 => 110 | 5 => 5 | 20 => 20 | 213 => 127 | 46 => 68 | 232 => 154 | 233 => 155 | n => n, fun | 17 => 5 | 18 => 9 | 19 => 10 | n => n⟩
theorem Tryz.laysM288 : Go.Proofs.LaysM.n288 Tryz.prog Tryz.laysM288_ren := {
 mixed := by kernel_rfl
 f129 := Tryz.func87.trans (congrArg some (by kernel_rfl))
 f283 := Tryz.func68.trans (congrArg some (by kernel_rfl))
 f284 := Tryz.func69.trans (congrArg some (by kernel_rfl))
 f285 := Tryz.func70.trans (congrArg some (by kernel_rfl))
 f286 := Tryz.func71.trans (congrArg some (by kernel_rfl))
 f288 := Tryz.func55.trans (congrArg some (by kernel_rfl))
 f317 := Tryz.func86.trans (congrArg some (by kernel_rfl))
 f318 := Tryz.func88.trans (congrArg some (by kernel_rfl))
 f319 := Tryz.func89.trans (congrArg some (by kernel_rfl))
 f320 := Tryz.func90.trans (congrArg some (by kernel_rfl))
 f337 := Tryz.func101.trans (congrArg some (by kernel_rfl))
 f338 := Tryz.func102.trans (congrArg some (by kernel_rfl))
 t0 := Tryz.underlying0
 a0 := Tryz.isAgg0
 z0 := Tryz.sizeOf0
 v0 := Tryz.zeroValue0
 t3 := Tryz.underlying3
 a3 := Tryz.isAgg3
 z3 := Tryz.sizeOf3
 v3 := Tryz.zeroValue3
 t4 := Tryz.underlying4
 a4 := Tryz.isAgg4
 z4 := Tryz.sizeOf4
 v4 := Tryz.zeroValue4
 t5 := Tryz.underlying5
 a5 := Tryz.isAgg5
 z5 := Tryz.sizeOf5
 v5 := Tryz.zeroValue5
 t9 := Tryz.underlying9
 a9 := Tryz.isAgg9
 z9 := Tryz.sizeOf9
 v9 := Tryz.zeroValue9
 t20 := Tryz.underlying20
 a20 := Tryz.isAgg20
 z20 := Tryz.sizeOf20
 v20 := Tryz.zeroValue20
 t37 := Tryz.underlying22
 a37 := Tryz.isAgg22
 z37 := Tryz.sizeOf22
 v37 := Tryz.zeroValue22
 t46 := Tryz.underlying68
 a46 := Tryz.isAgg68
 z46 := Tryz.sizeOf68
 v46 := Tryz.zeroValue68
 t51 := Tryz.underlying110
 a51 := Tryz.isAgg110
 z51 := Tryz.sizeOf110
 v51 := Tryz.zeroValue110
 t53 := Tryz.underlying40
 a53 := Tryz.isAgg40
 z53 := Tryz.sizeOf40
 v53 := Tryz.zeroValue40
 t171 := Tryz.underlying102
 a171 := Tryz.isAgg102
 z171 := Tryz.sizeOf102
 v171 := Tryz.zeroValue102
 t173 := Tryz.underlying105
 a173 := Tryz.isAgg105
 z173 := Tryz.sizeOf105
 v173 := Tryz.zeroValue105
 t212 := Tryz.underlying126
 a212 := Tryz.isAgg126
 z212 := Tryz.sizeOf126
 v212 := Tryz.zeroValue126
 t213 := Tryz.underlying127
 a213 := Tryz.isAgg127
 z213 := Tryz.sizeOf127
 t232 := Tryz.underlying154
 a232 := Tryz.isAgg154
 z232 := Tryz.sizeOf154
 v232 := Tryz.zeroValue154
 t233 := Tryz.underlying155
 a233 := Tryz.isAgg155
 z233 := Tryz.sizeOf155
 v233 := Tryz.zeroValue155
 g17 := by kernel_rfl
 g18 := by kernel_rfl
 g19 := by kernel_rfl
 i0 := by kernel_rfl
 i3 := by kernel_rfl
 i4 := by kernel_rfl
 i5 := by kernel_rfl
 i9 := by kernel_rfl
 i20 := by kernel_rfl
 i37 := by kernel_rfl
 i46 := by kernel_rfl
 i51 := by kernel_rfl
 i53 := by kernel_rfl
 i171 := by kernel_rfl
 i173 := by kernel_rfl
 i212 := by kernel_rfl
 i232 := by kernel_rfl
 i233 := by kernel_rfl
 m17 := by kernel_rfl
 m18 := by kernel_rfl
 m19 := by kernel_rfl }
end Go.Proofs
namespace Go.Am
open Go.Sort Go.RowKit
def hook1 (f0 : FuncId) (T : Value → Option Value) : Hook := fun f args H =>
 cond (Nat.beq f f0) (match args.toList with
   | [v] => match T v with
     | some z => some (some (.ret z, H))
     | none => none
   | _ => none) none
theorem jn3 {f0 : FuncId} {T : Value → Option Value} (hT : ∀ v z, T v = some z → atomic v = true ∧ atomic z = true ∧ ∀ w, Calls PP f0 #[v] w fun e w' => e = .returned z ∧ w' = w) : HookSnd PP (hook1 f0 T) := by
 intro f args H r H' he m w args' hrel hgl hargs
 unfold hook1 at he
 cases hf : Nat.beq f f0 with
 | false => rw [hf] at he; cases he
 | true =>
   rw [hf] at he
   obtain rfl := Nat.eq_of_beq_eq_true hf
   simp only [cond_true] at he
   split at he
   · rename_i v hs
     split at he
     · rename_i z hz
       simp only [Option.some.injEq, Prod.mk.injEq] at he
       obtain ⟨rfl, rfl⟩ := he
       obtain ⟨a1, a2, a3⟩ := hT v z hz
       have e := hargs.eq_of_atomic (by rw [hs]; simp [a1])
       subst e
       have ea : args' = #[v] := by cases args'; simp_all
       subst ea
       exact (a3 w).mono fun e w' ⟨h1, h2⟩ => by subst h1; subst h2; exact ⟨m, .atom _ a2, .refl hrel⟩
     · cases he
   · cases he
def smallT : Value → Option Value
 | .int .i64 i => if 0 ≤ i ∧ i < 100 then some (.string ⟨(Lib.decDigits i.toNat).toArray⟩) else none
 | _ => none
def lenT : Value → Option Value
 | .int .u64 u => if 0 ≤ u ∧ u ≤ 18446744073709551615 then some (.int .i64 (Lib.bitLen u.toNat : Int)) else none
 | _ => none
def logT : Value → Option Value
 | .int .i64 i => if 0 ≤ i ∧ i ≤ 64 then some (.int .i64 (Lib.l10 i.toNat : Int)) else none
 | _ => none
def boolT : Value → Option Value
 | .bool b => some (.int .i64 (if b then 1 else 0))
 | _ => none
theorem j6d : HookSnd PP (hook1 68 smallT) := jn3 fun v z h => by
 unfold smallT at h
 split at h
 · rename_i i
   split at h
   · rename_i hi
     obtain rfl := Option.some.inj h
     refine ⟨rfl, rfl, fun w => ?_⟩
     have hcall := Go.Proofs.Any.internal_strconv_small (P := PP) (ρ := Go.Proofs.Tryz.laysM288_ren) { Go.Proofs.Tryz.laysM288 with } i.toNat (by omega) w
     rw [show ((i.toNat : Nat) : Int) = i by omega] at hcall
     exact hcall
   · cases h
 · cases h
theorem ye5 : HookSnd PP (hook1 87 lenT) := jn3 fun v z h => by
 unfold lenT at h
 split at h
 · rename_i i
   split at h
   · rename_i hi
     obtain rfl := Option.some.inj h
     exact ⟨rfl, rfl, fun w => Go.Proofs.Any.bits_Len64 (P := PP) (ρ := Go.Proofs.Tryz.laysM288_ren) { Go.Proofs.Tryz.laysM288 with } i w hi.1 hi.2⟩
   · cases h
 · cases h
theorem ye6 : HookSnd PP (hook1 86 logT) := jn3 fun v z h => by
 unfold logT at h
 split at h
 · rename_i i
   split at h
   · rename_i hi
     obtain rfl := Option.some.inj h
     refine ⟨rfl, rfl, fun w => ?_⟩
     have hcall := Go.Proofs.Any.internal_strconv_log10Pow2 (P := PP) (ρ := Go.Proofs.Tryz.laysM288_ren) { Go.Proofs.Tryz.laysM288 with } i.toNat (by omega) w
     rw [show ((i.toNat : Nat) : Int) = i by omega] at hcall
     exact hcall
   · cases h
 · cases h
theorem j9f : HookSnd PP (hook1 88 boolT) := jn3 fun v z h => by
 unfold boolT at h
 split at h
 · rename_i b
   obtain rfl := Option.some.inj h
   exact ⟨rfl, rfl, fun w => Go.Proofs.Any.internal_strconv_bool2_int (P := PP) (ρ := Go.Proofs.Tryz.laysM288_ren) { Go.Proofs.Tryz.laysM288 with } b w⟩
 · cases h
def digV (u : Nat) : List Value := Lib.byteCells (Lib.decDigits u)
def zeroV : List Value := List.replicate 24 (.int .u8 0)
def hook70 : Hook := fun f args H =>
 cond (Nat.beq f 70) (match args.toList with
   | [.slice (some ⟨b, 0, none⟩) n _, .int .u64 u] => match H.get b with
     | some x => cond (x.rw && x.o.isNone && veqs x.cells zeroV && decide (1 ≤ u) && decide (u < 18446744073709551616) && decide (n = Lib.nDigits u.toNat)) (some (some (.ret (.tuple #[]), H.set b { x with cells := over x.cells 0 (digV u.toNat) }))) none
     | none => none
   | _ => none) none
theorem j3a {w : World} {blk : Nat} {f : Array Value → Array Value} {cs : Array Value} {e : TypeId} {fz : Nat × Nat} (h : w.heap[blk]? = some (.cells cs e fz)) : (mapBlock w blk f).heap = w.heap.setIfInBounds blk (.cells (f cs) e fz) := by
 have hl := (Array.getElem?_eq_some_iff.mp h).1
 apply Array.ext_getElem?
 intro k
 unfold mapBlock
 simp only [Array.getElem?_modify, Array.getElem?_setIfInBounds]
 by_cases e1 : blk = k
 · subst e1
   rw [if_pos rfl, if_pos rfl, h, if_pos hl]; rfl
 · rw [if_neg e1, if_neg e1]
theorem j4r {m : Mp} {H : Heap} {w : World} {b n c : Nat} {u : Int} {x : Blk} {args' : Array Value} (hrel : Rel m H w) (hx : H.get b = some x) (hrw : x.rw = true) (ho : x.o = none) (hc : x.cells = zeroV) (h1 : 1 ≤ u) (h2 : u < 18446744073709551616) (hn : n = Lib.nDigits u.toNat)
   (hargs : VRa m #[.slice (some ⟨b, 0, none⟩) n c, .int .u64 u] args') :
   Calls PP 70 args' w fun e w' => ∃ m', EndR m' (.ret (.tuple #[])) e ∧ Step m H w m' (H.set b { x with cells := over x.cells 0 (digV u.toNat) }) w' := by
 have ha := hargs.toList
 obtain ⟨v1, v2, e⟩ : ∃ v1 v2, args'.toList = [v1, v2] := by
   have := ha.1
   match h : args'.toList with
   | [a, b] => exact ⟨a, b, rfl⟩
   | [] => rw [h] at this; cases this
   | [_] => rw [h] at this; cases this
   | _ :: _ :: _ :: _ => rw [h] at this; simp at this
 rw [e] at ha
 have q1 := ha.head
 have q2 := ha.tail.head.eq_of_atomic rfl
 subst q2
 have ea : args' = #[v1, .int .u64 u] := by cases args'; simp_all
 subst ea
 have eu : ((u.toNat : Nat) : Int) = u := by omega
 have hd : (Lib.decDigits u.toNat).length = n := by rw [Lib.decDigits_length, hn]
 have hn1 : 0 < n := by rw [hn]; exact Lib.nDigits_pos _
 have hn20 : n ≤ 20 := by
   have := Lib.numDigits_eq u.toNat (by omega) (by omega)
   rw [hn]; split at this <;> omega
 have hlen : x.cells.length = 24 := by rw [hc]; rfl
 cases q1 with
 | atom v h => simp [atomic] at h
 | slice b off L a' len cap cap' hm hl hcap hblk hsp hoff =>
   obtain ⟨hoff, hend⟩ := hoff.resolve_left (by omega)
   have hblk := hblk.resolve_left (by omega)
   have hsp := hsp.resolve_left (by omega)
   have ea' : a' = ⟨L.c, L.base, none⟩ := by cases a'; simp_all
   subst ea'
   obtain ⟨_, _, hes, hfit, cs, elem, fz, g1, g2, g3, g4⟩ := hrel.look hm (x := x) (off := 0) (by simp [look, hx, ho])
   have hcell : ∀ j (hj : j < 24), cs[L.base + j]? = some (.int .u8 0) := fun j hj => by
     have hi : L.base + j < cs.size := by omega
     have := g3 j (by omega) hi
     have ez : ∀ q, x.cells[j]'q = .int .u8 0 := fun q => by simp only [hc, zeroV]; exact List.getElem_replicate ..
     rw [ez] at this
     have e1 := this.eq_of_atomic rfl
     rw [Array.getElem?_eq_getElem hi]
     exact congrArg some e1
   have hH : Holds (fun (b : UInt8) => Value.int .u8 (b.toNat : Int)) w L.c L.base (Array.replicate n (0 : UInt8)) := fun j hj => by
     have hj' : j < n := by simpa using hj
     refine ⟨?_, ?_⟩
     · rw [getElem!_pos _ j hj]
       simp only [World.cell?, g1, Array.getElem_replicate]
       exact hcell j (by omega)
     · simp only [World.frozen?, g1]
       rcases g4 hrw with q | q
       · obtain ⟨lo, hi⟩ := fz; simp only at q ⊢; subst q
         rw [Bool.and_eq_false_iff]; simp; omega
       · obtain ⟨lo, hi⟩ := fz; simp only at q ⊢
         rw [Bool.and_eq_false_iff]; left; simp; omega
   have hcall := Go.Proofs.Any.internal_strconv_formatBase10 (P := PP) (ρ := Go.Proofs.Tryz.laysM288_ren) { Go.Proofs.Tryz.laysM288 with } L.c L.base cap' u.toNat (Array.replicate n (0 : UInt8)) w hH (by rw [Array.size_replicate, hn]; exact Lib.lt_pow_nDigits _) (by omega) (by rw [Array.size_replicate]; omega)
   rw [Array.size_replicate, eu] at hcall
   refine hcall.mono fun e w' ⟨he, k, v', dk, hw', hF⟩ => ?_
   subst he
   subst hw'
   refine ⟨m, VR.undef m, ?_⟩
   have hF' := hF
   rw [hn] at hF'
   have hdn : (digV u.toNat).length = n := by unfold digV; rw [Lib.byteCells_length, hd]
   have hdk : ∀ j (hj : j < n), (digV u.toNat)[j]? = some (.int .u8 ((dk[j]!).toNat : Int)) := fun j hj => by
     have hj' : j < (Lib.decDigits u.toNat).length := by omega
     rw [← Lib.row_is_numeral hF' j hj']
     simp [digV, Lib.byteCells, hj']
   have st := Step.write (w' := putRow (fun (b : UInt8) => Value.int .u8 (b.toNat : Int)) w L.c L.base dk) hrel hx hrw ho hm (over x.cells 0 (digV u.toNat)) (jh5 (by omega)) cs
     (putCells (fun (b : UInt8) => Value.int .u8 (b.toNat : Int)) L.base dk cs) elem fz g1 (by simp [putCells]) ?_ ?_ (j3a g1) rfl rfl rfl
   · exact st.trans (Step.drawn st.rel _)
   · intro i hi hi'
     have hi2 : i < 24 := by rw [jh5 (by omega)] at hi; omega
     have e1 := j6s (xs := x.cells) (i := 0) (vs := digV u.toNat) (by omega) i
     rw [List.getElem?_eq_getElem hi] at e1
     have e2 : (putCells (fun (b : UInt8) => Value.int .u8 (b.toNat : Int)) L.base dk cs)[L.base + i]? = some ((putCells (fun (b : UInt8) => Value.int .u8 (b.toNat : Int)) L.base dk cs)[L.base + i]'hi') := Array.getElem?_eq_getElem hi'
     have e3 : (putCells (fun (b : UInt8) => Value.int .u8 (b.toNat : Int)) L.base dk cs)[L.base + i]? = some (if L.base ≤ L.base + i ∧ L.base + i < L.base + n then .int .u8 ((dk[L.base + i - L.base]!).toNat : Int) else .int .u8 0) := by
       simp only [putCells, Array.getElem?_mapIdx, hcell i hi2, Option.map_some, hF.size]
     rw [e3] at e2
     replace e2 := Option.some.inj e2
     simp only [Nat.not_lt_zero, if_false, Nat.zero_add, hdn] at e1
     by_cases c : i < n
     · rw [if_pos c, Nat.sub_zero, hdk i c] at e1
       rw [if_pos ⟨by omega, by omega⟩, Nat.add_sub_cancel_left] at e2
       have := Option.some.inj e1
       rw [this, ← e2]
       exact .atom _ rfl
     · rw [if_neg c] at e1
       rw [if_neg (by omega)] at e2
       have ez : x.cells[i]? = some (.int .u8 0) := by rw [hc]; unfold zeroV; rw [List.getElem?_replicate, if_pos hi2]
       rw [ez] at e1
       rw [Option.some.inj e1, ← e2]
       exact .atom _ rfl
   · intro i hi
     rw [jh5 (by omega)] at hi
     simp only [putCells, Array.getElem?_mapIdx, hF.size]
     cases hq : cs[i]? with
     | none => rfl
     | some z => rw [Option.map_some, if_neg (by omega)]
theorem ye7 : HookSnd PP hook70 := by
 intro f args H r H' he m w args' hrel hgl hargs
 unfold hook70 at he
 cases hf3 : Nat.beq f 70 with
 | false => rw [hf3] at he; cases he
 | true =>
   rw [hf3] at he
   obtain rfl := Nat.eq_of_beq_eq_true hf3
   simp only [cond_true] at he
   split at he
   · rename_i b n c u hs
     split at he
     · rename_i x hx
       cases h1 : (x.rw && x.o.isNone && veqs x.cells zeroV && decide (1 ≤ u) && decide (u < 18446744073709551616) && decide (n = Lib.nDigits u.toNat)) with
       | false => rw [h1] at he; cases he
       | true =>
       rw [h1] at he
       simp only [cond_true, Option.some.injEq, Prod.mk.injEq] at he
       obtain ⟨rfl, rfl⟩ := he
       simp only [Bool.and_eq_true, decide_eq_true_eq, Option.isNone_iff_eq_none] at h1
       obtain ⟨⟨⟨⟨⟨r1, r2⟩, r3⟩, r4⟩, r5⟩, r6⟩ := h1
       have ea : args = #[.slice (some ⟨b, 0, none⟩) n c, .int .u64 u] := by cases args; simp_all
       subst ea
       exact j4r hrel hx r1 r2 (jr5 r3) r4 r5 r6 hargs
     · cases he
   · cases he
def hookN : Hook := hookOr (hook1 68 smallT) (hookOr (hook1 87 lenT) (hookOr (hook1 86 logT) (hookOr (hook1 88 boolT) hook70)))
theorem j6e : HookSnd PP hookN := jd5 j6d (jd5 ye5 (jd5 ye6 (jd5 j9f ye7)))
end Go.Am
namespace Go.Am
variable {f f0 : FuncId} {args : Array Value} {H : Heap}
def gsE : List Nat := [0, 1, 2, 3, 5, 6, 7, 10]
def hkZ : Hook := hookOr (tabH GE gsE 66 fun u => .int .i64 (singleT u)) (hookOr (tabH GE gsE 64 fun u => .int .u64 (hexT u)) (hookOr (tabH GE gsE 48 fun u => .bool (digN u)) (hookOr (tabH GE gsE 51 fun u => .bool (wbN u)) (hookOr (tabH GE gsE 67 fun u => .int .i64 (rhN u)) (hookOr hookM (hookOr hookF (hookOr hookN (hookP GE gsE [kn, kPw, kTz]))))))))
theorem ye8 : HookSnd PP hkZ :=
 jd5 (jm0 (jj1 jh6) jo1 j8y j88) (jd5 (jm0 (jj1 jh6) jo1 j8y yl8) (jd5 (jm0 (jj1 jh6) jo1 j8y yw0) (jd5 (jm0 (jj1 jh6) jo1 j8y y0m) (jd5 (jm0 (jj1 jh6) jo1 j8y y0n)
   (jd5 j59 (jd5 j0j (jd5 j6e (j0k (jj1 jh6) jo1 j8y fun e he => by
     have : okRow (fast hook0) GE e = true := by
       simp only [List.mem_cons, List.not_mem_nil, or_false] at he
       rcases he with rfl | rfl | rfl
       · exact okKn
       · exact okPw
       · exact okTz
     simp only [okRow, Bool.and_eq_true] at this
     simpa using this))))))))
theorem jk1 (k : FuncId) (hk : okC k = false) {f : FuncId} (h : okC f = true) : Nat.beq f k = false := by
 cases hb : Nat.beq f k with
 | false => rfl
 | true =>
   obtain rfl := Nat.eq_of_beq_eq_true hb
   rw [h] at hk; cases hk
theorem ja2 {a b : Hook} (h : a f args H = none) : hookOr a b f args H = b f args H := by simp only [hookOr, h]
theorem jd2 {a b : Hook} {r : R} (h : a f args H = some r) : hookOr a b f args H = some r := by simp only [hookOr, h]
theorem ja9 {G : Heap} {gs : List Nat} {T : Nat → Value} (h : Nat.beq f f0 = false) : tabH G gs f0 T f args H = none := by simp only [tabH, h, cond_false]
theorem jf6 (h : Nat.beq f 83 = false) : hookM f args H = none := by simp only [hookM, h, cond_false]
theorem jf9 (h : Nat.beq f 35 = false) : hookF f args H = none := by simp only [hookF, h, cond_false]
theorem je5 {T : Value → Option Value} (h : Nat.beq f f0 = false) : hook1 f0 T f args H = none := by simp only [hook1, h, cond_false]
theorem jq0 (h1 : Nat.beq f 68 = false) (h2 : Nat.beq f 87 = false) (h3 : Nat.beq f 86 = false) (h4 : Nat.beq f 88 = false) (h5 : Nat.beq f 70 = false) : hookN f args H = none := by
 unfold hookN
 rw [ja2 (je5 h1), ja2 (je5 h2), ja2 (je5 h3), ja2 (je5 h4)]
 simp only [hook70, h5, cond_false]
theorem j9g (h : Nat.beq 7 f = false) (h2 : Nat.beq 89 f = false) (h3 : Nat.beq 90 f = false) : hookP GE gsE [kn, kPw, kTz] f args H = none := by simp [hookP, kn, kPw, kTz, h, h2, h3]
theorem j3b {a b : Nat} (h : Nat.beq a b = false) : Nat.beq b a = false := by
 cases hb : Nat.beq b a with
 | false => rfl
 | true =>
   obtain rfl := Nat.eq_of_beq_eq_true hb
   rw [h] at hb; cases hb
theorem j7c : ∀ f args H, okC f = true → hkZ f args H = none := by
 intro f args H h
 unfold hkZ
 rw [ja2 (ja9 (jk1 66 rfl h)), ja2 (ja9 (jk1 64 rfl h)), ja2 (ja9 (jk1 48 rfl h)), ja2 (ja9 (jk1 51 rfl h)), ja2 (ja9 (jk1 67 rfl h)), ja2 (jf6 (jk1 83 rfl h)), ja2 (jf9 (jk1 35 rfl h)), ja2 (jq0 (jk1 68 rfl h) (jk1 87 rfl h) (jk1 86 rfl h) (jk1 88 rfl h) (jk1 70 rfl h))]
 exact j9g (j3b (jk1 7 rfl h)) (j3b (jk1 89 rfl h)) (j3b (jk1 90 rfl h))
theorem self0 : (match GE.get 0, GE.get 0 with | some x, some y => sameB x y | _, _ => false) = true := by decide +kernel
theorem self1 : (match GE.get 1, GE.get 1 with | some x, some y => sameB x y | _, _ => false) = true := by decide +kernel
theorem self2 : (match GE.get 2, GE.get 2 with | some x, some y => sameB x y | _, _ => false) = true := by decide +kernel
theorem self3 : (match GE.get 3, GE.get 3 with | some x, some y => sameB x y | _, _ => false) = true := by decide +kernel
theorem self5 : (match GE.get 5, GE.get 5 with | some x, some y => sameB x y | _, _ => false) = true := by decide +kernel
theorem self6 : (match GE.get 6, GE.get 6 with | some x, some y => sameB x y | _, _ => false) = true := by decide +kernel
theorem self7 : (match GE.get 7, GE.get 7 with | some x, some y => sameB x y | _, _ => false) = true := by decide +kernel
theorem self10 : (match GE.get 10, GE.get 10 with | some x, some y => sameB x y | _, _ => false) = true := by decide +kernel
theorem jz1 (h : Ext GE H) : overB GE gsE H = true := by
 have g0 : ∃ x, GE.get 0 = some x := ⟨_, rfl⟩
 have g1 : ∃ x, GE.get 1 = some x := ⟨_, rfl⟩
 have g2 : ∃ x, GE.get 2 = some x := ⟨_, rfl⟩
 have g3 : ∃ x, GE.get 3 = some x := ⟨_, rfl⟩
 have g5 : ∃ x, GE.get 5 = some x := ⟨_, rfl⟩
 have g6 : ∃ x, GE.get 6 = some x := ⟨_, rfl⟩
 have g7 : ∃ x, GE.get 7 = some x := ⟨_, rfl⟩
 have g10 : ∃ x, GE.get 10 = some x := ⟨_, rfl⟩
 obtain ⟨x0, e0⟩ := g0
 obtain ⟨x1, e1⟩ := g1
 obtain ⟨x2, e2⟩ := g2
 obtain ⟨x3, e3⟩ := g3
 obtain ⟨x5, e5⟩ := g5
 obtain ⟨x6, e6⟩ := g6
 obtain ⟨x7, e7⟩ := g7
 obtain ⟨x10, e10⟩ := g10
 have s0 := self0
 have s1 := self1
 have s2 := self2
 have s3 := self3
 have s5 := self5
 have s6 := self6
 have s7 := self7
 have s10 := self10
 rw [e0] at s0
 rw [e1] at s1
 rw [e2] at s2
 rw [e3] at s3
 rw [e5] at s5
 rw [e6] at s6
 rw [e7] at s7
 rw [e10] at s10
 have k0 := h.keep 0 x0 e0
 have k1 := h.keep 1 x1 e1
 have k2 := h.keep 2 x2 e2
 have k3 := h.keep 3 x3 e3
 have k5 := h.keep 5 x5 e5
 have k6 := h.keep 6 x6 e6
 have k7 := h.keep 7 x7 e7
 have k10 := h.keep 10 x10 e10
 simp only [overB, gsE, List.all_cons, List.all_nil, e0, e1, e2, e3, e5, e6, e7, e10, k0, k1, k2, k3, k5, k6, k7, k10, Bool.and_true, Bool.and_eq_true, decide_eq_true_eq]
 exact ⟨h.next, s0, s1, s2, s3, s5, s6, s7, s10⟩
theorem yw5 (n : Int) : veqs [.int .u8 n] [.int .u8 n] = true := by simp [veqs, veq0]
theorem j02 {T : Nat → Value} (hG : Ext GE H) (u : UInt8) : tabH GE gsE f0 T f0 #[.int .u8 (u.toNat : Int)] H = some (some (.ret (T u.toNat), H)) := by
 have hu := u.toNat_lt
 have e0 : Nat.beq f0 f0 = true := Nat.beq_refl f0
 have e1 : decide ((0 : Int) ≤ (u.toNat : Int)) = true := decide_eq_true (by omega)
 have e2 : decide ((u.toNat : Int) < 256) = true := decide_eq_true (by omega)
 simp only [tabH, e0, cond_true, e1, e2, Bool.and_self, hookP, List.find?_cons, yw5, jz1 hG, Int.toNat_natCast]
theorem ym8 (hG : Ext GE H) : hkZ 7 #[] H = some (some (.ret (.bool true), H)) := by
 unfold hkZ
 rw [ja2 (ja9 rfl), ja2 (ja9 rfl), ja2 (ja9 rfl), ja2 (ja9 rfl), ja2 (ja9 rfl), ja2 (jf6 rfl), ja2 (jf9 rfl), ja2 (jq0 rfl rfl rfl rfl rfl)]
 have h : [kn, kPw, kTz].find? (fun e => Nat.beq e.f 7 && veqs (#[] : Array Value).toList e.args) = some kn := rfl
 simp only [hookP, h, jz1 hG, cond_true]
 rfl
theorem y1u (hG : Ext GE H) : hkZ 89 #[.int .i64 16] H = some (some (.ret (.bool true), H)) := by
 unfold hkZ
 rw [ja2 (ja9 rfl), ja2 (ja9 rfl), ja2 (ja9 rfl), ja2 (ja9 rfl), ja2 (ja9 rfl), ja2 (jf6 rfl), ja2 (jf9 rfl), ja2 (jq0 rfl rfl rfl rfl rfl)]
 have h : [kn, kPw, kTz].find? (fun e => Nat.beq e.f 89 && veqs (#[.int .i64 16] : Array Value).toList e.args) = some kPw := rfl
 simp only [hookP, h, jz1 hG, cond_true]
 rfl
theorem y1v (hG : Ext GE H) : hkZ 90 #[.int .u64 16] H = some (some (.ret (.int .i64 4), H)) := by
 unfold hkZ
 rw [ja2 (ja9 rfl), ja2 (ja9 rfl), ja2 (ja9 rfl), ja2 (ja9 rfl), ja2 (ja9 rfl), ja2 (jf6 rfl), ja2 (jf9 rfl), ja2 (jq0 rfl rfl rfl rfl rfl)]
 have h : [kn, kPw, kTz].find? (fun e => Nat.beq e.f 90 && veqs (#[.int .u64 16] : Array Value).toList e.args) = some kTz := rfl
 simp only [hookP, h, jz1 hG, cond_true]
 rfl
theorem ym9 (hG : Ext GE H) : asciiOk H = true := by
 have h := hG.keep 0 (ro asciiV) rfl
 have hv : veqs (ro asciiV).cells asciiV = true := by decide +kernel
 simp only [asciiOk, h, hv]
 rfl
theorem yq9 : HkOk hkZ := by
 refine ⟨j7c, fun u H hG => ?_, fun u H hG => ?_, fun x y H hx hy => ?_, fun H hG => ?_⟩
 · exact jd2 (j02 hG u)
 · unfold hkZ
   rw [ja2 (ja9 rfl)]
   exact jd2 (j02 hG u)
 · unfold hkZ
   rw [ja2 (ja9 rfl), ja2 (ja9 rfl), ja2 (ja9 rfl), ja2 (ja9 rfl), ja2 (ja9 rfl)]
   refine jd2 ?_
   have hx' : x < 18446744073709551616 := hx
   have hy' : y < 18446744073709551616 := hy
   have e0 : Nat.beq 83 83 = true := rfl
   have e1 : decide ((0 : Int) ≤ (x : Int)) = true := decide_eq_true (by omega)
   have e2 : decide ((x : Int) < 18446744073709551616) = true := decide_eq_true (by omega)
   have e3 : decide ((0 : Int) ≤ (y : Int)) = true := decide_eq_true (by omega)
   have e4 : decide ((y : Int) < 18446744073709551616) = true := decide_eq_true (by omega)
   simp only [hookM, e0, cond_true, e1, e2, e3, e4, Bool.and_self, Int.toNat_natCast]
 · unfold hkZ
   rw [ja2 (ja9 rfl), ja2 (ja9 rfl), ja2 (ja9 rfl), ja2 (ja9 rfl), ja2 (ja9 rfl), ja2 (jf6 rfl)]
   refine jd2 ?_
   have e0 : Nat.beq 35 35 = true := rfl
   have dT : ∀ {i : Decidable True}, @decide True i = true := fun {i} => decide_eq_true trivial
   simp only [hookF, e0, cond_true, strV, dT, ym9 hG]
theorem y0s : HkR hkZ := by
 refine ⟨j7c, fun u H hG => ?_, fun u H hG => ?_, fun u H hG => ?_⟩
 · unfold hkZ
   rw [ja2 (ja9 rfl), ja2 (ja9 rfl)]
   exact jd2 (j02 hG u)
 · unfold hkZ
   rw [ja2 (ja9 rfl), ja2 (ja9 rfl), ja2 (ja9 rfl)]
   exact jd2 (j02 hG u)
 · unfold hkZ
   rw [ja2 (ja9 rfl), ja2 (ja9 rfl), ja2 (ja9 rfl), ja2 (ja9 rfl)]
   exact jd2 (j02 hG u)
structure HkN (hk : Hook) : Prop where
 small : ∀ i : Nat, i < 100 → ∀ H, hk 68 #[.int .i64 (i : Int)] H = some (some (.ret (.string ⟨(Lib.decDigits i).toArray⟩), H))
 len : ∀ u : Nat, u < 18446744073709551616 → ∀ H, hk 87 #[.int .u64 (u : Int)] H = some (some (.ret (.int .i64 (Lib.bitLen u : Int)), H))
 log : ∀ i : Nat, i ≤ 64 → ∀ H, hk 86 #[.int .i64 (i : Int)] H = some (some (.ret (.int .i64 (Lib.l10 i : Int)), H))
 two : ∀ (b : Bool) (H : Heap), hk 88 #[.bool b] H = some (some (.ret (.int .i64 (if b then 1 else 0)), H))
 fmt : ∀ (u b c : Nat) (H : Heap), 1 ≤ u → u < 18446744073709551616 → H.get b = some ⟨zeroV, true, 1, none, false⟩ → hk 70 #[.slice (some ⟨b, 0, none⟩) (Lib.nDigits u) c, .int .u64 (u : Int)] H = some (some (.ret (.tuple #[]), H.set b ⟨over zeroV 0 (digV u), true, 1, none, false⟩))
 pw : ∀ H, Ext GE H → hk 89 #[.int .i64 16] H = some (some (.ret (.bool true), H))
 tz : ∀ H, Ext GE H → hk 90 #[.int .u64 16] H = some (some (.ret (.int .i64 4), H))
theorem jz2 {T : Value → Option Value} {v z : Value} (h : T v = some z) : hook1 f0 T f0 #[v] H = some (some (.ret z, H)) := by
 have e0 : Nat.beq f0 f0 = true := Nat.beq_refl f0
 simp only [hook1, e0, cond_true, h]
theorem y0t : HkN hkZ := by
 refine ⟨fun i hi H => ?_, fun u hu H => ?_, fun i hi H => ?_, fun b H => ?_, fun u b c H h1 h2 h3 => ?_, fun H hG => y1u hG, fun H hG => y1v hG⟩
 · unfold hkZ
   rw [ja2 (ja9 rfl), ja2 (ja9 rfl), ja2 (ja9 rfl), ja2 (ja9 rfl), ja2 (ja9 rfl), ja2 (jf6 rfl), ja2 (jf9 rfl)]
   exact jd2 (jd2 (jz2 (by simp only [smallT]; rw [if_pos (by omega)]; rfl)))
 · unfold hkZ
   rw [ja2 (ja9 rfl), ja2 (ja9 rfl), ja2 (ja9 rfl), ja2 (ja9 rfl), ja2 (ja9 rfl), ja2 (jf6 rfl), ja2 (jf9 rfl)]
   refine jd2 ?_
   unfold hookN
   rw [ja2 (je5 rfl)]
   exact jd2 (jz2 (by simp only [lenT]; rw [if_pos (by omega)]; rfl))
 · unfold hkZ
   rw [ja2 (ja9 rfl), ja2 (ja9 rfl), ja2 (ja9 rfl), ja2 (ja9 rfl), ja2 (ja9 rfl), ja2 (jf6 rfl), ja2 (jf9 rfl)]
   refine jd2 ?_
   unfold hookN
   rw [ja2 (je5 rfl), ja2 (je5 rfl)]
   exact jd2 (jz2 (by simp only [logT]; rw [if_pos (by omega)]; rfl))
 · unfold hkZ
   rw [ja2 (ja9 rfl), ja2 (ja9 rfl), ja2 (ja9 rfl), ja2 (ja9 rfl), ja2 (ja9 rfl), ja2 (jf6 rfl), ja2 (jf9 rfl)]
   refine jd2 ?_
   unfold hookN
   rw [ja2 (je5 rfl), ja2 (je5 rfl), ja2 (je5 rfl)]
   exact jd2 (jz2 rfl)
 · unfold hkZ
   rw [ja2 (ja9 rfl), ja2 (ja9 rfl), ja2 (ja9 rfl), ja2 (ja9 rfl), ja2 (ja9 rfl), ja2 (jf6 rfl), ja2 (jf9 rfl)]
   refine jd2 ?_
   unfold hookN
   rw [ja2 (je5 rfl), ja2 (je5 rfl), ja2 (je5 rfl), ja2 (je5 rfl)]
   have e0 : Nat.beq 70 70 = true := rfl
   have e1 : decide ((1 : Int) ≤ (u : Int)) = true := decide_eq_true (by omega)
   have e2 : decide ((u : Int) < 18446744073709551616) = true := decide_eq_true (by omega)
   have e3 : veqs zeroV zeroV = true := by decide +kernel
   simp only [hook70, e0, cond_true, h3, e1, e2, e3, Int.toNat_natCast, decide_true, Bool.and_true, Option.isNone_none]
end Go.Am
