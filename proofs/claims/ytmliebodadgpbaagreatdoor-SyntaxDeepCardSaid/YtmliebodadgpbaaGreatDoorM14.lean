/- Is a word a name? -/
import Derived.Test.YtmliebodadgpbaaGreatDoorM13
import Derived.Laws.RangeString
import Derived.Test.YtmliebodadgpbaaGreatDoorM07
open Go.Proofs
namespace Go.Am
set_option maxRecDepth 100000
theorem jo9 (s : List UInt8) (H : Heap) (k : Value → Heap → R) : builtinK PP .len #[9] #[.string ⟨⟨s⟩⟩] H k = k (.int .i64 s.length) H := by
 have e : (⟨⟨s⟩⟩ : ByteArray).size = s.length := rfl
 simp [builtinK, lenA, bindO, e]
theorem ys9 {s : List UInt8} {i : Nat} (h : i < s.length) : indexA PP 9 (.string ⟨⟨s⟩⟩) (.int .i64 (i : Int)) = some (.int .u8 (s[i].toNat : Int)) := by
 have e : (⟨⟨s⟩⟩ : ByteArray)[i]? = some s[i] := by
   show (if h : i < (⟨⟨s⟩⟩ : ByteArray).size then some ((⟨⟨s⟩⟩ : ByteArray)[i]) else none) = _
   rw [dif_pos (show i < (⟨⟨s⟩⟩ : ByteArray).size from h)]
   rfl
 simp only [indexA, undStr, byteAt]
 rw [if_pos (by omega)]
 simp only [Int.toNat_natCast, e]
section ops
variable {P : Program} {X : Xf} {K : Kf} {d : Option Tmp} {t : TypeId} {p : String} {af : Array Edge} {g : Option (Nat × Bool)} {E : Env} {ds : List Deferred} {H : Heap} {k : KE} {kp : List PanicEntry → KE}
theorem y49 (e : TypeId) (x : Operand) : opE P X K ⟨d, .range e x, t, p, af, g⟩ E ds H k kp = bindV (rangeA P e (evalE E x) H) (putK E d ds k) := id rfl
theorem yt0 (x : Operand) (b : Bool) : opE P X K ⟨d, .next x b, t, p, af, g⟩ E ds H k kp = bindV (nextA (evalE E x) b H) (putK E d ds k) := id rfl
end ops
theorem y61 (u : UInt8) : wbB u = ((clsI u == 3) || (clsI u == 4)) := by
 unfold wbB isWL
 simp only [isL]
 exact Bool.or_comm _ _
theorem y5a (x : Int) (H : Heap) : convertA PP 21 5 (.int .i32 x) H = some (.int .u8 (IntKind.u8.wrap x), H) := by kernel_rfl
theorem code88 : codeOf Tryz.f88 = .seq (rF Tryz.f88 0) (.seq (rF Tryz.f88 1) .ret) := by kernel_rfl
theorem yb2 : ((rgn Tryz.f88 1)[3]?).bind (·.dst) = some 6 := by kernel_rfl
theorem code87 : codeOf Tryz.f87 = .seq (rF Tryz.f87 0) (.seq (rF Tryz.f87 1) .ret) := by kernel_rfl
theorem yb3 : ((rgn Tryz.f87 1)[2]?).bind (·.dst) = some 5 := by kernel_rfl
theorem code118 : codeOf Tryz.f118 = .seq (rF Tryz.f118 0) (.seq (.seq (rF Tryz.f118 1) (.block 0 (.loop (.seq (rF Tryz.f118 2) (.seq (.cond (.tmp 12) .skip (.exit 0)) (.block 1 (.seq (rF Tryz.f118 3) (.seq (rF Tryz.f118 4) (.cond (.tmp 19) (.seq (rF Tryz.f118 5) .ret) .skip))))))))) (.seq (rF Tryz.f118 6) .ret)) := by kernel_rfl
theorem code108 : codeOf Tryz.f108 = .seq (rF Tryz.f108 0) (.seq (rF Tryz.f108 1) .ret) := by kernel_rfl
theorem code86 : codeOf Tryz.f86 = .seq (rF Tryz.f86 0) (.seq (rF Tryz.f86 1) .ret) := by kernel_rfl
theorem code59 : codeOf Tryz.f59 = .seq (rF Tryz.f59 0) (.seq (.seq (rF Tryz.f59 1) (.cond (.tmp 21) (.seq (rF Tryz.f59 2) .ret) .skip)) (.seq (rF Tryz.f59 3) .ret)) := by kernel_rfl
theorem jx4 : ((rgn Tryz.f59 1)[3]?).bind (·.dst) = some 6 := by kernel_rfl
theorem jx5 : ((rgn Tryz.f59 1)[8]?).bind (·.dst) = some 11 := by kernel_rfl
theorem jq5 : ((rgn Tryz.f59 1)[14]?).bind (·.dst) = some 17 := by kernel_rfl
section
variable {N : Nat} {hk : Hook} {d : Nat} {H : Heap}
theorem y1k (K : HkOk hk) (hG : Ext GE H) (u : UInt8) : CG N hk (d + 2) 88 #[.int .u8 (u.toNat : Int)] H = some (.ret (.bool (wbB u)), H) := by
 have hc := jo4 (N := N) (hk := hk) (d := d) hG u (fun _ _ => K.nil _ _ _ rfl)
 have main : ∃ R0 : R, CG N hk (d + 2) 88 #[.int .u8 (u.toNat : Int)] H = R0 ∧ R0 = some (.ret (.bool (wbB u)), H) := by
   refine ⟨_, jc2 (K.nil _ _ _ rfl) Tryz.func88 (c := codeOf Tryz.f88) rfl rfl rfl (pr := noPr) rfl, ?_⟩
   rw [code88]
   generalize hF : finE PP Tryz.f88 = F
   rw [y61]
   have lL := lX2 Tryz.f88 0 1
   conv at lL in (occs := *) (rgnX _ _) => all_goals simp only [rX, opsAt, Tryz.f88, dL.o, reduceIte, Nat.reduceEqDiff]
   obtain ⟨l0, l1⟩ := lL
   cases h3 : (clsI u == 3) with
   | true =>
     simp (decide := true) only [↓uR.o, dG.o, ja1, reduceIte, Bool.not_false, ↓ja0 l0, ↓ja0 l1, ↓r_no _ 3 false 6 _ yb2, ja3 Tryz.func48 rfl rfl hc, h3]
     rw [← hF, jb6 (l := [.bool true]) (by simp (decide := true) [Tryz.f88, resE, ja1])]
     rfl
   | false =>
     simp (decide := true) only [↓uR.o, dG.o, ja1, reduceIte, ↓ja0 l0, ↓ja0 l1, ↓jb7 _ 3 false 6 _ yb2, ja3 Tryz.func48 rfl rfl hc, h3]
     rw [← hF, jb6 (l := [.bool (clsI u == 4)]) (by simp (decide := true) [Tryz.f88, resE, ja1])]
     rfl
 obtain ⟨R0, m1, m2⟩ := main
 exact m1.trans m2
def badR (r : Nat) : Bool := decide (127 < r) || !wbB (UInt8.ofNat r)
theorem yt1 (K : HkOk hk) (hG : Ext GE H) (r : Nat) : CG N hk (d + 3) 87 #[.int .i32 (r : Int)] H = some (.ret (.bool (badR r)), H) := by
 have main : ∃ R0 : R, CG N hk (d + 3) 87 #[.int .i32 (r : Int)] H = R0 ∧ R0 = some (.ret (.bool (badR r)), H) := by
   refine ⟨_, jc2 (K.nil _ _ _ rfl) Tryz.func87 (c := codeOf Tryz.f87) rfl rfl rfl (pr := noPr) rfl, ?_⟩
   rw [code87]
   generalize hF : finE PP Tryz.f87 = F
   have lL := lX2 Tryz.f87 0 1
   conv at lL in (occs := *) (rgnX _ _) => all_goals simp only [rX, opsAt, Tryz.f87, dL.o, reduceIte, Nat.reduceEqDiff]
   obtain ⟨l0, l1⟩ := lL
   by_cases h : 127 < r
   · have g : decide ((r : Int) > 127) = true := decide_eq_true (by omega)
     simp (decide := true) only [↓uR.o, dG.o, ja1, reduceIte, Bool.not_false, ↓ja0 l0, ↓ja0 l1, ↓r_no _ 2 false 5 _ yb3, g]
     rw [← hF, jb6 (l := [.bool true]) (by simp (decide := true) [Tryz.f87, resE, ja1])]
     rw [badR, decide_eq_true h]; rfl
   · have g : decide ((r : Int) > 127) = false := decide_eq_false (by omega)
     have hu : ((UInt8.ofNat r).toNat : Int) = (r : Int) := by simp; omega
     have wr : IntKind.u8.wrap (r : Int) = ((UInt8.ofNat r).toNat : Int) := by rw [hu]; exact j95 (by omega) (by omega)
     have hc := y1k (N := N) (hk := hk) (d := d) K hG (UInt8.ofNat r)
     have hn : unA PP .not (.bool (wbB (UInt8.ofNat r))) = some (.bool (!wbB (UInt8.ofNat r))) := by cases wbB (UInt8.ofNat r) <;> kernel_rfl
     simp (decide := true) only [↓uR.o, dG.o, ja1, reduceIte, ↓ja0 l0, ↓ja0 l1, ↓jb7 _ 2 false 5 _ yb3, g, y5a, wr, ja3 Tryz.func88 rfl rfl hc, hn]
     rw [← hF, jb6 (l := [.bool (!wbB (UInt8.ofNat r))]) (by simp (decide := true) [Tryz.f87, resE, ja1])]
     rw [badR, decide_eq_false h]; rfl
 obtain ⟨R0, m1, m2⟩ := main
 exact m1.trans m2
end
def iterB (s : List UInt8) (pos : Nat) : Blk := ⟨[], true, 0, some (.stringIter ⟨⟨s⟩⟩ pos)⟩
theorem y1l {H : Heap} {q : Nat} {s : List UInt8} {pos : Nat} (h : H.get q = some (iterB s pos)) (hp : ¬ pos < s.length) : nextA (.pointer (some ⟨q, 0, none⟩)) true H = some (.tuple #[.bool false], H) := by
 have e : (⟨⟨s⟩⟩ : ByteArray).size = s.length := rfl
 simp [nextA, h, iterB, e, hp]
theorem yt2 {H : Heap} {q : Nat} {s : List UInt8} {pos : Nat} (h : H.get q = some (iterB s pos)) (hp : pos < s.length) : nextA (.pointer (some ⟨q, 0, none⟩)) true H = some (.tuple #[.bool true, .int .i64 (pos : Int), .int .i32 ((Utf8.decode ⟨⟨s⟩⟩ pos).1 : Int)], H.set q (iterB s (pos + (Utf8.decode ⟨⟨s⟩⟩ pos).2))) := by
 have e : (⟨⟨s⟩⟩ : ByteArray).size = s.length := rfl
 simp [nextA, h, iterB, e, hp]
theorem j3s {s : List UInt8} {pos : Nat} (hp : pos < s.length) (h : s[pos].toNat < 128) : Utf8.decode ⟨⟨s⟩⟩ pos = (s[pos].toNat, 1) := decode_ascii ⟨⟨s⟩⟩ pos hp h
theorem j8k {s : List UInt8} {pos : Nat} (hp : pos < s.length) (h : ¬ s[pos].toNat < 128) : 127 < (Utf8.decode ⟨⟨s⟩⟩ pos).1 := by
 have hb : ((⟨⟨s⟩⟩ : ByteArray).get! (pos + 0)).toNat = s[pos].toNat := by
   have : (⟨⟨s⟩⟩ : ByteArray).get! (pos + 0) = s[pos] := by simp [ByteArray.get!, hp]
   rw [this]
 have re : 127 < Utf8.runeError := by decide
 unfold Utf8.decode
 simp only [hb]
 rw [if_neg (by omega)]
 repeat' split
 all_goals first | exact re | (rename_i h; simp only [Bool.and_eq_true, decide_eq_true_eq] at h; show 127 < _; omega) | (show 127 < _; omega)
section
variable {N : Nat} {hk : Hook} {d : Nat} {H0 : Heap} {q : Nat} {s : List UInt8} {Q : R → Prop} {k : KOE}
theorem y5b {H : Heap} (hE : Ext H0 H) (hq : H0.next ≤ q) (hqn : q < H.next) (hf0 : Fresh H0) (x : Blk) : Ext H0 (H.set q x) := by
 refine ⟨hE.next, fun b y hy => ?_, fun b hb => ?_⟩
 · have := jc9 hf0 hy
   rw [Heap.get_set, if_neg (by omega)]; exact hE.keep b y hy
 · have hb' : H.next ≤ b := hb
   rw [Heap.get_set, if_neg (by omega)]; exact hE.fresh b hb'
theorem yt3 (x : Value) : (#[] : Array Value) ++ #[x] ++ #[] = #[x] := by simp
theorem y62 (K : HkOk hk) (hG : Ext GE H0) (hq0 : H0.next ≤ q) : ∀ (n pos m : Nat) (_ : pos + n = s.length) (_ : n < m) {E : Env} {H : Heap} (_ : E 1 = .func (.func 87) #[] #[]) (_ : E 2 = .bool true) (_ : E 10 = .pointer (some ⟨q, 0, none⟩)) (_ : Ext H0 H) (_ : q < H.next) (_ : H.get q = some (iterB s pos))
   (_ : (s.drop pos).all wbB = true → ∀ E' H', Ext H0 H' → Q (k (.exit 0) E' [] H')) (_ : (s.drop pos).all wbB = false → ∀ E' H' (j : Nat), E' 6 = .int .i64 (j : Int) → Ext H0 H' → Q (k .ret E' [] H')), Q (loopE (execG PP XX (CG N hk (d + 3)) N noPr (.seq (rF Tryz.f118 2) (.seq (.cond (.tmp 12) .skip (.exit 0)) (.block 1 (.seq (rF Tryz.f118 3) (.seq (rF Tryz.f118 4) (.cond (.tmp 19) (.seq (rF Tryz.f118 5) .ret) .skip)))))) none) m E [] H k)
 | 0, pos, m + 1, hn, hm, E, H, e1, e2, e10, hE, hqn, hH, h1, h2 => by
   rw [jb5]
   have hne := y1l hH (by omega : ¬ pos < s.length)
   have q0 : ∀ (x : Value), extractA (.tuple #[x]) 0 = some x := fun _ => rfl
   have l2 := tl (rgn Tryz.f118 2)
   conv at l2 => rhs; simp only [rgn, opsAt, codeOf, Tryz.f118, gS, gN, reduceIte, Nat.reduceEqDiff, tA]
   simp (decide := true) only [↓uR.o, dG.o, ja1, reduceIte, ↓ja0 l2, e10, ↓yt0, hne, q0]
   exact h1 (by rw [List.drop_eq_nil_of_le (by omega)]; rfl) _ _ hE
 | n + 1, pos, m + 1, hn, hm, E, H, e1, e2, e10, hE, hqn, hH, h1, h2 => by
   rw [jb5]
   have hp : pos < s.length := by omega
   have hne := yt2 hH hp
   have q0 : ∀ (x y z : Value), extractA (.tuple #[x, y, z]) 0 = some x := fun _ _ _ => rfl
   have q1 : ∀ (x y z : Value), extractA (.tuple #[x, y, z]) 1 = some y := fun _ _ _ => rfl
   have q2 : ∀ (x y z : Value), extractA (.tuple #[x, y, z]) 2 = some z := fun _ _ _ => rfl
   rw [List.drop_eq_getElem_cons hp, List.all_cons] at h1 h2
   have x1 := y5b hE hq0 hqn hG.fresh (iterB s (pos + (Utf8.decode ⟨⟨s⟩⟩ pos).2))
   have hc := yt1 (N := N) (hk := hk) (d := d) (H := H.set q (iterB s (pos + (Utf8.decode ⟨⟨s⟩⟩ pos).2))) K (hG.trans x1) (Utf8.decode ⟨⟨s⟩⟩ pos).1
   have eqt : ∀ b : Bool, binA PP .eql 4 (.tmp 17) (.tmp 18) (.bool b) (.bool true) = some (.bool b) := fun b => by cases b <;> kernel_rfl
   have lL := lX4 Tryz.f118 2 3 4 5
   conv at lL in (occs := *) (rgnX _ _) => all_goals simp only [rX, opsAt, Tryz.f118, dL.o, reduceIte, Nat.reduceEqDiff]
   obtain ⟨l2, l3, l4, l5⟩ := lL
   by_cases hw : wbB s[pos] = true
   · have hlow : s[pos].toNat < 128 := by
       have := ys8 (p := fun u => !wbB u || decide (u.toNat < 128)) (by decide +kernel) s[pos]
       simpa [hw] using this
     have hd := j3s hp hlow
     rw [hd] at hne hc x1
     have hb : badR s[pos].toNat = false := by
       unfold badR
       rw [decide_eq_false (by omega)]
       have e : UInt8.ofNat s[pos].toNat = s[pos] := by simp
       rw [e, hw]; rfl
     rw [hb] at hc
     rw [hw, Bool.true_and] at h1 h2
     simp only at hne hc x1
     simp (decide := true) only [↓uR.o, dG.o, ja1, reduceIte, ↓ja0 l2, ↓ja0 l3, ↓ja0 l4, e1, e2, e10, ↓yt0, hne, q0, q1, q2, jg2 15 _ _ 87 #[] #[], yt3, ja3 Tryz.func87 rfl rfl hc, eqt]
     refine y62 K hG hq0 n (pos + 1) m (by omega) (by omega) (e1) (e2) (e10) x1 hqn (by rw [Heap.get_set, if_pos rfl]) h1 h2
   · have hw : wbB s[pos] = false := by simpa using hw
     have hb : badR (Utf8.decode ⟨⟨s⟩⟩ pos).1 = true := by
       unfold badR
       by_cases hlow : s[pos].toNat < 128
       · have e : UInt8.ofNat s[pos].toNat = s[pos] := by simp
         rw [j3s hp hlow]
         simp only
         rw [e, hw]; simp
       · rw [decide_eq_true (j8k hp hlow)]; rfl
     rw [hb] at hc
     simp (decide := true) only [↓uR.o, dG.o, ja1, reduceIte, ↓ja0 l2, ↓ja0 l3, ↓ja0 l4, ↓ja0 l5, e1, e2, e10, ↓yt0, hne, q0, q1, q2, jg2 15 _ _ 87 #[] #[], yt3, ja3 Tryz.func87 rfl rfl hc, eqt]
     exact h2 (by rw [hw]; rfl) _ _ pos (by simp (decide := true) only [ja1, reduceIte]) x1
end
section
variable {N : Nat} {hk : Hook} {d : Nat} {H : Heap} {s : List UInt8}
theorem y1m (K : HkOk hk) (hG : Ext GE H) (hN : s.length < N) : ∃ (z : Int) (H' : Heap), CG N hk (d + 4) 118 #[.string ⟨⟨s⟩⟩, .func (.func 87) #[] #[], .bool true] H = some (.ret (.int .i64 z), H') ∧ Ext H H' ∧ (decide (z ≥ 0) = !s.all wbB) := by
 have main : ∃ R0 : R, CG N hk (d + 4) 118 #[.string ⟨⟨s⟩⟩, .func (.func 87) #[] #[], .bool true] H = R0 ∧ ∃ (z : Int) (H' : Heap), R0 = some (.ret (.int .i64 z), H') ∧ Ext H H' ∧ (decide (z ≥ 0) = !s.all wbB) := by
   refine ⟨_, jc2 (K.nil _ _ _ rfl) Tryz.func118 (c := codeOf Tryz.f118) rfl rfl rfl (pr := noPr) rfl, ?_⟩
   rw [code118]
   generalize hF : finE PP Tryz.f118 = F
   have hr : rangeA PP 9 (.string ⟨⟨s⟩⟩) H = some (.pointer (some ⟨H.next, 0, none⟩), H.allocO (.stringIter ⟨⟨s⟩⟩ 0)) := by simp only [rangeA, undStr]
   have x1 : Ext H (H.allocO (.stringIter ⟨⟨s⟩⟩ 0)) := by
     refine ⟨Nat.le_succ _, fun b y hy => ?_, fun b hb => ?_⟩
     · have := jc9 hG.fresh hy
       rw [Heap.get_allocO, if_neg (by omega)]; exact hy
     · have hb' : H.next + 1 ≤ b := hb
       rw [Heap.get_allocO, if_neg (by omega)]; exact hG.fresh b (by omega)
   have lL := lX3 Tryz.f118 0 1 6
   conv at lL in (occs := *) (rgnX _ _) => all_goals simp only [rX, opsAt, Tryz.f118, dL.o, reduceIte, Nat.reduceEqDiff]
   obtain ⟨l0, l1, l6⟩ := lL
   simp (decide := true) only [↓uR.o, dG.o, ja1, reduceIte, ↓ja0 l0, ↓ja0 l1, ↓jc8, ↓y49, hr]
   refine y62 (s := s) (H0 := H) (q := H.next) (Q := fun r => ∃ (z : Int) (H' : Heap), r = some (.ret (.int .i64 z), H') ∧ Ext H H' ∧ (decide (z ≥ 0) = !s.all wbB)) K hG (Nat.le_refl _) s.length 0 N (by omega) hN ?_ ?_ ?_ x1 (Nat.lt_succ_self _) (by rw [Heap.get_allocO, if_pos rfl]; rfl) (fun ha E' H' hE => ?_) (fun ha E' H' j e6 hE => ?_)
   · simp (decide := true) only [ja1, reduceIte, jf3]
   · simp (decide := true) only [ja1, reduceIte, j9n]
   · simp (decide := true) only [ja1, reduceIte]
   · rw [List.drop_zero] at ha
     refine ⟨-1, H', ?_, hE, by rw [ha]; rfl⟩
     simp (decide := true) only [↓uR.o, dG.o, ↓ja0 l6]
     rw [← hF, jb6 (l := [.int .i64 (-1)]) (by simp (decide := true) [Tryz.f118, resE, ja1])]
     rfl
   · rw [List.drop_zero] at ha
     refine ⟨j, H', ?_, hE, by rw [ha, decide_eq_true (by omega)]; rfl⟩
     simp (decide := true) only [dG.o]
     rw [← hF, jb6 (l := [.int .i64 (j : Int)]) (by simp (decide := true) [Tryz.f118, resE, e6])]
     rfl
 obtain ⟨R0, m1, z, H', m2, m3⟩ := main
 exact ⟨z, H', m1.trans m2, m3⟩
theorem y1n (K : HkOk hk) (hG : Ext GE H) (hN : s.length < N) : ∃ H', CG N hk (d + 6) 86 #[.string ⟨⟨s⟩⟩, .func (.func 87) #[] #[]] H = some (.ret (.bool (!s.all wbB)), H') ∧ Ext H H' := by
 obtain ⟨z, H', h1, h2, h3⟩ := y1m (N := N) (hk := hk) (d := d) K hG hN
 have m43 : ∃ R0 : R, CG N hk (d + 5) 108 #[.string ⟨⟨s⟩⟩, .func (.func 87) #[] #[]] H = R0 ∧ R0 = some (.ret (.int .i64 z), H') := by
   refine ⟨_, jc2 (K.nil _ _ _ rfl) Tryz.func108 (c := codeOf Tryz.f108) rfl rfl rfl (pr := noPr) rfl, ?_⟩
   rw [code108]
   generalize hF : finE PP Tryz.f108 = F
   have lL := lX2 Tryz.f108 0 1
   conv at lL in (occs := *) (rgnX _ _) => all_goals simp only [rX, opsAt, Tryz.f108, dL.o, reduceIte, Nat.reduceEqDiff]
   obtain ⟨l0, l1⟩ := lL
   simp (decide := true) only [↓uR.o, dG.o, ja1, reduceIte, ↓ja0 l0, ↓ja0 l1, ja3 Tryz.func118 rfl rfl h1]
   rw [← hF, jb6 (l := [.int .i64 z]) (by simp (decide := true) [Tryz.f108, resE, ja1])]
   rfl
 obtain ⟨R1, n1, n2⟩ := m43
 have h43 := n1.trans n2
 have m27 : ∃ R0 : R, CG N hk (d + 6) 86 #[.string ⟨⟨s⟩⟩, .func (.func 87) #[] #[]] H = R0 ∧ R0 = some (.ret (.bool (!s.all wbB)), H') := by
   refine ⟨_, jc2 (K.nil _ _ _ rfl) Tryz.func86 (c := codeOf Tryz.f86) rfl rfl rfl (pr := noPr) rfl, ?_⟩
   rw [code86]
   generalize hF : finE PP Tryz.f86 = F
   have lL := lX2 Tryz.f86 0 1
   conv at lL in (occs := *) (rgnX _ _) => all_goals simp only [rX, opsAt, Tryz.f86, dL.o, reduceIte, Nat.reduceEqDiff]
   obtain ⟨l0, l1⟩ := lL
   simp (decide := true) only [↓uR.o, dG.o, ja1, reduceIte, ↓ja0 l0, ↓ja0 l1, ja3 Tryz.func108 rfl rfl h43, h3]
   rw [← hF, jb6 (l := [.bool (!s.all wbB)]) (by simp (decide := true) [Tryz.f86, resE, ja1])]
   rfl
 obtain ⟨R2, o1, o2⟩ := m27
 exact ⟨H', o1.trans o2, h2⟩
theorem yg6 (K : HkOk hk) (hG : Ext GE H) (hsm : s.length < 9223372036854775807) (hN : 100 < N) : ∃ H', CG N hk (d + 7) 59 #[.string ⟨⟨s⟩⟩] H = some (.ret (.bool (legalI s)), H') ∧ Ext H H' := by
 have self : Ext H H := ⟨Nat.le_refl _, fun _ _ h => h, hG.fresh⟩
 have main : ∃ R0 : R, CG N hk (d + 7) 59 #[.string ⟨⟨s⟩⟩] H = R0 ∧ ∃ H', R0 = some (.ret (.bool (legalI s)), H') ∧ Ext H H' := by
   refine ⟨_, jc2 (K.nil _ _ _ rfl) Tryz.func59 (c := codeOf Tryz.f59) rfl rfl rfl (pr := noPr) rfl, ?_⟩
   rw [code59]
   generalize hF : finE PP Tryz.f59 = F
   have lL := lX4 Tryz.f59 0 1 2 3
   conv at lL in (occs := *) (rgnX _ _) => all_goals simp only [rX, opsAt, Tryz.f59, dL.o, reduceIte, Nat.reduceEqDiff]
   obtain ⟨l0, l1, l2, l3⟩ := lL
   by_cases h1 : s.length < 1
   · have g1 : decide ((s.length : Int) < 1) = true := decide_eq_true (by omega)
     have hl : legalI s = false := by unfold legalI; rw [decide_eq_false (show ¬ 1 ≤ s.length by omega)]; rfl
     refine ⟨H, ?_, self⟩
     simp (decide := true) only [↓uR.o, dG.o, ja1, reduceIte, Bool.not_false, ↓ja0 l0, ↓ja0 l1, ↓ja0 l2, ↓r_no _ 3 false 6 _ jx4, ↓r_no _ 8 false 11 _ jx5, ↓r_no _ 14 false 17 _ jq5, jo9, g1]
     rw [← hF, jb6 (l := [.bool false]) (by simp (decide := true) [Tryz.f59, resE, ja1])]
     rw [hl]; rfl
   have g1 : decide ((s.length : Int) < 1) = false := decide_eq_false (by omega)
   by_cases h2 : 32 < s.length
   · have g2 : decide ((s.length : Int) > 32) = true := decide_eq_true (by omega)
     have hl : legalI s = false := by unfold legalI; rw [decide_eq_false (show ¬ s.length ≤ 32 by omega), Bool.and_false]; rfl
     refine ⟨H, ?_, self⟩
     simp (decide := true) only [↓uR.o, dG.o, ja1, reduceIte, Bool.not_false, ↓ja0 l0, ↓ja0 l1, ↓ja0 l2, ↓jb7 _ 3 false 6 _ jx4, ↓r_no _ 8 false 11 _ jx5, ↓r_no _ 14 false 17 _ jq5, jo9, g1, g2]
     rw [← hF, jb6 (l := [.bool false]) (by simp (decide := true) [Tryz.f59, resE, ja1])]
     rw [hl]; rfl
   have g2 : decide ((s.length : Int) > 32) = false := decide_eq_false (by omega)
   have h0 : 0 < s.length := by omega
   have hix : indexA PP 9 (.string ⟨⟨s⟩⟩) (.int .i64 0) = some (.int .u8 (s[0].toNat : Int)) := ys9 (i := 0) h0
   have hcl := jo4 (N := N) (hk := hk) (d := d + 5) hG s[0] (fun _ _ => K.nil _ _ _ rfl)
   have hcl : CG N hk (d + 6) 48 #[.int .u8 (s[0].toNat : Int)] H = some (.ret (.int .u8 (clsI s[0])), H) := hcl
   have hhd : s.headD 0 = s[0] := by
     cases s with
     | nil => simp at h0
     | cons u r => rfl
   by_cases h4 : clsI s[0] = 4
   · have g4 : (clsI s[0] != 4) = false := by rw [h4]; rfl
     obtain ⟨H1, x1, hres⟩ := j4o (N := N) (hk := hk) (d := d + 4) hG s (by omega) K.nil K.fields
     have hres : CG N hk (d + 6) 60 #[.string ⟨⟨s⟩⟩] H = some (.ret (.int .i64 (resI s)), H1) := hres
     by_cases hr : resI s = 0
     · have gr : (resI s != 0) = false := by rw [hr]; rfl
       obtain ⟨H2, hh, x2⟩ := y1n (N := N) (hk := hk) (d := d) (H := H1) (s := s) K (hG.trans x1) (by omega)
       have hl : legalI s = s.all wbB := by
         unfold legalI
         rw [decide_eq_true (show 1 ≤ s.length by omega), decide_eq_true (show s.length ≤ 32 by omega), hhd, decide_eq_true h4, decide_eq_true hr]; rfl
       have hn : ∀ b : Bool, unA PP .not (.bool (!b)) = some (.bool b) := fun b => by cases b <;> kernel_rfl
       refine ⟨H2, ?_, x1.trans x2⟩
       simp (decide := true) only [↓uR.o, dG.o, ja1, reduceIte, ↓ja0 l0, ↓ja0 l1, ↓ja0 l3, ↓jb7 _ 3 false 6 _ jx4, ↓jb7 _ 8 false 11 _ jx5, ↓jb7 _ 14 false 17 _ jq5, jo9, g1, g2, hix, ja3 Tryz.func48 rfl rfl hcl, g4, ja3 Tryz.func60 rfl rfl hres, gr, ja3 Tryz.func86 rfl rfl hh, hn]
       rw [← hF, jb6 (l := [.bool (s.all wbB)]) (by simp (decide := true) [Tryz.f59, resE, ja1])]
       rw [hl]; rfl
     · have gr : (resI s != 0) = true := by simpa using hr
       have hl : legalI s = false := by unfold legalI; rw [decide_eq_false hr, Bool.and_false]; rfl
       refine ⟨H1, ?_, x1⟩
       simp (decide := true) only [↓uR.o, dG.o, ja1, reduceIte, ↓ja0 l0, ↓ja0 l1, ↓ja0 l2, ↓jb7 _ 3 false 6 _ jx4, ↓jb7 _ 8 false 11 _ jx5, ↓jb7 _ 14 false 17 _ jq5, jo9, g1, g2, hix, ja3 Tryz.func48 rfl rfl hcl, g4, ja3 Tryz.func60 rfl rfl hres, gr]
       rw [← hF, jb6 (l := [.bool false]) (by simp (decide := true) [Tryz.f59, resE, ja1])]
       rw [hl]; rfl
   · have g4 : (clsI s[0] != 4) = true := by simpa using h4
     have hl : legalI s = false := by unfold legalI; rw [hhd, decide_eq_false h4, Bool.and_false]; rfl
     refine ⟨H, ?_, self⟩
     simp (decide := true) only [↓uR.o, dG.o, ja1, reduceIte, Bool.not_false, ↓ja0 l0, ↓ja0 l1, ↓ja0 l2, ↓jb7 _ 3 false 6 _ jx4, ↓jb7 _ 8 false 11 _ jx5, ↓r_no _ 14 false 17 _ jq5, jo9, g1, g2, hix, ja3 Tryz.func48 rfl rfl hcl, g4]
     rw [← hF, jb6 (l := [.bool false]) (by simp (decide := true) [Tryz.f59, resE, ja1])]
     rw [hl]; rfl
 obtain ⟨R0, m1, H', m2, m3⟩ := main
 exact ⟨H', m1.trans m2, m3⟩
end
theorem j6v {N : Nat} {hk : Hook} {d : Nat} {f : FuncId} {args : Array Value} {H : Heap} {r : End × Heap} (h : CG N hk d f args H = some r) : CH N hk d f args H = some r := j6g (fun _ h => h) d _ _ _ _ h
structure HkP (hk : Hook) : Prop where
 ok : HkOk hk
 signs : ∀ H, Ext GE H → hk 90 #[strV signsB] H = some (some (.ret (.slice (some ⟨H.next, 0, none⟩) 26 26), H.alloc 1 (cutV signsL)))
theorem code62 : codeOf Tryz.f62 = .seq (rF Tryz.f62 0) (.seq (.seq (rF Tryz.f62 1) (.cond (.tmp 8) (.seq (rF Tryz.f62 2) .ret) .skip)) (.seq (.seq (rF Tryz.f62 3) (.cond (.tmp 19) (.seq (rF Tryz.f62 4) .ret) .skip)) (.seq (rF Tryz.f62 5) .ret))) := by kernel_rfl
theorem jr5 : ((rgn Tryz.f62 1)[2]?).bind (·.dst) = some 5 := by kernel_rfl
theorem jx6 : ((rgn Tryz.f62 3)[2]?).bind (·.dst) = some 16 := by kernel_rfl
noncomputable def yt4 : Value := match (rgn Tryz.f62 2).toList.head? with
 | some o => (match o.op with | Op.call c => (match c.args.toList with | .const v :: _ => v | _ => undef) | _ => undef)
 | none => undef
noncomputable def yt5 : Value := match (rgn Tryz.f62 4).toList.head? with
 | some o => (match o.op with | Op.call c => (match c.args.toList with | .const v :: _ => v | _ => undef) | _ => undef)
 | none => undef
theorem yg7 : yt4 = strV wordsB := by kernel_rfl
theorem yg8 : yt5 = strV signsB := by kernel_rfl
theorem yt6 : aggT PP 9 = some false := by decide +kernel
theorem undStrs' : PP.underlying 47 = some (.slice 9) := Tryz.underlying47
theorem yt7 : sizeT PP 9 = some 1 := by decide +kernel
theorem yt8 {q n j : Nat} (h : j < n) : indexAddrA PP 47 (.slice (some ⟨q, 0, none⟩) n n) (.int .i64 (j : Int)) = some (.pointer (some ⟨q, j, none⟩)) := by
 simp [indexAddrA, yt7, at_, Addr.add]
 omega
theorem j8l {H : Heap} {q : Nat} {L : List (List UInt8)} (h : H.get q = some ⟨L.map strV, true, 1, none⟩) {j : Nat} (hj : j < L.length) : loadA PP 9 (.pointer (some ⟨q, j, none⟩)) H = some (.string ⟨⟨L[j]⟩⟩, H) := by
 simp only [loadA, yt6]
 simp [ld1, look, h, hj, strV]
theorem yg9 {N : Nat} {hk : Hook} {d : Nat} {H : Heap} (K : HkP hk) (hG : Ext GE H) (k : Int) : ∃ (w : List UInt8) (H' : Heap), CH N hk (d + 2) 62 #[.int .i64 k] H = some (.ret (.string ⟨⟨w⟩⟩), H') ∧ Ext H H' := by
 have hh := K.ok.nil
 suffices main : ∀ X : Am.R → Prop, (∀ (w : List UInt8) (H' : Heap), Ext H H' → X (some (.ret (.string ⟨⟨w⟩⟩), H'))) → X (CH N hk (d + 2) 62 #[.int .i64 k] H) by
   obtain ⟨w, H', h1, h2⟩ := main (fun r => ∃ (w : List UInt8) (H' : Heap), r = some (.ret (.string ⟨⟨w⟩⟩), H') ∧ Ext H H') fun w H' h => ⟨w, H', rfl, h⟩
   exact ⟨w, H', h1, h2⟩
 intro X hX
 have self : Ext H H := ⟨Nat.le_refl _, fun _ _ h => h, hG.fresh⟩
 have hU := jb8 (P := PP) (okf := okC) (prf := prS) (X := XX) (N := N) (hk := hk) (d := d + 1) (args := #[.int .i64 k]) (H := H) (hh _ _ _ rfl) Tryz.func62 (c := codeOf Tryz.f62) rfl rfl rfl (pr := noPr) rfl
 rw [code62] at hU
 generalize hF : finG PP okC prS XX (CH N hk (d + 1)) N Tryz.f62 = F at hU
 refine Eq.mpr (congrArg X hU) ?_
 have lL := lX6 Tryz.f62 0 1 2 3 4 5
 conv at lL in (occs := *) (rgnX _ _) => all_goals simp only [rX, opsAt, Tryz.f62, dL.o, reduceIte, Nat.reduceEqDiff]
 obtain ⟨l0, l1, l2, l3, l4, l5⟩ := lL
 by_cases hw : 30 ≤ k ∧ k ≤ 79
 · have g1 : decide (k ≥ 30) = true := decide_eq_true hw.1
   have g2 : decide (k ≤ 79) = true := decide_eq_true hw.2
   have hq : (H.alloc 1 wordsV).get H.next = some ⟨wordsV, true, 1, none⟩ := jc6 _ _ _
   have h36 : CG N hk (d + 1) 90 #[strV wordsB] H = some (.ret (.slice (some ⟨H.next, 0, none⟩) 50 50), H.alloc 1 wordsV) := jj9 (K.ok.fields H hG)
   rw [← yg7] at h36
   have h36 := j6v h36
   simp only [yt4, rgn, opsAt, codeOf, Tryz.f62, gS, reduceIte, Nat.reduceEqDiff, tA, List.head?_cons] at h36
   obtain ⟨j, hj⟩ : ∃ j : Nat, k = (j : Int) + 30 := ⟨(k - 30).toNat, by omega⟩
   have hj2 : j < 50 := by omega
   have wr : IntKind.i64.wrap (k - 30) = (j : Int) := by rw [jb2 (by omega) (by omega)]; omega
   have hl : wordsL.length = 50 := by decide +kernel
   have hix : indexAddrA PP 47 (.slice (some ⟨H.next, 0, none⟩) 50 50) (.int .i64 (j : Int)) = some (.pointer (some ⟨H.next, j, none⟩)) := yt8 hj2
   have hld : loadA PP 9 (.pointer (some ⟨H.next, j, none⟩)) (H.alloc 1 wordsV) = some (.string ⟨⟨wordsL[j]⟩⟩, H.alloc 1 wordsV) := j8l hq (by rw [hl]; exact hj2)
   simp (decide := true) only [↓uR.o, dG.o, ja1, reduceIte, ↓ja0 l0, ↓ja0 l1, ↓ja0 l2, ↓jb7 _ 2 true 5 _ jr5, g1, g2, ja3 Tryz.func90 rfl rfl h36, wr, hix, hld]
   rw [← hF, ja4 (l := [.string ⟨⟨wordsL[j]⟩⟩]) (by simp (decide := true) [Tryz.f62, resE, ja1])]
   exact hX _ _ (Ext.alloc hG.fresh _ _)
 · by_cases hs : 4 ≤ k ∧ k ≤ 29
   · have g1 : decide (k ≥ 30) = false := decide_eq_false (by omega)
     have g3 : decide (k ≥ 4) = true := decide_eq_true hs.1
     have g4 : decide (k ≤ 29) = true := decide_eq_true hs.2
     have hq : (H.alloc 1 (cutV signsL)).get H.next = some ⟨(cutV signsL), true, 1, none⟩ := jc6 _ _ _
     have h36 : CG N hk (d + 1) 90 #[strV signsB] H = some (.ret (.slice (some ⟨H.next, 0, none⟩) 26 26), H.alloc 1 (cutV signsL)) := jj9 (K.signs H hG)
     rw [← yg8] at h36
     have h36 := j6v h36
     simp only [yt5, rgn, opsAt, codeOf, Tryz.f62, gS, reduceIte, Nat.reduceEqDiff, tA, List.head?_cons] at h36
     obtain ⟨j, hj⟩ : ∃ j : Nat, k = (j : Int) + 4 := ⟨(k - 4).toNat, by omega⟩
     have hj2 : j < 26 := by omega
     have wr : IntKind.i64.wrap (k - 4) = (j : Int) := by rw [jb2 (by omega) (by omega)]; omega
     have hl : signsL.length = 26 := by decide +kernel
     have hix : indexAddrA PP 47 (.slice (some ⟨H.next, 0, none⟩) 26 26) (.int .i64 (j : Int)) = some (.pointer (some ⟨H.next, j, none⟩)) := yt8 hj2
     have hld : loadA PP 9 (.pointer (some ⟨H.next, j, none⟩)) (H.alloc 1 (cutV signsL)) = some (.string ⟨⟨signsL[j]⟩⟩, H.alloc 1 (cutV signsL)) := j8l hq (by rw [hl]; exact hj2)
     simp (decide := true) only [↓uR.o, dG.o, ja1, reduceIte, Bool.not_true, ↓ja0 l0, ↓ja0 l1, ↓ja0 l3, ↓ja0 l4, ↓r_no _ 2 true 5 _ jr5, ↓jb7 _ 2 true 16 _ jx6, g1, g3, g4, ja3 Tryz.func90 rfl rfl h36, wr, hix, hld]
     rw [← hF, ja4 (l := [.string ⟨⟨signsL[j]⟩⟩]) (by simp (decide := true) [Tryz.f62, resE, ja1])]
     exact hX _ _ (Ext.alloc hG.fresh _ _)
   · have fin : ∀ (v30 v79 v4 v29 : Bool), decide (k ≥ 30) = v30 → decide (k ≤ 79) = v79 → decide (k ≥ 4) = v4 → decide (k ≤ 29) = v29 → (v30 && v79) = false → (v4 && v29) = false → X (execG PP XX (CH N hk (d + 1)) N noPr (.seq (rF Tryz.f62 0) (.seq (.seq (rF Tryz.f62 1) (.cond (.tmp 8) (.seq (rF Tryz.f62 2) .ret) .skip)) (.seq (.seq (rF Tryz.f62 3) (.cond (.tmp 19) (.seq (rF Tryz.f62 4) .ret) .skip)) (.seq (rF Tryz.f62 5) .ret)))) none (startE #[.int .i64 k]) [] H F) := by
       intro v30 v79 v4 v29 g1 g2 g3 g4 q1 q2
       cases v30 <;> cases v79 <;> first | (cases q1; done) | skip
       all_goals cases v4 <;> cases v29 <;> first | (cases q2; done) | skip
       all_goals first
         | (simp (decide := true) only [↓uR.o, dG.o, ja1, reduceIte, ↓ja0 l0, ↓ja0 l1, ↓ja0 l3, ↓ja0 l5, ↓jb7 _ 2 true 5 _ jr5, ↓jb7 _ 2 true 16 _ jx6, g1, g2, g3, g4]
            rw [← hF, ja4 (l := [.string .empty]) (by simp (decide := true) [Tryz.f62, resE, ja1])]
            exact hX [] H self)
         | (simp (decide := true) only [↓uR.o, dG.o, ja1, reduceIte, Bool.not_true, ↓ja0 l0, ↓ja0 l1, ↓ja0 l3, ↓ja0 l5, ↓jb7 _ 2 true 5 _ jr5, ↓r_no _ 2 true 16 _ jx6, g1, g2, g3]
            rw [← hF, ja4 (l := [.string .empty]) (by simp (decide := true) [Tryz.f62, resE, ja1])]
            exact hX [] H self)
         | (simp (decide := true) only [↓uR.o, dG.o, ja1, reduceIte, Bool.not_true, ↓ja0 l0, ↓ja0 l1, ↓ja0 l3, ↓ja0 l5, ↓r_no _ 2 true 5 _ jr5, ↓jb7 _ 2 true 16 _ jx6, g1, g3, g4]
            rw [← hF, ja4 (l := [.string .empty]) (by simp (decide := true) [Tryz.f62, resE, ja1])]
            exact hX [] H self)
         | (simp (decide := true) only [↓uR.o, dG.o, ja1, reduceIte, Bool.not_true, ↓ja0 l0, ↓ja0 l1, ↓ja0 l3, ↓ja0 l5, ↓r_no _ 2 true 5 _ jr5, ↓r_no _ 2 true 16 _ jx6, g1, g3]
            rw [← hF, ja4 (l := [.string .empty]) (by simp (decide := true) [Tryz.f62, resE, ja1])]
            exact hX [] H self)
     exact fin _ _ _ _ rfl rfl rfl rfl (by rw [Bool.eq_false_iff]; intro h; simp only [Bool.and_eq_true, decide_eq_true_eq] at h; exact hw h) (by rw [Bool.eq_false_iff]; intro h; simp only [Bool.and_eq_true, decide_eq_true_eq] at h; exact hs h)
theorem y77 {s : List UInt8} {j : Nat} (h2 : j ≤ s.length) (H : Heap) : sliceOpA PP 9 (.string ⟨⟨s⟩⟩) none (some (.int .i64 (j : Int))) none H = some (.string ⟨⟨s.take j⟩⟩) := by
 have e : (⟨⟨s⟩⟩ : ByteArray).size = s.length := rfl
 simp only [sliceOpA, undStr, sliceS, e]
 rw [if_pos (by omega)]
 simp only [Int.toNat_natCast]
 congr 2
 apply ByteArray.ext
 apply Array.ext'
 simp
theorem code91 : codeOf Tryz.f91 = .seq (rF Tryz.f91 0) (.seq (rF Tryz.f91 1) .ret) := by kernel_rfl
theorem yb4 : ((rgn Tryz.f91 1)[5]?).bind (·.dst) = some 10 := by kernel_rfl
theorem code61 : codeOf Tryz.f61 = .seq (rF Tryz.f61 0) (.seq (rF Tryz.f61 1) .ret) := by kernel_rfl
theorem yt9 {N : Nat} {hk : Hook} {d : Nat} {H : Heap} (hh : NH hk) (x y : List UInt8) : ∃ t, CH N hk (d + 2) 61 #[.string ⟨⟨x⟩⟩, .string ⟨⟨y⟩⟩] H = some (.ret (.bool t), H) := by
 have q : ∃ t, CH N hk (d + 1) 91 #[.string ⟨⟨x⟩⟩, .string ⟨⟨y⟩⟩] H = some (.ret (.bool t), H) := by
   have hU := jb8 (P := PP) (okf := okC) (prf := prS) (X := XX) (N := N) (hk := hk) (d := d) (args := #[.string ⟨⟨x⟩⟩, .string ⟨⟨y⟩⟩]) (H := H) (hh _ _ _ rfl) Tryz.func91 (c := codeOf Tryz.f91) rfl rfl rfl (pr := noPr) rfl
   rw [code91] at hU
   generalize hF : finG PP okC prS XX (CH N hk (d)) N Tryz.f91 = F at hU
   have lL := lX2 Tryz.f91 0 1
   conv at lL in (occs := *) (rgnX _ _) => all_goals simp only [rX, opsAt, Tryz.f91, dL.o, reduceIte, Nat.reduceEqDiff]
   obtain ⟨l0, l1⟩ := lL
   by_cases h : y.length ≤ x.length
   · have g : decide ((x.length : Int) ≥ (y.length : Int)) = true := decide_eq_true (by omega)
     refine ⟨decide (x.take y.length = y), hU.trans ?_⟩
     simp (decide := true) only [↓uR.o, dG.o, ja1, reduceIte, ↓ja0 l0, ↓ja0 l1, ↓jb7 _ 5 true 10 _ yb4, jo9, g, (y77 h), j0y, Option.map_some, Option.map_none, Option.map_some, Option.map_none]
     rw [← hF, ja4 (l := [.bool (decide (x.take y.length = y))]) (by simp (decide := true) [Tryz.f91, resE, ja1])]
     rfl
   · have g : decide ((x.length : Int) ≥ (y.length : Int)) = false := decide_eq_false (by omega)
     refine ⟨false, hU.trans ?_⟩
     simp (decide := true) only [↓uR.o, dG.o, ja1, reduceIte, Bool.not_true, ↓ja0 l0, ↓ja0 l1, ↓r_no _ 5 true 10 _ yb4, jo9, g]
     rw [← hF, ja4 (l := [.bool false]) (by simp (decide := true) [Tryz.f91, resE, ja1])]
     rfl
 obtain ⟨t, ht⟩ := q
 have hU := jb8 (P := PP) (okf := okC) (prf := prS) (X := XX) (N := N) (hk := hk) (d := d + 1) (args := #[.string ⟨⟨x⟩⟩, .string ⟨⟨y⟩⟩]) (H := H) (hh _ _ _ rfl) Tryz.func61 (c := codeOf Tryz.f61) rfl rfl rfl (pr := noPr) rfl
 rw [code61] at hU
 generalize hF : finG PP okC prS XX (CH N hk (d + 1)) N Tryz.f61 = F at hU
 have lL := lX2 Tryz.f61 0 1
 conv at lL in (occs := *) (rgnX _ _) => all_goals simp only [rX, opsAt, Tryz.f61, dL.o, reduceIte, Nat.reduceEqDiff]
 obtain ⟨l0, l1⟩ := lL
 refine ⟨t, hU.trans ?_⟩
 simp (decide := true) only [↓uR.o, dG.o, ja1, reduceIte, ↓ja0 l0, ↓ja0 l1, ja3 Tryz.func91 rfl rfl ht]
 rw [← hF, ja4 (l := [.bool t]) (by simp (decide := true) [Tryz.f61, resE, ja1])]
 rfl
theorem j0d (H : Heap) {w : List UInt8} (h : w.length ≤ 140737488355328) : convertA PP 9 34 (.string ⟨⟨w⟩⟩) H = some (.slice (some ⟨H.next, 0, none⟩) w.length w.length, H.alloc 1 (w.map f8)) := by
 have e : (⟨⟨w⟩⟩ : ByteArray).size = w.length := rfl
 simp only [convertA, undStr, und34, undU8, e]
 rw [if_pos (by unfold most; omega)]
 rfl
theorem y1o {H : Heap} {w : List UInt8} (hw : w.length < 9223372036854775808) : Brow (H.alloc 1 (w.map f8)) (some ⟨H.next, 0, none⟩) w := by
 refine ⟨fun b hb => ?_, fun e => (by cases e), hw⟩
 obtain rfl := Option.some.inj hb
 refine ⟨⟨w.map f8, true, 1, none⟩, ?_, rfl, by simp, ?_⟩
 · simp only [look]
   rw [Heap.get_alloc, if_pos rfl]
 · simp only [List.drop_zero]
   rw [List.take_of_length_le (by simp)]
   rfl
theorem y1p {w : List UInt8} (h : 0 < w.length) : indexA PP 9 (.string ⟨⟨w⟩⟩) (.int .i64 0) = some (.int .u8 ((w[0]).toNat : Int)) := ys9 (i := 0) h
structure Wt (H : Heap) (v : Value) (y : Option Addr) (n m : Nat) : Prop where
 eq : v = .slice y n m
 le : n ≤ 2000
 cell : ∀ Hc, Ext H Hc → ∀ j, j < n → ∃ (k : Int) (p : Value), indexAddrA PP 22 (.slice y n m) (.int .i64 (j : Int)) = some p ∧ loadA PP 3 p Hc = some (.int .i64 k, Hc)
theorem y63 {a : Option Addr} {c : Nat} {s : List UInt8} {b : Nat} {H : Heap} {R : RS} (x : Rd a c s b H R) : ∃ y n m, Wt H R.want y n m := by
 rcases x.want with h | ⟨q, n, m, h1, h2, h3, _, ws, h4, h5, h6⟩
 · exact ⟨none, 0, 0, h, by omega, fun _ _ j hj => by omega⟩
 · refine ⟨some ⟨q, 0, none⟩, n, m, h1, by omega, fun Hc xc j hj => ?_⟩
   have hj2 : j < ws.length := by omega
   obtain ⟨k, hk⟩ := h6 ws[j] (List.getElem_mem hj2)
   refine ⟨k, .pointer (some ⟨q, j, none⟩), ?_, ?_⟩
   · simp [indexAddrA, jo6, at_, Addr.add]
     omega
   · have hg := xc.keep q _ h4
     simp only [loadA, jm3]
     simp [ld1, look, hg, hj2, hk]
theorem code42 : codeOf Tryz.f42 = .seq (rF Tryz.f42 0) (.seq (.seq (rF Tryz.f42 1) (.cond (.tmp 22) (.seq (rF Tryz.f42 2) .ret) .skip)) (.seq (.seq (rF Tryz.f42 3) (.cond (.tmp 36) (.seq (rF Tryz.f42 4) (.seq (rF Tryz.f42 5) (.cond (.tmp 51) (.seq (rF Tryz.f42 6) .ret) .skip))) .skip)) (.seq (.seq (rF Tryz.f42 7) (.block 0 (.loop (.seq (rF Tryz.f42 8) (.seq (.cond (.tmp 58) .skip (.exit 0)) (.seq (.block 1 (.seq (rF Tryz.f42 9) (.seq (rF Tryz.f42 10) (.cond (.tmp 64) (.seq (rF Tryz.f42 11) .ret) .skip)))) (rF Tryz.f42 12))))))) (.seq (rF Tryz.f42 13) .ret)))) := by kernel_rfl
theorem j03 : ((rgn Tryz.f42 1)[4]?).bind (·.dst) = some 14 := by kernel_rfl
theorem j04 : ((rgn Tryz.f42 1)[7]?).bind (·.dst) = some 17 := by kernel_rfl
theorem jr6 : ((rgn Tryz.f42 3)[4]?).bind (·.dst) = some 27 := by kernel_rfl
theorem jr7 : ((rgn Tryz.f42 3)[9]?).bind (·.dst) = some 32 := by kernel_rfl
theorem j40 : ((rgn Tryz.f42 5)[2]?).bind (·.dst) = some 46 := by kernel_rfl
theorem yu0 {N : Nat} {hk : Hook} {d : Nat} {H : Heap} {v : Value} {y : Option Addr} {n m : Nat} {w : List UInt8} {Q : Am.R → Prop} {k : KOE} (K : HkP hk) (hG : Ext GE H) (W : Wt H v y n m)
   (hret : ∀ E' H', E' 4 = .bool true → Ext H H' → Q (k .ret E' [] H')) (hend : ∀ E' H', Ext H H' → Q (k (.exit 0) E' [] H')) : ∀ (r j mm : Nat) (_ : j + r = n) (_ : r < mm) {E : Env} {Hc : Heap} (_ : Ext H Hc) (_ : E 1 = .string ⟨⟨w⟩⟩ ∧ E 55 = .slice y n m ∧ E 56 = .int .i64 (n : Int) ∧ E 57 = .int .i64 (j : Int)),
   Q (loopE (execG PP XX (CH N hk (d + 8)) N noPr (.seq (rF Tryz.f42 8) (.seq (.cond (.tmp 58) .skip (.exit 0)) (.seq (.block 1 (.seq (rF Tryz.f42 9) (.seq (rF Tryz.f42 10) (.cond (.tmp 64) (.seq (rF Tryz.f42 11) .ret) .skip)))) (rF Tryz.f42 12)))) none) mm E [] Hc k)
 | 0, j, mm + 1, hj, hm, E, Hc, xc, e => by
   obtain ⟨ea, eb, ec, ed⟩ := e
   have zl : decide ((j : Int) < (n : Int)) = false := decide_eq_false (by omega)
   rw [jb5]
   have l8 := tl (rgn Tryz.f42 8)
   conv at l8 => rhs; simp only [rgn, opsAt, codeOf, Tryz.f42, gS, gN, reduceIte, Nat.reduceEqDiff, tA]
   simp (decide := true) only [↓uR.o, dG.o, ja1, reduceIte, ↓ja0 l8, ec, ed, zl]
   exact hend _ _ xc
 | r + 1, j, mm + 1, hj, hm, E, Hc, xc, e => by
   obtain ⟨ea, eb, ec, ed⟩ := e
   have hw2 := W.le
   have zl : decide ((j : Int) < (n : Int)) = true := decide_eq_true (by omega)
   have wr : IntKind.i64.wrap ((j : Int) + 1) = ((j + 1 : Nat) : Int) := by rw [jb2 (by omega) (by omega)]; omega
   obtain ⟨kk, p, hp1, hp2⟩ := W.cell Hc xc j (by omega)
   obtain ⟨u, H2, c2, x2⟩ := yg9 (N := N) (d := d + 6) K (hG.trans xc) kk
   obtain ⟨t, c3⟩ := yt9 (N := N) (d := d + 6) (H := H2) K.ok.nil u w
   rw [jb5]
   have lL := lX5 Tryz.f42 8 9 10 11 12
   conv at lL in (occs := *) (rgnX _ _) => all_goals simp only [rX, opsAt, Tryz.f42, dL.o, reduceIte, Nat.reduceEqDiff]
   obtain ⟨l8, l9, l10, l11, l12⟩ := lL
   cases t with
   | true =>
     simp (decide := true) only [↓uR.o, dG.o, ja1, reduceIte, ↓ja0 l8, ↓ja0 l9, ↓ja0 l10, ↓ja0 l11, ea, eb, ec, ed, zl, hp1, hp2, ja3 Tryz.func62 rfl rfl c2, ja3 Tryz.func61 rfl rfl c3]
     exact hret _ _ (by simp (decide := true) only [ja1, reduceIte]) (xc.trans x2)
   | false =>
     simp (decide := true) only [↓uR.o, dG.o, ja1, reduceIte, ↓ja0 l8, ↓ja0 l9, ↓ja0 l10, ↓ja0 l12, ea, eb, ec, ed, zl, hp1, hp2, ja3 Tryz.func62 rfl rfl c2, ja3 Tryz.func61 rfl rfl c3, wr]
     refine yu0 (w := w) K hG W hret hend r (j + 1) mm (by omega) (by omega) (xc.trans x2) ⟨ea, eb, ec, rfl⟩
theorem y5c {N : Nat} {hk : Hook} {d : Nat} {a : Option Addr} {c : Nat} {s : List UInt8} {b : Nat} {H : Heap} {R : RS} {w : List UInt8} (K : HkP hk) (hN : 2097400 < N) (x : Rd a c s b H R) (h0 : 0 < w.length) (hw : w.length ≤ 1048576) (hok : okP w) : ∃ t H', CH N hk (d + 9) 42 #[.pointer (some ⟨b, 0, none⟩), .string ⟨⟨w⟩⟩] H = some (.ret (.bool t), H') ∧ Ext H H' := by
 have hh := K.ok.nil
 suffices main : ∀ X : Am.R → Prop, (∀ (t : Bool) (H' : Heap), Ext H H' → X (some (.ret (.bool t), H'))) → X (CH N hk (d + 9) 42 #[.pointer (some ⟨b, 0, none⟩), .string ⟨⟨w⟩⟩] H) by
   obtain ⟨w, H', h1, h2⟩ := main (fun r => ∃ (t : Bool) (H' : Heap), r = some (.ret (.bool t), H') ∧ Ext H H') fun w H' h => ⟨w, H', rfl, h⟩
   exact ⟨w, H', h1, h2⟩
 intro X hX
 have hG := x.gg
 have self : Ext H H := ⟨Nat.le_refl _, fun _ _ h => h, hG.fresh⟩
 have hU := jb8 (P := PP) (okf := okC) (prf := prS) (X := XX) (N := N) (hk := hk) (d := d + 8) (args := #[.pointer (some ⟨b, 0, none⟩), .string ⟨⟨w⟩⟩]) (H := H) (hh _ _ _ rfl) Tryz.func42 (c := codeOf Tryz.f42) rfl rfl rfl (pr := noPr) rfl
 rw [code42] at hU
 generalize hF : finG PP okC prS XX (CH N hk (d + 8)) N Tryz.f42 = F at hU
 refine Eq.mpr (congrArg X hU) ?_
 have lL : _ ∧ _ := ⟨lX8 Tryz.f42 0 1 2 3 4 5 6 7, lX Tryz.f42 13⟩
 conv at lL in (occs := *) (rgnX _ _) => all_goals simp only [rX, opsAt, Tryz.f42, dL.o, reduceIte, Nat.reduceEqDiff]
 obtain ⟨⟨l0, l1, l2, l3, l4, l5, l6, l7⟩, l13⟩ := lL
 have st3 : ∀ (H1 : Heap) (E : Env), Ext H H1 → E 0 = .pointer (some ⟨b, 0, none⟩) → E 1 = .string ⟨⟨w⟩⟩ → X (execG PP XX (CH N hk (d + 8)) N noPr (.seq (.seq (rF Tryz.f42 7) (.block 0 (.loop (.seq (rF Tryz.f42 8) (.seq (.cond (.tmp 58) .skip (.exit 0)) (.seq (.block 1 (.seq (rF Tryz.f42 9) (.seq (rF Tryz.f42 10) (.cond (.tmp 64) (.seq (rF Tryz.f42 11) .ret) .skip)))) (rF Tryz.f42 12))))))) (.seq (rF Tryz.f42 13) .ret)) none E [] H1 F) := by
   intro H1 E x1 e0 e1
   obtain ⟨y, n, m, W⟩ := y63 x
   have rd1 := x.ext x1
   have hwv := W.eq
   have W1 : Wt H1 R.want y n m := ⟨W.eq, W.le, fun Hc xc j hj => W.cell Hc (x1.trans xc) j hj⟩
   simp (decide := true) only [↓uR.o, dG.o, ja1, reduceIte, ↓ja0 l7, rfwant, e0, j4l rd1.blk, hwv, ja7 (ts := #[22]) rfl undInts, ↓jc8]
   refine yu0 (w := w) K (hG.trans x1) W1 ?_ ?_ n 0 N (by omega) (by have := W.le; omega) (Hc := H1) ⟨Nat.le_refl _, fun _ _ h => h, x1.fresh⟩ ⟨e1, rfl, rfl, by simp (decide := true) only [ja1, reduceIte] <;> rfl⟩
   · intro E' H' e4 x2
     simp only [jn0, ji7]
     rw [← hF, ja4 (l := [.bool true]) (by simp (decide := true) [Tryz.f42, resE, e4])]
     exact hX _ _ (x1.trans x2)
   · intro E' H' x2
     simp only [jt9, jc4]
     simp (decide := true) only [↓uR.o, dG.o, ↓ja0 l13]
     rw [← hF, ja4 (l := [.bool false]) (by simp (decide := true) [Tryz.f42, resE, ja1])]
     exact hX _ _ (x1.trans x2)
 have st2 : ∀ (H1 : Heap) (E : Env), Ext H H1 → E 0 = .pointer (some ⟨b, 0, none⟩) → E 1 = .string ⟨⟨w⟩⟩ → X (execG PP XX (CH N hk (d + 8)) N noPr (.seq (.seq (rF Tryz.f42 3) (.cond (.tmp 36) (.seq (rF Tryz.f42 4) (.seq (rF Tryz.f42 5) (.cond (.tmp 51) (.seq (rF Tryz.f42 6) .ret) .skip))) .skip)) (.seq (.seq (rF Tryz.f42 7) (.block 0 (.loop (.seq (rF Tryz.f42 8) (.seq (.cond (.tmp 58) .skip (.exit 0)) (.seq (.block 1 (.seq (rF Tryz.f42 9) (.seq (rF Tryz.f42 10) (.cond (.tmp 64) (.seq (rF Tryz.f42 11) .ret) .skip)))) (rF Tryz.f42 12))))))) (.seq (rF Tryz.f42 13) .ret))) none E [] H1 F) := by
   intro H1 E x1 e0 e1
   have rd1 := x.ext x1
   have hb := y57 rd1.blk
   have hc := y1p h0
   generalize hn : R.num = nm at hb
   have go : ∀ E1 : Env, E1 0 = .pointer (some ⟨b, 0, none⟩) → E1 1 = .string ⟨⟨w⟩⟩ → X (execG PP XX (CH N hk (d + 8)) N noPr (.seq (.seq (rF Tryz.f42 7) (.block 0 (.loop (.seq (rF Tryz.f42 8) (.seq (.cond (.tmp 58) .skip (.exit 0)) (.seq (.block 1 (.seq (rF Tryz.f42 9) (.seq (rF Tryz.f42 10) (.cond (.tmp 64) (.seq (rF Tryz.f42 11) .ret) .skip)))) (rF Tryz.f42 12))))))) (.seq (rF Tryz.f42 13) .ret)) none E1 [] H1 F) := fun E1 => st3 H1 E1 x1
   cases nm with
   | false =>
     simp (decide := true) only [↓uR.o, dG.o, ja1, reduceIte, Bool.not_true, ↓ja0 l3, ↓r_no _ 4 true 27 _ jr6, ↓r_no _ 9 true 32 _ jr7, rfnum, e0, hb]
     exact go _ (e0) (e1)
   | true =>
     by_cases h48 : ((w[0]).toNat : Int) ≥ 48
     · have g48 := decide_eq_true h48
       by_cases h57 : ((w[0]).toNat : Int) ≤ 57
       · have g57 := decide_eq_true h57
         have rw1 := y1o (H := H1) (w := w) (by omega)
         obtain ⟨H2, x2, v, e, q, ct, hv⟩ := j3p (N := N) (hk := hk) (d := d + 3) (c := w.length) K.ok ((hG.trans x1).trans (Ext.alloc x1.fresh 1 (w.map f8))) rw1 (by omega) hw (Nat.le_refl _) hok
         have ct := j6v ct
         have x12 := (x1.trans (Ext.alloc x1.fresh 1 (w.map f8))).trans x2
         rcases hv with ⟨_, _, rfl, rfl⟩ | ⟨wr, _, rfl, rfl, rfl⟩
         · simp (decide := true) only [↓uR.o, dG.o, ja1, reduceIte, Bool.not_false, ↓ja0 l3, ↓ja0 l4, ↓ja0 l5, ↓ja0 l6, ↓jb7 _ 4 true 27 _ jr6, ↓jb7 _ 9 true 32 _ jr7, ↓r_no _ 2 false 46 _ j40, rfnum, e0, e1, hb, hc, g48, g57, (j0d _ (show w.length ≤ 140737488355328 by omega)), ja3 Tryz.func12 rfl rfl ct, exA, exB, exC, z00]
           rw [← hF, ja4 (l := [.bool true]) (by simp (decide := true) [Tryz.f42, resE, ja1])]
           exact hX _ _ x12
         · have goH : ∀ E1 : Env, E1 0 = .pointer (some ⟨b, 0, none⟩) → E1 1 = .string ⟨⟨w⟩⟩ → X (execG PP XX (CH N hk (d + 8)) N noPr (.seq (.seq (rF Tryz.f42 7) (.block 0 (.loop (.seq (rF Tryz.f42 8) (.seq (.cond (.tmp 58) .skip (.exit 0)) (.seq (.block 1 (.seq (rF Tryz.f42 9) (.seq (rF Tryz.f42 10) (.cond (.tmp 64) (.seq (rF Tryz.f42 11) .ret) .skip)))) (rF Tryz.f42 12))))))) (.seq (rF Tryz.f42 13) .ret)) none E1 [] H2 F) := fun E1 => st3 H2 E1 x12
           cases hwl : ((wr : Int) == (w.length : Int)) with
           | true =>
             simp (decide := true) only [↓uR.o, dG.o, ja1, reduceIte, ↓ja0 l3, ↓ja0 l4, ↓ja0 l5, ↓ja0 l6, ↓jb7 _ 4 true 27 _ jr6, ↓jb7 _ 9 true 32 _ jr7, ↓jb7 _ 2 false 46 _ j40, rfnum, e0, e1, hb, hc, g48, g57, (j0d _ (show w.length ≤ 140737488355328 by omega)), ja3 Tryz.func12 rfl rfl ct, exA, exB, exC, z60, jo9, hwl]
             rw [← hF, ja4 (l := [.bool true]) (by simp (decide := true) [Tryz.f42, resE, ja1])]
             exact hX _ _ x12
           | false =>
             simp (decide := true) only [↓uR.o, dG.o, ja1, reduceIte, ↓ja0 l3, ↓ja0 l4, ↓ja0 l5, ↓jb7 _ 4 true 27 _ jr6, ↓jb7 _ 9 true 32 _ jr7, ↓jb7 _ 2 false 46 _ j40, rfnum, e0, e1, hb, hc, g48, g57, (j0d _ (show w.length ≤ 140737488355328 by omega)), ja3 Tryz.func12 rfl rfl ct, exA, exB, exC, z60, jo9, hwl]
             exact goH _ (e0) (e1)
       · have g57 := decide_eq_false h57
         simp (decide := true) only [↓uR.o, dG.o, ja1, reduceIte, ↓ja0 l3, ↓jb7 _ 4 true 27 _ jr6, ↓jb7 _ 9 true 32 _ jr7, rfnum, e0, e1, hb, hc, g48, g57]
         exact go _ (e0) (e1)
     · have g48 := decide_eq_false h48
       simp (decide := true) only [↓uR.o, dG.o, ja1, reduceIte, Bool.not_true, ↓ja0 l3, ↓jb7 _ 4 true 27 _ jr6, ↓r_no _ 9 true 32 _ jr7, rfnum, e0, e1, hb, hc, g48]
       exact go _ (e0) (e1)
 simp (decide := true) only [↓uR.o, dG.o, ↓ja0 l0]
 generalize hB : execG PP XX (callH PP okC prS XX N hk (d + 8)) N noPr (.seq (.seq (rF Tryz.f42 3) (.cond (.tmp 36) (.seq (rF Tryz.f42 4) (.seq (rF Tryz.f42 5) (.cond (.tmp 51) (.seq (rF Tryz.f42 6) .ret) .skip))) .skip)) (.seq (.seq (rF Tryz.f42 7) (.block 0 (.loop (.seq (rF Tryz.f42 8) (.seq (.cond (.tmp 58) .skip (.exit 0)) (.seq (.block 1 (.seq (rF Tryz.f42 9) (.seq (rF Tryz.f42 10) (.cond (.tmp 64) (.seq (rF Tryz.f42 11) .ret) .skip)))) (rF Tryz.f42 12))))))) (.seq (rF Tryz.f42 13) .ret))) none = B2
 have st2 : ∀ (H1 : Heap) (E : Env), Ext H H1 → E 0 = .pointer (some ⟨b, 0, none⟩) → E 1 = .string ⟨⟨w⟩⟩ → X (B2 E [] H1 F) := fun H1 E x1 e0 e1 => hB ▸ st2 H1 E x1 e0 e1
 have hb := y34 x.blk
 generalize hn : R.name = nm at hb
 cases nm with
 | false =>
   simp (decide := true) only [↓uG.o, dG.o, ja1, reduceIte, Bool.not_true, ↓ja0 l1, ↓r_no _ 4 true 14 _ j03, ↓yn5 _ 7 false 17 _ j04, rfname, hb]
   refine st2 _ _ self ?_ ?_
   · simp (decide := true) only [ja1, reduceIte, jd4]
   · simp (decide := true) only [ja1, reduceIte, jf3]
 | true =>
   obtain ⟨H1, c1, x1⟩ := yg6 (N := N) (hk := hk) (d := d + 1) (H := H) (s := w) K.ok hG (by omega) (by omega)
   have c1 := j6v c1
   generalize hl : legalI w = lg at c1
   cases lg with
   | true =>
     simp (decide := true) only [↓uR.o, dG.o, ja1, reduceIte, Bool.not_false, ↓ja0 l1, ↓ja0 l2, ↓jb7 _ 4 true 14 _ j03, ↓r_no _ 7 false 17 _ j04, rfname, hb, ja3 Tryz.func59 rfl rfl c1]
     rw [← hF, ja4 (l := [.bool true]) (by simp (decide := true) [Tryz.f42, resE, ja1])]
     exact hX _ _ x1
   | false =>
     obtain ⟨H2, x2, c2⟩ := j4o (N := N) (hk := hk) (d := d + 6) (hG.trans x1) w (by omega) K.ok.nil K.ok.fields
     have c2 := j6v c2
     cases hr : (resI w != 0) with
     | true =>
       simp (decide := true) only [↓uR.o, dG.o, ja1, reduceIte, ↓ja0 l1, ↓ja0 l2, ↓jb7 _ 4 true 14 _ j03, ↓jb7 _ 7 false 17 _ j04, rfname, hb, ja3 Tryz.func59 rfl rfl c1, ja3 Tryz.func60 rfl rfl c2, hr]
       rw [← hF, ja4 (l := [.bool true]) (by simp (decide := true) [Tryz.f42, resE, ja1])]
       exact hX _ _ (x1.trans x2)
     | false =>
       simp (decide := true) only [↓uG.o, dG.o, ja1, reduceIte, ↓ja0 l1, ↓jb7 _ 4 true 14 _ j03, ↓jb7 _ 7 false 17 _ j04, rfname, hb, ja3 Tryz.func59 rfl rfl c1, ja3 Tryz.func60 rfl rfl c2, hr]
       refine st2 _ _ (x1.trans x2) ?_ ?_
       · simp (decide := true) only [ja1, reduceIte, jd4]
       · simp (decide := true) only [ja1, reduceIte, jf3]
theorem yu1 {H : Heap} {a : Option Addr} {s : List UInt8} {c : Nat} (h : Brow H a s) : convertA PP 34 9 (.slice a s.length c) H = some (.string ⟨⟨s⟩⟩, H) := by
 simp only [convertA, und34, undStr, undU8, h.bts.str]
theorem code23 : codeOf Tryz.f23 = .seq (rF Tryz.f23 0) (.seq (.seq (rT Tryz.f23 1) (.cond (.tmp 26) (.seq (.seq (rF Tryz.f23 2) (.block 0 (.loop (.seq (rF Tryz.f23 3) (.seq (.cond (.tmp 33) .skip (.exit 0)) (.seq (.block 1 (.seq (rF Tryz.f23 4) (.seq (rF Tryz.f23 5) (.cond (.tmp 37) (rF Tryz.f23 6) .skip)))) (rF Tryz.f23 7))))))) (rF Tryz.f23 8)) .skip)) (.seq (.block 2 (.loop (.seq (.seq (rT Tryz.f23 9) (.cond (.tmp 82) .skip (.exit 2))) (.block 3 (rF Tryz.f23 10))))) (rF Tryz.f23 11))) := by kernel_rfl
theorem j41 : ((rgn Tryz.f23 1)[9]?).bind (·.dst) = some 14 := by kernel_rfl
theorem j2h : ((rgn Tryz.f23 9)[11]?).bind (·.dst) = some 62 := by kernel_rfl
theorem j8m {N : Nat} {hk : Hook} {D : Nat} {a : Option Addr} {c : Nat} {s : List UInt8} {b : Nat} {H : Heap} {R : RS} {y : Option Addr} {n m : Nat} {Q : Am.R → Prop} {k : KOE} (x : Rd a c s b H R) (W : Wt H R.want y n m)
   (hend : ∀ E' (kv : Int), E' 0 = .pointer (some ⟨b, 0, none⟩) → E' 2 = .int .i64 kv → Q (k (.exit 0) E' [] H)) : ∀ (r j mm : Nat) (_ : j + r = n) (_ : r < mm) {E : Env} {kv : Int} (_ : E 0 = .pointer (some ⟨b, 0, none⟩) ∧ E 30 = .slice y n m ∧ E 31 = .int .i64 (n : Int) ∧ E 32 = .int .i64 (j : Int) ∧ E 2 = .int .i64 kv),
   Q (loopE (execG PP XX (CH N hk D) N noPr (.seq (rF Tryz.f23 3) (.seq (.cond (.tmp 33) .skip (.exit 0)) (.seq (.block 1 (.seq (rF Tryz.f23 4) (.seq (rF Tryz.f23 5) (.cond (.tmp 37) (rF Tryz.f23 6) .skip)))) (rF Tryz.f23 7)))) none) mm E [] H k)
 | 0, j, mm + 1, hj, hm, E, kv, e => by
   obtain ⟨ea, eb, ec, ed, ee⟩ := e
   have zl : decide ((j : Int) < (n : Int)) = false := decide_eq_false (by omega)
   rw [jb5]
   have l3 := tl (rgn Tryz.f23 3)
   conv at l3 => rhs; simp only [rgn, opsAt, codeOf, Tryz.f23, gS, gN, reduceIte, Nat.reduceEqDiff, tA]
   simp (decide := true) only [↓uR.o, dG.o, ja1, reduceIte, ↓ja0 l3, ec, ed, zl]
   exact hend _ kv (ea) (ee)
 | r + 1, j, mm + 1, hj, hm, E, kv, e => by
   obtain ⟨ea, eb, ec, ed, ee⟩ := e
   have hw2 := W.le
   have zl : decide ((j : Int) < (n : Int)) = true := decide_eq_true (by omega)
   have wr : IntKind.i64.wrap ((j : Int) + 1) = ((j + 1 : Nat) : Int) := by rw [jb2 (by omega) (by omega)]; omega
   obtain ⟨kk, p, hp1, hp2⟩ := W.cell H ⟨Nat.le_refl _, fun _ _ h => h, x.fresh⟩ j (by omega)
   rw [jb5]
   have lL := lX5 Tryz.f23 3 4 5 6 7
   conv at lL in (occs := *) (rgnX _ _) => all_goals simp only [rX, opsAt, Tryz.f23, dL.o, reduceIte, Nat.reduceEqDiff]
   obtain ⟨l3, l4, l5, l6, l7⟩ := lL
   cases h3 : (kk == 3) with
   | true =>
     simp (decide := true) only [↓uR.o, dG.o, ja1, reduceIte, ↓ja0 l3, ↓ja0 l4, ↓ja0 l5, ↓ja0 l6, ↓ja0 l7, rfbad, ea, eb, ec, ed, zl, hp1, hp2, h3, y56 x.blk, wr]
     refine j8m x W hend r (j + 1) mm (by omega) (by omega) (kv := R.bad) ⟨ea, eb, ec, rfl, rfl⟩
   | false =>
     simp (decide := true) only [↓uR.o, dG.o, ja1, reduceIte, ↓ja0 l3, ↓ja0 l4, ↓ja0 l5, ↓ja0 l7, eb, ec, ed, zl, hp1, hp2, h3, wr]
     refine j8m x W hend r (j + 1) mm (by omega) (by omega) (kv := kv) ⟨ea, eb, ec, rfl, ee⟩
theorem yu2 {N : Nat} {hk : Hook} {d : Nat} {a : Option Addr} {c : Nat} {s : List UInt8} {b : Nat} {H : Heap} {R : RS} {Q : Am.R → Prop} {k : KOE} (K : HkP hk) (hN : 2097400 < N) (x : Rd a c s b H R)
   (hend : ∀ E' H' (kv : Nat), E' 0 = .pointer (some ⟨b, 0, none⟩) → E' 2 = .int .i64 (kv : Int) → Ext H H' → R.at_ + kv ≤ R.to_ → Q (k (.exit 2) E' [] H')) : ∀ (r j mm : Nat) (_ : R.at_ + j + r = R.to_) (_ : r < mm) {E : Env} {Hc : Heap} (_ : Ext H Hc) (_ : E 0 = .pointer (some ⟨b, 0, none⟩) ∧ E 2 = .int .i64 (j : Int)),
   Q (loopE (execG PP XX (CH N hk (d + 9)) N noPr (.seq (.seq (rT Tryz.f23 9) (.cond (.tmp 82) .skip (.exit 2))) (.block 3 (rF Tryz.f23 10))) none) mm E [] Hc k)
 | r, j, mm + 1, hj, hm, E, Hc, xc, e => by
   obtain ⟨ea, eb⟩ := e
   have rd := x.ext xc
   have sz := x.sz
   have hs := x.short
   have wr : IntKind.i64.wrap ((R.at_ : Int) + (j : Int)) = ((R.at_ + j : Nat) : Int) := by rw [jb2 (by omega) (by omega)]; omega
   rw [jb5]
   have lL := lX2 Tryz.f23 9 10
   conv at lL in (occs := *) (rgnX _ _) => all_goals simp only [rX, opsAt, Tryz.f23, dL.o, reduceIte, Nat.reduceEqDiff]
   obtain ⟨l9, l10⟩ := lL
   cases r with
   | zero =>
     have zl : decide (((R.at_ + j : Nat) : Int) < (R.to_ : Int)) = false := decide_eq_false (by omega)
     simp (decide := true) only [↓uR.o, dG.o, ja1, reduceIte, Bool.not_true, ↓ja0 l9, ↓r_no _ 11 true 62 _ j2h, dA.o, ea, eb, jg0 rd.blk, j72 rd.blk, wr, zl]
     exact hend _ _ j (ea) (eb) xc (by omega)
   | succ r =>
     have zl : decide (((R.at_ + j : Nat) : Int) < (R.to_ : Int)) = true := decide_eq_true (by omega)
     have w2 : IntKind.i64.wrap (((R.at_ + j : Nat) : Int) + 1) = ((R.at_ + j + 1 : Nat) : Int) := by clear wr; rw [jb2 (by omega) (by omega)]; omega
     have w3 : IntKind.i64.wrap ((j : Int) + 1) = ((j + 1 : Nat) : Int) := by clear wr w2; rw [jb2 (by omega) (by omega)]; omega
     obtain ⟨a', c', hsl, hrow, hc'⟩ := j8b rd.row (i := R.at_) (j := R.at_ + j + 1) (c := c) (by omega) (by omega) x.cap
     have hcv := yu1 (c := c') hrow
     have hlen : ((s.drop R.at_).take (R.at_ + j + 1 - R.at_)).length = j + 1 := by simp; omega
     obtain ⟨t, H2, c2, x2⟩ := y5c (d := d) (w := (s.drop R.at_).take (R.at_ + j + 1 - R.at_)) K hN rd (by rw [hlen]; omega) (by rw [hlen]; omega) (x.short.2.sub _ _)
     cases t with
     | true =>
       simp (decide := true) only [↓uR.o, dG.o, ja1, reduceIte, ↓ja0 l9, ↓ja0 l10, ↓jb7 _ 11 true 62 _ j2h, dA.o, ea, eb, jg0 rd.blk, j72 rd.blk, je2 rd.blk, wr, w2, w3, zl, hsl, hcv, ja3 Tryz.func42 rfl rfl c2, Option.map_some, Option.map_none]
       refine yu2 K hN x hend r (j + 1) mm (by omega) (by omega) (xc.trans x2) ⟨ea, rfl⟩
     | false =>
       simp (decide := true) only [↓uR.o, dG.o, ja1, reduceIte, ↓ja0 l9, ↓jb7 _ 11 true 62 _ j2h, dA.o, ea, eb, jg0 rd.blk, j72 rd.blk, je2 rd.blk, wr, w2, zl, hsl, hcv, ja3 Tryz.func42 rfl rfl c2, Option.map_some, Option.map_none]
       exact hend _ _ j (ea) (eb) (xc.trans x2) (by omega)
theorem y5d {N : Nat} {hk : Hook} {d : Nat} {a : Option Addr} {c : Nat} {s : List UInt8} {b : Nat} {H : Heap} {R : RS} (K : HkP hk) (hN : 2097400 < N) (x : Rd a c s b H R) : Bad s b H R (CH N hk (d + 10) 23 #[.pointer (some ⟨b, 0, none⟩)] H) R.at_ := by
 have hh := K.ok.nil
 suffices main : ∀ X : Am.R → Prop, (∀ (v : Int) (H' : Heap), Ext H H' → (R.at_ = s.length → v = (s.length : Int)) → X (some (.pan [haltE v 60], H'))) → X (CH N hk (d + 10) 23 #[.pointer (some ⟨b, 0, none⟩)] H) by
   obtain ⟨v, H', h1, h2, h3⟩ := main (fun r => ∃ (v : Int) (H' : Heap), r = some (.pan [haltE v 60], H') ∧ Ext H H' ∧ (R.at_ = s.length → v = (s.length : Int))) fun v H' h1 h2 => ⟨v, H', rfl, h1, h2⟩
   exact ⟨v, H', h1, (Fr.refl x.fresh).ext h2, h3⟩
 intro X hX
 have self : Ext H H := ⟨Nat.le_refl _, fun _ _ h => h, x.fresh⟩
 have sz := x.sz
 have hs := x.short
 have hU := jb8 (P := PP) (okf := okC) (prf := prS) (X := XX) (N := N) (hk := hk) (d := d + 9) (args := #[.pointer (some ⟨b, 0, none⟩)]) (H := H) (hh _ _ _ rfl) Tryz.func23 (c := codeOf Tryz.f23) rfl rfl rfl (pr := noPr) rfl
 rw [code23] at hU
 generalize hF : finG PP okC prS XX (CH N hk (d + 9)) N Tryz.f23 = F at hU
 refine Eq.mpr (congrArg X hU) ?_
 have lL := lX5 Tryz.f23 0 1 2 8 11
 conv at lL in (occs := *) (rgnX _ _) => all_goals simp only [rX, opsAt, Tryz.f23, dL.o, reduceIte, Nat.reduceEqDiff]
 obtain ⟨l0, l1, l2, l8, l11⟩ := lL
 by_cases hq : R.at_ < R.to_ ∧ s.getD R.at_ 0 = 34
 · have hi : R.at_ < s.length := by omega
   have zl : decide ((R.at_ : Int) < (R.to_ : Int)) = true := decide_eq_true (by omega)
   have hg : s.getD R.at_ 0 = s[R.at_] := by simp [List.getD, hi]
   obtain ⟨y, hy, hl⟩ := x.row.bts.cell R.at_ hi
   have hix : indexAddrA PP 34 (.slice a s.length c) (.int .i64 (R.at_ : Int)) = some (.pointer (some (y.add R.at_))) := by rw [hy]; exact jc1 (n := s.length) (c := c) (a := y) hi
   have z34 : ((s[R.at_].toNat : Int) == 34) = true := by rw [eqB s[R.at_] 34 34 rfl, ← hg, hq.2]; rfl
   obtain ⟨yw, n, m, W⟩ := y63 x
   have hwv := W.eq
   simp (decide := true) only [↓uR.o, dG.o, ja1, reduceIte, ↓ja0 l0, ↓ja0 l1, ↓ja0 l2, ↓jb7 _ 9 true 14 _ j41, dA.o, jg0 x.blk, j72 x.blk, je2 x.blk, j4l x.blk, hwv, zl, hix, ja9 hl, z34, ja7 (ts := #[22]) rfl undInts, ↓jc8]
   refine j8m (kv := 0) x W ?_ n 0 N (by omega) (by have := W.le; omega) ⟨by simp (decide := true) only [ja1, reduceIte, jd4], rfl, rfl, by simp (decide := true) only [ja1, reduceIte] <;> rfl, rfl⟩
   intro E' kv e0 e2
   simp only [jt9, jc4]
   simp (decide := true) only [↓uR.o, dG.o, ja1, reduceIte, ↓ja0 l8, rfat, e0, e2, jg0 x.blk, j0c, ↓y4m, ↓j70 (ty := 58) (v := .agg #[.int .i64 (IntKind.i64.wrap ((R.at_ : Int) + kv)), .int .i64 60]), je5, jh5]
   rw [← hF, jc5]
   exact hX _ _ self (fun h => by omega)
 · have st : ∀ E : Env, E 0 = .pointer (some ⟨b, 0, none⟩) → E 2 = .int .i64 0 → X (execG PP XX (CH N hk (d + 9)) N noPr (.seq (.block 2 (.loop (.seq (.seq (rT Tryz.f23 9) (.cond (.tmp 82) .skip (.exit 2))) (.block 3 (rF Tryz.f23 10))))) (rF Tryz.f23 11)) none E [] H F) := by
     intro E e0 e2
     simp (decide := true) only [↓uG.o, ↓jc8]
     refine yu2 K hN x ?_ (R.to_ - R.at_) 0 N (by omega) (by omega) self ⟨e0, by rw [e2]; rfl⟩
     intro E' H' kv e0 e2 xe hle
     have wr : IntKind.i64.wrap ((R.at_ : Int) + (kv : Int)) = ((R.at_ + kv : Nat) : Int) := by rw [jb2 (by omega) (by omega)]; omega
     have rd := x.ext xe
     simp only [jt9, jc4]
     simp (decide := true) only [↓uR.o, dG.o, ja1, reduceIte, ↓ja0 l11, rfat, e0, e2, jg0 rd.blk, wr, j0c, ↓y4m, ↓j70 (ty := 58) (v := .agg #[.int .i64 (((R.at_ + kv : Nat) : Int)), .int .i64 60]), je5]
     rw [← hF, jc5]
     exact hX _ _ xe (fun h => by omega)
   by_cases ht : R.at_ < R.to_
   · have hi : R.at_ < s.length := by omega
     have zl : decide ((R.at_ : Int) < (R.to_ : Int)) = true := decide_eq_true (by omega)
     have hg : s.getD R.at_ 0 = s[R.at_] := by simp [List.getD, hi]
     obtain ⟨y, hy, hl⟩ := x.row.bts.cell R.at_ hi
     have hix : indexAddrA PP 34 (.slice a s.length c) (.int .i64 (R.at_ : Int)) = some (.pointer (some (y.add R.at_))) := by rw [hy]; exact jc1 (n := s.length) (c := c) (a := y) hi
     have hne : s[R.at_] ≠ 34 := fun e => hq ⟨ht, by rw [hg]; exact e⟩
     have z34 : ((s[R.at_].toNat : Int) == 34) = false := by rw [eqB s[R.at_] 34 34 rfl]; simp [hne]
     simp (decide := true) only [↓j51, ↓ja2, ↓j3g, ↓y2h, jc4, ↓y3n, ↓y2i, ↓y2j, ↓j9m, ↓yk9, ↓y2k, ↓j3j, ↓yl0, ↓j1u, ↓j1v, j54, j9k, j9l, j55, j56, j0m, j50, j1s, ja1, j9g, j9h, reduceIte, jd4, ↓ja0 l0, ↓ja0 l1, ↓jb7 _ 9 true 14 _ j41, rfsrc, rfat, rfto, jg0 x.blk, j72 x.blk, je2 x.blk, j9i, zl, hix, ja9 hl, j9j, z34]
     exact st _ (by simp (decide := true) only [ja1, reduceIte, jd4]) (by simp (decide := true) only [ja1, reduceIte])
   · have zl : decide ((R.at_ : Int) < (R.to_ : Int)) = false := decide_eq_false (by omega)
     simp (decide := true) only [↓uR.o, dG.o, ja1, reduceIte, Bool.not_true, ↓ja0 l0, ↓ja0 l1, ↓r_no _ 9 true 14 _ j41, dA.o, jg0 x.blk, j72 x.blk, zl]
     exact st _ (by simp (decide := true) only [ja1, reduceIte, jd4]) (by simp (decide := true) only [ja1, reduceIte])
theorem y78 {N : Nat} {hk : Hook} (K : HkP hk) (hN : 2097400 < N) : PK N hk := ⟨K.ok.nil, fun d H a c s hG hr hs hc hok => by
 obtain ⟨H', x, v, e, q, ct, hv⟩ := j3p (N := N) (hk := hk) (d := d) K.ok hG hr (by omega) hs hc hok
 exact ⟨H', x, v, e, q, j6v ct, hv⟩, fun d a c s b H R x => y5d (d := d + 2) K hN x, hN⟩
theorem jf7 {P : Program} {X : Xf} {K K' : Kf} (hK : KLe K K') {N : Nat} {pr : Nat → List (Nat × Nat)} (hp : ∀ i, (pr i).isEmpty = true) {r : End × Heap} : ∀ (c : Code) (s : Option Nat), BEle r (execE P X K N c s) (execG P X K' N pr c s)
 | .skip, none, k, k', hk, E, ds, H, h => by unfold execE at h; unfold execG; exact hk _ _ _ _ h
 | .skip, some _, k, k', hk, E, ds, H, h => by unfold execE at h; cases h
 | .region id ops draw, none, k, k', hk, E, ds, H, h => by
   unfold execE at h
   unfold execG
   have hc : (draw && !(pr id).isEmpty) = false := by rw [hp id]; simp
   rw [hc]
   refine jj6 hK (fun E ds H h => hk _ _ _ _ h) (fun c E ds H h => ?_) _ _ _ _ h
   unfold panD
   cases draw with
   | false => exact hk _ _ _ _ h
   | true => cases h
 | .region .., some _, k, k', hk, E, ds, H, h => by unfold execE at h; cases h
 | .seq x y, none, k, k', hk, E, ds, H, h => by
   unfold execE at h; unfold execG
   exact jf7 hK hp x none _ _ (jn1 (jf7 hK hp y none) hk) E ds H h
 | .seq x y, some l, k, k', hk, E, ds, H, h => by
   unfold execE at h; unfold execG
   cases e : hasLabel l x with
   | true => rw [e] at h; exact jf7 hK hp x (some l) _ _ (jn1 (jf7 hK hp y none) hk) E ds H h
   | false => rw [e] at h; exact jf7 hK hp y (some l) _ _ hk E ds H h
 | .cond c x y, none, k, k', hk, E, ds, H, h => by
   unfold execE condE at h
   unfold execG condE
   split at h
   · rename_i b e
     cases b with
     | true => exact jf7 hK hp x none _ _ hk E ds H h
     | false => exact jf7 hK hp y none _ _ hk E ds H h
   · cases h
 | .cond .., some _, k, k', hk, E, ds, H, h => by unfold execE at h; cases h
 | .block id b, none, k, k', hk, E, ds, H, h => by
   unfold execE at h; unfold execG
   refine jf7 hK hp b none _ _ (fun o E ds H h => ?_) E ds H h
   cases o with
   | exit i =>
     simp only [leaveB] at h ⊢
     cases e : (i == id) with
     | true => rw [e] at h; exact hk _ _ _ _ h
     | false => rw [e] at h; exact hk _ _ _ _ h
   | _ => exact hk _ _ _ _ h
 | .block .., some _, k, k', hk, E, ds, H, h => by unfold execE at h; cases h
 | .loop b, none, k, k', hk, E, ds, H, h => by
   unfold execE at h; unfold execG
   exact jz7 (jf7 hK hp b none) N k k' hk E ds H h
 | .loop _, some _, k, k', hk, E, ds, H, h => by unfold execE at h; cases h
 | .rangeFunc .., s, k, k', hk, E, ds, H, h => by cases s <;> (unfold execE at h; cases h)
 | .exit id, none, k, k', hk, E, ds, H, h => by unfold execE at h; unfold execG; exact hk _ _ _ _ h
 | .exit _, some _, k, k', hk, E, ds, H, h => by unfold execE at h; cases h
 | .scope b, none, k, k', hk, E, ds, H, h => by
   unfold execE at h; unfold execG
   exact ju2 (fun s => jf7 hK hp b s) N none k k' hk E ds H h
 | .scope _, some _, k, k', hk, E, ds, H, h => by unfold execE at h; cases h
 | .label l', none, k, k', hk, E, ds, H, h => by unfold execE at h; unfold execG; exact hk _ _ _ _ h
 | .label l', some l, k, k', hk, E, ds, H, h => by
   unfold execE at h; unfold execG
   cases e : (l' == l) with
   | true => rw [e] at h; exact hk _ _ _ _ h
   | false => rw [e] at h; cases h
 | .goto l, none, k, k', hk, E, ds, H, h => by unfold execE at h; unfold execG; exact hk _ _ _ _ h
 | .goto _, some _, k, k', hk, E, ds, H, h => by unfold execE at h; cases h
 | .ret, none, k, k', hk, E, ds, H, h => by unfold execE at h; unfold execG; exact hk _ _ _ _ h
 | .ret, some _, k, k', hk, E, ds, H, h => by unfold execE at h; cases h
 | .refuse _, s, k, k', hk, E, ds, H, h => by cases s <;> (unfold execE at h; cases h)
theorem j6w {P : Program} {okf okf' : FuncId → Bool} {prf : FuncId → Nat → List (Nat × Nat)} {hk hk' : Hook} (hn : ∀ f args H, hk f args H = none) (ho : ∀ f, okf f = true → okf' f = true ∧ (∀ args H, hk' f args H = none) ∧ ∀ i, (prf f i).isEmpty = true) {X : Xf} {N : Nat} : ∀ d, KLe (callE P okf X N hk d) (callH P okf' prf X N hk' d)
 | 0 => fun f args H r h => by cases h
 | d + 1 => fun f args H r h => by
   unfold callE at h
   rw [hn] at h
   simp only at h
   split at h
   · rename_i fn hf
     split at h
     · rename_i c hc
       cases hq : (okf f && Nat.ble args.size fn.ntmps) with
       | false => rw [hq] at h; cases h
       | true =>
         rw [hq] at h
         simp only [Bool.and_eq_true] at hq
         obtain ⟨h1, h2, h3⟩ := ho f hq.1
         unfold callH
         rw [h2 args H]
         simp only [hf, hc, h1, hq.2, Bool.and_self, cond_true]
         exact jf7 (j6w hn ho d) h3 c none _ _ j9v (startE args) [] H h
     · cases h
   · cases h
end Go.Am
namespace Go.Am
set_option maxRecDepth 100000
variable {K : Kf} {N c d : Nat} {H : Heap} {a : Option Addr} {s : List UInt8} {hk : Hook}
def theLoop : Code → Option Code
 | .seq a b => match theLoop a with | some c => some c | none => theLoop b
 | .cond _ a b => match theLoop a with | some c => some c | none => theLoop b
 | .block _ b => theLoop b
 | .scope b => theLoop b
 | .loop b => some b
 | _ => none
def bodyOf (fn : Func) : Code := fn.body.getD .skip
def loopOf (fn : Func) : Code := (theLoop (bodyOf fn)).getD .skip
def lastB (s : List UInt8) (z : UInt8) : Nat → Int
 | 0 => -1
 | j + 1 => if s.getD j 0 = z then (j : Int) else lastB s z j
theorem step46 (hb : Bts H a s) (z : UInt8) (k : KOE) {j : Nat} (hj : j < s.length) {E : Env} (h0 : E 0 = .slice a s.length c) (h1 : E 1 = .int .u8 (z.toNat : Int)) (h5 : E 5 = .int .i64 (j : Int)) :
   ∃ E1 E2, E1 4 = .int .i64 (j : Int) ∧ E2 0 = .slice a s.length c ∧ E2 1 = .int .u8 (z.toNat : Int) ∧ E2 5 = .int .i64 ((j : Int) - 1) ∧
     execE PP XX K N (loopOf Tryz.f46) none E [] H k = cond (decide (s[j] = z)) (k .ret E1 [] H) (k .norm E2 [] H) := by
 obtain ⟨b, rfl, hl⟩ := hb.cell j hj
 have hge : decide ((j : Int) ≥ 0) = true := by simp
 have hw : IntKind.i64.wrap ((j : Int) - 1) = (j : Int) - 1 := jb2 (by omega) (by have := hb.small; omega)
 simp only [loopOf, bodyOf, Tryz.f46, Option.getD_some, theLoop]
 simp (decide := true) only [h0, h1, h5, hw, dG.o, hge, jc1 (n := s.length) (c := c) (a := b) (j := j) hj, ja9 hl, jo3, ↓jk5, ↓jf4, ↓jo1, ↓jm9, ↓jz3, ↓jz4, ↓j3f, jf0, jf5, jg8, jr3, jh7, jp9, jo2, j4f, ja1, jq0, jt8, jz5, reduceIte, cond_true, cond_false]
 refine ⟨_, _, ?_, ?_, ?_, ?_, rfl⟩ <;> simp (decide := true) only [ja1, h0, h1, h5, reduceIte]
theorem stop46 (k : KOE) {E : Env} {x : Int} (hx : x < 0) (h5 : E 5 = .int .i64 x) : ∃ E', execE PP XX K N (loopOf Tryz.f46) none E [] H k = k (.exit 0) E' [] H := by
 have hge : decide (x ≥ 0) = false := by simp; omega
 simp only [loopOf, bodyOf, Tryz.f46, Option.getD_some, theLoop]
 simp (decide := true) only [h5, dG.o, hge, ↓jk5, ↓jf4, ↓jo1, ↓jm9, ↓jz3, ↓jz4, ↓j3f, jf0, jf5, jg8, jr3, jh7, jp9, jo2, j4f, ja1, jq0, jz5, reduceIte, cond_false]
 exact ⟨_, rfl⟩
theorem loop46 (hb : Bts H a s) (z : UInt8) (k : KOE) : ∀ (j m : Nat) (_ : j ≤ s.length) (_ : j < m) (E : Env) (_ : E 0 = .slice a s.length c) (_ : E 1 = .int .u8 (z.toNat : Int)) (_ : E 5 = .int .i64 ((j : Int) - 1)),
   (lastB s z j = -1 ∧ ∃ E', loopE (execE PP XX K N (loopOf Tryz.f46) none) m E [] H k = k (.exit 0) E' [] H) ∨
   (∃ E', E' 4 = .int .i64 (lastB s z j) ∧ loopE (execE PP XX K N (loopOf Tryz.f46) none) m E [] H k = k .ret E' [] H)
 | 0, m + 1, hj, hm, E, h0, h1, h5 => by
   left
   obtain ⟨E', he⟩ := stop46 (K := K) (N := N) (H := H) (thenE (fun E ds H k => loopE (execE PP XX K N (loopOf Tryz.f46) none) m E ds H k) k) (by omega) h5
   exact ⟨rfl, E', by rw [jb5, he]; rfl⟩
 | j + 1, m + 1, hj, hm, E, h0, h1, h5 => by
   have h5' : E 5 = .int .i64 (j : Int) := by rw [h5]; congr 1; omega
   obtain ⟨E1, E2, q1, q2, q3, q4, he⟩ := step46 (K := K) (N := N) hb z (thenE (fun E ds H k => loopE (execE PP XX K N (loopOf Tryz.f46) none) m E ds H k) k) (j := j) (by omega) h0 h1 h5'
   have hd : s.getD j 0 = s[j]'(by omega) := by simp [List.getD, show j < s.length by omega]
   rw [jb5, he]
   simp only [lastB, hd]
   by_cases e : s[j]'(by omega) = z
   · right
     rw [if_pos e, decide_eq_true e]
     exact ⟨E1, q1, rfl⟩
   · rw [if_neg e, decide_eq_false e]
     exact loop46 hb z k j m (by omega) (by omega) E2 q2 q3 q4
theorem j8n (hb : Bts H a s) (z : UInt8) {k : KOE} {m : Nat} (hm : s.length < m) {E : Env} {r : R} (h0 : E 0 = .slice a s.length c) (h1 : E 1 = .int .u8 (z.toNat : Int)) (h5 : E 5 = .int .i64 ((s.length : Int) - 1))
   (hx : lastB s z s.length = -1 → ∀ E', k (.exit 0) E' [] H = r) (hr : ∀ E', E' 4 = .int .i64 (lastB s z s.length) → k .ret E' [] H = r) : loopE (execE PP XX K N (loopOf Tryz.f46) none) m E [] H k = r := by
 rcases loop46 (K := K) (N := N) hb z k s.length m (Nat.le_refl _) hm E h0 h1 h5 with ⟨e, E', h⟩ | ⟨E', e, h⟩
 · rw [h]; exact hx e E'
 · rw [h]; exact hr E' e
def okf (f : FuncId) : Bool := f == 10 || f == 24 || f == 25 || f == 46
noncomputable abbrev CE (N : Nat) (hk : Hook) (d : Nat) : Kf := callE PP okf XX N hk d
theorem call46 (hb : Bts H a s) (z : UInt8) (hN : s.length < N) (hh : ∀ args H, hk 46 args H = none) :
   CE N hk (d + 1) 46 #[.slice a s.length c, .int .u8 (z.toNat : Int)] H = some (.ret (.int .i64 (lastB s z s.length)), H) := by
 refine (j0u (hh _ _) Tryz.func46 (c := bodyOf Tryz.f46) rfl rfl rfl).trans ?_
 have hw : IntKind.i64.wrap ((s.length : Int) - 1) = (s.length : Int) - 1 := jb2 (by omega) (by have := hb.small; omega)
 generalize hF : finE PP Tryz.f46 = F
 simp only [bodyOf, Tryz.f46, Option.getD_some]
 simp (decide := true) only [↓jk5, ↓jf4, ↓jo1, dG.o, jf0, jf5, jg8, jr3, jh7, jp9, ja1, jt8, reduceIte, cond_false, ↓yf0, jt7, ja7 (ts := #[34]) rfl und34, hw]
 refine j8n (c := c) hb z hN ?_ ?_ ?_ (fun e E' => ?_) (fun E' e => ?_)
 · simp (decide := true) only [ja1, reduceIte, jd4]
 · simp (decide := true) only [ja1, reduceIte, jf3]
 · simp (decide := true) only [ja1, reduceIte]
 · simp (decide := true) only [↓jk5, ↓jf4, ↓jm9, dG.o, j1r, jf0, jf5, jg8, jh7, cond_false]
   rw [← hF, jb6 (l := [.int .i64 (-1)]) (by simp (decide := true) [Tryz.f46, resE, ja1]), e]
   rfl
 · simp (decide := true) only [dG.o]
   rw [← hF, jb6 (l := [.int .i64 (lastB s z s.length)]) (by simp [Tryz.f46, resE, e])]
   rfl
theorem call25 (hb : Bts H a s) (z : UInt8) (hN : s.length < N) (hh : ∀ f args H, f ≠ 9 → hk f args H = none) :
   CE N hk (d + 2) 25 #[.slice a s.length c, .int .u8 (z.toNat : Int)] H = some (.ret (.int .i64 (lastB s z s.length)), H) := by
 refine (j0u (hh _ _ _ (by decide)) Tryz.func25 (c := bodyOf Tryz.f25) rfl rfl rfl).trans ?_
 have h46 := call46 (hk := hk) (d := d) (c := c) hb z hN (fun _ _ => hh _ _ _ (by decide))
 generalize hF : finE PP Tryz.f25 = F
 simp only [bodyOf, Tryz.f25, Option.getD_some]
 simp (decide := true) only [↓jk5, ↓jf4, ↓jm9, dG.o, jf0, jf5, jg8, jr3, jh7, ja1, reduceIte, cond_false, jv7, ja3 Tryz.func46 rfl rfl h46]
 rw [← hF, jb6 (l := [.int .i64 (lastB s z s.length)]) (by simp (decide := true) [Tryz.f25, resE, ja1])]
 rfl
theorem j6x {β : Type} (f : β → UInt8 → β) (l : List UInt8) (h : l.length ≤ (ByteArray.mk l.toArray).size) : ∀ (i j : Nat) (b : β), i + j = l.length →
   ByteArray.foldlM.loop (m := _root_.Id) f ⟨l.toArray⟩ l.length h i j b = (l.drop j).foldl f b
 | 0, j, b, e => by
   unfold ByteArray.foldlM.loop
   have : ¬ j < l.length := by omega
   rw [dif_neg this, List.drop_of_length_le (by omega)]
   rfl
 | i + 1, j, b, e => by
   unfold ByteArray.foldlM.loop
   have hj : j < l.length := by omega
   rw [dif_pos hj]
   have := j6x f l h i (j + 1) (f b l[j]) (by omega)
   rw [List.drop_eq_getElem_cons hj, List.foldl_cons, ← this]
   rfl
theorem yh0 {β : Type} (f : β → UInt8 → β) (l : List UInt8) (b : β) : (ByteArray.mk l.toArray).foldl f b = l.foldl f b := by
 have hs : (ByteArray.mk l.toArray).size = l.length := rfl
 show ByteArray.foldlM (m := _root_.Id) f b ⟨l.toArray⟩ 0 (ByteArray.mk l.toArray).size = _
 unfold ByteArray.foldlM
 rw [dif_pos (Nat.le_refl _)]
 exact j6x f l (Nat.le_refl _) l.length 0 b (by omega)
def cntB (s : List UInt8) (z : UInt8) : Int := s.foldl (fun n x => if x == z then n + 1 else n) 0
theorem yu3 (hb : Bts H a s) (z : UInt8) : XX 44 #[.slice a s.length c, .int .u8 (z.toNat : Int)] H = some (.int .i64 (cntB s z), H) := by
 have e : countV ⟨s.toArray⟩ (z.toNat : Int) = .int .i64 (cntB s z) := by
   unfold countV cntB
   rw [yh0]
   simp [goInt]
 simp only [XX, byteX, hb.str]
 simp [e]
theorem call24 (hb : Bts H a s) (z : UInt8) {b : Addr} {c2 : Nat} (hz : Bts H (some b) [z]) (hh : ∀ f args H, f ≠ 9 → hk f args H = none) :
   CE N hk (d + 1) 24 #[.slice a s.length c, .slice (some b) 1 c2] H = some (.ret (.int .i64 (cntB s z)), H) := by
 refine (j0u (hh _ _ _ (by decide)) Tryz.func24 (c := bodyOf Tryz.f24) rfl rfl rfl).trans ?_
 obtain ⟨b', hb', hl⟩ := hz.cell 0 (by simp)
 obtain rfl := Option.some.inj hb'
 have hx := yu3 (c := c) hb z
 have hi : indexAddrA PP 34 (.slice (some b) 1 c2) (.int .i64 0) = some (.pointer (some (b.add 0))) := jc1 (n := 1) (j := 0) (by omega)
 have e0 : ((((1 : Nat) : Int)) == 0) = false := by decide
 have e1 : ((((1 : Nat) : Int)) == 1) = true := by decide
 generalize hF : finE PP Tryz.f24 = F
 simp only [bodyOf, Tryz.f24, Option.getD_some]
 simp (decide := true) only [↓jk5, ↓jf4, ↓jo1, ↓jm9, ↓jz3, ↓jz4, dG.o, jf0, jf5, jg8, jr3, jh7, jp9, jo2, j4f, ja1, jq0, jz5, reduceIte, cond_true, cond_false, jv7, jt7, ja7 (ts := #[34]) rfl und34, e0, e1, hi, ja9 hl, List.getElem_cons_zero, j1t Tryz.func44 rfl rfl hx]
 rw [← hF, jb6 (l := [.int .i64 (cntB s z)]) (by simp (decide := true) [Tryz.f24, resE, ja1])]
 rfl
theorem yu4 (h : Brow H a s) {k c : Nat} (hk : k ≤ s.length) (hc : s.length ≤ c) (hn : a = none → c = 0) :
   sliceOpA PP 34 (.slice a s.length c) none (some (.int .i64 (k : Int))) none H = some (.slice a k c) := by
 simp only [sliceOpA, und34, size5, sliceA]
 have hi : (0 : Int) ≤ 0 ∧ (0 : Int) ≤ (k : Int) ∧ (k : Int) ≤ (c : Int) := by omega
 rw [if_pos hi]
 cases a with
 | none =>
   have := hn rfl
   have e : s = [] := h.nil rfl
   subst e
   simp at hk
   subst hk this
   rfl
 | some b =>
   obtain ⟨x, h1, h2, _⟩ := h.row b rfl
   simp only [h1, h2, if_true]
   simp [Addr.add]
def pl (x y w : Int) : Blk := ⟨[.int .i64 x, .int .i64 y, .int .i64 w], true, 1, none⟩
theorem zero30 : zeroT PP 30 = some [.int .i64 0, .int .i64 0, .int .i64 0] := by kernel_rfl
theorem es30 : esT PP 30 = 1 := by decide +kernel
theorem size30 : sizeT PP 30 = some 3 := by decide +kernel
theorem agg30 : aggT PP 30 = some true := by decide +kernel
theorem alloc30 (H : Heap) : allocA PP 30 H = some (.pointer (some ⟨H.next, 0, none⟩), H.alloc 1 [.int .i64 0, .int .i64 0, .int .i64 0]) := by simp only [allocA, zero30, es30, mk]
theorem bslice (H : Heap) : buildSliceA PP 34 1 #[(0, .int .u8 10)] H = some (.slice (some ⟨H.next, 0, none⟩) 1 1, H.alloc 1 [.int .u8 10]) := by
 have zero5 : zeroT PP 5 = some [.int .u8 0] := by kernel_rfl
 have hf : Instr.fill (fun i => some (i * 1, 1)) (zeroRow [.int .u8 0] (1 * 1)).toArray [(0, .int .u8 10)] = some #[.int .u8 10] := by rfl
 simp only [buildSliceA, und34, size5, zero5, mkRow, hf]
 simp
theorem build30 (x y w : Int) : buildA PP 30 #[(0, .int .i64 x), (1, .int .i64 y), (2, .int .i64 w)] = some (.agg #[.int .i64 x, .int .i64 y, .int .i64 w]) := by kernel_rfl
theorem store30 {b : Nat} {x y w x' y' w' : Int} (h : H.get b = some (pl x y w)) : storeA PP 30 (.pointer (some ⟨b, 0, none⟩)) (.agg #[.int .i64 x', .int .i64 y', .int .i64 w']) H = some (undef, H.set b (pl x' y' w')) := by
 simp only [storeA, size30, stV]
 simp [Value.cells, st, look, h, pl, over, Value.oneCell']
theorem load30 {b : Nat} {x y w : Int} (h : H.get b = some (pl x y w)) : loadA PP 30 (.pointer (some ⟨b, 0, none⟩)) H = some (.agg #[.int .i64 x, .int .i64 y, .int .i64 w], H) := by
 simp only [loadA, agg30, size30]
 simp [ldN, look, h, pl]
theorem j8o (E : Env) (i j l : Nat) (x y z : Operand) : (#[(i, x), (j, y), (l, z)] : Array (Nat × Operand)).map (fun (i, x) => (i, evalE E x)) = #[(i, evalE E x), (j, evalE E y), (l, evalE E z)] := by simp
def atN (k : Int) (n : Nat) : Nat := if k < 0 then 0 else if k > n then n else k.toNat
theorem y64 (k : Int) (n : Nat) : atN k n ≤ n := by
 unfold atN
 repeat' split
 all_goals omega
theorem yh1 (k : Int) (n : Nat) : (if (n : Int) < (if (0 : Int) > k then 0 else k) then (n : Int) else (if (0 : Int) > k then 0 else k)) = (atN k n : Int) := by
 unfold atN
 repeat' split
 all_goals omega
theorem call10 (hb : Brow H a s) (hc : s.length ≤ c) (hn : a = none → c = 0) (hf : Fresh H) (k : Int) (hN : s.length < N) (hh : ∀ f args H, f ≠ 9 → hk f args H = none) :
   ∃ H', Ext H H' ∧ CE N hk (d + 3) 10 #[.slice a s.length c, .int .i64 k] H =
     some (.ret (.agg #[.int .i64 (atN k s.length), .int .i64 (IntKind.i64.wrap (1 + cntB (s.take (atN k s.length)) 10)), .int .i64 (IntKind.i64.wrap ((atN k s.length : Int) - lastB (s.take (atN k s.length)) 10 (atN k s.length)))]), H') := by
 have hle := y64 k s.length
 have hmm := yh1 k s.length
 generalize atN k s.length = q at hle hmm ⊢
 have e1 : Ext H (H.alloc 1 [.int .i64 0, .int .i64 0, .int .i64 0]) := .alloc hf _ _
 have e2 : Ext H ((H.alloc 1 [.int .i64 0, .int .i64 0, .int .i64 0]).alloc 1 [.int .u8 10]) := e1.trans (.alloc e1.fresh _ _)
 have e3 := fun x => e2.set (b := H.next) (Nat.le_refl _) hf (by show H.next < H.next + 1 + 1; omega) x
 refine ⟨_, e3 (pl (q : Int) (IntKind.i64.wrap (1 + cntB (s.take q) 10)) (IntKind.i64.wrap ((q : Int) - lastB (s.take q) 10 q))), ?_⟩
 refine (j0u (hh _ _ _ (by decide)) Tryz.func10 (c := bodyOf Tryz.f10) rfl rfl rfl).trans ?_
 have hl : (s.take q).length = q := by simp; omega
 have b1 := hb.ext e1
 have b2 := (hb.ext e2).take hle
 have z2 : Brow ((H.alloc 1 [.int .i64 0, .int .i64 0, .int .i64 0]).alloc 1 [.int .u8 10]) (some ⟨H.next + 1, 0, none⟩) [10] := by
   refine ⟨fun b hb => ?_, (fun e => by cases e), by simp⟩
   obtain rfl := Option.some.inj hb
   refine ⟨⟨[.int .u8 10], true, 1, none⟩, ?_, rfl, by simp, by simp⟩
   have hg : (((H.alloc 1 [.int .i64 0, .int .i64 0, .int .i64 0]).alloc 1 [.int .u8 10])).get (H.next + 1) = some ⟨[.int .u8 10], true, 1, none⟩ := by
     rw [Heap.get_alloc]; exact if_pos rfl
   simp [look, hg]
 have c24 := call24 (N := N) (hk := hk) (d := d + 1) (c := c) b2.bts 10 z2.bts (c2 := 1) hh
 have c25 := call25 (N := N) (hk := hk) (d := d) (c := c) b2.bts 10 (by rw [hl]; omega) hh
 have h10 : (((10 : UInt8).toNat : Nat) : Int) = 10 := rfl
 rw [hl] at c24 c25
 rw [h10] at c25
 have hs := yu4 b1 hle hc hn
 have hg : ((H.alloc 1 [.int .i64 0, .int .i64 0, .int .i64 0]).alloc 1 [.int .u8 10]).get H.next = some (pl 0 0 0) := by
   rw [Heap.get_alloc, if_neg (by show ¬ H.next = H.next + 1; omega), Heap.get_alloc, if_pos rfl]; rfl
 have hl3 := load30 (H := (((H.alloc 1 [.int .i64 0, .int .i64 0, .int .i64 0]).alloc 1 [.int .u8 10]).set H.next (pl (q : Int) (IntKind.i64.wrap (1 + cntB (s.take q) 10)) (IntKind.i64.wrap ((q : Int) - lastB (s.take q) 10 q))))) (b := H.next) (by rw [Heap.get_set, if_pos rfl])
 have hnx : (H.alloc 1 [Value.int .i64 0, .int .i64 0, .int .i64 0]).next = H.next + 1 := rfl
 generalize hF : finE PP Tryz.f10 = F
 simp only [bodyOf, Tryz.f10, Option.getD_some]
 simp (decide := true) only [↓jk5, ↓jf4, ↓jm9, dG.o, jf0, jf5, jg8, jr3, jh7, jp9, ja1, reduceIte, cond_false, yk2, yk5, j2x, yk3, yk4, jv7, jt7, alloc30, Option.map_some, Option.map_none, y3j, yk6, ja7 (ts := #[34]) rfl und34, j8o, hmm, hs, bslice, hnx]
 simp (decide := true) only [dG.o, jt8, ja3 Tryz.func24 rfl rfl c24, ja3 Tryz.func25 rfl rfl c25, build30, store30 hg]
 have fin : ∀ E : Env, E 4 = .pointer (some ⟨H.next, 0, none⟩) → resE PP E (((H.alloc 1 [.int .i64 0, .int .i64 0, .int .i64 0]).alloc 1 [.int .u8 10]).set H.next (pl (q : Int) (IntKind.i64.wrap (1 + cntB (s.take q) 10)) (IntKind.i64.wrap ((q : Int) - lastB (s.take q) 10 q)))) Tryz.f10.results.toList = some [.agg #[.int .i64 q, .int .i64 (IntKind.i64.wrap (1 + cntB (s.take q) 10)), .int .i64 (IntKind.i64.wrap ((q : Int) - lastB (s.take q) 10 q))]] := fun E h => by
   have hr : Tryz.f10.results.toList = [.cell 4 30] := rfl
   rw [hr]
   unfold resE
   rw [h, hl3]
   unfold resE
   rfl
 rw [← hF]
 refine jb6 (fin _ ?_)
 simp (decide := true) only [ja5, ja1, reduceIte]
end Go.Am
namespace Go.Am
set_option maxRecDepth 100000
variable {H : Heap} {q N : Nat} {x y : Int} {K : Kf}
theorem yu5 : aggT PP 28 = some true := by decide +kernel
theorem j8p : sizeT PP 28 = some 7 := by decide +kernel
theorem y5e : esT PP 28 = 1 := by decide +kernel
def zt : List Value := [.int .i64 0, .string .empty, .int .i64 0, .slice none 0 0, .slice none 0 0, .slice none 0 0, .slice none 0 0]
theorem yu6 : zeroT PP 28 = some zt := by kernel_rfl
theorem jr8 (H : Heap) : allocA PP 28 H = some (.pointer (some ⟨H.next, 0, none⟩), H.alloc 1 zt) := by simp only [allocA, yu6, y5e, mk]
theorem yh2 : buildA PP 28 #[] = some (.agg zt.toArray) := by kernel_rfl
theorem yb5 : buildA PP 30 #[] = some (.agg #[.int .i64 0, .int .i64 0, .int .i64 0]) := by kernel_rfl
theorem y2z : aggT PP 31 = some false := by decide +kernel
theorem y65 : sizeT PP 31 = some 1 := by decide +kernel
theorem yu7 (H : Heap) : allocA PP 31 H = some (.pointer (some ⟨H.next, 0, none⟩), H.alloc 1 [.int .i64 0]) := by kernel_rfl
theorem y20 (h : H.get q = some ⟨[.int .i64 x], true, 1, none⟩) : storeA PP 31 (.pointer (some ⟨q, 0, none⟩)) (.int .i64 y) H = some (undef, H.set q ⟨[.int .i64 y], true, 1, none⟩) := by
 have hc : ((.int .i64 y) : Value).cells = #[.int .i64 y] := rfl
 simp only [storeA, y65, stV, hc]
 simp [st, look, h, over, Value.oneCell']
theorem y21 (h : H.get q = some ⟨[.int .i64 x], true, 1, none⟩) : loadA PP 31 (.pointer (some ⟨q, 0, none⟩)) H = some (.int .i64 x, H) := by
 simp only [loadA, y2z]
 simp [ld1, look, h]
theorem j8q {u v : List Value} (h : H.get q = some ⟨u, true, 1, none⟩) (hu : u.length = 7) (hl : v.length = 7) (h1 : v.all Value.oneCell' = true) : storeA PP 28 (.pointer (some ⟨q, 0, none⟩)) (.agg v.toArray) H = some (undef, H.set q ⟨v, true, 1, none⟩) := by
 have h' : H.get q = some ⟨[] ++ u ++ [], true, 1, none⟩ := by simpa using h
 have := yr7 h' (v := v) (by rw [hl, hu]) h1
 have hc : (Value.agg v.toArray).cells.size = 7 := by simpa [Value.cells] using hl
 have hv : (Value.agg v.toArray).cells.toList = v := by simp [Value.cells]
 simp only [storeA, j8p]
 unfold stV
 rw [if_pos hc, hv]
 simpa using this
theorem yu8 {u : List Value} (h : H.get q = some ⟨u, true, 1, none⟩) (hu : u.length = 7) : loadA PP 28 (.pointer (some ⟨q, 0, none⟩)) H = some (.agg u.toArray, H) := by
 have h' : H.get q = some ⟨[] ++ u ++ [], true, 1, none⟩ := by simpa using h
 simp only [loadA, yu5, j8p]
 rw [← hu]
 exact j4v (pre := []) h'
theorem yu9 : zeroT PP 58 = some [.int .i64 0, .int .i64 0] := by kernel_rfl
theorem y5f : esT PP 58 = 1 := by decide +kernel
theorem y5g : sizeT PP 58 = some 2 := by decide +kernel
theorem yh3 (H : Heap) : allocA PP 58 H = some (.pointer (some ⟨H.next, 0, none⟩), H.alloc 1 [.int .i64 0, .int .i64 0]) := by simp only [allocA, yu9, y5f, mk]
theorem y5h {x' y' : Int} (h : H.get q = some ⟨[.int .i64 x, .int .i64 y], true, 1, none⟩) : storeA PP 58 (.pointer (some ⟨q, 0, none⟩)) (.agg #[.int .i64 x', .int .i64 y']) H = some (undef, H.set q ⟨[.int .i64 x', .int .i64 y'], true, 1, none⟩) := by
 simp only [storeA, y5g, stV]
 simp [Value.cells, st, look, h, over, Value.oneCell']
theorem hf0 (q : Nat) : fieldAddrA PP 58 (.pointer (some ⟨q, 0, none⟩)) 0 = some (.pointer (some ⟨q, 0, none⟩)) := by kernel_rfl
theorem hf1 (q : Nat) : fieldAddrA PP 58 (.pointer (some ⟨q, 0, none⟩)) 1 = some (.pointer (some ⟨q, 1, none⟩)) := by kernel_rfl
theorem y79 (h : H.get q = some ⟨[.int .i64 x, .int .i64 y], true, 1, none⟩) : loadA PP 3 (.pointer (some ⟨q, 0, none⟩)) H = some (.int .i64 x, H) := by
 simp only [loadA, jm3]
 simp [ld1, look, h]
theorem yv0 (h : H.get q = some ⟨[.int .i64 x, .int .i64 y], true, 1, none⟩) : loadA PP 31 (.pointer (some ⟨q, 1, none⟩)) H = some (.int .i64 y, H) := by
 simp only [loadA, y2z]
 simp [ld1, look, h]
theorem y8a : aggT PP 34 = some false := by decide +kernel
theorem j42 {v : Value} (h : H.get q = some ⟨[v], true, 1, none⟩) : loadA PP 34 (.pointer (some ⟨q, 0, none⟩)) H = some (v, H) := by
 simp only [loadA, y8a]
 simp [ld1, look, h]
def placeC (s : List UInt8) (k : Int) : Array Value := #[.int .i64 (atN k s.length), .int .i64 (IntKind.i64.wrap (1 + cntB (s.take (atN k s.length)) 10)), .int .i64 (IntKind.i64.wrap ((atN k s.length : Int) - lastB (s.take (atN k s.length)) 10 (atN k s.length)))]
theorem y8b {hk : Hook} {d : Nat} {a : Option Addr} {c : Nat} {s : List UInt8} (hh : NH hk) (hb : Brow H a s) (hc : s.length ≤ c) (hn : a = none → c = 0) (hf : Fresh H) (k : Int) (hN : s.length < N) :
   ∃ H', Ext H H' ∧ CH N hk (d + 3) 10 #[.slice a s.length c, .int .i64 k] H = some (.ret (.agg (placeC s k)), H') := by
 obtain ⟨H', h1, h2⟩ := call10 (N := N) (hk := fun _ _ _ => none) (d := d) hb hc hn hf k hN (fun _ _ _ _ => rfl)
 refine ⟨H', h1, j6w (okf' := okC) (prf := prS) (fun _ _ _ => rfl) (fun f hf => ?_) (d + 3) _ _ _ _ h2⟩
 simp only [okf, Bool.or_eq_true, beq_iff_eq] at hf
 have ho : okC f = true := by rcases hf with ((rfl | rfl) | rfl) | rfl <;> rfl
 refine ⟨ho, fun args H => hh _ _ _ ho, fun i => ?_⟩
 rcases hf with ((rfl | rfl) | rfl) | rfl <;> rfl
theorem j6y {P : Program} {X : Xf} {d : Option Tmp} {t : TypeId} {p : String} {af : Array Edge} {E : Env} {ds : List Deferred} {k : KE} {kp : List PanicEntry → KE} {g : Option (Nat × Bool)} (x : Operand) (xt ut : TypeId) (ok : Bool) : opE P X K ⟨d, .typeAssert x xt ut ok, t, p, af, g⟩ E ds H k kp = bindO (assertA P (evalE E x) xt ut ok) (putO E d ds H k) := id rfl
theorem j8r (xt : TypeId) (v : Value) : assertA PP (.iface 58 v) xt 58 true = some (.tuple #[v, .bool true]) := by kernel_rfl
theorem y5i (n : Tmp) : binA PP .neq 20 (.tmp n) (.const .nilIface) .nilIface .nilIface = some (.bool false) := by kernel_rfl
theorem y1q (x y : Operand) (cs : Array Value) : binA PP .neq 20 x y (.iface 58 (.agg cs)) .nilIface = some (.bool true) := by
 have hg : (ground (.iface 58 (.agg cs)) && ground .nilIface) = false := by simp [ground, atomic]
 unfold binA
 rw [hg]
 simp only [Bool.false_eq_true, if_false]
 unfold nilEq
 rw [Tryz.underlying20]
 rfl
theorem j6z {P : Program} {X : Xf} {pr : Nat → List (Nat × Nat)} {fn : Func} {i : Nat} {A : Array Oper} {rest : Code} {o : Oper} {os : List Oper} (hA : A.toList = o :: os) (hr : isRec o = true) {args : Array Value} {u : FrameMode} {H : Heap} {kd : End → FrameMode → Heap → Am.R} :
   bodyG P X K N pr fn (.seq (.region i A false) rest) args u H kd = execOpsE P X K A os (upd (startE args) o.dst (recM u).1) [] H (fun E ds H => execG P X K N pr rest none E ds H (finDG P fn (recM u).2 kd)) (fun c E ds H => finDG P fn (recM u).2 kd (.pan c) E ds H) := by
 simp only [bodyG, hA, hr, cond_true]
theorem code17 : codeOf Tryz.f17 = .seq (rF Tryz.f17 0) (.seq (rF Tryz.f17 1) (.cond (.tmp 9) (.seq (rF Tryz.f17 2) (.seq (.seq (rF Tryz.f17 3) (.cond (.tmp 16) (rF Tryz.f17 4) .skip)) (rT Tryz.f17 5))) .skip)) := by kernel_rfl
theorem y5j {q1 q2 q3 q4 : Nat} (kd : End → FrameMode → Heap → Am.R) : bodyG PP XX K N (prS 17) Tryz.f17 (codeOf Tryz.f17) #[.pointer (some ⟨q1, 0, none⟩), .pointer (some ⟨q2, 0, none⟩), .pointer (some ⟨q3, 0, none⟩), .pointer (some ⟨q4, 0, none⟩)] .returning H kd = kd (.ret (.tuple #[])) .returning H := by
 have lL := lX2 Tryz.f17 0 1
 conv at lL in (occs := *) (rgnX _ _) => all_goals simp only [rX, opsAt, Tryz.f17, dL.o, reduceIte, Nat.reduceEqDiff]
 obtain ⟨l0, l1⟩ := lL
 rw [code17, j6z l0 rfl]
 simp only [recM]
 generalize hF : finDG PP Tryz.f17 .returning kd = F
 simp (decide := true) only [↓jb9, ↓uG.o, dG.o, show prS 17 = pr17 from rfl, ja1, reduceIte, ↓ja0 l1, y5i]
 rw [← hF]
 rfl
end Go.Am
namespace Go.Am
set_option maxRecDepth 100000
theorem y1r {P : Program} {okb : FuncId → Bool} {prf : FuncId → Nat → List (Nat × Nat)} {X : Xf} {K : Kf} {N : Nat} {fn : Func} {E : Env} {H H' : Heap} {l : List Value} {g : FuncId} {gn : Func} {c : Code} {args cap : Array Value} {v : Value} {e e' : PanicEntry} (hg : P.funcs[g]? = some gn) (hn : (gn.name == "runtime.NumGoroutine") = false) (hc : gn.body = some c) (ho : okb g = true) (hs : Nat.ble (args ++ cap).size gn.ntmps = true)
   (hb : ∀ kd : End → FrameMode → Heap → Am.R, bodyG P X K N (prf g) gn c (args ++ cap) (.panicking [e]) H kd = kd (.ret v) (.panicking [e']) H') (he : e'.recovered = true) (h : resE P E H' fn.results.toList = some l) (hu : l.any isUndef = false) :
   finG P okb prf X K N fn (.pan [e]) E [{ target := .fn (.func g) cap, args := args }] H = some (.ret (oneOf l), H') := by
 simp only [finG]
 unfold leaveG
 simp only [hg, hn, hc, ho, hs, Bool.and_self, cond_true, Bool.false_eq_true, if_false]
 rw [hb]
 simp [settleA, he, leaveG, h, hu]
def haltR (z e : Int) : PanicEntry := { haltE z e with recovered := true }
theorem y5k {N : Nat} {hk : Hook} {d : Nat} {H : Heap} {a : Option Addr} {c : Nat} {s : List UInt8} {q1 q2 q3 q4 : Nat} {u : List Value} {x y z w : Int} (hh : NH hk) (hf : Fresh H) (hb : Brow H a s) (hc : s.length ≤ c) (hn : a = none → c = 0) (hN : s.length < N)
   (b1 : H.get q1 = some ⟨[.slice a s.length c], true, 1, none⟩) (b2 : H.get q2 = some ⟨u, true, 1, none⟩) (hu : u.length = 7) (b3 : H.get q3 = some (pl x y z)) (b4 : H.get q4 = some ⟨[.int .i64 w], true, 1, none⟩) (n12 : q1 ≠ q2 ∧ q1 ≠ q3 ∧ q1 ≠ q4 ∧ q2 ≠ q3 ∧ q2 ≠ q4 ∧ q3 ≠ q4) (v e : Int) :
   ∃ H', (∀ kd : End → FrameMode → Heap → Am.R, bodyG PP XX (CH N hk (d + 3)) N (prS 17) Tryz.f17 (codeOf Tryz.f17) #[.pointer (some ⟨q1, 0, none⟩), .pointer (some ⟨q2, 0, none⟩), .pointer (some ⟨q3, 0, none⟩), .pointer (some ⟨q4, 0, none⟩)] (.panicking [haltE v e]) H kd = kd (.ret (.tuple #[])) (.panicking [haltR v e]) H') ∧
     H'.get q2 = some ⟨zt, true, 1, none⟩ ∧ H'.get q3 = some ⟨(placeC s v).toList, true, 1, none⟩ ∧ H'.get q4 = some ⟨[.int .i64 e], true, 1, none⟩ ∧ H.next ≤ H'.next ∧ Fresh H' ∧ ∀ q y, H.get q = some y → q ≠ q2 → q ≠ q3 → q ≠ q4 → H'.get q = some y := by
 have l1 := jc9 hf b1
 have l2 := jc9 hf b2
 have l3 := jc9 hf b3
 have l4 := jc9 hf b4
 have hq5 := jc6 H 1 [.int .i64 0, .int .i64 0]
 have f1 : Fresh ((H.alloc 1 [.int .i64 0, .int .i64 0]).set H.next ⟨[.int .i64 v, .int .i64 e], true, 1, none⟩) := jd5 (jb1 hf _ _) (Nat.lt_succ_self _) _
 have keepA : ∀ q y, H.get q = some y → ((H.alloc 1 [.int .i64 0, .int .i64 0]).set H.next ⟨[.int .i64 v, .int .i64 e], true, 1, none⟩).get q = some y := fun q y hq => by
   have := jc9 hf hq
   rw [Heap.get_set, if_neg (by omega)]
   exact jb3 hf hq _ _
 have h5A : ((H.alloc 1 [.int .i64 0, .int .i64 0]).set H.next ⟨[.int .i64 v, .int .i64 e], true, 1, none⟩).get H.next = some ⟨[.int .i64 v, .int .i64 e], true, 1, none⟩ := jb4 _ _ _
 have hbA : Brow ((H.alloc 1 [.int .i64 0, .int .i64 0]).set H.next ⟨[.int .i64 v, .int .i64 e], true, 1, none⟩) a s := hb.keep fun y x _ h => keepA _ _ h
 obtain ⟨H1, xA, ca⟩ := y8b (N := N) (hk := hk) (d := d) hh hbA hc hn f1 v hN
 have k1 : ∀ q y, H.get q = some y → H1.get q = some y := fun q y h => xA.keep _ _ (keepA q y h)
 have h51 := xA.keep _ _ h5A
 have nA : ((H.alloc 1 [.int .i64 0, .int .i64 0]).set H.next ⟨[.int .i64 v, .int .i64 e], true, 1, none⟩).next = H.next + 1 := rfl
 have nx := xA.next
 rw [nA] at nx
 have h52 : (H1.set q2 ⟨zt, true, 1, none⟩).get H.next = some ⟨[.int .i64 v, .int .i64 e], true, 1, none⟩ := by rw [Heap.get_set, if_neg (by omega)]; exact h51
 have b32 : (H1.set q2 ⟨zt, true, 1, none⟩).get q3 = some (pl x y z) := by rw [Heap.get_set, if_neg (Ne.symm n12.2.2.2.1)]; exact k1 _ _ b3
 have h53 : ((H1.set q2 ⟨zt, true, 1, none⟩).set q3 (pl (atN v s.length) (IntKind.i64.wrap (1 + cntB (s.take (atN v s.length)) 10)) (IntKind.i64.wrap ((atN v s.length : Int) - lastB (s.take (atN v s.length)) 10 (atN v s.length))))).get H.next = some ⟨[.int .i64 v, .int .i64 e], true, 1, none⟩ := by rw [Heap.get_set, if_neg (by omega)]; exact h52
 have b43 : ((H1.set q2 ⟨zt, true, 1, none⟩).set q3 (pl (atN v s.length) (IntKind.i64.wrap (1 + cntB (s.take (atN v s.length)) 10)) (IntKind.i64.wrap ((atN v s.length : Int) - lastB (s.take (atN v s.length)) 10 (atN v s.length))))).get q4 = some ⟨[.int .i64 w], true, 1, none⟩ := by
   rw [Heap.get_set, if_neg (Ne.symm n12.2.2.2.2.2), Heap.get_set, if_neg (Ne.symm n12.2.2.2.2.1)]; exact k1 _ _ b4
 have hpc : placeC s v = #[.int .i64 (atN v s.length), .int .i64 (IntKind.i64.wrap (1 + cntB (s.take (atN v s.length)) 10)), .int .i64 (IntKind.i64.wrap ((atN v s.length : Int) - lastB (s.take (atN v s.length)) 10 (atN v s.length)))] := rfl
 have hplc : (pl (atN v s.length) (IntKind.i64.wrap (1 + cntB (s.take (atN v s.length)) 10)) (IntKind.i64.wrap ((atN v s.length : Int) - lastB (s.take (atN v s.length)) 10 (atN v s.length)))) = ⟨(placeC s v).toList, true, 1, none⟩ := rfl
 rw [hpc] at ca
 have f3 : Fresh (((H1.set q2 ⟨zt, true, 1, none⟩).set q3 (pl (atN v s.length) (IntKind.i64.wrap (1 + cntB (s.take (atN v s.length)) 10)) (IntKind.i64.wrap ((atN v s.length : Int) - lastB (s.take (atN v s.length)) 10 (atN v s.length))))).set q4 ⟨[.int .i64 e], true, 1, none⟩) :=
   jd5 (jd5 (jd5 xA.fresh (by omega) _) (by show q3 < H1.next; omega) _) (by show q4 < H1.next; omega) _
 refine ⟨_, fun kd => ?_, ?_, ?_, jb4 _ _ _, ?_, f3, fun q y hq h2 h3 h4 => ?_⟩
 · generalize hF : finDG PP Tryz.f17 (.panicking [haltR v e]) kd = F
   have hr : recM (.panicking [haltE v e]) = (.iface 58 (.agg #[.int .i64 v, .int .i64 e]), .panicking [haltR v e]) := rfl
   have hpr : prS 17 = pr17 := rfl
   have lL := lX5 Tryz.f17 0 1 2 3 5
   conv at lL in (occs := *) (rgnX _ _) => all_goals simp only [rX, opsAt, Tryz.f17, dL.o, reduceIte, Nat.reduceEqDiff]
   obtain ⟨l0, l1, l2, l3, l5⟩ := lL
   rw [code17, j6z l0 rfl]
   simp only [hr, hF, hpr]
   simp (decide := true) only [↓jb9, jh4, ↓jk6 l5, ↓j4i, ↓jp3, jf1, pr17, ↓uG.o, dG.o, ja1, ja5, reduceIte, ↓ja0 l1, ↓ja0 l2, ↓ja0 l3, y1q, ↓j6y, j8r, extA0, extA1, yh3, y5h hq5, unNT, yh2, j42 (keepA _ _ b1), hf0, hf1, y79 h5A, yv0 h51, ja3 Tryz.func10 rfl rfl ca, j8q (k1 _ _ b2) hu (v := zt) rfl rfl, store30 b32, y20 b43]
   rw [jo5 (by simp (decide := true) only [List.nil_append, List.cons_append, List.all_cons, List.all_nil, pairChkE, l5, List.getElem?_cons_zero, List.getElem?_cons_succ, guardBE, qval, opK, builtinK, dG.o, ja1, reduceIte, Bool.and_self, j7x, yv0 h5A, yv0 h51, yv0 h52, yv0 h53])]
   rw [← hF]
   rfl
 · rw [Heap.get_set, if_neg n12.2.2.2.2.1, Heap.get_set, if_neg n12.2.2.2.1]; exact jb4 _ _ _
 · rw [Heap.get_set, if_neg n12.2.2.2.2.2, jb4, hplc]
 · show H.next ≤ H1.next; omega
 · rw [Heap.get_set, if_neg h4, Heap.get_set, if_neg h3, Heap.get_set, if_neg h2]; exact k1 q y hq
end Go.Am
