/- The law's own function: what its loops share. -/
import Derived.Test.YtmliebodadgpbaaGreatDoorM12
import Derived.Calls
open Go.Proofs
namespace Go.Am
set_option maxRecDepth 100000
theorem js5 {t q n : Nat} {cs vs : List Value} {H : Heap} (hq : H.get q = some ⟨cs, true, 1, none⟩) (ht : sizeT PP t = some n) (hl : vs.length = n) (hc : cs.length = n) (hv : vs.all Value.oneCell' = true) : storeA PP t (pt q) (.agg vs.toArray) H = some (undef, H.set q ⟨vs, true, 1, none⟩) := by
 rw [jb4 hq ht hl (by omega) hv]
 have : over cs 0 vs = vs := by simp [over, hl, hc]
 rw [this]
theorem lens : (∀ a n c H, builtinA PP .len #[25] #[.slice a n c] H = some (.int .i64 n, H)) ∧ (∀ a n c H, builtinA PP .len #[26] #[.slice a n c] H = some (.int .i64 n, H)) ∧ (∀ a n c H, builtinA PP .len #[44] #[.slice a n c] H = some (.int .i64 n, H)) ∧ (∀ a n c H, builtinA PP .len #[38] #[.slice a n c] H = some (.int .i64 n, H)) ∧ (∀ a n c H, builtinA PP .len #[22] #[.slice a n c] H = some (.int .i64 n, H)) := ⟨fun a n c H => jd8 Tryz.underlying25 a n c H, fun a n c H => jd8 Tryz.underlying26 a n c H, fun a n c H => jd8 Tryz.underlying44 a n c H, fun a n c H => jd8 Tryz.underlying38 a n c H, fun a n c H => jd8 Tryz.underlying22 a n c H⟩
theorem z00 : (((0 : Nat) : Int) == 0) = true := rfl
theorem tyNf : foff PP 37 0 = some 0 ∧ foff PP 37 3 = some 3 := by decide +kernel
def prC : Nat → List (Nat × Nat) := fun i => if i = 63 then [(4, 2)] else []
def lpO (n : Nat) : Code → Option Code
 | .seq a b => match lpO n a with | some c => some c | none => lpO n b
 | .cond _ a b => match lpO n a with | some c => some c | none => lpO n b
 | .block m b => if m = n then some b else lpO n b
 | .loop b => lpO n b
 | _ => none
def lpM : Option Code → Option Code → Option Code
 | some c, _ => some c
 | none, d => d
theorem lp_o : (∀ n a b, lpO n (.seq a b) = lpM (lpO n a) (lpO n b)) ∧ (∀ n o a b, lpO n (.cond o a b) = lpM (lpO n a) (lpO n b)) ∧ (∀ n m b, lpO n (.block m b) = if m = n then some b else lpO n b) ∧ (∀ n b, lpO n (.loop b) = lpO n b) ∧ (∀ n i r d, lpO n (.region i r d) = none) ∧ (∀ n, lpO n .skip = none) ∧ (∀ n, lpO n .ret = none) ∧ ∀ n i, lpO n (.exit i) = none :=
 ⟨fun n a b => by rw [lpO]; cases lpO n a <;> rfl, fun n o a b => by rw [lpO]; cases lpO n a <;> rfl, fun _ _ _ => rfl, fun _ _ => rfl, fun _ _ _ _ => rfl, fun _ => rfl, fun _ => rfl, fun _ _ => rfl⟩
theorem jf9 (c : Code) (x : Option Code) : lpM (some c) x = some c := rfl
theorem jg0 (x : Option Code) : lpM none x = x := rfl
def lpX : Option Code → Code
 | some (.loop c) => c
 | _ => .skip
theorem jg1 (c : Code) : lpX (some (.loop c)) = c := rfl
abbrev lb (n : Nat) : BE := fun E ds H k => exU PP prC Tryz.f6 (lpX (lpO n (skX Tryz.f6))) none E ds H k
theorem jv3 {n : Nat} {c : Code} (P : BE → Prop) (h : lpX (lpO n (skX Tryz.f6)) = c) (hp : P fun E ds H k => exU PP prC Tryz.f6 c none E ds H k) : P (lb n) := by
 subst h; exact hp
theorem j1z {H : Heap} {l : List Nat} {a : Option Addr} {n m : Nat} (h : Vd H (rowD l) (.slice a n m)) {i : Nat} (hi : i < l.length) : ∃ q o cells, indexAddrA PP 22 (.slice a n m) (.int .i64 (i : Int)) = some (.pointer (some ⟨q, o, none⟩)) ∧ H.get q = some ⟨cells, false, 1, none⟩ ∧ cells[o]? = some (.int .i64 (l[i] : Int)) := by
 obtain ⟨_, n', _, _, e, hl, _⟩ := je1 h
 cases e
 have hn : l.length = n := by simpa using hl
 obtain ⟨q, o, cells, h1, h2, h3, h4⟩ := j7m h ixI (by decide) (i := i) (by omega)
 refine ⟨q, o, cells, h1, h2, ?_⟩
 have e : ((l.map iD).drop (i * 1)).take 1 = [iD l[i]] := by
   rw [Nat.mul_one, ← List.map_drop, List.drop_eq_getElem_cons hi]; rfl
 rw [e] at h4
 obtain ⟨v, r, e2, h5, h6⟩ := h4.cons_inv
 have : cells.drop o = v :: (cells.drop o).tail := by
   cases hd : cells.drop o with
   | nil => rw [hd] at e2; cases e2
   | cons x y => rw [hd] at e2; cases e2; rfl
 have h7 := congrArg (fun l => l[0]?) this
 simp only [List.getElem?_drop, Nat.add_zero, List.getElem?_cons_zero] at h7
 rw [h7, h5.p_inv]
theorem rowInc {N j : Nat} (h : j < N) (f : Nat → Nat) (hf : f j < 2 ^ 62) (q : Nat) : indexAddrA PP 22 (.slice (some ⟨q, 0, none⟩) N N) (.int .i64 (j : Int)) = some (.pointer (some ⟨q, j, none⟩)) ∧ (rowF N f)[j]? = some (.int .i64 (f j : Int)) ∧ inL j (rowF N f) = true ∧ IntKind.i64.wrap ((f j : Int) + 1) = ((f j + 1 : Nat) : Int) ∧ (rowF N f).set j (.int .i64 ((f j + 1 : Nat) : Int)) = rowF N fun k => f k + if k = j then 1 else 0 := by
 refine ⟨?_, jv2 h f, (jc9 _ _).2 (by rw [jm3]; exact h), ja1 hf, j7k h f⟩
 have := je4 ixI h q 0 N .i64
 rwa [Nat.zero_add, Nat.mul_one] at this
structure Sn (H B0 : Heap) (ps : List (Nat × Blk)) (B : Heap) (L : List (Nat × Blk)) : Prop where
 fb : Fle B0 B
 fr : Fr H B L
 lk : ∀ p ∈ ps, L.lookup p.1 = some p.2 ∧ p.1 < B.next
def NoK (q : Nat) (ps : List (Nat × Blk)) : Prop := ∀ p ∈ ps, p.1 ≠ q
section
variable {H B0 B : Heap} {q : Nat} {y : Blk} {ps : List (Nat × Blk)} {L : List (Nat × Blk)}
theorem Sn.new (s : Sn H B0 ps B L) (y : Blk) : Sn H B0 ((B.next, y) :: ps) (B.to (B.next + 1)) ((B.next, y) :: L) :=
 ⟨s.fb.trans (.to s.fb.fresh (Nat.le_succ _)), s.fr.new y, fun p hp => by
   rcases List.mem_cons.1 hp with rfl | hp
   · exact ⟨ja5 _ _ _, Nat.lt_succ_self _⟩
   · exact ⟨(jc7 (s.lk p hp).2 _ _).trans (s.lk p hp).1, Nat.lt_succ_of_lt (s.lk p hp).2⟩⟩
theorem Sn.up (s : Sn H B0 ((q, y) :: ps) B L) (n : NoK q ps) (z : Blk) : Sn H B0 ((q, z) :: ps) B (upL q z L) :=
 ⟨s.fb, s.fr.up _ _, fun p hp => by
   rcases List.mem_cons.1 hp with rfl | hp
   · have := s.lk (q, y) (List.mem_cons_self ..)
     exact ⟨by rw [ja3, if_pos rfl, this.1]; rfl, this.2⟩
   · have := s.lk p (List.mem_cons_of_mem _ hp)
     exact ⟨by rw [ja3, if_neg (n p hp)]; exact this.1, this.2⟩⟩
theorem Sn.sub (s : Sn H B0 ps B L) {ps' : List (Nat × Blk)} (h : ∀ p ∈ ps', p ∈ ps) : Sn H B0 ps' B L := ⟨s.fb, s.fr, fun p hp => s.lk p (h p hp)⟩
theorem Sn.hd (s : Sn H B0 ((q, y) :: ps) B L) : L.lookup q = some y := (s.lk (q, y) (List.mem_cons_self ..)).1
theorem Sn.tl (s : Sn H B0 ((q, y) :: ps) B L) : Sn H B0 ps B L := s.sub fun _ => List.mem_cons_of_mem _
theorem Sn.nok (s : Sn H B0 ps B L) : NoK B.next ps := fun p hp e => absurd (s.lk p hp).2 (by omega)
theorem Sn.no (s : Sn H B0 ps B L) {k : Nat} {c : List Value} {e : Nat} (h : B.get k = some ⟨c, false, e, none⟩) : L.lookup k = none ∧ (∀ p ∈ ps, (k = p.1) = False) ∧ k < B.next := by
 have h1 := s.fr.none h
 refine ⟨h1, fun p hp => eq_false fun e => ?_, Fresh.lt s.fr.fresh h⟩
 rw [e, (s.lk p hp).1] at h1; cases h1
theorem Sn.app {H B0 B : Heap} {ps L : List (Nat × Blk)} (s : Sn H B0 ps B L) {v x : Value} {l l' : List Nat} (r : LRow L 1 v l.length (natsV l)) (hv : ∀ p ∈ ps, blkOf v ≠ some p.1) (hx : Vd B (rowD l') x) (hn : l.length + l'.length ≤ 2 ^ 22) :
   ∃ v' B' L', appendA PP #[22, 22] v x (B.plus L) = some (v', B'.plus L') ∧ Sn H B0 ps B' L' ∧ LRow L' 1 v' (l ++ l').length (natsV (l ++ l')) ∧ (∀ p ∈ ps, blkOf v' ≠ some p.1) := by
 obtain ⟨v', n', L', h1, h2, h3, h4, h5, h6⟩ := j7j s.fr r (hx.mono s.fr.hle.frz) hn
 refine ⟨v', B.to n', L', h1, ⟨s.fb.trans (.to s.fb.fresh h2), h3, fun p hp => ?_⟩, h4, fun p hp e => ?_⟩
 · have := s.lk p hp
   exact ⟨(h6 p.1 (hv p hp) this.2).trans this.1, Nat.lt_of_lt_of_le this.2 h2⟩
 · rcases h5 with h5 | h5
   · rw [h5] at e; exact hv p hp e
   · rw [h5] at e
     have h8 := (s.lk p hp).2
     have h7 := Option.some.inj e
     omega
end
def Kp (E0 E : Env) : List Nat → Prop
 | [] => True
 | j :: l => E j = E0 j ∧ Kp E0 E l
theorem Kp.at {E0 E : Env} : ∀ {l : List Nat} (j : Nat), l.contains j = true → Kp E0 E l → E j = E0 j
 | [], j, h, _ => by cases h
 | i :: l, j, h, k => by
   by_cases e : j = i
   · subst e; exact k.1
   · have : l.contains j = true := by
       rw [List.contains_cons] at h
       simpa [e] using h
     exact Kp.at j this k.2
theorem Kp.refl (E : Env) : ∀ l, Kp E E l
 | [] => trivial
 | _ :: l => ⟨rfl, Kp.refl E l⟩
theorem Kp.trans {E0 E1 E2 : Env} : ∀ {l : List Nat}, Kp E0 E1 l → Kp E1 E2 l → Kp E0 E2 l
 | [], _, _ => trivial
 | _ :: _, h, k => ⟨k.1.trans h.1, h.2.trans k.2⟩
theorem Kp.sub {E0 E : Env} {l : List Nat} (h : Kp E0 E l) : ∀ {l' : List Nat}, (∀ j ∈ l', l.contains j = true) → Kp E0 E l'
 | [], _ => trivial
 | j :: _, hs => ⟨h.at j (hs j (List.mem_cons_self ..)), h.sub fun i hi => hs i (List.mem_cons_of_mem _ hi)⟩
def isNum (k : Int) : Bool := k == 2
def isNam (k : Int) : Bool := k == 1
def isOpr (k : Int) : Bool := decide (14 ≤ k) && decide (k ≤ 29)
theorem j0p (c : Int → Bool) (l : List Nd) {i : Nat} (h : i < l.length) : wN c (l.take (i + 1)) = wN c (l.take i) + (c l[i].op).toNat := by
 unfold wN
 rw [List.take_succ_eq_append_getElem h, List.countP_append]
 congr 1
theorem j2s (l : List Nd) {i : Nat} (h : i < l.length) (j : Nat) : (kidsN (l.take (i + 1))).count j = (kidsN (l.take i)).count j + l[i].kids.count j := by
 rw [List.take_succ_eq_append_getElem h, jd2, List.count_append]
 congr 1
 simp [kidsN]
theorem yc1 (c : Int → Bool) (l : List Nd) (i : Nat) : wN c (l.take i) ≤ l.length := by
 unfold wN
 refine Nat.le_trans List.countP_le_length ?_
 rw [List.length_take]; omega
theorem j7o {l : List Nd} (h : ∀ i (h : i < l.length), NdOk i l[i]) (i j : Nat) : (kidsN (l.take i)).count j ≤ 2 * l.length := by
 refine Nat.le_trans List.count_le_length ?_
 suffices H : ∀ i, i ≤ l.length → (kidsN (l.take i)).length ≤ 2 * i by
   by_cases hi : i ≤ l.length
   · have := H i hi; omega
   · rw [List.take_of_length_le (by omega)]
     have := H l.length (Nat.le_refl _)
     rwa [List.take_length] at this
 intro i
 induction i with
 | zero => intro _; exact Nat.le_refl _
 | succ i ih =>
   intro hi
   have := ih (by omega)
   rw [List.take_succ_eq_append_getElem (by omega), jd2, List.length_append]
   have h2 : (kidsN [l[i]]).length ≤ 2 := by
     simp only [kidsN, List.flatMap_cons, List.flatMap_nil, List.append_nil]
     rcases h i (by omega) with ⟨_, e⟩ | ⟨_, a, b, e, _⟩ <;> rw [e] <;> simp
   omega
theorem Sn.congr {H B0 B : Heap} {q N : Nat} {f : Nat → Nat} {ps L : List (Nat × Blk)} (s : Sn H B0 ((q, ⟨rowF N f, true, 1, none⟩) :: ps) B L) {g : Nat → Nat} (h : ∀ j, f j = g j) : Sn H B0 ((q, ⟨rowF N g, true, 1, none⟩) :: ps) B L := by
 obtain rfl : f = g := funext h
 exact s
theorem loop2 {H B0 : Heap} {q3 q14 : Nat} {T : List Value} {ps : List (Nat × Blk)} {nds : List Nd} {na : Option Addr} {nm : Nat} (ok : ∀ i (h : i < nds.length), NdOk i nds[i]) (vn : Vd B0 (.r 5 (nds.flatMap Nd.dv)) (.slice na nds.length nm)) (c5 : T[5]? = some (.slice na nds.length nm)) (nps : NoK q14 ((q3, ⟨T, true, 1, none⟩) :: ps)) (nlen : nds.length ≤ 2 ^ 21)
   {K9 K10 K11 : Int} (b9 : -(2 ^ 40) ≤ K9 ∧ K9 ≤ 2 ^ 40) (b10 : -(2 ^ 40) ≤ K10 ∧ K10 ≤ 2 ^ 40) (b11 : -(2 ^ 40) ≤ K11 ∧ K11 ≤ 2 ^ 40)
   {E : Env} {B : Heap} {L : List (Nat × Blk)} (st : Sn H B0 ((q14, ⟨rowF nds.length (fun _ => 0), true, 1, none⟩) :: (q3, ⟨T, true, 1, none⟩) :: ps) B L) (e3 : E 3 = pt q3) (e9 : E 9 = .int .i64 K9) (e10 : E 10 = .int .i64 K10) (e11 : E 11 = .int .i64 K11) (e14 : E 14 = .slice (some ⟨q14, 0, none⟩) nds.length nds.length) (e15 : E 15 = .int .i64 0)
   {Z : KO} (hZ : ∀ (E' : Env) B' L', Sn H B0 ((q14, ⟨rowF nds.length fun j => (kidsN nds).count j, true, 1, none⟩) :: (q3, ⟨T, true, 1, none⟩) :: ps) B' L' → Kp E E' [3, 13, 14] → E' 9 = .int .i64 (K9 - wN isNum nds) → E' 10 = .int .i64 (K10 - wN isNam nds) → E' 11 = .int .i64 (K11 - wN isOpr nds) → Z .norm E' [] (B'.plus L')) :
   loopW (lb 2) E [] (B.plus L) (leaveW 2 Z) := by
 refine jv3 (c := ?_) (P := fun b => loopW b E [] (B.plus L) (leaveW 2 Z)) ?h ?_
 case h =>
   simp +decide only [zf6.o, ↓GI.o, lp_o, jf9, jg0, jg1, reduceIte]
   exact rfl
 refine ja6 (I := fun m E' ds G => ds = [] ∧ ∃ i B' L', i + m = nds.length ∧ G = B'.plus L' ∧ Sn H B0 ((q14, ⟨rowF nds.length fun j => (kidsN (nds.take i)).count j, true, 1, none⟩) :: (q3, ⟨T, true, 1, none⟩) :: ps) B' L' ∧ Kp E E' [3, 13, 14] ∧ E' 9 = .int .i64 (K9 - wN isNum (nds.take i)) ∧ E' 10 = .int .i64 (K10 - wN isNam (nds.take i)) ∧ E' 11 = .int .i64 (K11 - wN isOpr (nds.take i)) ∧ E' 15 = .int .i64 ((i : Nat) : Int)) (i := nds.length) ?_ ⟨rfl, 0, B, L, Nat.zero_add _, rfl, st, Kp.refl _ _, by rw [e9]; simp [wN], by rw [e10]; simp [wN], by rw [e11]; simp [wN], e15⟩
 clear st e9 e10 e11 e15 B L
 rintro L' m E' _ _ ⟨rfl, i, B, L, him, rfl, st, kp, e9, e10, e11, e15⟩ hL
 replace e3 := (kp.at 3 rfl).trans e3
 replace e14 := (kp.at 14 rfl).trans e14
 have e13 := kp.at 13 rfl
 have l3 := st.tl.hd
 change exU PP prC Tryz.f6 (.seq _ _) none E' [] _ _
 by_cases hi : i < nds.length
 · have hv := vn.mono st.fb.keep
   obtain ⟨qn, on, nc, x1, x2, x3, x4⟩ := j7m hv (t := 26) (by decide +kernel) (by decide) hi
   rw [yn7 _ _ hi] at x4
   obtain ⟨kv, hkv, x5⟩ := j7n x4
   obtain ⟨n1, n2, n3⟩ := st.no x2
   obtain ⟨ka, kn, km, kcells, rfl, kl, ks, kd⟩ := je1 hkv
   have x5 : (nc.drop on).take (4 + 1) = _ := x5
   have hin : inL (on + 4) nc = true := (jc9 _ _).2 (by omega)
   have s5 := st.new ⟨[.int .i64 nds[i].op, .int .u64 nds[i].n, .string nds[i].s, .slice ka kn km, .int .i64 (nds[i].at_ : Int)], true, 1, none⟩
   have sto := js5 (t := 37) (n := 5) (q := B.next) (cs := [.int .i64 0, .int .u64 0, .string .empty, .slice none 0 0, .int .i64 0]) (vs := [.int .i64 nds[i].op, .int .u64 nds[i].n, .string nds[i].s, .slice ka kn km, .int .i64 (nds[i].at_ : Int)]) (H := (B.to (B.next + 1)).plus ((B.next, ⟨[.int .i64 0, .int .u64 0, .string .empty, .slice none 0 0, .int .i64 0], true, 1, none⟩) :: L)) (by rw [ja2, ja5]; rfl) (by decide +kernel) rfl rfl rfl
   have c1 := j0p isNum nds hi
   have c2 := j0p isNam nds hi
   have c3 := j0p isOpr nds hi
   have l1 := yc1 isNum nds i
   have l2 := yc1 isNam nds i
   have l4 := yc1 isOpr nds i
   have w15 : IntKind.i64.wrap ((i : Int) + 1) = ((i + 1 : Nat) : Int) := ja1 (by omega)
   simp +decide only [zf6.o, ↓GI.o, reduceIte, e3, e15, l3, c5, lens, hi, decide_true, x1, x2, n1, hin, x5, tyN, tyNf, je5 zrN, sto, st.fr.up_no]
   have k3 := kp.at 3 rfl
   have k14 := kp.at 14 rfl
   have go : ∀ (E'' : Env) B'' L'', Sn H B0 ((q14, ⟨rowF nds.length fun j => (kidsN (nds.take (i + 1))).count j, true, 1, none⟩) :: (q3, ⟨T, true, 1, none⟩) :: ps) B'' L'' → Kp E E'' [3, 13, 14] → E'' 9 = .int .i64 (K9 - wN isNum (nds.take (i + 1))) → E'' 10 = .int .i64 (K10 - wN isNam (nds.take (i + 1))) → E'' 11 = .int .i64 (K11 - wN isOpr (nds.take (i + 1))) → E'' 15 = .int .i64 ((i + 1 : Nat) : Int) → L' E'' [] (B''.plus L'') := fun E'' B'' L'' a b c d e f => hL (m - 1) _ _ _ (by omega) ⟨rfl, i + 1, _, _, by omega, rfl, a, b, c, d, e, f⟩
   have h20 := s5.hd
   have h14 := s5.tl.hd
   have hc := j2s nds hi
   have hkB : ∀ {l}, nds[i].kids = l → Vd (B.to (B.next + 1)) (rowD l) (.slice ka kn km) := fun e => by rw [← e]; exact Vd.mono (H := B) (H' := B.to (B.next + 1)) (fun _ _ _ h => h) hkv
   have nq := s5.nok
   have hq5 : NoK B.next ((q14, ⟨rowF nds.length fun j => (kidsN (nds.take i)).count j, true, 1, none⟩) :: (q3, ⟨T, true, 1, none⟩) :: ps) := st.nok
   have h5n : (B.next = q14) = False := eq_false fun e => hq5 _ (List.mem_cons_self ..) e.symm
   have hfb := fun j => j7o ok i j
   generalize hf : (fun j => (kidsN (nds.take i)).count j) = f at *
   replace hfb : ∀ j, f j ≤ 2 * nds.length := fun j => hf ▸ hfb j
   replace hc : ∀ j, (kidsN (nds.take (i + 1))).count j = f j + nds[i].kids.count j := fun j => by rw [hc, ← hf]
   generalize B.to (B.next + 1) = B5 at *
   generalize ((B.next, (⟨[.int .i64 nds[i].op, .int .u64 nds[i].n, .string nds[i].s, .slice ka kn km, .int .i64 (nds[i].at_ : Int)], true, 1, none⟩ : Blk)) :: L) = L5 at *
   generalize B.next = q5 at *
   generalize hop : nds[i].op = op at *
   by_cases o2 : op = 2
   · subst o2
     have hk : nds[i].kids = [] := by
       rcases ok i hi with ⟨_, h⟩ | ⟨⟨h, _⟩, _⟩
       · exact h
       · rw [hop] at h; omega
     have w9 : IntKind.i64.wrap (K9 - (wN isNum (nds.take i) : Int) - 1) = K9 - (wN isNum (nds.take (i + 1)) : Int) := by
       rw [c1, ja8 (by omega) (by omega)]; simp [isNum]; omega
     simp +decide only [zf6.o, ↓GI.o, reduceIte, e9, e15, w9, w15, Int.reduceBEq]
     refine go _ _ _ (s5.tl.congr fun j => by rw [hc, hk]; simp) ⟨?_, ?_, ?_, trivial⟩ ?_ ?_ ?_ ?_ <;> simp +decide only [↓G.o, reduceIte, k3, e13, k14, e9, e10, e11, c1, c2, c3, isNum, isNam, isOpr] <;> rfl
   · have b2 : (op == 2) = false := by simpa using o2
     by_cases o1 : op = 1
     · subst o1
       have hk : nds[i].kids = [] := by
         rcases ok i hi with ⟨_, h⟩ | ⟨⟨h, _⟩, _⟩
         · exact h
         · rw [hop] at h; omega
       have w10 : IntKind.i64.wrap (K10 - (wN isNam (nds.take i) : Int) - 1) = K10 - (wN isNam (nds.take (i + 1)) : Int) := by
         rw [c2, ja8 (by omega) (by omega)]; simp [isNam]; omega
       simp +decide only [zf6.o, ↓GI.o, reduceIte, e10, e15, w10, w15, b2, h20, tyNf, Int.reduceBEq]
       refine go _ _ _ (s5.tl.congr fun j => by rw [hc, hk]; simp) ⟨?_, ?_, ?_, trivial⟩ ?_ ?_ ?_ ?_ <;> simp +decide only [↓G.o, reduceIte, k3, e13, k14, e9, e10, e11, c1, c2, c3, isNum, isNam, isOpr] <;> rfl
     · have b1 : (op == 1) = false := by simpa using o1
       obtain ⟨⟨o3, o4⟩, a, b, hk, hab, hbi⟩ : (14 ≤ op ∧ op ≤ 29) ∧ ∃ a b, nds[i].kids = [a, b] ∧ a < b ∧ b + 1 = i := by
         rcases ok i hi with ⟨h, _⟩ | ⟨h, h'⟩
         · rw [hop] at h; omega
         · rw [hop] at h; exact ⟨h, h'⟩
       have hk2 : kn = 2 := by
         have := kl
         rw [hk] at this
         simpa using this.symm
       subst hk2
       have hkB := hkB hk
       obtain ⟨qa, oa, ca, y1, y2, y3⟩ := j1z hkB (i := 0) (by simp)
       obtain ⟨qb, ob, cb, z1, z2, z3⟩ := j1z hkB (i := 1) (by simp)
       replace y1 : indexAddrA PP 22 (.slice ka 2 km) (.int .i64 0) = some (.pointer (some ⟨qa, oa, none⟩)) := y1
       replace z1 : indexAddrA PP 22 (.slice ka 2 km) (.int .i64 1) = some (.pointer (some ⟨qb, ob, none⟩)) := z1
       replace y3 : ca[oa]? = some (.int .i64 (a : Int)) := y3
       replace z3 : cb[ob]? = some (.int .i64 (b : Int)) := z3
       obtain ⟨na1, na2, _⟩ := s5.tl.no y2
       obtain ⟨nb1, nb2, _⟩ := s5.tl.no z2
       have na3 := na2 _ (List.mem_cons_self ..)
       have nb3 := nb2 _ (List.mem_cons_self ..)
       have w11 : IntKind.i64.wrap (K11 - (wN isOpr (nds.take i) : Int) - 1) = K11 - (wN isOpr (nds.take (i + 1)) : Int) := by
         rw [c3, ja8 (by omega) (by omega)]; simp [isOpr, o3, o4]; omega
       have g1 : decide ((a : Int) < 0) = false := decide_eq_false (by omega)
       have g2 : decide ((a : Int) ≥ (b : Int)) = false := decide_eq_false (by omega)
       have g3 : ((b : Int) != IntKind.i64.wrap ((i : Int) - 1)) = false := by
         rw [ja8 (by omega) (by omega), bne_eq_false_iff_eq]; omega
       have g4 : (((2 : Nat) : Int) != 2) = false := rfl
       obtain ⟨i1, i2, i3, i4, i5⟩ := rowInc (show a < nds.length by omega) f (by have := hfb a; omega) q14
       obtain ⟨j1, j2, j3, j4, j5⟩ := rowInc (show b < nds.length by omega) (fun k => f k + if k = a then 1 else 0) (by have := hfb b; show f b + _ < _; split <;> omega) q14
       simp +decide only [zf6.o, ↓GI.o, reduceIte, e11, e14, e15, w11, w15, b2, b1, h20, tyNf, lens, y1, y2, y3, z1, z2, z3, na1, nb1, nb3, g1, g2, g3, g4, show prC 27 = [] from rfl, i1, i2, i3, i4, i5, j1, j2, j3, j4, j5, h14, h5n, ja3, Option.map_some, Option.map_none]
       refine go _ _ _ (((s5.tl.up nps _).up nps _).congr fun j => ?_) ⟨?_, ?_, ?_, trivial⟩ ?_ ?_ ?_ ?_
       · rw [hc, hk, List.count_cons, List.count_cons, List.count_nil]
         simp only [beq_iff_eq]
         repeat' split
         all_goals omega
       all_goals simp +decide only [↓G.o, reduceIte, k3, e13, k14, e9, e10, e11, c1, c2, c3, isNum, isNam, isOpr, b1, b2] <;> rfl
 · obtain rfl : i = nds.length := by omega
   rw [List.take_length] at *
   simp +decide only [zf6.o, ↓GI.o, reduceIte, e3, e15, l3, c5, lens, Nat.lt_irrefl, decide_false]
   refine hZ _ _ _ st ⟨?_, ?_, ?_, trivial⟩ ?_ ?_ ?_ <;> simp +decide only [↓G.o, reduceIte, kp.at 3 rfl, kp.at 14 rfl, e13, e9, e10, e11]
theorem jk4 {l : List Nat} {i : Nat} (h : i < l.length) (j : Nat) : (l.take (i + 1)).count j = (l.take i).count j + if j = l[i] then 1 else 0 := by
 rw [List.take_succ_eq_append_getElem h, List.count_append, List.count_cons, List.count_nil, Nat.zero_add]
 by_cases e : j = l[i]
 · rw [if_pos e, if_pos (by rw [e]; exact beq_self_eq_true _)]
 · rw [if_neg e, if_neg (by simpa using fun h => e h.symm)]
theorem yn8 {l : List Nat} (h : l.Pairwise (· < ·)) {i j : Nat} (hij : i < j) (hj : j < l.length) : l[i] < l[j] := List.pairwise_iff_getElem.1 h i j (by omega) hj hij
theorem jv4 (l : List Nat) (i j : Nat) : (l.take i).count j ≤ l.length := Nat.le_trans List.count_le_length (by rw [List.length_take]; omega)
theorem loop5 {H B0 : Heap} {q3 q17 M : Nat} {T : List Value} {ps : List (Nat × Blk)} {top : List Nat} {ta ia : Option Addr} {tm im : Nat} (tp : top.Pairwise (· < ·)) (tl : ∀ j ∈ top, j < M) (vt : Vd B0 (rowD top) (.slice ta top.length tm)) (c6 : T[6]? = some (.slice ta top.length tm)) (c4 : T[4]? = some (.slice ia M im)) (nps : NoK q17 ((q3, ⟨T, true, 1, none⟩) :: ps)) (mlen : top.length ≤ 2 ^ 21)
   {E : Env} {B : Heap} {L : List (Nat × Blk)} (st : Sn H B0 ((q17, ⟨rowF M (fun _ => 0), true, 1, none⟩) :: (q3, ⟨T, true, 1, none⟩) :: ps) B L) (e3 : E 3 = pt q3) (e17 : E 17 = .slice (some ⟨q17, 0, none⟩) M M) (e18 : E 18 = .int .i64 0)
   {Z : KO} (hZ : ∀ (E' : Env) B' L', Sn H B0 ((q17, ⟨rowF M fun j => top.count j, true, 1, none⟩) :: (q3, ⟨T, true, 1, none⟩) :: ps) B' L' → Kp E E' [3, 9, 10, 11, 13, 14, 17] → Z .norm E' [] (B'.plus L')) :
   loopW (lb 5) E [] (B.plus L) (leaveW 5 Z) := by
 refine jv3 (c := ?_) (P := fun b => loopW b E [] (B.plus L) (leaveW 5 Z)) ?h ?_
 case h =>
   simp +decide only [zf6.o, ↓GI.o, lp_o, jf9, jg0, jg1, reduceIte]
   exact rfl
 refine ja6 (I := fun m E' ds G => ds = [] ∧ ∃ i B' L', i + m = top.length ∧ G = B'.plus L' ∧ Sn H B0 ((q17, ⟨rowF M fun j => (top.take i).count j, true, 1, none⟩) :: (q3, ⟨T, true, 1, none⟩) :: ps) B' L' ∧ Kp E E' [3, 9, 10, 11, 13, 14, 17] ∧ E' 18 = .int .i64 ((i : Nat) : Int)) (i := top.length) ?_ ⟨rfl, 0, B, L, Nat.zero_add _, rfl, st, Kp.refl _ _, e18⟩
 clear st e18 B L
 rintro L' m E' _ _ ⟨rfl, i, B, L, him, rfl, st, kp, e18⟩ hL
 replace e3 := (kp.at 3 rfl).trans e3
 replace e17 := (kp.at 17 rfl).trans e17
 obtain ⟨k3, k9, k10, k11, k13, k14, k17, _⟩ := kp
 have l3 := st.tl.hd
 change exU PP prC Tryz.f6 (.seq _ _) none E' [] _ _
 by_cases hi : i < top.length
 · have hvB := vt.mono st.fb.keep
   obtain ⟨qa, oa, ca, y1, y2, y3⟩ := j1z hvB hi
   obtain ⟨na1, na2, _⟩ := st.no y2
   have na3 := na2 _ (List.mem_cons_self ..)
   have hlt : top[i] < M := tl _ (List.getElem_mem hi)
   have hfb := jv4 top i
   have hct := jk4 hi
   have hpw : ∀ j (h : j < i), top[j] < top[i] := fun j h => yn8 tp h hi
   have go : ∀ (E'' : Env) B'' L'', Sn H B0 ((q17, ⟨rowF M fun j => (top.take (i + 1)).count j, true, 1, none⟩) :: (q3, ⟨T, true, 1, none⟩) :: ps) B'' L'' → Kp E E'' [3, 9, 10, 11, 13, 14, 17] → E'' 18 = .int .i64 ((i + 1 : Nat) : Int) → L' E'' [] (B''.plus L'') := fun E'' B'' L'' a b c => hL (m - 1) _ _ _ (by omega) ⟨rfl, i + 1, _, _, by omega, rfl, a, b, c⟩
   have w18 : IntKind.i64.wrap ((i : Int) + 1) = ((i + 1 : Nat) : Int) := ja1 (by omega)
   generalize hf : (fun j => (top.take i).count j) = f at *
   replace hfb : ∀ j, f j ≤ top.length := fun j => hf ▸ hfb j
   replace hct : ∀ j, (top.take (i + 1)).count j = f j + if j = top[i] then 1 else 0 := fun j => by rw [hct, ← hf]
   have h17 := st.hd
   obtain ⟨i1, i2, i3, i4, i5⟩ := rowInc hlt f (by have := hfb top[i]; omega) q17
   have g1 : decide ((top[i] : Int) < 0) = false := decide_eq_false (by omega)
   have g2 : decide ((top[i] : Int) ≥ (M : Int)) = false := decide_eq_false (by omega)
   have fin : Sn H B0 ((q17, ⟨rowF M fun j => (top.take (i + 1)).count j, true, 1, none⟩) :: (q3, ⟨T, true, 1, none⟩) :: ps) B (upL q17 ⟨rowF M fun k => f k + if k = top[i] then 1 else 0, true, 1, none⟩ L) := (st.up nps _).congr fun j => (hct j).symm
   cases i with
   | zero =>
     have g3 : decide ((((0 : Nat) : Nat) : Int) > 0) = false := rfl
     simp +decide only [zf6.o, ↓GI.o, reduceIte, e3, e17, e18, l3, c6, c4, lens, hi, decide_true, y1, y2, y3, na1, g1, g2, show prC 39 = [] from rfl, i1, i2, i3, i4, i5, h17, w18]
     refine go _ _ _ fin ⟨?_, ?_, ?_, ?_, ?_, ?_, ?_, trivial⟩ ?_ <;> simp +decide only [↓G.o, reduceIte, k3, k9, k10, k11, k13, k14, k17]
   | succ i' =>
     have g3 : decide (((i' + 1 : Nat) : Int) > 0) = true := decide_eq_true (by omega)
     have w19 : IntKind.i64.wrap (((i' + 1 : Nat) : Int) - 1) = (i' : Int) := by rw [ja8 (by omega) (by omega)]; omega
     obtain ⟨qb, ob, cb, z1, z2, z3⟩ := j1z hvB (show i' < top.length by omega)
     obtain ⟨nb1, nb2, _⟩ := st.no z2
     have g4 : decide ((top[i' + 1] : Int) ≤ (top[i'] : Int)) = false := decide_eq_false (by have := hpw i' (Nat.lt_succ_self _); omega)
     simp +decide only [zf6.o, ↓GI.o, reduceIte, e3, e17, e18, l3, c6, c4, lens, hi, decide_true, y1, y2, y3, na1, g1, g2, g3, g4, w19, z1, z2, z3, nb1, show prC 39 = [] from rfl, i1, i2, i3, i4, i5, h17, w18]
     refine go _ _ _ fin ⟨?_, ?_, ?_, ?_, ?_, ?_, ?_, trivial⟩ ?_ <;> simp +decide only [↓G.o, reduceIte, k3, k9, k10, k11, k13, k14, k17]
 · obtain rfl : i = top.length := by omega
   rw [List.take_length] at *
   simp +decide only [zf6.o, ↓GI.o, reduceIte, e3, e18, l3, c6, lens, Nat.lt_irrefl, decide_false]
   refine hZ _ _ _ st ⟨?_, ?_, ?_, ?_, ?_, ?_, ?_, trivial⟩ <;> simp +decide only [↓G.o, reduceIte, k3, k9, k10, k11, k13, k14, k17]
theorem loop15 {G : Heap} {q N : Nat} {f : Nat → Nat} (hq : G.get q = some ⟨rowF N f, true, 1, none⟩) (h1 : ∀ j, j < N → f j = 1) (hN : N ≤ 2 ^ 21) {E : Env} (e14 : E 14 = .slice (some ⟨q, 0, none⟩) N N) (e27 : E 27 = .int .i64 0)
   {Z : KO} (hZ : ∀ E' : Env, Kp E E' [9, 10, 11, 13, 14, 17] → Z .norm E' [] G) : loopW (lb 15) E [] G (leaveW 15 Z) := by
 refine jv3 (c := ?_) (P := fun b => loopW b E [] G (leaveW 15 Z)) ?h ?_
 case h =>
   simp +decide only [zf6.o, ↓GI.o, lp_o, jf9, jg0, jg1, reduceIte]
   exact rfl
 refine ja6 (I := fun m E' ds G' => ds = [] ∧ G' = G ∧ ∃ i, i + m = N ∧ Kp E E' [9, 10, 11, 13, 14, 17] ∧ E' 27 = .int .i64 ((i : Nat) : Int)) (i := N) ?_ ⟨rfl, rfl, 0, Nat.zero_add _, Kp.refl _ _, e27⟩
 clear e27
 rintro L' m E' _ _ ⟨rfl, rfl, i, him, kp, e27⟩ hL
 replace e14 := (kp.at 14 rfl).trans e14
 obtain ⟨k9, k10, k11, k13, k14, k17, _⟩ := kp
 change exU PP prC Tryz.f6 (.seq _ _) none E' [] _ _
 by_cases hi : i < N
 · obtain ⟨i1, i2, _⟩ := rowInc hi f (by rw [h1 i hi]; decide) q
   have w27 : IntKind.i64.wrap ((i : Int) + 1) = ((i + 1 : Nat) : Int) := ja1 (by omega)
   have g1 : (((f i : Nat) : Int) != 1) = false := by rw [h1 i hi]; rfl
   simp +decide only [zf6.o, ↓GI.o, reduceIte, e14, e27, lens, hi, decide_true, i1, i2, g1, hq, w27]
   refine hL (m - 1) _ _ _ (by omega) ⟨rfl, rfl, i + 1, by omega, ⟨?_, ?_, ?_, ?_, ?_, ?_, trivial⟩, ?_⟩ <;> simp +decide only [↓G.o, reduceIte, k9, k10, k11, k13, k14, k17]
 · obtain rfl : i = N := by omega
   simp +decide only [zf6.o, ↓GI.o, reduceIte, e14, e27, lens, Nat.lt_irrefl, decide_false]
   refine hZ _ ⟨?_, ?_, ?_, ?_, ?_, ?_, trivial⟩ <;> simp +decide only [↓G.o, reduceIte, k9, k10, k11, k13, k14, k17]
theorem loop17 {G : Heap} {q N : Nat} {f : Nat → Nat} (hq : G.get q = some ⟨rowF N f, true, 1, none⟩) (h1 : ∀ j, j < N → f j = 1) (hN : N ≤ 2 ^ 21) {E : Env} (e17 : E 17 = .slice (some ⟨q, 0, none⟩) N N) (e28 : E 28 = .int .i64 0)
   {Z : KO} (hZ : ∀ E' : Env, Kp E E' [9, 10, 11, 13, 14] → Z .norm E' [] G) : loopW (lb 17) E [] G (leaveW 17 Z) := by
 refine jv3 (c := ?_) (P := fun b => loopW b E [] G (leaveW 17 Z)) ?h ?_
 case h =>
   simp +decide only [zf6.o, ↓GI.o, lp_o, jf9, jg0, jg1, reduceIte]
   exact rfl
 refine ja6 (I := fun m E' ds G' => ds = [] ∧ G' = G ∧ ∃ i, i + m = N ∧ Kp E E' [9, 10, 11, 13, 14, 17] ∧ E' 28 = .int .i64 ((i : Nat) : Int)) (i := N) ?_ ⟨rfl, rfl, 0, Nat.zero_add _, Kp.refl _ _, e28⟩
 clear e28
 rintro L' m E' _ _ ⟨rfl, rfl, i, him, kp, e28⟩ hL
 replace e17 := (kp.at 17 rfl).trans e17
 obtain ⟨k9, k10, k11, k13, k14, k17, _⟩ := kp
 change exU PP prC Tryz.f6 (.seq _ _) none E' [] _ _
 by_cases hi : i < N
 · obtain ⟨i1, i2, _⟩ := rowInc hi f (by rw [h1 i hi]; decide) q
   have w28 : IntKind.i64.wrap ((i : Int) + 1) = ((i + 1 : Nat) : Int) := ja1 (by omega)
   have g1 : (((f i : Nat) : Int) != 1) = false := by rw [h1 i hi]; rfl
   simp +decide only [zf6.o, ↓GI.o, reduceIte, e17, e28, lens, hi, decide_true, i1, i2, g1, hq, w28]
   refine hL (m - 1) _ _ _ (by omega) ⟨rfl, rfl, i + 1, by omega, ⟨?_, ?_, ?_, ?_, ?_, ?_, trivial⟩, ?_⟩ <;> simp +decide only [↓G.o, reduceIte, k9, k10, k11, k13, k14, k17]
 · obtain rfl : i = N := by omega
   simp +decide only [zf6.o, ↓GI.o, reduceIte, e17, e28, lens, Nat.lt_irrefl, decide_false]
   refine hZ _ ⟨?_, ?_, ?_, ?_, ?_, trivial⟩ <;> simp +decide only [↓G.o, reduceIte, k9, k10, k11, k13, k14]
end Go.Am
namespace Go.Am
variable {H B0 : Heap} {ps : List (Nat × Blk)} {l : List Nat}
set_option maxRecDepth 100000
theorem Sn.add {B : Heap} {L : List (Nat × Blk)} (s : Sn H B0 ps B L) {q : Nat} {y : Blk} (h : L.lookup q = some y) : Sn H B0 ((q, y) :: ps) B L := ⟨s.fb, s.fr, fun p hp => by
 rcases List.mem_cons.1 hp with rfl | hp
 · exact ⟨h, (s.fr.keys _ _ h).2.1⟩
 · exact s.lk p hp⟩
theorem jv5 {i : Nat} (h : i < l.length) : (natsV l)[i]? = some (.int .i64 (l[i] : Int)) := by simp [natsV, h]
theorem loop11 {q14 N : Nat} {f : Nat → Nat} {R : Nat} (hl : ∀ j ∈ l, j < N) (nps : NoK q14 ps) (hfb : ∀ j, f j + l.length ≤ 2 ^ 30) (hR : R + l.length ≤ 2 ^ 30)
   {E : Env} {B : Heap} {L : List (Nat × Blk)} {v : Value} (st : Sn H B0 ((q14, ⟨rowF N f, true, 1, none⟩) :: ps) B L) (r : LRow L 1 v l.length (natsV l)) (hb : blkOf v ≠ some q14) (e21 : E 21 = v) (e14 : E 14 = .slice (some ⟨q14, 0, none⟩) N N) (e13 : E 13 = .int .i64 (R : Int)) (e24 : E 24 = .int .i64 0)
   {Z : KO} (hZ : ∀ (E' : Env) L', Sn H B0 ((q14, ⟨rowF N fun j => f j + l.count j, true, 1, none⟩) :: ps) B L' → Kp E E' [3, 9, 10, 11, 14, 17, 19, 20] → E' 13 = .int .i64 ((R + l.length : Nat) : Int) → Z .norm E' [] (B.plus L')) :
   loopW (lb 11) E [] (B.plus L) (leaveW 11 Z) := by
 refine jv3 (c := ?_) (P := fun b => loopW b E [] (B.plus L) (leaveW 11 Z)) ?h ?_
 case h =>
   simp +decide only [zf6.o, ↓GI.o, lp_o, jf9, jg0, jg1, reduceIte]
   exact rfl
 refine ja6 (I := fun m E' ds G => ds = [] ∧ ∃ i L', i + m = l.length ∧ G = B.plus L' ∧ Sn H B0 ((q14, ⟨rowF N fun j => f j + (l.take i).count j, true, 1, none⟩) :: ps) B L' ∧ LRow L' 1 v l.length (natsV l) ∧ Kp E E' [3, 9, 10, 11, 14, 17, 19, 20, 21] ∧ E' 13 = .int .i64 ((R + i : Nat) : Int) ∧ E' 24 = .int .i64 ((i : Nat) : Int)) (i := l.length) ?_ ⟨rfl, 0, L, Nat.zero_add _, rfl, st, r, Kp.refl _ _, e13, e24⟩
 clear st e13 e24 r L
 rintro L' m E' _ _ ⟨rfl, i, L, him, rfl, st, r, kp, e13, e24⟩ hL
 replace e21 := (kp.at 21 rfl).trans e21
 replace e14 := (kp.at 14 rfl).trans e14
 obtain ⟨k3, k9, k10, k11, k14, k17, k19, k20, k21, _⟩ := kp
 change exU PP prC Tryz.f6 (.seq _ _) none E' [] _ _
 by_cases hi : i < l.length
 · obtain ⟨q, rfl, r1, r2, r3⟩ : ∃ q, v = .slice (some ⟨q, 0, none⟩) l.length l.length ∧ L.lookup q = some ⟨natsV l, true, 1, none⟩ ∧ (natsV l).length = l.length * 1 ∧ natsV l ≠ [] := by
     rcases r with ⟨_, h, _⟩ | h
     · omega
     · exact h
   have hq : q ≠ q14 := fun e => hb (by rw [e]; rfl)
   have i1 := je4 ixI hi q 0 l.length .i64
   rw [Nat.zero_add, Nat.mul_one] at i1
   have hlt : l[i] < N := hl _ (List.getElem_mem hi)
   have hct := jk4 hi
   have hcl := jv4 l i
   have n1 := jv5 hi
   have w24 : IntKind.i64.wrap ((i : Int) + 1) = ((i + 1 : Nat) : Int) := ja1 (by omega)
   have w13 : IntKind.i64.wrap (((R + i : Nat) : Int) + 1) = ((R + (i + 1) : Nat) : Int) := ja1 (by omega)
   generalize hf : (fun j => f j + (l.take i).count j) = g at *
   have hgb : ∀ j, g j < 2 ^ 62 := fun j => by have := hfb j; have := hcl j; rw [← hf]; show f j + _ < _; omega
   have h14 := st.hd
   obtain ⟨j1, j2, j3, j4, j5⟩ := rowInc hlt g (hgb _) q14
   have g1 : decide ((l[i] : Int) < 0) = false := decide_eq_false (by omega)
   have g2 : decide ((l[i] : Int) ≥ (N : Int)) = false := decide_eq_false (by omega)
   have fin : Sn H B0 ((q14, ⟨rowF N fun j => f j + (l.take (i + 1)).count j, true, 1, none⟩) :: ps) B (upL q14 ⟨rowF N fun k => g k + if k = l[i] then 1 else 0, true, 1, none⟩ L) := (st.up nps _).congr fun j => by rw [← hf, hct]; show f j + _ + _ = _; omega
   simp +decide only [zf6.o, ↓GI.o, reduceIte, e21, e14, e13, e24, lens, hi, decide_true, i1, r1, n1, g1, g2, h14, j1, j2, j3, j4, j5, w13, w24]
   refine hL (m - 1) _ _ _ (by omega) ⟨rfl, i + 1, _, by omega, rfl, fin, .inr ⟨q, rfl, by rw [ja3, if_neg hq]; exact r1, r2, r3⟩, ⟨?_, ?_, ?_, ?_, ?_, ?_, ?_, ?_, ?_, trivial⟩, ?_, ?_⟩ <;> simp +decide only [↓G.o, reduceIte, k3, k9, k10, k11, k14, k17, k19, k20, k21]
 · obtain rfl : i = l.length := by omega
   rw [List.take_length] at *
   obtain ⟨_, a, rfl⟩ := r.sc
   simp +decide only [zf6.o, ↓GI.o, reduceIte, e21, e24, lens, Nat.lt_irrefl, decide_false]
   refine hZ _ _ st ⟨?_, ?_, ?_, ?_, ?_, ?_, ?_, ?_, trivial⟩ ?_ <;> simp +decide only [↓G.o, reduceIte, k3, k9, k10, k11, k14, k17, k19, k20, e13]
theorem loop13 {q3 q17 M n : Nat} {T : List Value} {ia : Option Addr} {im : Nat} {f : Nat → Nat} (hp : l.Pairwise (· < ·)) (hl : ∀ j ∈ l, n < j ∧ j < M) (c4 : T[4]? = some (.slice ia M im)) (nps : NoK q17 ((q3, ⟨T, true, 1, none⟩) :: ps)) (hfb : ∀ j, f j + l.length ≤ 2 ^ 30)
   {E : Env} {B : Heap} {L : List (Nat × Blk)} {v : Value} (st : Sn H B0 ((q17, ⟨rowF M f, true, 1, none⟩) :: (q3, ⟨T, true, 1, none⟩) :: ps) B L) (r : LRow L 1 v l.length (natsV l)) (hb : blkOf v ≠ some q17) (e25 : E 25 = v) (e17 : E 17 = .slice (some ⟨q17, 0, none⟩) M M) (e3 : E 3 = pt q3) (e19 : E 19 = .int .i64 (n : Int)) (e26 : E 26 = .int .i64 0)
   {Z : KO} (hZ : ∀ (E' : Env) L', Sn H B0 ((q17, ⟨rowF M fun j => f j + l.count j, true, 1, none⟩) :: (q3, ⟨T, true, 1, none⟩) :: ps) B L' → Kp E E' [3, 9, 10, 11, 13, 14, 17, 19] → Z .norm E' [] (B.plus L')) :
   loopW (lb 13) E [] (B.plus L) (leaveW 13 Z) := by
 refine jv3 (c := ?_) (P := fun b => loopW b E [] (B.plus L) (leaveW 13 Z)) ?h ?_
 case h =>
   simp +decide only [zf6.o, ↓GI.o, lp_o, jf9, jg0, jg1, reduceIte]
   exact rfl
 refine ja6 (I := fun m E' ds G => ds = [] ∧ ∃ i L', i + m = l.length ∧ G = B.plus L' ∧ Sn H B0 ((q17, ⟨rowF M fun j => f j + (l.take i).count j, true, 1, none⟩) :: (q3, ⟨T, true, 1, none⟩) :: ps) B L' ∧ LRow L' 1 v l.length (natsV l) ∧ Kp E E' [3, 9, 10, 11, 13, 14, 17, 19, 25] ∧ E' 26 = .int .i64 ((i : Nat) : Int)) (i := l.length) ?_ ⟨rfl, 0, L, Nat.zero_add _, rfl, st, r, Kp.refl _ _, e26⟩
 clear st e26 r L
 rintro L' m E' _ _ ⟨rfl, i, L, him, rfl, st, r, kp, e26⟩ hL
 replace e25 := (kp.at 25 rfl).trans e25
 replace e17 := (kp.at 17 rfl).trans e17
 replace e3 := (kp.at 3 rfl).trans e3
 replace e19 := (kp.at 19 rfl).trans e19
 obtain ⟨k3, k9, k10, k11, k13, k14, k17, k19, k25, _⟩ := kp
 have l3 := st.tl.hd
 change exU PP prC Tryz.f6 (.seq _ _) none E' [] _ _
 by_cases hi : i < l.length
 · obtain ⟨q, rfl, r1, r2, r3⟩ : ∃ q, v = .slice (some ⟨q, 0, none⟩) l.length l.length ∧ L.lookup q = some ⟨natsV l, true, 1, none⟩ ∧ (natsV l).length = l.length * 1 ∧ natsV l ≠ [] := by
     rcases r with ⟨_, h, _⟩ | h
     · omega
     · exact h
   have hq : q ≠ q17 := fun e => hb (by rw [e]; rfl)
   have i1 := je4 ixI hi q 0 l.length .i64
   rw [Nat.zero_add, Nat.mul_one] at i1
   have hlt := hl _ (List.getElem_mem hi)
   have hct := jk4 hi
   have hcl := jv4 l i
   have n1 := jv5 hi
   have hlen : l.length ≤ 2 ^ 30 := by have := hfb 0; omega
   have w26 : IntKind.i64.wrap ((i : Int) + 1) = ((i + 1 : Nat) : Int) := ja1 (by omega)
   generalize hf : (fun j => f j + (l.take i).count j) = g at *
   have hgb : ∀ j, g j < 2 ^ 62 := fun j => by have := hfb j; have := hcl j; rw [← hf]; show f j + _ < _; omega
   have h17 := st.hd
   obtain ⟨j1, j2, j3, j4, j5⟩ := rowInc hlt.2 g (hgb _) q17
   have g1 : decide ((l[i] : Int) ≤ (n : Int)) = false := decide_eq_false (by omega)
   have g2 : decide ((l[i] : Int) ≥ (M : Int)) = false := decide_eq_false (by omega)
   have fin : Sn H B0 ((q17, ⟨rowF M fun j => f j + (l.take (i + 1)).count j, true, 1, none⟩) :: (q3, ⟨T, true, 1, none⟩) :: ps) B (upL q17 ⟨rowF M fun k => g k + if k = l[i] then 1 else 0, true, 1, none⟩ L) := (st.up nps _).congr fun j => by rw [← hf, hct]; show f j + _ + _ = _; omega
   have hpw : ∀ j (h : j < i), l[j] < l[i] := fun j h => yn8 hp h hi
   cases i with
   | zero =>
     have g3 : decide ((((0 : Nat) : Nat) : Int) > 0) = false := rfl
     simp +decide only [zf6.o, ↓GI.o, reduceIte, e25, e17, e3, e19, e26, l3, c4, lens, hi, decide_true, i1, r1, n1, g1, g2, h17, j1, j2, j3, j4, j5, w26, show prC 67 = [] from rfl]
     refine hL (m - 1) _ _ _ (by omega) ⟨rfl, 0 + 1, _, by omega, rfl, fin, .inr ⟨q, rfl, by rw [ja3, if_neg hq]; exact r1, r2, r3⟩, ⟨?_, ?_, ?_, ?_, ?_, ?_, ?_, ?_, ?_, trivial⟩, ?_⟩ <;> simp +decide only [↓G.o, reduceIte, k3, k9, k10, k11, k13, k14, k17, k19, k25]
   | succ i' =>
     have g3 : decide (((i' + 1 : Nat) : Int) > 0) = true := decide_eq_true (by omega)
     have w27 : IntKind.i64.wrap (((i' + 1 : Nat) : Int) - 1) = (i' : Int) := by rw [ja8 (by omega) (by omega)]; omega
     have i2 := je4 ixI (show i' < l.length by omega) q 0 l.length .i64
     rw [Nat.zero_add, Nat.mul_one] at i2
     have n2 := jv5 (show i' < l.length by omega)
     have g4 : decide ((l[i' + 1] : Int) ≤ (l[i'] : Int)) = false := decide_eq_false (by have := hpw i' (Nat.lt_succ_self _); omega)
     simp +decide only [zf6.o, ↓GI.o, reduceIte, e25, e17, e3, e19, e26, l3, c4, lens, hi, decide_true, i1, r1, n1, g1, g2, g3, g4, w27, i2, n2, h17, j1, j2, j3, j4, j5, w26, show prC 67 = [] from rfl]
     refine hL (m - 1) _ _ _ (by omega) ⟨rfl, i' + 1 + 1, _, by omega, rfl, fin, .inr ⟨q, rfl, by rw [ja3, if_neg hq]; exact r1, r2, r3⟩, ⟨?_, ?_, ?_, ?_, ?_, ?_, ?_, ?_, ?_, trivial⟩, ?_⟩ <;> simp +decide only [↓G.o, reduceIte, k3, k9, k10, k11, k13, k14, k17, k19, k25]
 · obtain rfl : i = l.length := by omega
   rw [List.take_length] at *
   obtain ⟨_, a, rfl⟩ := r.sc
   simp +decide only [zf6.o, ↓GI.o, reduceIte, e25, e26, lens, Nat.lt_irrefl, decide_false]
   refine hZ _ _ st ⟨?_, ?_, ?_, ?_, ?_, ?_, ?_, ?_, trivial⟩ <;> simp +decide only [↓G.o, reduceIte, k3, k9, k10, k11, k13, k14, k17, k19]
end Go.Am
namespace Go.Am
variable {H : Heap} {cells : List Value}
set_option maxRecDepth 100000
theorem yn9 (o1 o2 : Operand) (a : ByteArray) : binA PP .neq 9 o1 o2 (.string a) (.string ⟨#[]⟩) = some (.bool (decide (a ≠ .empty))) := by
 obtain ⟨⟨a⟩⟩ := a
 unfold binA
 rw [if_pos (by simp [ground, atomic])]
 simp only [eqGuard, binOp, jl4, Op.stringOp]
 simp [jl5]
 rw [Bool.eq_iff_iff]
 cases a <;> simp [ByteArray.empty, ByteArray.emptyWithCapacity] <;> first | rfl | (intro h; cases h)
theorem yo0 : ∀ (l : List Rf) (k : Nat) (h : k < l.length), ((l.flatMap Rf.dv).drop (k * 3)).take 3 = l[k].dv
 | [], k, h => by cases h
 | y :: l, 0, h => rfl
 | y :: l, k + 1, h => by
   simp only [List.flatMap_cons, List.getElem_cons_succ]
   rw [show (k + 1) * 3 = y.dv.length + k * 3 by show _ = 3 + _; omega, List.drop_length_add_append]
   exact yo0 l k (by simpa using h)
theorem j7p {x : Rf} {cs : List Value} (h : Vds H x.dv cs) : ∃ vi, Vd H (rowD x.index) vi ∧ cs = [.string x.word, .int .i64 (x.at_ : Int), vi] := by
 obtain ⟨v1, r1, rfl, a1, h⟩ := h.cons_inv
 obtain ⟨v2, r2, rfl, a2, h⟩ := h.cons_inv
 obtain ⟨v3, r3, rfl, a3, h⟩ := h.cons_inv
 rw [h.nil_inv, a1.p_inv, a2.p_inv]
 exact ⟨v3, a3, rfl⟩
theorem jv6 {a : List Value} {o n : Nat} (h : (cells.drop o).take n = a) {i : Nat} {v : Value} (hv : a[i]? = some v) : cells[o + i]? = some v := by
 have h2 : ((cells.drop o).take n)[i]? = some v := by rw [h]; exact hv
 rw [List.getElem?_take] at h2
 split at h2
 · rwa [List.getElem?_drop] at h2
 · cases h2
theorem yo1 {l : List Rf} (h : Vds H (l.flatMap Rf.dv) cells) {i : Nat} (hi : i < l.length) : ∃ vi, Vd H (rowD l[i].index) vi ∧ cells[i * 3]? = some (.string l[i].word) ∧ cells[i * 3 + 2]? = some vi := by
 have h2 := (h.drop (i * 3)).take 3
 rw [yo0 l i hi] at h2
 obtain ⟨vi, h3, h4⟩ := j7p h2
 exact ⟨vi, h3, jv6 (i := 0) h4 rfl, jv6 (i := 2) h4 rfl⟩
theorem j7q (c : Int → Bool) (l : List Rf) {i : Nat} (h : i < l.length) : wFs c (l.take (i + 1)) = wFs c (l.take i) + wF c l[i] := by
 rw [List.take_succ_eq_append_getElem h, j4z]
 congr 1
theorem yt3 (c : Int → Bool) (f : Rf) : wF c f ≤ 1 := by
 unfold wF
 split
 · omega
 · cases c 1 <;> decide
theorem j8z (c : Int → Bool) : ∀ l : List Rf, wFs c l ≤ l.length
 | [] => Nat.le_refl _
 | x :: l => by
   have h1 := yt3 c x
   have h2 := j8z c l
   have e : wFs c (x :: l) = wF c x + wFs c l := by simp [wFs]
   rw [e, List.length_cons]; omega
theorem yc2 {β : Type} (l : List Rf) (g : Rf → List β) {i : Nat} (h : i < l.length) : (l.take (i + 1)).flatMap g = (l.take i).flatMap g ++ g l[i] := by
 rw [List.take_succ_eq_append_getElem h, List.flatMap_append]
 congr 1
 exact List.append_nil _
theorem yt4 {β : Type} (l : List Rf) (g : Rf → List β) (i : Nat) : ((l.take i).flatMap g).length ≤ (l.flatMap g).length := by
 have h : l.flatMap g = (l.take i).flatMap g ++ (l.drop i).flatMap g := by rw [← List.flatMap_append, List.take_append_drop]
 rw [h, List.length_append]; omega
theorem ixRf : ixT PP 38 = some (none, 3) := by decide +kernel
theorem loop9 {B0 : Heap} {q22 : Nat} {ps : List (Nat × Blk)} {refs : List Rf} (hv : Vds B0 (refs.flatMap Rf.dv) cells) (nlen : refs.length ≤ 2 ^ 21) {l0 : List Nat} (hlen : l0.length + (refs.flatMap Rf.index).length ≤ 2 ^ 22) {K10 : Int} (b10 : -(2 ^ 40) ≤ K10 ∧ K10 ≤ 2 ^ 40)
   {E : Env} {B : Heap} {L : List (Nat × Blk)} {v : Value} (st : Sn H B0 ((q22, ⟨cells, true, 3, none⟩) :: ps) B L) (r : LRow L 1 v l0.length (natsV l0)) (hb : ∀ p ∈ (q22, (⟨cells, true, 3, none⟩ : Blk)) :: ps, blkOf v ≠ some p.1) (e21 : E 21 = v) (e22 : E 22 = .slice (some ⟨q22, 0, none⟩) refs.length refs.length) (e10 : E 10 = .int .i64 K10) (e23 : E 23 = .int .i64 0)
   {Z : KO} (hZ : ∀ (E' : Env) B' L' v', Sn H B0 ((q22, ⟨cells, true, 3, none⟩) :: ps) B' L' → LRow L' 1 v' (l0 ++ refs.flatMap Rf.index).length (natsV (l0 ++ refs.flatMap Rf.index)) → (∀ p ∈ (q22, (⟨cells, true, 3, none⟩ : Blk)) :: ps, blkOf v' ≠ some p.1) → Kp E E' [3, 9, 11, 13, 14, 17, 19, 20] → E' 10 = .int .i64 (K10 - wFs isNam refs) → E' 21 = v' → Z .norm E' [] (B'.plus L')) :
   loopW (lb 9) E [] (B.plus L) (leaveW 9 Z) := by
 refine jv3 (c := ?_) (P := fun b => loopW b E [] (B.plus L) (leaveW 9 Z)) ?h ?_
 case h =>
   simp +decide only [zf6.o, ↓GI.o, lp_o, jf9, jg0, jg1, reduceIte]
   exact rfl
 refine ja6 (I := fun m E' ds G => ds = [] ∧ ∃ i B' L' v', i + m = refs.length ∧ G = B'.plus L' ∧ Sn H B0 ((q22, ⟨cells, true, 3, none⟩) :: ps) B' L' ∧ LRow L' 1 v' (l0 ++ (refs.take i).flatMap Rf.index).length (natsV (l0 ++ (refs.take i).flatMap Rf.index)) ∧ (∀ p ∈ (q22, (⟨cells, true, 3, none⟩ : Blk)) :: ps, blkOf v' ≠ some p.1) ∧ Kp E E' [3, 9, 11, 13, 14, 17, 19, 20, 22] ∧ E' 10 = .int .i64 (K10 - wFs isNam (refs.take i)) ∧ E' 21 = v' ∧ E' 23 = .int .i64 ((i : Nat) : Int)) (i := refs.length) ?_ ⟨rfl, 0, B, L, v, Nat.zero_add _, rfl, st, by simpa using r, hb, Kp.refl _ _, by rw [e10]; simp [wFs], e21, e23⟩
 clear st e10 e23 e21 r hb L v B
 rintro L' m E' _ _ ⟨rfl, i, B, L, v, him, rfl, st, r, hb, kp, e10, e21, e23⟩ hL
 replace e22 := (kp.at 22 rfl).trans e22
 obtain ⟨k3, k9, k11, k13, k14, k17, k19, k20, k22, _⟩ := kp
 have l22 := st.hd
 change exU PP prC Tryz.f6 (.seq _ _) none E' [] _ _
 by_cases hi : i < refs.length
 · obtain ⟨vi, h1, h2, h3⟩ := yo1 hv hi
   have i1 := je4 ixRf hi q22 0 refs.length .i64
   rw [Nat.zero_add] at i1
   have w23 : IntKind.i64.wrap ((i : Int) + 1) = ((i + 1 : Nat) : Int) := ja1 (by omega)
   have hw := j7q isNam refs hi
   have hwl := j8z isNam (refs.take i)
   rw [List.length_take] at hwl
   have hfm := yc2 refs Rf.index hi
   have hfl := yt4 refs Rf.index (i + 1)
   rw [hfm, List.length_append] at hfl
   obtain ⟨v', B', L2, a1, a2, a3, a4⟩ := st.app r hb (h1.mono st.fb.keep) (by rw [List.length_append]; omega)
   rw [List.append_assoc, ← hfm] at a3
   by_cases he : refs[i].word = .empty
   · have g1 : decide (refs[i].word ≠ .empty) = false := by simp [he]
     have hz : wF isNam refs[i] = 0 := if_pos he
     simp +decide only [zf6.o, ↓GI.o, reduceIte, e21, e22, e23, lens, hi, decide_true, i1, l22, h2, h3, yn9, Nat.add_zero, g1, a1, w23]
     refine hL (m - 1) _ _ _ (by omega) ⟨rfl, i + 1, _, _, _, by omega, rfl, a2, a3, a4, ⟨?_, ?_, ?_, ?_, ?_, ?_, ?_, ?_, ?_, trivial⟩, ?_, ?_, ?_⟩ <;> simp +decide only [↓G.o, reduceIte, k3, k9, k11, k13, k14, k17, k19, k20, k22, e10, hw, hz, Nat.add_zero]
   · have g1 : decide (refs[i].word ≠ .empty) = true := by simp [he]
     have hz : wF isNam refs[i] = 1 := if_neg he
     have w10 : IntKind.i64.wrap (K10 - (wFs isNam (refs.take i) : Int) - 1) = K10 - (wFs isNam (refs.take (i + 1)) : Int) := by
       rw [hw, hz, ja8 (by omega) (by omega)]; omega
     simp +decide only [zf6.o, ↓GI.o, reduceIte, e21, e22, e10, e23, lens, hi, decide_true, i1, l22, h2, h3, yn9, Nat.add_zero, g1, a1, w23, w10]
     refine hL (m - 1) _ _ _ (by omega) ⟨rfl, i + 1, _, _, _, by omega, rfl, a2, a3, a4, ⟨?_, ?_, ?_, ?_, ?_, ?_, ?_, ?_, ?_, trivial⟩, ?_, ?_, ?_⟩ <;> simp +decide only [↓G.o, reduceIte, k3, k9, k11, k13, k14, k17, k19, k20, k22, hw, hz]
 · obtain rfl : i = refs.length := by omega
   rw [List.take_length] at *
   simp +decide only [zf6.o, ↓GI.o, reduceIte, e22, e23, lens, Nat.lt_irrefl, decide_false]
   refine hZ _ _ _ _ st r hb ⟨?_, ?_, ?_, ?_, ?_, ?_, ?_, ?_, trivial⟩ ?_ ?_ <;> simp +decide only [↓G.o, reduceIte, k3, k9, k11, k13, k14, k17, k19, k20, e10, e21]
end Go.Am
namespace Go.Am
variable {H B0 : Heap}
set_option maxRecDepth 100000
theorem yc3 {H' : Heap} (k : ∀ q cells es, H.get q = some ⟨cells, false, es, none⟩ → H'.get q = some ⟨cells, false, es, none⟩) {es : Nat} {l : List DV} {v : Value} (h : Vd H (.r es l) v) : ∃ a n m cells, v = .slice a n m ∧ l.length = n * es ∧ srcCells H' es v = some (n, cells) ∧ Vds H l cells := by
 cases h with
 | z => exact ⟨none, 0, 0, [], rfl, by simp, rfl, .nil _⟩
 | @r _ q o n c l cells hq hn hl hc he =>
   refine ⟨_, n, c, (cells.drop o).take (n * es), rfl, hl, ?_, ?_, fun i h1 h2 => ?_⟩
   · simp only [srcCells, look, k _ _ _ hq]
     rw [if_pos (by rw [← hl]; exact hc)]
   · simp; omega
   · have := he i h1 (by omega)
     simpa using this
theorem j10 {x : It} {cs : List Value} (h : Vds H x.dv cs) : ∃ a1 n1 m1 a2 n2 m2 a3 n3 m3 a4 n4 m4 ap np mp ae ne me ak nk mk al nl ml,
   Vd H (rowD x.name.index) (.slice a1 n1 m1) ∧ Vd H (rowD x.from_.index) (.slice a2 n2 m2) ∧ Vd H (rowD x.to_.index) (.slice a3 n3 m3) ∧ Vd H (rowD x.over_.index) (.slice a4 n4 m4) ∧ Vd H (.r 3 (x.params.flatMap Rf.dv)) (.slice ap np mp) ∧ Vd H (rowD x.e) (.slice ae ne me) ∧ Vd H (rowD x.kids) (.slice ak nk mk) ∧ Vd H (rowD x.els) (.slice al nl ml) ∧
   cs = [.int .i64 x.kind, .int .i64 (x.pos : Int), .string x.name.word, .int .i64 (x.name.at_ : Int), .slice a1 n1 m1, .string x.from_.word, .int .i64 (x.from_.at_ : Int), .slice a2 n2 m2, .string x.to_.word, .int .i64 (x.to_.at_ : Int), .slice a3 n3 m3, .string x.over_.word, .int .i64 (x.over_.at_ : Int), .slice a4 n4 m4, .slice ap np mp, .slice ae ne me, .int .i64 x.flags, .int .i64 x.how, .string x.text, .slice ak nk mk, .slice al nl ml] := by
 obtain ⟨v1, r1, rfl, b1, h⟩ := h.cons_inv
 obtain ⟨v2, r2, rfl, b2, h⟩ := h.cons_inv
 obtain ⟨v3, r3, rfl, b3, h⟩ := h.cons_inv
 obtain ⟨v4, r4, rfl, b4, h⟩ := h.cons_inv
 obtain ⟨v5, r5, rfl, b5, h⟩ := h.cons_inv
 obtain ⟨v6, r6, rfl, b6, h⟩ := h.cons_inv
 obtain ⟨v7, r7, rfl, b7, h⟩ := h.cons_inv
 obtain ⟨v8, r8, rfl, b8, h⟩ := h.cons_inv
 obtain ⟨v9, r9, rfl, b9, h⟩ := h.cons_inv
 obtain ⟨v10, r10, rfl, b10, h⟩ := h.cons_inv
 obtain ⟨v11, r11, rfl, b11, h⟩ := h.cons_inv
 obtain ⟨v12, r12, rfl, b12, h⟩ := h.cons_inv
 obtain ⟨v13, r13, rfl, b13, h⟩ := h.cons_inv
 obtain ⟨v14, r14, rfl, b14, h⟩ := h.cons_inv
 obtain ⟨v15, r15, rfl, b15, h⟩ := h.cons_inv
 obtain ⟨v16, r16, rfl, b16, h⟩ := h.cons_inv
 obtain ⟨v17, r17, rfl, b17, h⟩ := h.cons_inv
 obtain ⟨v18, r18, rfl, b18, h⟩ := h.cons_inv
 obtain ⟨v19, r19, rfl, b19, h⟩ := h.cons_inv
 obtain ⟨v20, r20, rfl, b20, h⟩ := h.cons_inv
 obtain ⟨v21, r21, rfl, b21, h⟩ := h.cons_inv
 rw [h.nil_inv, b1.p_inv, b2.p_inv, b3.p_inv, b4.p_inv, b6.p_inv, b7.p_inv, b9.p_inv, b10.p_inv, b12.p_inv, b13.p_inv, b17.p_inv, b18.p_inv, b19.p_inv]
 obtain ⟨a1, n1, m1, _, rfl, _⟩ := je1 b5
 obtain ⟨a2, n2, m2, _, rfl, _⟩ := je1 b8
 obtain ⟨a3, n3, m3, _, rfl, _⟩ := je1 b11
 obtain ⟨a4, n4, m4, _, rfl, _⟩ := je1 b14
 obtain ⟨ap, np, mp, _, rfl, _⟩ := je1 b15
 obtain ⟨ae, ne, me, _, rfl, _⟩ := je1 b16
 obtain ⟨ak, nk, mk, _, rfl, _⟩ := je1 b20
 obtain ⟨al, nl, ml, _, rfl, _⟩ := je1 b21
 exact ⟨a1, n1, m1, a2, n2, m2, a3, n3, m3, a4, n4, m4, ap, np, mp, ae, ne, me, ak, nk, mk, al, nl, ml, b5, b8, b11, b14, b15, b16, b20, b21, rfl⟩
theorem yo2 (H : Heap) (w1 w2 w3 w4 : ByteArray) (i1 i2 i3 i4 : Int) (a1 a2 a3 a4 : Option Addr) (n1 n2 n3 n4 m1 m2 m3 m4 : Nat) : buildSliceA PP 38 4 #[(0, .agg #[.string w1, .int .i64 i1, .slice a1 n1 m1]), (1, .agg #[.string w2, .int .i64 i2, .slice a2 n2 m2]), (2, .agg #[.string w3, .int .i64 i3, .slice a3 n3 m3]), (3, .agg #[.string w4, .int .i64 i4, .slice a4 n4 m4])] H = some (.slice (some ⟨H.next, 0, none⟩) 4 4, H.alloc 3 [.string w1, .int .i64 i1, .slice a1 n1 m1, .string w2, .int .i64 i2, .slice a2 n2 m2, .string w3, .int .i64 i3, .slice a3 n3 m3, .string w4, .int .i64 i4, .slice a4 n4 m4]) := by kernel_rfl
theorem Sn.app3 {B : Heap} {ps L : List (Nat × Blk)} (s : Sn H B0 ps B L) {v x : Value} {n k : Nat} {cells news : List Value} (r : LRow L 3 v n cells) (h0 : 0 < n) (hv : ∀ p ∈ ps, blkOf v ≠ some p.1) (hs : srcCells (B.plus L) 3 x = some (k, news)) (hl : news.length = k * 3) (hc : news.all Value.oneCell' = true) (hn : n + k ≤ 2 ^ 22) :
   ∃ q B' L', appendA PP #[38, 38] v x (B.plus L) = some (.slice (some ⟨q, 0, none⟩) (n + k) (n + k), B'.plus L') ∧ Sn H B0 ((q, ⟨cells ++ news, true, 3, none⟩) :: ps) B' L' ∧ NoK q ps := by
 obtain ⟨v', n', L', h1, h2, h3, h4, h5, h6⟩ := j49 s.fr (bytes := 48) r (by decide) hl hc (by decide) hn
 rcases h4 with ⟨_, h, _⟩ | ⟨q, rfl, g1, g2, g3⟩
 · omega
 have st : Sn H B0 ps (B.to n') L' := ⟨s.fb.trans (.to s.fb.fresh h2), h3, fun p hp => by
   have := s.lk p hp
   exact ⟨(h6 p.1 (hv p hp) this.2).trans this.1, Nat.lt_of_lt_of_le this.2 h2⟩⟩
 refine ⟨q, B.to n', L', ?_, st.add g1, fun p hp e => ?_⟩
 · rw [← h1]
   exact js4 Tryz.underlying38 infoRf zrR rfl (by decide) hs v
 · have h7 : blkOf (.slice (some ⟨q, 0, none⟩) (n + k) (n + k)) = some p.1 := by rw [e]; rfl
   rcases h5 with h5 | h5
   · rw [h5] at h7; exact hv p hp h7
   · rw [h5] at h7
     have h8 := (s.lk p hp).2
     have h9 := Option.some.inj h7
     omega
def DV.one : DV → Bool
 | .p v => v.oneCell'
 | .r _ _ => true
theorem Vds.one : ∀ {l : List DV} {cs : List Value}, Vds H l cs → l.all DV.one = true → cs.all Value.oneCell' = true
 | [], cs, h, _ => by rw [h.nil_inv]; rfl
 | d :: l, cs, h, hd => by
   obtain ⟨v, r, e, h1, h2⟩ := h.cons_inv
   simp only [List.all_cons, Bool.and_eq_true] at hd
   rw [e, List.all_cons, h2.one hd.2, Bool.and_true]
   cases h1 with
   | p v => exact hd.1
   | z => rfl
   | r => rfl
theorem j80 : ∀ l : List Rf, (l.flatMap Rf.dv).length = l.length * 3
 | [] => rfl
 | x :: l => by rw [List.flatMap_cons, List.length_append, j80 l, List.length_cons]; show 3 + _ = _; omega
theorem j81 : ∀ l : List Rf, (l.flatMap Rf.dv).all DV.one = true
 | [] => rfl
 | x :: l => by rw [List.flatMap_cons, List.all_append, j81 l]; rfl
theorem Sn.hold {B : Heap} {ps L : List (Nat × Blk)} (s : Sn H B0 ps B L) {es n : Nat} {v : Value} {cells : List Value} (r : LRow L es v n cells) : ∃ p21 : List (Nat × Blk), Sn H B0 (p21 ++ ps) B L ∧ (∀ {B' : Heap} {L' ps' : List (Nat × Blk)}, Sn H B0 ps' B' L' → (∀ p ∈ p21, p ∈ ps') → LRow L' es v n cells) ∧ (blkOf v = none ∨ ∃ p ∈ p21, blkOf v = some p.1) := by
 rcases r with ⟨rfl, rfl, rfl⟩ | ⟨q, rfl, h1, h2, h3⟩
 · exact ⟨[], s, fun _ _ => .inl ⟨rfl, rfl, rfl⟩, .inl rfl⟩
 · exact ⟨[(q, ⟨cells, true, es, none⟩)], s.add h1, fun s' hs => .inr ⟨q, rfl, (s'.lk _ (hs _ (List.mem_cons_self ..))).1, h2, h3⟩, .inr ⟨_, List.mem_cons_self .., rfl⟩⟩
theorem jv7 {n : Nat} {c : Code} {E : Env} {ds : List Deferred} {G : Heap} {K : KO} (h : lpX (lpO n (skX Tryz.f6)) = c) (hp : loopW (lb n) E ds G K) : loopW (fun E ds H k => exU PP prC Tryz.f6 c none E ds H k) E ds G K := by
 subst h; exact hp
theorem j5b : ∀ {l : List It} {a b : Nat}, posL l a b → ∀ i (h : i + 1 < l.length), l[i].pos < l[i + 1].pos
 | x :: y :: l, a, b, h, 0, _ => by have := h.2.1; show x.pos < y.pos; omega
 | x :: y :: l, a, b, h, i + 1, hi => j5b h.2 i (by simpa using hi)
theorem jf6 (l : List It) {i : Nat} (h : i < l.length) : rowsIs (l.take (i + 1)) = rowsIs (l.take i) ++ rowsI l[i] := by
 rw [List.take_succ_eq_append_getElem h, je9]
 congr 1
 exact List.append_nil _
theorem jp6 (l : List It) {i : Nat} (h : i < l.length) : kidsIs (l.take (i + 1)) = kidsIs (l.take i) ++ kidsI l[i] := by
 rw [List.take_succ_eq_append_getElem h, jg8]
 congr 1
 exact List.append_nil _
theorem j11 (c : Int → Bool) (l : List It) {i : Nat} (h : i < l.length) : wIs c (l.take (i + 1)) = wIs c (l.take i) + wI c l[i] := by
 rw [List.take_succ_eq_append_getElem h, ju8]
 congr 1
theorem jv8 {β : Type} (f : List It → List β) (hf : ∀ l l', f (l ++ l') = f l ++ f l') (l : List It) (i : Nat) : (f (l.take i)).length ≤ (f l).length := by
 have h : f l = f (l.take i) ++ f (l.drop i) := by rw [← hf, List.take_append_drop]
 rw [h, List.length_append]; omega
theorem j82 (c : Int → Bool) (l : List It) (i : Nat) : wIs c (l.take i) ≤ wIs c l := by
 have h : wIs c l = wIs c (l.take i) + wIs c (l.drop i) := by rw [← ju8, List.take_append_drop]
 omega
theorem yo3 {l : List Rf} (h : ∀ f ∈ l, f.word ≠ .empty) : wFs isNam l = l.length := by
 induction l with
 | nil => rfl
 | cons x l ih =>
   have e : wFs isNam (x :: l) = wF isNam x + wFs isNam l := by simp [wFs]
   rw [e, ih fun f hf => h f (List.mem_cons_of_mem _ hf), wF, if_neg (h x (List.mem_cons_self ..)), List.length_cons]
   show 1 + _ = _
   omega
def refsI (x : It) : List Rf := [x.name, x.from_, x.to_, x.over_] ++ x.params
theorem js6 (x : It) : x.e ++ (refsI x).flatMap Rf.index = rowsI x := by simp [refsI, rowsI]
theorem yc4 (c : Int → Bool) (x : It) : wFs c (refsI x) = wI c x := by simp [refsI, wFs, wI]
theorem loop7 {q3 q14 q17 N : Nat} {T : List Value} {its : List It} {ia : Option Addr} {im b : Nat} {f0 g0 : Nat → Nat} (ok : ∀ i (h : i < its.length), ItOk i its.length its[i]) (ps : posL its 0 b) (vi : Vd B0 (.r 21 (its.flatMap It.dv)) (.slice ia its.length im)) (c4 : T[4]? = some (.slice ia its.length im)) (ne1 : q14 ≠ q17) (ne2 : q14 ≠ q3) (ne3 : q17 ≠ q3) (rl : ∀ j ∈ rowsIs its, j < N) (hr : (rowsIs its).length ≤ 2 ^ 21) (hk : (kidsIs its).length ≤ 2 ^ 21) (hw : wIs isNam its ≤ 2 ^ 20 + 1) (hlen : its.length ≤ 2 ^ 21) (hf0 : ∀ j, f0 j ≤ 2 ^ 22) (hg0 : ∀ j, g0 j ≤ 2 ^ 22) {K10 : Int} (b10 : -(2 ^ 39) ≤ K10 ∧ K10 ≤ 2 ^ 39)
   {E : Env} {B : Heap} {L : List (Nat × Blk)} (st : Sn H B0 [(q14, ⟨rowF N f0, true, 1, none⟩), (q17, ⟨rowF its.length g0, true, 1, none⟩), (q3, ⟨T, true, 1, none⟩)] B L) (e3 : E 3 = pt q3) (e10 : E 10 = .int .i64 K10) (e13 : E 13 = .int .i64 0) (e14 : E 14 = .slice (some ⟨q14, 0, none⟩) N N) (e17 : E 17 = .slice (some ⟨q17, 0, none⟩) its.length its.length) (e19 : E 19 = .int .i64 0)
   {Z : KO} (hZ : ∀ (E' : Env) B' L', Sn H B0 [(q14, ⟨rowF N fun j => f0 j + (rowsIs its).count j, true, 1, none⟩), (q17, ⟨rowF its.length fun j => g0 j + (kidsIs its).count j, true, 1, none⟩), (q3, ⟨T, true, 1, none⟩)] B' L' → Kp E E' [3, 9, 11, 14, 17] → E' 10 = .int .i64 (K10 - wIs isNam its) → E' 13 = .int .i64 ((rowsIs its).length : Int) → Z .norm E' [] (B'.plus L')) :
   loopW (lb 7) E [] (B.plus L) (leaveW 7 Z) := by
 refine jv3 (c := ?_) (P := fun b => loopW b E [] (B.plus L) (leaveW 7 Z)) ?h ?_
 case h =>
   simp +decide only [zf6.o, ↓GI.o, lp_o, jf9, jg0, jg1, reduceIte]
   exact rfl
 refine ja6 (I := fun m E' ds G => ds = [] ∧ ∃ i B' L', i + m = its.length ∧ G = B'.plus L' ∧ Sn H B0 [(q14, ⟨rowF N fun j => f0 j + (rowsIs (its.take i)).count j, true, 1, none⟩), (q17, ⟨rowF its.length fun j => g0 j + (kidsIs (its.take i)).count j, true, 1, none⟩), (q3, ⟨T, true, 1, none⟩)] B' L' ∧ Kp E E' [3, 9, 11, 14, 17] ∧ E' 10 = .int .i64 (K10 - wIs isNam (its.take i)) ∧ E' 13 = .int .i64 ((rowsIs (its.take i)).length : Int) ∧ E' 19 = .int .i64 ((i : Nat) : Int)) (i := its.length) ?_ ⟨rfl, 0, B, L, Nat.zero_add _, rfl, st, Kp.refl _ _, by rw [e10]; simp [wIs], e13, e19⟩
 clear st e10 e13 e19 L B
 rintro L' m E' _ _ ⟨rfl, i, B, L, him, rfl, st, kp, e10, e13, e19⟩ hL
 have b3 := e3
 have b14 := e14
 have b17 := e17
 replace e3 := (kp.at 3 rfl).trans e3
 replace e14 := (kp.at 14 rfl).trans e14
 replace e17 := (kp.at 17 rfl).trans e17
 obtain ⟨k3, k9, k11, k14, k17, _⟩ := kp
 have l3 := st.tl.tl.hd
 change exU PP prC Tryz.f6 (.seq _ _) none E' [] _ _
 by_cases hi : i < its.length
 · obtain ⟨qn, on, nc, x1, x2, x3, x4⟩ := j7m vi (t := 25) ixIt (by decide) hi
   rw [j65 _ _ hi] at x4
   obtain ⟨a1, n1, m1, a2, n2, m2, a3, n3, m3, a4, n4, m4, ap, np, mp, ae, ne, me, ak, nk, mk, al, nl, ml, v1, v2, v3, v4, vp, ve, vk, vl, x5⟩ := j10 x4
   replace x2 := st.fb.keep _ _ _ x2
   obtain ⟨nn1, nn2, nn3⟩ := st.no x2
   have x5 : (nc.drop on).take (20 + 1) = _ := x5
   have hin : inL (on + 20) nc = true := (jc9 _ _).2 (by omega)
   have hxp : nc[on + 1]? = some (.int .i64 (its[i].pos : Int)) := jv6 x5 rfl
   generalize hcs : ([.int .i64 its[i].kind, .int .i64 (its[i].pos : Int), .string its[i].name.word, .int .i64 (its[i].name.at_ : Int), .slice a1 n1 m1, .string its[i].from_.word, .int .i64 (its[i].from_.at_ : Int), .slice a2 n2 m2, .string its[i].to_.word, .int .i64 (its[i].to_.at_ : Int), .slice a3 n3 m3, .string its[i].over_.word, .int .i64 (its[i].over_.at_ : Int), .slice a4 n4 m4, .slice ap np mp, .slice ae ne me, .int .i64 its[i].flags, .int .i64 its[i].how, .string its[i].text, .slice ak nk mk, .slice al nl ml] : List Value) = cs at *
   have s5 := st.new ⟨cs, true, 1, none⟩
   have sto := js5 (t := 40) (n := 21) (q := B.next) (cs := itC 0 0) (vs := cs) (H := (B.to (B.next + 1)).plus ((B.next, ⟨itC 0 0, true, 1, none⟩) :: L)) (by rw [ja2, ja5]; rfl) tyT.2.2 (by rw [← hcs]; rfl) rfl (by rw [← hcs]; rfl)
   have w19 : IntKind.i64.wrap ((i : Int) + 1) = ((i + 1 : Nat) : Int) := ja1 (by omega)
   simp +decide only [zf6.o, ↓GI.o, reduceIte, e3, e19, l3, c4, lens, hi, decide_true, x1, x2, nn1, hin, x5, tyT, je5 zrItem, sto, st.fr.up_no]
   have c1 : cs[1]? = some (.int .i64 (its[i].pos : Int)) := by rw [← hcs]; rfl
   have c14 : cs[14]? = some (.slice ap np mp) := by rw [← hcs]; rfl
   have c15 : cs[15]? = some (.slice ae ne me) := by rw [← hcs]; rfl
   have c19 : cs[19]? = some (.slice ak nk mk) := by rw [← hcs]; rfl
   have c20 : cs[20]? = some (.slice al nl ml) := by rw [← hcs]; rfl
   have t2 : (cs.drop 2).take (2 + 1) = [.string its[i].name.word, .int .i64 (its[i].name.at_ : Int), .slice a1 n1 m1] := by rw [← hcs]; rfl
   have t5 : (cs.drop 5).take (2 + 1) = [.string its[i].from_.word, .int .i64 (its[i].from_.at_ : Int), .slice a2 n2 m2] := by rw [← hcs]; rfl
   have t8 : (cs.drop 8).take (2 + 1) = [.string its[i].to_.word, .int .i64 (its[i].to_.at_ : Int), .slice a3 n3 m3] := by rw [← hcs]; rfl
   have t11 : (cs.drop 11).take (2 + 1) = [.string its[i].over_.word, .int .i64 (its[i].over_.at_ : Int), .slice a4 n4 m4] := by rw [← hcs]; rfl
   have in2 : inL (2 + 2) cs = true ∧ inL (5 + 2) cs = true ∧ inL (8 + 2) cs = true ∧ inL (11 + 2) cs = true := by rw [← hcs]; exact ⟨rfl, rfl, rfl, rfl⟩
   clear hcs hin x5 sto
   have l3' := s5.tl.tl.tl.hd
   have l20 := s5.hd
   have hb5 : ∀ {q y}, B.get q = some y → (B.to (B.next + 1)).get q = some y := fun h => h
   have nq := st.nok
   generalize hB5 : B.to (B.next + 1) = B5 at *
   generalize ((B.next, (⟨cs, true, 1, none⟩ : Blk)) :: L) = L5 at *
   generalize B.next = q20 at *
   refine joinO (Q := fun k => drU PP Tryz.f6 46 (prC 46) _ _ _ (thenU PP prC Tryz.f6 _ k)) (fun o E2 ds G => o = .norm ∧ ds = [] ∧ G = B5.plus L5 ∧ Kp E E2 [3, 9, 11, 14, 17] ∧ E2 10 = .int .i64 (K10 - wIs isNam (its.take i)) ∧ E2 13 = .int .i64 ((rowsIs (its.take i)).length : Int) ∧ E2 19 = .int .i64 ((i : Nat) : Int) ∧ E2 20 = pt q20) (fun Y hY => ?_) ?_
   · cases i with
     | zero =>
       have g1 : decide ((((0 : Nat) : Nat) : Int) > 0) = false := rfl
       simp +decide only [zf6.o, ↓GI.o, reduceIte, e19, show prC 46 = [] from rfl]
       refine hY _ _ _ _ ⟨rfl, rfl, rfl, ⟨?_, ?_, ?_, ?_, ?_, trivial⟩, ?_, ?_, ?_, ?_⟩ <;> simp +decide only [↓G.o, reduceIte, k3, k9, k11, k14, k17, e10, e13, e19]
     | succ i' =>
       have g1 : decide (((i' + 1 : Nat) : Int) > 0) = true := decide_eq_true (by omega)
       have w27 : IntKind.i64.wrap (((i' + 1 : Nat) : Int) - 1) = (i' : Int) := by rw [ja8 (by omega) (by omega)]; omega
       obtain ⟨qb, ob, cb, y1, y2, y3, y4⟩ := j7m vi (t := 25) ixIt (by decide) (show i' < its.length by omega)
       rw [j65 _ _ (show i' < its.length by omega)] at y4
       obtain ⟨_, _, _, _, _, _, _, _, _, _, _, _, _, _, _, _, _, _, _, _, _, _, _, _, _, _, _, _, _, _, _, _, y5⟩ := j10 y4
       have hyp : cb[ob + 1]? = some (.int .i64 (its[i'].pos : Int)) := jv6 y5 rfl
       replace y2 := s5.fb.keep _ _ _ y2
       obtain ⟨nb1, _⟩ := s5.no y2
       have g2 : decide ((its[i' + 1].pos : Int) ≤ (its[i'].pos : Int)) = false := decide_eq_false (by have := j5b ps i' hi; omega)
       simp +decide only [zf6.o, ↓GI.o, reduceIte, e3, e19, g1, g2, w27, l3', l20, c4, c1, y1, y2, nb1, hyp, show prC 46 = [] from rfl]
       refine hY _ _ _ _ ⟨rfl, rfl, rfl, ⟨?_, ?_, ?_, ?_, ?_, trivial⟩, ?_, ?_, ?_, ?_⟩ <;> simp +decide only [↓G.o, reduceIte, k3, k9, k11, k14, k17, e10, e13, e19]
   clear k3 k9 k11 k14 k17
   rintro o E2 _ _ ⟨rfl, rfl, rfl, ⟨k3, k9, k11, k14, k17, _⟩, f10, f13, f19, f20⟩
   obtain ⟨v21, B6, L6, p1, p2, p3, p4⟩ := s5.app (v := .slice none 0 0) (l := []) (.inl ⟨rfl, rfl, rfl⟩) (fun p _ e => by cases e) (ve.mono s5.fb.keep) (by have := jv8 rowsIs je9 its (i + 1); rw [jf6 _ hi, List.length_append, rowsI, List.length_append] at this; simp only [List.length_nil]; omega)
   obtain ⟨p21, p2, p5, p6⟩ := p2.hold p3
   have l20' : L6.lookup q20 = some ⟨cs, true, 1, none⟩ := (p2.lk (q20, ⟨cs, true, 1, none⟩) (by simp)).1
   obtain ⟨c12, h12⟩ : ∃ c : List Value, c = [.string its[i].name.word, .int .i64 (its[i].name.at_ : Int), .slice a1 n1 m1, .string its[i].from_.word, .int .i64 (its[i].from_.at_ : Int), .slice a2 n2 m2, .string its[i].to_.word, .int .i64 (its[i].to_.at_ : Int), .slice a3 n3 m3, .string its[i].over_.word, .int .i64 (its[i].over_.at_ : Int), .slice a4 n4 m4] := ⟨_, rfl⟩
   have bs := fun H => yo2 H its[i].name.word its[i].from_.word its[i].to_.word its[i].over_.word its[i].name.at_ its[i].from_.at_ its[i].to_.at_ its[i].over_.at_ a1 a2 a3 a4 n1 n2 n3 n4 m1 m2 m3 m4
   rw [← h12] at bs
   have l12 : c12.length = 12 ∧ c12 ≠ [] := by rw [h12]; exact ⟨rfl, by simp⟩
   have s7 := p2.new ⟨c12, true, 3, none⟩
   obtain ⟨_, _, _, news, he, u1, u2, u3⟩ := yc3 (fun q c e h => s7.fr.hle.frz _ _ _ (s7.fb.keep q c e h)) vp
   cases he
   have hnp : np = its[i].params.length := by rw [j80] at u1; omega
   have hpl : its[i].params.length ≤ 2 ^ 20 + 1 := by
     have e1 := yo3 (ok i hi).2.2
     have e2 := j11 isNam its hi
     have e3 := j82 isNam its (i + 1)
     have e4 : wFs isNam its[i].params ≤ wI isNam its[i] := by unfold wI; omega
     omega
   have l20a : ((B6.next, (⟨c12, true, 3, none⟩ : Blk)) :: L6).lookup q20 = some ⟨cs, true, 1, none⟩ := (s7.lk (q20, ⟨cs, true, 1, none⟩) (by simp)).1
   obtain ⟨q22, B8, L8, r1, r2, r3⟩ := s7.tl.app3 (v := .slice (some ⟨B6.next, 0, none⟩) 4 4) (n := 4) (.inr ⟨_, rfl, s7.hd, l12.1, l12.2⟩) (by decide) (fun p hp e => p2.nok p hp (Option.some.inj e).symm) u2 (by rw [← u3.1]; exact u1) (u3.one (j81 _)) (by omega)
   have hv9 : Vds B0 ((refsI its[i]).flatMap Rf.dv) (c12 ++ news) := by
     have p := fun v : Value => Vd.p (H := B0) v
     rw [refsI, List.flatMap_append, h12]
     exact .append (.cons (p _) (.cons (p _) (.cons v1 (.cons (p _) (.cons (p _) (.cons v2 (.cons (p _) (.cons (p _) (.cons v3 (.cons (p _) (.cons (p _) (.cons v4 (.nil B0))))))))))))) u3
   have r4 : LRow L8 1 v21 _ _ := p5 r2 fun p hp => List.mem_cons_of_mem _ (List.mem_append_left _ hp)
   have r5 : ∀ p ∈ [(q22, (⟨c12 ++ news, true, 3, none⟩ : Blk)), (q20, ⟨cs, true, 1, none⟩), (q14, ⟨rowF N fun j => f0 j + (rowsIs (its.take i)).count j, true, 1, none⟩), (q17, ⟨rowF its.length fun j => g0 j + (kidsIs (its.take i)).count j, true, 1, none⟩), (q3, ⟨T, true, 1, none⟩)], blkOf v21 ≠ some p.1 := fun p hp => by
     rcases List.mem_cons.1 hp with rfl | hp
     · rcases p6 with p6 | ⟨p', h1, h2⟩
       · rw [p6]; intro e; cases e
       · rw [h2]
         exact fun e => r3 p' (List.mem_append_left _ h1) (Option.some.inj e)
     · exact p4 p hp
   have r6 := r2.sub (ps' := [(q22, (⟨c12 ++ news, true, 3, none⟩ : Blk)), (q20, ⟨cs, true, 1, none⟩), (q14, ⟨rowF N fun j => f0 j + (rowsIs (its.take i)).count j, true, 1, none⟩), (q17, ⟨rowF its.length fun j => g0 j + (kidsIs (its.take i)).count j, true, 1, none⟩), (q3, ⟨T, true, 1, none⟩)]) fun p hp => by
     rcases List.mem_cons.1 hp with rfl | hp
     · exact List.mem_cons_self ..
     · exact List.mem_cons_of_mem _ (List.mem_append_right _ hp)
   simp +decide only [zf6.o, ↓GI.o, reduceIte, f20, l20, c15, p1, jq6, l20', t2, t5, t8, t11, in2, bs, l20a, c14, show lk PP 38 = 1 by decide +kernel, r1]
   have hrl : 4 + np = (refsI its[i]).length := by rw [hnp]; simp [refsI]; omega
   have hsub : (rowsIs (its.take i)).length + (rowsI its[i]).length ≤ 2 ^ 21 := by
     have := jv8 rowsIs je9 its (i + 1)
     rw [jf6 _ hi, List.length_append] at this
     omega
   have hnw := j82 isNam its i
   clear l3' l20 l20' l20a hb5 x4
   refine jv7 (n := 9) ?_ (loop9 (refs := refsI its[i]) (cells := c12 ++ news) (l0 := its[i].e) (K10 := K10 - wIs isNam (its.take i)) (v := v21) hv9 (by rw [← hrl]; omega) (by rw [← List.length_append, js6]; omega) ⟨by omega, by omega⟩ r6 (by simpa using r4) r5 ?_ ?_ ?_ ?_ fun E9 B9 L9 v9 s9 w1 w2 kp9 x10 x21 => ?_)
   · simp +decide only [zf6.o, ↓GI.o, lp_o, jf9, jg0, jg1, reduceIte]
   · simp +decide only [↓G.o, reduceIte]
   · simp +decide only [↓G.o, reduceIte, hrl]
   · simp +decide only [↓G.o, reduceIte, f10]
   · simp +decide only [↓G.o, reduceIte]
   rw [js6] at w1
   rw [yc4] at x10
   simp +decide only [Kp, ↓G.o, reduceIte] at kp9
   obtain ⟨y3, y9, y11, y13, y14, y17, y19, y20, _⟩ := kp9
   simp +decide only [zf6.o, ↓GI.o, reduceIte]
   have s9' := s9.sub (ps' := [(q14, ⟨rowF N fun j => f0 j + (rowsIs (its.take i)).count j, true, 1, none⟩), (q20, ⟨cs, true, 1, none⟩), (q17, ⟨rowF its.length fun j => g0 j + (kidsIs (its.take i)).count j, true, 1, none⟩), (q3, ⟨T, true, 1, none⟩)]) fun p hp => by
     simp only [List.mem_cons] at hp ⊢
     rcases hp with h | h | h | h | h <;> simp [h]
   have nkq : NoK q14 [(q20, (⟨cs, true, 1, none⟩ : Blk)), (q17, ⟨rowF its.length fun j => g0 j + (kidsIs (its.take i)).count j, true, 1, none⟩), (q3, ⟨T, true, 1, none⟩)] := fun p hp => by
     simp only [List.mem_cons, List.not_mem_nil, or_false] at hp
     rcases hp with rfl | rfl | rfl
     · exact fun e => nq (q14, _) (List.mem_cons_self ..) e.symm
     · exact Ne.symm ne1
     · exact Ne.symm ne2
   refine jv7 (n := 11) ?_ (loop11 (l := rowsI its[i]) (N := N) (R := (rowsIs (its.take i)).length) (v := v9) (fun j hj => rl j ?_) nkq (fun j => ?_) (by omega) s9' w1 (w2 (q14, _) (List.mem_cons_of_mem _ (List.mem_cons_of_mem _ (List.mem_cons_self ..)))) ?_ ?_ ?_ ?_ fun E11 L11 s11 kp11 x13 => ?_)
   · simp +decide only [zf6.o, ↓GI.o, lp_o, jf9, jg0, jg1, reduceIte]
   · exact List.mem_flatMap.2 ⟨_, List.getElem_mem hi, hj⟩
   · have h1 := hf0 j
     have h2 : (rowsIs (its.take i)).count j ≤ (rowsIs (its.take i)).length := List.count_le_length
     omega
   · simp +decide only [↓G.o, reduceIte, x21]
   · simp +decide only [↓G.o, reduceIte, y14, k14, b14]
   · simp +decide only [↓G.o, reduceIte, y13, f13]
   · simp +decide only [↓G.o, reduceIte]
   simp +decide only [Kp, ↓G.o, reduceIte] at kp11
   obtain ⟨z3, z9, z10, z11, z14, z17, z19, z20, _⟩ := kp11
   have l20b : L11.lookup q20 = some ⟨cs, true, 1, none⟩ := s11.tl.hd
   have hks : (kidsIs (its.take i)).length + (kidsI its[i]).length ≤ 2 ^ 21 := by
     have := jv8 kidsIs jg8 its (i + 1)
     rw [jp6 _ hi, List.length_append] at this
     omega
   have hke : its[i].kids.length + its[i].els.length = (kidsI its[i]).length := by rw [kidsI, List.length_append]
   obtain ⟨va, B12, L12, A1, s12, ra, ha⟩ := s11.app (v := .slice none 0 0) (l := []) (.inl ⟨rfl, rfl, rfl⟩) (fun p _ e => by cases e) (vk.mono s11.fb.keep) (by simp only [List.length_nil]; omega)
   have l20c : L12.lookup q20 = some ⟨cs, true, 1, none⟩ := s12.tl.hd
   obtain ⟨vb, B13, L13, A2, s13, rb, hb⟩ := s12.app ra ha (vl.mono s12.fb.keep) (by simp only [List.nil_append]; omega)
   rw [List.nil_append] at rb
   simp +decide only [zf6.o, ↓GI.o, reduceIte, z20, y20, f20, l20b, l20c, c19, c20, jq6, show prC 63 = [(4, 2)] from rfl, A1, A2]
   have s13' := s13.sub (ps' := [(q17, ⟨rowF its.length fun j => g0 j + (kidsIs (its.take i)).count j, true, 1, none⟩), (q3, ⟨T, true, 1, none⟩), (q14, ⟨rowF N fun j => f0 j + (rowsIs (its.take i)).count j + (rowsI its[i]).count j, true, 1, none⟩)]) fun p hp => by
     simp only [List.mem_cons, List.not_mem_nil, or_false] at hp ⊢
     rcases hp with h | h | h <;> simp [h]
   have nk3 : NoK q17 [(q3, (⟨T, true, 1, none⟩ : Blk)), (q14, ⟨rowF N fun j => f0 j + (rowsIs (its.take i)).count j + (rowsI its[i]).count j, true, 1, none⟩)] := fun p hp => by
     simp only [List.mem_cons, List.not_mem_nil, or_false] at hp
     rcases hp with rfl | rfl
     · exact Ne.symm ne3
     · exact ne1
   refine jv7 (n := 13) ?_ (loop13 (l := kidsI its[i]) (n := i) (M := its.length) (v := vb) (ok i hi).1 (ok i hi).2.1 c4 nk3 (fun j => ?_) s13' rb (hb (q17, _) (List.mem_cons_of_mem _ (List.mem_cons_of_mem _ (List.mem_cons_self ..)))) ?_ ?_ ?_ ?_ ?_ fun E14 L14 s14 kp14 => ?_)
   · simp +decide only [zf6.o, ↓GI.o, lp_o, jf9, jg0, jg1, reduceIte]
   · have h1 := hg0 j
     have h2 : (kidsIs (its.take i)).count j ≤ (kidsIs (its.take i)).length := List.count_le_length
     omega
   · simp +decide only [↓G.o, reduceIte]
   · simp +decide only [↓G.o, reduceIte, z17, y17, k17, b17]
   · simp +decide only [↓G.o, reduceIte, z3, y3, k3, b3]
   · simp +decide only [↓G.o, reduceIte, z19, y19, f19]
   · simp +decide only [↓G.o, reduceIte]
   simp +decide only [Kp, ↓G.o, reduceIte] at kp14
   obtain ⟨u3, u9, u10, u11, u13, u14, u17, u19, _⟩ := kp14
   simp +decide only [zf6.o, ↓GI.o, reduceIte, u19, z19, y19, f19, w19]
   refine hL (m - 1) _ _ _ (by omega) ⟨rfl, i + 1, _, _, by omega, rfl, ?_, ⟨?_, ?_, ?_, ?_, ?_, trivial⟩, ?_, ?_, ?_⟩
   · have q1 : rowF N (fun j => f0 j + (rowsIs (its.take i)).count j + (rowsI its[i]).count j) = rowF N fun j => f0 j + (rowsIs (its.take (i + 1))).count j := congrArg (rowF N) (funext fun j => by rw [jf6 _ hi, List.count_append]; omega)
     have q2 : rowF its.length (fun j => g0 j + (kidsIs (its.take i)).count j + (kidsI its[i]).count j) = rowF its.length fun j => g0 j + (kidsIs (its.take (i + 1))).count j := congrArg (rowF its.length) (funext fun j => by rw [jp6 _ hi, List.count_append]; omega)
     rw [q1, q2] at s14
     exact s14.sub fun p hp => by
       simp only [List.mem_cons, List.not_mem_nil, or_false] at hp ⊢
       rcases hp with h | h | h <;> simp [h]
   all_goals simp +decide only [↓G.o, reduceIte, u3, z3, y3, k3, u9, z9, y9, k9, u11, z11, y11, k11, u14, z14, y14, k14, u17, z17, y17, k17, u10, z10, x10, u13, x13, jf6 _ hi, List.length_append, j11 isNam its hi]
   all_goals (congr 1; omega)
 · obtain rfl : i = its.length := by omega
   rw [List.take_length] at *
   simp +decide only [zf6.o, ↓GI.o, reduceIte, e3, e19, l3, c4, lens, Nat.lt_irrefl, decide_false]
   refine hZ _ _ _ st ⟨?_, ?_, ?_, ?_, ?_, trivial⟩ ?_ ?_ <;> simp +decide only [↓G.o, reduceIte, k3, k9, k11, k14, k17, e10, e13]
end Go.Am
namespace Go.Am
set_option maxRecDepth 100000
theorem j2t {s : List UInt8} {tr : Tr} {p : PS} (h : parseP s = .ok tr p) : TrOk s tr ∧ (toksI s (s.length + 1) 0).2 = none ∧ ∀ c, Cls c → ((toksI s (s.length + 1) 0).1.map Tk.kind).countP c = wN c tr.nds + wIs c tr.its + (c 1).toNat := by
 have one : ∀ c, Cls c → TrOk s tr ∧ (toksI s (s.length + 1) 0).2 = none ∧ ((toksI s (s.length + 1) 0).1.map Tk.kind).countP c = wN c tr.nds + wIs c tr.its + (c 1).toNat := fun c hc => by
   obtain ⟨h1, l, h2, h3, h4, h5⟩ := yb7 hc h
   obtain ⟨tks, t1, t2⟩ := j7i h2 (s.length + 1) ps0 rfl (j8u s) (by show s.length - 0 < _; omega) h3 h4
   have t1 : toksI s (s.length + 1) 0 = (tks, none) := t1
   rw [t1]
   exact ⟨h1, rfl, by rw [t2]; exact h5⟩
 have h0 := one (fun _ => false) fun k e => by cases e
 exact ⟨h0.1, h0.2.1, fun c hc => (one c hc).2.2⟩
theorem Fle.row {H : Heap} (h : Fresh H) {q n : Nat} (h1 : H.next ≤ q) (h2 : q < n) (y : Blk) : Fle H ((H.to n).set q y) := ⟨by show H.next ≤ n; omega, fun k c es e => by
 rw [Heap.get_set, if_neg (Nat.ne_of_lt (Nat.lt_of_lt_of_le (h.lt e) h1))]; exact e, fun k hk e => by
 rw [Heap.get_set, if_neg (by omega)]; exact e, fun k hk => by
 have hk : n ≤ k := hk
 rw [Heap.get_set, if_neg (by omega)]; exact h k (by omega)⟩
theorem jy9 : ∀ (l : List Tk) (i : Nat) (h : i < l.length), (cellsK l)[i * 5]? = some (.int .i64 l[i].kind)
 | [], i, h => by cases h
 | t :: l, 0, h => rfl
 | t :: l, i + 1, h => by
   have := jy9 l i (by simpa using h)
   rw [show (i + 1) * 5 = 5 + i * 5 by omega, cellsK, List.flatMap_cons, List.getElem?_append_right (by show (t.cells).length ≤ _; show 5 ≤ _; omega), show (t.cells).length = 5 from rfl, Nat.add_sub_cancel_left]
   first | done | exact this
theorem ixTk : ixT PP 44 = some (none, 5) := by decide +kernel
def cnt (c : Int → Bool) (l : List Tk) : Nat := (l.map Tk.kind).countP c
theorem jv9 (c : Int → Bool) (l : List Tk) {i : Nat} (h : i < l.length) : cnt c (l.take (i + 1)) = cnt c (l.take i) + (c l[i].kind).toNat := by
 unfold cnt
 rw [List.take_succ_eq_append_getElem h, List.map_append, List.countP_append]
 congr 1
theorem jz0 (s : List UInt8) : ∀ n i, (toksI s n i).1.length ≤ n
 | 0, _ => Nat.le_refl _
 | n + 1, i => by
   unfold toksI
   split
   · split
     · exact Nat.zero_le _
     · rename_i tk _
       have := jz0 s n tk.to_
       simp only [List.length_cons]; omega
   · exact Nat.zero_le _
theorem jz1 (c : Int → Bool) (l : List Tk) (i : Nat) : cnt c (l.take i) ≤ l.length := by
 unfold cnt
 refine Nat.le_trans List.countP_le_length ?_
 rw [List.length_map, List.length_take]; omega
theorem loop0 {G : Heap} {q : Nat} {tks : List Tk} (hq : G.get q = some ⟨cellsK tks, true, 5, none⟩) (tlen : tks.length ≤ 1048577) {E : Env} (e6 : E 6 = .slice (some ⟨q, 0, none⟩) tks.length tks.length) (e9 : E 9 = .int .i64 0) (e10 : E 10 = .int .i64 0) (e11 : E 11 = .int .i64 0) (e12 : E 12 = .int .i64 0)
   {Z : KO} (hZ : ∀ E' : Env, Kp E E' [3] → E' 9 = .int .i64 (cnt isNum tks : Int) → E' 10 = .int .i64 (cnt isNam tks : Int) → E' 11 = .int .i64 (cnt isOpr tks : Int) → Z .norm E' [] G) : loopW (lb 0) E [] G (leaveW 0 Z) := by
 refine jv3 (c := ?_) (P := fun b => loopW b E [] G (leaveW 0 Z)) ?h ?_
 case h =>
   simp +decide only [zf6.o, ↓GI.o, lp_o, jf9, jg0, jg1, reduceIte]
   exact rfl
 refine ja6 (I := fun m E' ds G' => ds = [] ∧ G' = G ∧ ∃ i, i + m = tks.length ∧ Kp E E' [3, 6] ∧ E' 12 = .int .i64 ((i : Nat) : Int) ∧ E' 9 = .int .i64 (cnt isNum (tks.take i) : Int) ∧ E' 10 = .int .i64 (cnt isNam (tks.take i) : Int) ∧ E' 11 = .int .i64 (cnt isOpr (tks.take i) : Int)) (i := tks.length) ?_ ⟨rfl, rfl, 0, Nat.zero_add _, Kp.refl _ _, e12, e9, e10, e11⟩
 clear e9 e10 e11 e12
 rintro L' m E' _ G1 ⟨rfl, rfl, i, him, kp, e12, e9, e10, e11⟩ hL
 replace e6 := (kp.at 6 rfl).trans e6
 obtain ⟨k3, k6, _⟩ := kp
 change exU PP prC Tryz.f6 (.seq _ _) none E' [] _ _
 by_cases hi : i < tks.length
 · have hix := je4 ixTk hi q 0 tks.length .i64
   rw [Nat.zero_add] at hix
   have hat := jy9 tks i hi
   have c1 := jv9 isNum tks hi
   have c2 := jv9 isNam tks hi
   have c3 := jv9 isOpr tks hi
   generalize tks[i].kind = kk at *
   have go : ∀ E'' : Env, Kp E E'' [3, 6] → E'' 12 = .int .i64 ((i + 1 : Nat) : Int) → E'' 9 = .int .i64 (cnt isNum (tks.take (i + 1)) : Int) → E'' 10 = .int .i64 (cnt isNam (tks.take (i + 1)) : Int) → E'' 11 = .int .i64 (cnt isOpr (tks.take (i + 1)) : Int) → L' E'' [] G1 := fun E'' a d e f g => hL (m - 1) _ _ _ (by omega) ⟨rfl, rfl, i + 1, by omega, a, d, e, f, g⟩
   have w12 : IntKind.i64.wrap ((i : Int) + 1) = ((i + 1 : Nat) : Int) := ja1 (by omega)
   have w9 : IntKind.i64.wrap ((cnt isNum (tks.take i) : Int) + 1) = ((cnt isNum (tks.take i) + 1 : Nat) : Int) := ja1 (by have := jz1 isNum tks i; omega)
   have w10 : IntKind.i64.wrap ((cnt isNam (tks.take i) : Int) + 1) = ((cnt isNam (tks.take i) + 1 : Nat) : Int) := ja1 (by have := jz1 isNam tks i; omega)
   have w11 : IntKind.i64.wrap ((cnt isOpr (tks.take i) : Int) + 1) = ((cnt isOpr (tks.take i) + 1 : Nat) : Int) := ja1 (by have := jz1 isOpr tks i; omega)
   have h2 : kk = 2 ∨ (kk == 2) = false := by
     by_cases h : kk = 2
     · exact .inl h
     · exact .inr (by simpa using h)
   have h1 : kk = 1 ∨ (kk == 1) = false := by
     by_cases h : kk = 1
     · exact .inl h
     · exact .inr (by simpa using h)
   rcases h2 with rfl | b2
   · simp +decide only [zf6.o, ↓GI.o, reduceIte, e6, e12, e9, hi, decide_true, lens, hix, hq, hat, Nat.add_zero, w12, w9, Int.reduceBEq, decide_false]
     refine go _ ⟨?_, ?_, trivial⟩ ?_ ?_ ?_ ?_ <;> simp +decide only [↓G.o, reduceIte, k3, k6, e9, e10, e11, c1, c2, c3] <;> rfl
   rcases h1 with rfl | b1
   · simp +decide only [zf6.o, ↓GI.o, reduceIte, e6, e12, e10, hi, decide_true, lens, hix, hq, hat, Nat.add_zero, w12, w10, Int.reduceBEq, decide_false]
     refine go _ ⟨?_, ?_, trivial⟩ ?_ ?_ ?_ ?_ <;> simp +decide only [↓G.o, reduceIte, k3, k6, e9, e10, e11, c1, c2, c3] <;> rfl
   by_cases g1 : 14 ≤ kk
   · by_cases g2 : kk ≤ 29
     · simp +decide only [zf6.o, ↓GI.o, reduceIte, e6, e12, e11, hi, decide_true, lens, hix, hq, hat, Nat.add_zero, w12, w11, b1, b2, ge_iff_le, g1, g2]
       refine go _ ⟨?_, ?_, trivial⟩ ?_ ?_ ?_ ?_ <;> simp +decide only [↓G.o, reduceIte, k3, k6, e9, e10, e11, c1, c2, c3, isNum, isNam, isOpr, b1, b2, g1, g2] <;> rfl
     · simp +decide only [zf6.o, ↓GI.o, reduceIte, e6, e12, hi, decide_true, lens, hix, hq, hat, Nat.add_zero, w12, b1, b2, ge_iff_le, g1, g2, decide_false]
       refine go _ ⟨?_, ?_, trivial⟩ ?_ ?_ ?_ ?_ <;> simp +decide only [↓G.o, reduceIte, k3, k6, e9, e10, e11, c1, c2, c3, isNum, isNam, isOpr, b1, b2, g1, g2] <;> rfl
   · simp +decide only [zf6.o, ↓GI.o, reduceIte, e6, e12, hi, decide_true, lens, hix, hq, hat, Nat.add_zero, w12, b1, b2, ge_iff_le, g1, decide_false]
     refine go _ ⟨?_, ?_, trivial⟩ ?_ ?_ ?_ ?_ <;> simp +decide only [↓G.o, reduceIte, k3, k6, e9, e10, e11, c1, c2, c3, isNum, isNam, isOpr, b1, b2, g1] <;> rfl
 · have : i = tks.length := by omega
   subst this
   rw [List.take_length] at e9 e10 e11
   simp +decide only [zf6.o, ↓GI.o, reduceIte, e6, e12, lens, Nat.lt_irrefl, decide_false]
   refine hZ _ ⟨?_, trivial⟩ ?_ ?_ ?_ <;> simp +decide only [↓G.o, reduceIte, k3, e9, e10, e11]
end Go.Am
namespace Go.Aw
inductive Tr (α : Type) : Type where
 | nil : Tr α
 | node (v : Option α) (l r : Tr α) : Tr α
namespace Tr
variable {α : Type}
def get : Tr α → Nat → Option α
 | nil, _ => none
 | node v l r, n => if n = 0 then v else if n % 2 = 1 then l.get (n / 2) else r.get (n / 2 - 1)
def put : Nat → Tr α → Nat → Option α → Tr α
 | 0, t, _, _ => t
 | f + 1, t, n, x =>
   match t with
   | nil => if n = 0 then node x nil nil else if n % 2 = 1 then node none (put f nil (n / 2) x) nil else node none nil (put f nil (n / 2 - 1) x)
   | node v l r => if n = 0 then node x l r else if n % 2 = 1 then node v (put f l (n / 2) x) r else node v l (put f r (n / 2 - 1) x)
def set (t : Tr α) (n : Nat) (x : Option α) : Tr α := put (n + 1) t n x
theorem yc5 : ∀ (f : Nat) (t : Tr α) (n k : Nat) (x : Option α), n < f → (put f t n x).get k = if k = n then x else t.get k := by
 intro f
 induction f with
 | zero => intro t n k x h; omega
 | succ f ih =>
   intro t n k x h
   have e1 : ∀ a b : Nat, a % 2 = 1 → b % 2 = 1 → (a / 2 = b / 2 ↔ a = b) := by omega
   have e2 : ∀ a b : Nat, a ≠ 0 → b ≠ 0 → a % 2 = 0 → b % 2 = 0 → (a / 2 - 1 = b / 2 - 1 ↔ a = b) := by omega
   cases t with
   | nil =>
     simp only [put]
     by_cases hn : n = 0
     · subst hn; simp [get]
     · by_cases hp : n % 2 = 1
       · simp only [hn, hp, if_false, if_true, get]
         by_cases hk : k = 0
         · subst hk; first | (simp; done) | (simp; omega)
         · by_cases hq : k % 2 = 1
           · simp only [hk, hq, if_false, if_true]
             rw [ih _ _ _ _ (by omega)]
             simp only [e1 k n hq hp, get]
           · have : k ≠ n := by omega
             simp [hk, hq, this]
       · simp only [hn, hp, if_false, get]
         by_cases hk : k = 0
         · subst hk; first | (simp; done) | (simp; omega)
         · by_cases hq : k % 2 = 1
           · have : k ≠ n := by omega
             simp [hk, hq, this]
           · simp only [hk, hq, if_false]
             rw [ih _ _ _ _ (by omega)]
             simp only [e2 k n hk hn (by omega) (by omega), get]
   | node v l r =>
     simp only [put]
     by_cases hn : n = 0
     · subst hn; simp [get]
       by_cases hk : k = 0 <;> simp [hk]
     · by_cases hp : n % 2 = 1
       · simp only [hn, hp, if_false, if_true, get]
         by_cases hk : k = 0
         · subst hk; first | (simp; done) | (simp; omega)
         · by_cases hq : k % 2 = 1
           · simp only [hk, hq, if_false, if_true]
             rw [ih _ _ _ _ (by omega)]
             simp only [e1 k n hq hp]
           · have : k ≠ n := by omega
             simp [hk, hq, this]
       · simp only [hn, hp, if_false, get]
         by_cases hk : k = 0
         · subst hk; first | (simp; done) | (simp; omega)
         · by_cases hq : k % 2 = 1
           · have : k ≠ n := by omega
             simp [hk, hq, this]
           · simp only [hk, hq, if_false]
             rw [ih _ _ _ _ (by omega)]
             simp only [e2 k n hk hn (by omega) (by omega)]
theorem get_set (t : Tr α) (n k : Nat) (x : Option α) : (t.set n x).get k = if k = n then x else t.get k :=
 yc5 (n + 1) t n k x (Nat.lt_succ_self n)
end Tr
end Go.Aw
