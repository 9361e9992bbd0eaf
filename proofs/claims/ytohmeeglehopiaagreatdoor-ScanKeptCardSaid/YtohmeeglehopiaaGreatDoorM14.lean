/- Rows with room behind them; rows that are the same. -/
import Derived.Test.YtohmeeglehopiaaGreatDoorM13
import Derived.Test.YtohmeeglehopiaaGreatDoorM11
import Derived.Test.YtohmeeglehopiaaGreatDoorM07
open Go.Proofs
namespace Go.Am
set_option maxRecDepth 100000
noncomputable abbrev cRH2 : Code := .seq (.seq (rF Tryz.f10 4) (.cond (.tmp 14) .skip (.exit 0))) (.seq (.block 1 (.seq (rT Tryz.f10 6) (.cond (.tmp 25) (.seq (rF Tryz.f10 7) .ret) .skip))) (rF Tryz.f10 5))
noncomputable abbrev cRH1 : Code := .seq (.seq (rF Tryz.f14 4) (.cond (.tmp 14) .skip (.exit 0))) (.seq (.block 1 (.seq (rT Tryz.f14 6) (.cond (.tmp 25) (.seq (rF Tryz.f14 7) .ret) .skip))) (rF Tryz.f14 5))
def rowL (o : List UInt8) : Blk := ⟨o.map f8, true, 1, none, false⟩
theorem yf9 {H : Heap} {q : Nat} {o s : List UInt8} (h : H.get q = some (rowL o)) (hp : s <+: o) (hl : o.length < 9223372036854775808) : Brow H (some ⟨q, 0, none⟩) s := by
 obtain ⟨t, rfl⟩ := hp
 refine ⟨fun b hb => ?_, fun e => by simp at e, by simp at hl; omega⟩
 injection hb with hb
 subst hb
 refine ⟨rowL (s ++ t), by simp only [look, h]; rfl, rfl, by simp [rowL], ?_⟩
 have e : f8 = fun u : UInt8 => Value.int .u8 (u.toNat : Int) := rfl
 simp [rowL, e]
theorem yg0 (H : Heap) (L : Nat) (hL : L ≤ 140737488355328) : makeSliceA PP 22 (.int .i64 (L : Int)) (.int .i64 (L : Int)) H = some (.slice (some ⟨H.next, 0, none⟩) L L, H.alloc 1 ((List.replicate L 0).map f8)) := by
 obtain ⟨i, h1, h2, h3⟩ := infoB
 simp only [makeSliceA, und34, h1, zeroB]
 have hz : zeroRow [.int .u8 0] (L * 1) = (List.replicate L 0).map f8 := by
   simp only [zeroRow, Nat.mul_one]
   rw [List.map_replicate]
   apply List.ext_getElem
   · simp
   · intro j h1 h2; simp [Nat.mod_one, f8]
 have hm : (0 : Int) ≤ (L : Int) ∧ (L : Int) ≤ (L : Int) ∧ (L : Int) ≤ most ∧ ((1 : Nat) : Int) * (L : Int) ≤ most := by unfold most; omega
 simp only [List.length_cons, List.length_nil, h2, h3, if_true, makeA, Nat.zero_add]
 rw [if_pos hm]
 simp only [Int.toNat_natCast, hz]
theorem j9m (H : Heap) (o : List UInt8) : (H.alloc 1 (o.map f8)).get H.next = some (rowL o) := by rw [Heap.get_alloc, if_pos rfl]; rfl
theorem j9n {H : Heap} {q i : Nat} {o : List UInt8} (h : H.get q = some (rowL o)) (hi : i < o.length) (u : UInt8) {n : Int} (hn : n = (u.toNat : Int)) : storeA PP 5 (.pointer (some ((⟨q, 0, none⟩ : Addr).add i))) (.int .u8 n) H = some (undef, H.set q (rowL (o.set i u))) := by
 subst hn
 have e : (⟨q, 0, none⟩ : Addr).add i = ⟨q, i, none⟩ := by rw [Addr.add_lit, Nat.zero_add]
 rw [e]
 simp only [storeA, size5, stV]
 have ho : over (o.map f8) i [.int .u8 (u.toNat : Int)] = (o.set i u).map f8 := by
   rw [List.map_set]
   unfold over
   rw [List.set_eq_take_append_cons_drop, if_pos (by simpa using hi)]
   simp [f8]
 simp [Value.cells, st, look, h, rowL, Value.oneCell', ho, Nat.succ_le_of_lt hi]
theorem code14 : codeOf Tryz.f14 = .seq (rF Tryz.f14 0) (.seq (.seq (rF Tryz.f14 1) (.cond (.tmp 10) (.seq (rF Tryz.f14 2) .ret) .skip)) (.seq (.seq (rF Tryz.f14 3) (.block 0 (.loop cRH1))) (.seq (rF Tryz.f14 8) .ret))) := by kernel_rfl
theorem code10 : codeOf Tryz.f10 = .seq (rF Tryz.f10 0) (.seq (.seq (rF Tryz.f10 1) (.cond (.tmp 10) (.seq (rF Tryz.f10 2) .ret) .skip)) (.seq (.seq (rF Tryz.f10 3) (.block 0 (.loop cRH2))) (.seq (rF Tryz.f10 8) .ret))) := by kernel_rfl
section
variable {K : Kf} {N : Nat} {Q : R → Prop} {k : KOE}
end
section
variable {K : Kf} {N : Nat} {Q : R → Prop} {k : KOE} {H : Heap}
theorem yg1 {a b : Option Addr} {s : List UInt8} {c c' : Nat} (ha : Brow H a s) (hb : Brow H b s) (hs : s.length ≤ 140737488355328) : ∀ (n i m : Nat) (_ : i + n = s.length) (_ : n < m) {E : Env} (_ : E 0 = .slice a s.length c) (_ : E 1 = .slice b s.length c') (_ : E 5 = .int .i64 (i : Int))
   (_ : ∀ E', Q (k (.exit 0) E' [] H)), Q (loopE (execG PP XX K N noPr cRH1 none) m E [] H k)
 | 0, i, m + 1, hn, hm, E, e0, e1, e5, hx => by
   rw [ja5]
   have hlt : decide ((i : Int) < (s.length : Int)) = false := decide_eq_false (by omega)
   have l4 := tl (rgn Tryz.f14 4)
   conv at l4 => rhs; simp only [rgn, oA, codeOf, Tryz.f14, gS, gN, reduceIte, Nat.reduceEqDiff, tA]
   simp +decide only [↓uR.o, dG.o, ja1, reduceIte, ↓ja0 l4, e0, e5, ja6 (ts := #[22]) rfl und34, hlt]
   exact hx _
 | n + 1, i, m + 1, hn, hm, E, e0, e1, e5, hx => by
   rw [ja5]
   have hi : i < s.length := by omega
   have hlt : decide ((i : Int) < (s.length : Int)) = true := decide_eq_true (by omega)
   have w : IntKind.i64.wrap ((i : Int) + 1) = ((i + 1 : Nat) : Int) := by rw [ja4 (by omega) (by omega)]; omega
   obtain ⟨y, rfl, hl⟩ := ha.bts.cell i hi
   obtain ⟨z, rfl, hl2⟩ := hb.bts.cell i hi
   have hix := jc4 (n := s.length) (c := c) (a := y) hi
   have hix2 := jc4 (n := s.length) (c := c') (a := z) hi
   have hne : ((s[i].toNat : Int) != (s[i].toNat : Int)) = false := by simp
   have lL := lX3 Tryz.f14 4 5 6
   conv at lL in (occs := *) (rq _ _) => all_goals simp only [rX, oA, Tryz.f14, dL.o, reduceIte, Nat.reduceEqDiff]
   obtain ⟨l4, l5, l6⟩ := lL
   simp +decide only [↓uR.o, dG.o, ja1, reduceIte, ↓ja0 l4, ↓ja0 l5, ↓ja0 l6, e0, e1, e5, ja6 (ts := #[22]) rfl und34, hlt, hix, jb7 hl, hix2, jb7 hl2, hne, w]
   exact yg1 (c := c) (c' := c') ha hb hs n (i + 1) m (by omega) (by omega) (by simp +decide only [ja1, reduceIte, e0]) (by simp +decide only [ja1, reduceIte, e1]) (by simp +decide only [ja1, reduceIte]) hx
end
theorem jq2 {N : Nat} {hk : Hook} {d : Nat} {H : Heap} {a b : Option Addr} {s : List UInt8} {c c' : Nat} (hh : NH hk) (ha : Brow H a s) (hb : Brow H b s) (hs : s.length ≤ 140737488355328) (hN : s.length < N) :
   CG N hk (d + 1) 14 #[.slice a s.length c, .slice b s.length c'] H = some (.ret (.bool true), H) := by
 have main : ∃ R0 : R, CG N hk (d + 1) 14 #[.slice a s.length c, .slice b s.length c'] H = R0 ∧ R0 = some (.ret (.bool true), H) := by
   refine ⟨_, jb6 (hh _ _ _ rfl) Tryz.func14 (c := codeOf Tryz.f14) rfl rfl rfl (pr := noPr) rfl, ?_⟩
   rw [code14]
   generalize hF : finE PP Tryz.f14 = F
   have hne : ((s.length : Int) != (s.length : Int)) = false := by simp
   have lL := lX4 Tryz.f14 0 1 3 8
   conv at lL in (occs := *) (rq _ _) => all_goals simp only [rX, oA, Tryz.f14, dL.o, reduceIte, Nat.reduceEqDiff]
   obtain ⟨l0, l1, l3, l8⟩ := lL
   simp +decide only [↓uR.o, dG.o, ja1, reduceIte, ↓ja0 l0, ↓ja0 l1, ↓ja0 l3, ↓jb4, ja6 (ts := #[22]) rfl und34, hne]
   refine yg1 (Q := fun r => r = some (.ret (.bool true), H)) ha hb hs s.length 0 N (by omega) hN (c := c) (c' := c') ?_ ?_ ?_ fun E' => ?_
   · simp +decide only [ja1, reduceIte, jc7]
   · simp +decide only [ja1, reduceIte, je4]
   · simp +decide only [ja1, reduceIte]; rfl
   · simp +decide only [↓uR.o, dG.o, ↓ja0 l8]
     rw [← hF, jb0 (l := [.bool true]) (by simp +decide [Tryz.f14, resE, ja1])]
     rfl
 obtain ⟨R0, m1, m2⟩ := main
 exact m1.trans m2
theorem yg2 : ∀ (ts : List Tk) (i : Nat) (h : i < ts.length), ((ts.flatMap Tk.cells).drop (i * 5)).take 5 = ts[i].cells
 | t :: ts, 0, h => by simp [List.flatMap_cons, Tk.cells]
 | t :: ts, i + 1, h => by
   have e : (i + 1) * 5 = t.cells.length + i * 5 := by simp [Tk.cells]; omega
   rw [List.flatMap_cons, e, ← List.drop_drop, List.drop_left]
   exact yg2 ts i (by simpa using h)
def Tks (H : Heap) (q : Nat) (ts : List Tk) : Prop := ∃ sp ex, H.get q = some ⟨ts.flatMap Tk.cells ++ sp, true, 5, none, ex⟩
def TkX (H : Heap) (v : Value) (ts : List Tk) : Prop := (ts = [] ∧ v = .slice none 0 0) ∨ (ts ≠ [] ∧ ∃ q c, v = .slice (some ⟨q, 0, none⟩) ts.length c ∧ Tks H q ts)
theorem TkRow.x {H : Heap} {v : Value} {ts : List Tk} {lo : Nat} (h : TkRow H v ts lo) : TkX H v ts := by
 rcases h with h | ⟨h1, q, h2, h3, _⟩
 · exact .inl h
 · exact .inr ⟨h1, q, _, h2, [], false, by rw [List.append_nil]; exact h3⟩
theorem j17 {H : Heap} {q : Nat} {ts : List Tk} (h : Tks H q ts) {i : Nat} (hi : i < ts.length) : loadA PP 42 (.pointer (some ⟨q, i * 5, none⟩)) H = some (.agg #[.int .i64 ts[i].kind, .int .u64 ts[i].n, .string ts[i].w, .int .i64 (ts[i].from_ : Int), .int .i64 (ts[i].to_ : Int)], H) := by
 have hl := jo5 ts
 obtain ⟨sp, ex, h⟩ := h
 simp only [loadA, agg29, size29]
 simp only [ldN, look, h]
 rw [if_pos (by rw [List.length_append]; omega), List.drop_append_of_le_length (by omega), List.take_append_of_le_length (by rw [List.length_drop]; omega), yg2 ts i hi]
 rfl
theorem j9o {q i n c : Nat} (h : i < n) : indexAddrA PP 33 (.slice (some ⟨q, 0, none⟩) n c) (.int .i64 (i : Int)) = some (.pointer (some ⟨q, i * 5, none⟩)) := by
 have e : (⟨q, 0, none⟩ : Addr).add (i * 5) = ⟨q, i * 5, none⟩ := by rw [Addr.add_lit, Nat.zero_add]
 simp [indexAddrA, size29, at_, e]
 omega
section
variable {K : Kf} {N : Nat} {Q : R → Prop} {k : KOE} {H : Heap}
theorem yg3 {p q c c' : Nat} {ts : List Tk} (hp : Tks H p ts) (hq : Tks H q ts) (hs : ts.length ≤ 140737488355328) : ∀ (n i m : Nat) (_ : i + n = ts.length) (_ : n < m) {E : Env} (_ : E 0 = .slice (some ⟨p, 0, none⟩) ts.length c) (_ : E 1 = .slice (some ⟨q, 0, none⟩) ts.length c') (_ : E 5 = .int .i64 (i : Int))
   (_ : ∀ E', Q (k (.exit 0) E' [] H)), Q (loopE (execG PP XX K N noPr cRH2 none) m E [] H k)
 | 0, i, m + 1, hn, hm, E, e0, e1, e5, hx => by
   rw [ja5]
   have hlt : decide ((i : Int) < (ts.length : Int)) = false := decide_eq_false (by omega)
   have l4 := tl (rgn Tryz.f10 4)
   conv at l4 => rhs; simp only [rgn, oA, codeOf, Tryz.f10, gS, gN, reduceIte, Nat.reduceEqDiff, tA]
   simp +decide only [↓uR.o, dG.o, ja1, reduceIte, ↓ja0 l4, e0, e5, jz0, hlt]
   exact hx _
 | n + 1, i, m + 1, hn, hm, E, e0, e1, e5, hx => by
   rw [ja5]
   have hi : i < ts.length := by omega
   have hlt : decide ((i : Int) < (ts.length : Int)) = true := decide_eq_true (by omega)
   have w : IntKind.i64.wrap ((i : Int) + 1) = ((i + 1 : Nat) : Int) := by rw [ja4 (by omega) (by omega)]; omega
   have hix := fun q c => j9o (q := q) (c := c) hi
   have hl1 := j17 hp hi
   have hl2 := j17 hq hi
   have lL := lX3 Tryz.f10 4 5 6
   conv at lL in (occs := *) (rq _ _) => all_goals simp only [rX, oA, Tryz.f10, dL.o, reduceIte, Nat.reduceEqDiff]
   obtain ⟨l4, l5, l6⟩ := lL
   simp +decide only [↓uR.o, dG.o, ja1, reduceIte, ↓ja0 l4, ↓ja0 l5, ↓ja0 l6, e0, e1, e5, jz0, hlt, hix, hl1, hl2, j41, w]
   exact yg3 (c := c) (c' := c') hp hq hs n (i + 1) m (by omega) (by omega) (by simp +decide only [ja1, reduceIte, e0]) (by simp +decide only [ja1, reduceIte, e1]) (by simp +decide only [ja1, reduceIte]) hx
end
theorem jx0 {N : Nat} {hk : Hook} {d : Nat} {H : Heap} {v w : Value} {ts : List Tk} (hh : NH hk) (ha : TkX H v ts) (hb : TkX H w ts) (hs : ts.length ≤ 140737488355328) (hN : ts.length < N) :
   CG N hk (d + 1) 10 #[v, w] H = some (.ret (.bool true), H) := by
 have main : ∃ R0 : R, CG N hk (d + 1) 10 #[v, w] H = R0 ∧ R0 = some (.ret (.bool true), H) := by
   refine ⟨_, jb6 (hh _ _ _ rfl) Tryz.func10 (c := codeOf Tryz.f10) rfl rfl rfl (pr := noPr) rfl, ?_⟩
   rw [code10]
   generalize hF : finE PP Tryz.f10 = F
   rcases ha with ⟨rfl, rfl⟩ | ⟨hne, p, c, rfl, hp⟩
   · rcases hb with ⟨_, rfl⟩ | ⟨hne, _⟩
     · have hq : ((0 : Nat) : Int) = 0 := rfl
       obtain ⟨M, rfl⟩ : ∃ q, N = q + 1 := ⟨N - 1, by omega⟩
       have hlt : decide ((0 : Int) < ((0 : Nat) : Int)) = false := rfl
       have hne : (((0 : Nat) : Int) != ((0 : Nat) : Int)) = false := rfl
       have lL := lX5 Tryz.f10 0 1 3 4 8
       conv at lL in (occs := *) (rq _ _) => all_goals simp only [rX, oA, Tryz.f10, dL.o, reduceIte, Nat.reduceEqDiff]
       obtain ⟨l0, l1, l3, l4, l8⟩ := lL
       simp +decide only [↓uR.o, dG.o, ja1, reduceIte, ↓ja0 l0, ↓ja0 l1, ↓ja0 l3, ↓ja0 l4, ↓ja0 l8, ↓jb4, ↓ja5, jz0, hne, dF]
       rw [← hF, jb0 (l := [.bool true]) (by simp +decide [Tryz.f10, resE, ja1])]
       rfl
     · exact absurd rfl hne
   · rcases hb with ⟨rfl, _⟩ | ⟨_, q, c', rfl, hq⟩
     · exact absurd rfl hne
     · have hne : ((ts.length : Int) != (ts.length : Int)) = false := by simp
       have lL := lX4 Tryz.f10 0 1 3 8
       conv at lL in (occs := *) (rq _ _) => all_goals simp only [rX, oA, Tryz.f10, dL.o, reduceIte, Nat.reduceEqDiff]
       obtain ⟨l0, l1, l3, l8⟩ := lL
       simp +decide only [↓uR.o, dG.o, ja1, reduceIte, ↓ja0 l0, ↓ja0 l1, ↓ja0 l3, ↓jb4, jz0, hne]
       refine yg3 (c := c) (c' := c') (Q := fun r => r = some (.ret (.bool true), H)) hp hq hs ts.length 0 N (by omega) hN ?_ ?_ ?_ fun E' => ?_
       · simp +decide only [ja1, reduceIte, jc7]
       · simp +decide only [ja1, reduceIte, je4]
       · simp +decide only [ja1, reduceIte]; rfl
       · simp +decide only [↓uR.o, dG.o, ↓ja0 l8]
         rw [← hF, jb0 (l := [.bool true]) (by simp +decide [Tryz.f10, resE, ja1])]
         rfl
 obtain ⟨R0, m1, m2⟩ := main
 exact m1.trans m2
section
variable {K : Kf} {N : Nat} {Q : R → Prop} {k : KOE} {H : Heap}
end
theorem yo1 {H : Heap} {q : Nat} {o : List UInt8} {c : Nat} (h : H.get q = some (rowL o)) {n k : Nat} (hk : k ≤ c) : sliceOpA PP 22 (.slice (some ⟨q, 0, none⟩) n c) none (some (.int .i64 (k : Int))) none H = some (.slice (some ⟨q, 0, none⟩) k c) := by
 have hl : look H ⟨q, 0, none⟩ = some (rowL o) := by simp only [look, h]; rfl
 have e : (⟨q, 0, none⟩ : Addr).add 0 = ⟨q, 0, none⟩ := rfl
 simp only [sliceOpA, und34, size5, sliceA, hl]
 rw [if_pos ⟨by omega, by omega, by omega⟩]
 simp [rowL, e]
theorem j3h {P : Program} {t : TypeId} {x y : Operand} {i : IntKind} {a b : Int} (h : b ≠ 0) : binA P .rem t x y (.int i a) (.int i b) = some (.int i (a.tmod b)) := by simp [binA, ground, atomic, eqGuard, binOp, Op.intDiv, h]; rfl
noncomputable abbrev cWB1 : Code := .seq (.seq (rF Tryz.f16 2) (.cond (.tmp 10) .skip (.exit 0))) (.block 1 (.seq (rF Tryz.f16 3) (rF Tryz.f16 4)))
theorem yg4 (x : Int) (H : Heap) : convertA PP 40 5 (.int .u64 x) H = some (.int .u8 (IntKind.u8.wrap x), H) := by kernel_rfl
def digU (n : Nat) : UInt8 := UInt8.ofNat (48 + n % 10)
theorem yo2 (n : Nat) : (digU n).toNat = 48 + n % 10 := by
 have : 48 + n % 10 < 256 := by omega
 simp [digU]; omega
def numD (n : Nat) (w : List UInt8) : List UInt8 := if n = 0 ∧ w ≠ [] then w else Lib.decDigits n ++ w
theorem yg5 {n : Nat} {w : List UInt8} (h : 0 < n ∨ w = []) : numD (n / 10) (digU n :: w) = numD n w := by
 have hc : ¬ (n = 0 ∧ w ≠ []) := fun ⟨a, b⟩ => by rcases h with h | h; omega; exact b h
 unfold numD
 rw [if_neg hc]
 by_cases h10 : n < 10
 · rw [if_pos ⟨by omega, by simp⟩, Lib.decDigits_one h10]
   show UInt8.ofNat (48 + n % 10) :: w = UInt8.ofNat (48 + n) :: w
   rw [Nat.mod_eq_of_lt h10]
 · rw [if_neg (fun q => by omega)]
   have e : Lib.decDigits n = Lib.decDigits (n / 10) ++ [UInt8.ofNat (48 + n % 10)] := by rw [Lib.decDigits, dif_neg h10]
   rw [e, List.append_assoc]
   rfl
theorem code16 : codeOf Tryz.f16 = .seq (rF Tryz.f16 0) (.seq (rF Tryz.f16 1) (.seq (.block 0 (.loop cWB1)) (.seq (rF Tryz.f16 5) .ret))) := by kernel_rfl
theorem j3i : ((rgn Tryz.f16 2)[2]?).bind (·.dst) = some 6 := by kernel_rfl
section
variable {K : Kf} {N : Nat} {G0 : Heap} {Q : R → Prop} {k : KOE}
theorem yg6 (hG0 : Fresh G0) :
   ∀ (f n m : Nat) (w : List UInt8) (_ : n < 10 ^ f) (_ : n < 18446744073709551616) (_ : w ≠ [] ∨ 0 < f) (_ : w.length + f ≤ 40) (_ : f < m) {E : Env} {H : Heap} {v : Value} (_ : E 0 = .int .u64 (n : Int)) (_ : E 3 = v) (_ : Ext G0 H ∧ BRow H v w G0.next)
     (_ : ∀ E' H' v', E' 3 = v' → Ext G0 H' → BRow H' v' (numD n w) G0.next → Q (k (.exit 0) E' [] H')), Q (loopE (execG PP XX K N noPr cWB1 none) m E [] H k)
 | f, n, m + 1, w, hn, h64, hw, hl, hm, E, H, v, e0, e3, hB, hx => by
   rw [ja5]
   obtain ⟨hE, hB⟩ := hB
   obtain ⟨a, rfl, hb⟩ := hB.brow (by omega)
   by_cases go : 0 < n ∨ w = []
   · obtain ⟨g, rfl⟩ : ∃ g, f = g + 1 := by
       refine ⟨f - 1, ?_⟩
       rcases go with c | c
       · have : f ≠ 0 := fun e => by rw [e] at hn; simp at hn; omega
         omega
       · rcases hw with d | d
         · exact absurd c d
         · omega
     have x1 : Ext H (H.alloc 1 [.int .u8 ((digU n).toNat : Int)]) := Ext.alloc hE.fresh 1 _
     have r1 : BRow (H.alloc 1 [.int .u8 ((digU n).toNat : Int)]) (.slice (some ⟨H.next, 0, none⟩) 1 1) [digU n] G0.next := .inr ⟨by simp, H.next, rfl, by rw [Heap.get_alloc, if_pos rfl]; rfl, hE.next⟩
     have hsrc := yv8 (c := w.length) (hb.ext x1)
     obtain ⟨v', H', q1, q2, q3, q4, q5⟩ := jp8 (u := 22) r1 x1.fresh (Nat.le_trans hE.next x1.next) (.inl ⟨_, und34⟩) hsrc (by simp only [List.length_cons, List.length_nil]; omega)
     have xR : Ext G0 H' := ⟨Nat.le_trans hE.next (Nat.le_trans x1.next q4), fun z y hy => q3 z y (js7 hG0 hy) (x1.keep z y (hE.keep z y hy)), q5⟩
     have hw1 : IntKind.u64.wrap (48 + ((n % 10 : Nat) : Int)) = ((48 + n % 10 : Nat) : Int) := by rw [jd9 (by omega) (by omega)]; omega
     have hr : Int.tmod (n : Int) 10 = ((n % 10 : Nat) : Int) := by rw [Int.tmod_eq_emod_of_nonneg (by omega)]; omega
     have hw2 : IntKind.u8.wrap ((48 + n % 10 : Nat) : Int) = ((digU n).toNat : Int) := by rw [yo2]; exact ju3 (by omega) (by omega)
     have hq : IntKind.u64.wrap (Int.tdiv (n : Int) 10) = ((n / 10 : Nat) : Int) := by rw [Int.tdiv_eq_ediv_of_nonneg (by omega), jd9 (by omega) (by omega)]; omega
     have hns := yg5 go
     have hd10 : n / 10 < 10 ^ g := by rw [Nat.pow_succ] at hn; omega
     have d10 : (10 : Int) ≠ 0 := by decide
     have lL := lX3 Tryz.f16 2 3 4
     conv at lL in (occs := *) (rq _ _) => all_goals simp only [rX, oA, Tryz.f16, dL.o, reduceIte, Nat.reduceEqDiff]
     obtain ⟨l2, l3, l4⟩ := lL
     by_cases c0 : 0 < n
     · have g0 : decide ((n : Int) > 0) = true := decide_eq_true (by omega)
       simp +decide only [↓uR.o, dG.o, ja1, reduceIte, Bool.not_false, ↓ja0 l2, ↓ja0 l3, ↓ja0 l4, ↓r_no _ 2 false 6 _ j3i, e0, e3, g0, j3h d10, jk9 d10, hr, hw1, yg4, hw2, bslice1, jc3, q1, hq]
       exact yg6 hG0 g (n / 10) m (digU n :: w) hd10 (by omega) (.inl (by simp)) (by simp only [List.length_cons]; omega) (by omega) (by simp +decide only [ja1, reduceIte, e0]) (by simp +decide only [ja1, reduceIte, e3]) ⟨xR, q2⟩ fun E' H' v' a1 a2 a3 => hx E' H' v' a1 a2 (by rw [← hns]; exact a3)
     · have g0 : decide ((n : Int) > 0) = false := decide_eq_false (by omega)
       have hw0 : w = [] := by rcases go with c | c; exact absurd c c0; exact c
       have gl : (((w.length : Nat) : Int) == 0) = true := by rw [hw0]; rfl
       simp +decide only [↓uR.o, dG.o, ja1, reduceIte, ↓ja0 l2, ↓ja0 l3, ↓ja0 l4, ↓jb8 _ 2 false 6 _ j3i, e0, e3, g0, ja6 (ts := #[22]) rfl und34, gl, j3h d10, jk9 d10, hr, hw1, yg4, hw2, bslice1, jc3, q1, hq]
       exact yg6 hG0 g (n / 10) m (digU n :: w) hd10 (by omega) (.inl (by simp)) (by simp only [List.length_cons]; omega) (by omega) (by simp +decide only [ja1, reduceIte, e0]) (by simp +decide only [ja1, reduceIte, e3]) ⟨xR, q2⟩ fun E' H' v' a1 a2 a3 => hx E' H' v' a1 a2 (by rw [← hns]; exact a3)
   · have n0 : n = 0 := by omega
     have hne : w ≠ [] := fun e => go (.inr e)
     have g0 : decide ((n : Int) > 0) = false := decide_eq_false (by omega)
     have gl : (((w.length : Nat) : Int) == 0) = false := by
       rw [Bool.eq_false_iff]; intro c; rw [beq_iff_eq] at c
       exact hne (List.length_eq_zero_iff.mp (by omega))
     have hnd : numD n w = w := by unfold numD; rw [if_pos ⟨n0, hne⟩]
     have l2 := tl (rgn Tryz.f16 2)
     conv at l2 => rhs; simp only [rgn, oA, codeOf, Tryz.f16, gS, gN, reduceIte, Nat.reduceEqDiff, tA]
     simp +decide only [↓uR.o, dG.o, ja1, reduceIte, ↓ja0 l2, ↓jb8 _ 2 false 6 _ j3i, e0, e3, g0, ja6 (ts := #[22]) rfl und34, gl]
     exact hx _ _ (.slice a w.length w.length) (by simp +decide only [ja1, reduceIte, e3]) hE (by rw [hnd]; exact hB)
end
theorem yg7 {N : Nat} {hk : Hook} {d : Nat} {n : Nat} {H : Heap} (hh : NH hk) (hG : Ext GE H) (hn : n < 18446744073709551616) (hN : 100 < N) :
   ∃ v H', Ext H H' ∧ BRow H' v (Lib.decDigits n) H.next ∧ CG N hk (d + 1) 16 #[.int .u64 (n : Int)] H = some (.ret v, H') := by
 have main : ∃ R0 : R, CG N hk (d + 1) 16 #[.int .u64 (n : Int)] H = R0 ∧ ∃ v H', (Ext H H' ∧ BRow H' v (Lib.decDigits n) H.next) ∧ R0 = some (.ret v, H') := by
   refine ⟨_, jb6 (hh _ _ _ rfl) Tryz.func16 (c := codeOf Tryz.f16) rfl rfl rfl (pr := noPr) rfl, ?_⟩
   rw [code16]
   generalize hF : finE PP Tryz.f16 = F
   have self : Ext H H := ⟨Nat.le_refl _, fun _ _ h => h, hG.fresh⟩
   have lL := lX3 Tryz.f16 0 1 5
   conv at lL in (occs := *) (rq _ _) => all_goals simp only [rX, oA, Tryz.f16, dL.o, reduceIte, Nat.reduceEqDiff]
   obtain ⟨l0, l1, l5⟩ := lL
   simp +decide only [↓uR.o, dG.o, ↓ja0 l0, ↓ja0 l1, ↓jb4]
   refine yg6 (G0 := H) (Q := fun r => ∃ v H', (Ext H H' ∧ BRow H' v (Lib.decDigits n) H.next) ∧ r = some (.ret v, H')) hG.fresh 20 n N [] (by omega) hn (.inr (by decide)) (by decide) (by omega) (v := .slice none 0 0) ?_ ?_ ⟨self, .inl ⟨rfl, rfl⟩⟩ (fun E' H' v' e3 x2 r2 => ?_)
   · simp +decide only [ja1, reduceIte, jc7]
   · simp +decide only [ja1, reduceIte]
   have hnd : numD n [] = Lib.decDigits n := by unfold numD; rw [if_neg (fun q => q.2 rfl), List.append_nil]
   rw [hnd] at r2
   refine ⟨v', H', ⟨x2, r2⟩, ?_⟩
   simp +decide only [↓uR.o, dG.o, ja1, reduceIte, ↓ja0 l5, e3]
   rw [← hF, jb0 (l := [v']) (by simp +decide [Tryz.f16, resE, ja1])]
   rfl
 obtain ⟨R0, m1, v, H', ⟨m2, m3⟩, m4⟩ := main
 exact ⟨v, H', m2, m3, m1.trans m4⟩
noncomputable abbrev cBA2 : Code := .seq (.seq (rF Tryz.f17 3) (.cond (.tmp 56) .skip (.exit 0))) (.block 1 (.seq (rT Tryz.f17 4) (.seq (rT Tryz.f17 5) (.seq (rF Tryz.f17 6) (rF Tryz.f17 7)))))
noncomputable abbrev cBA1 : Code := .seq (.seq (rF Tryz.f11 3) (.cond (.tmp 56) .skip (.exit 0))) (.block 1 (.seq (rT Tryz.f11 4) (.seq (rT Tryz.f11 5) (.seq (rF Tryz.f11 6) (rF Tryz.f11 7)))))
def bkB (V W : Value) (h : Int) : Blk := ⟨[V, W, .int .i64 h, .bool false], true, 1, none, false⟩
def SlR (H : Heap) (r o : Nat) (vs : List Value) : Prop := ∃ pre : List Value, pre.length = o ∧ H.get r = some ⟨pre ++ vs, true, 1, none, false⟩
theorem jx9 {P : Program} {ts : Array TypeId} {t : TypeId} {x v : Value} {H : Heap} {k : Value → Heap → R} (ht : ts[0]? = some t) (h : capA P t x H = some v) : builtinK P .cap ts #[x] H k = k v H := by
 simp [builtinK, ht, h, bindO]
def Off (b : Nat) (H0 H : Heap) : Prop := H.next = H0.next ∧ ∀ z, z ≠ b → H.get z = H0.get z
theorem Off.set {b : Nat} {H0 H : Heap} (h : Off b H0 H) (x : Blk) : Off b H0 (H.set b x) := ⟨h.1, fun z hz => by rw [Heap.get_set, if_neg hz]; exact h.2 z hz⟩
theorem SlR.off {b : Nat} {H0 H : Heap} (h : Off b H0 H) {r o : Nat} {vs : List Value} (hr : r ≠ b) (l : SlR H0 r o vs) : SlR H r o vs := by
 obtain ⟨pre, h1, h2⟩ := l
 exact ⟨pre, h1, by rw [h.2 r hr]; exact h2⟩
theorem SlR.next {H : Heap} {r o : Nat} {v : Value} {vs : List Value} (l : SlR H r o (v :: vs)) : SlR H r (o + 1) vs := by
 obtain ⟨pre, h1, h2⟩ := l
 exact ⟨pre ++ [v], by simp [h1], by simpa using h2⟩
theorem bl2 {H : Heap} {b : Nat} {V W : Value} {h : Int} (g : H.get b = some (bkB V W h)) : loadA PP 3 (.pointer (some ⟨b, 2, none⟩)) H = some (.int .i64 h, H) := by
 have a : aggT PP 3 = some false := by kernel_rfl
 simp only [loadA, a]; simp [ld1, look, g, bkB]
theorem bl3 {H : Heap} {b : Nat} {V W : Value} {h : Int} (g : H.get b = some (bkB V W h)) : loadA PP 4 (.pointer (some ⟨b, 3, none⟩)) H = some (.bool false, H) := by
 have a : aggT PP 4 = some false := by kernel_rfl
 simp only [loadA, a]; simp [ld1, look, g, bkB]
theorem bs2 {H : Heap} {b : Nat} {V W : Value} {h : Int} (g : H.get b = some (bkB V W h)) (h' : Int) : storeA PP 3 (.pointer (some ⟨b, 2, none⟩)) (.int .i64 h') H = some (undef, H.set b (bkB V W h')) := by
 have a : sizeT PP 3 = some 1 := by kernel_rfl
 simp only [storeA, a, stV]; simp [Value.cells, st, look, g, bkB, over, Value.oneCell']
theorem bs3 {H : Heap} {b : Nat} {V W : Value} {h : Int} (g : H.get b = some (bkB V W h)) : storeA PP 4 (.pointer (some ⟨b, 3, none⟩)) (.bool false) H = some (undef, H.set b (bkB V W h)) := by
 have a : sizeT PP 4 = some 1 := by kernel_rfl
 simp only [storeA, a, stV]; simp [Value.cells, st, look, g, bkB, over, Value.oneCell']
theorem code11 : codeOf Tryz.f11 = .seq (rF Tryz.f11 0) (.seq (rT Tryz.f11 1) (.seq (rF Tryz.f11 2) (.block 0 (.loop cBA1)))) := by kernel_rfl
theorem jz7 : ((rgn Tryz.f11 3)[6]?).bind (·.dst) = some 42 := by kernel_rfl
theorem ju9 : ((rgn Tryz.f11 3)[12]?).bind (·.dst) = some 48 := by kernel_rfl
theorem j7s : ((rgn Tryz.f11 4)[5]?).bind (·.dst) = some 62 := by kernel_rfl
theorem bf0T (b : Nat) : fieldAddrA PP 30 (.pointer (some ⟨b, 0, none⟩)) 0 = some (.pointer (some ⟨b, 0, none⟩)) := by kernel_rfl
theorem bf1T (b : Nat) : fieldAddrA PP 30 (.pointer (some ⟨b, 0, none⟩)) 1 = some (.pointer (some ⟨b, 1, none⟩)) := by kernel_rfl
theorem bf2T (b : Nat) : fieldAddrA PP 30 (.pointer (some ⟨b, 0, none⟩)) 2 = some (.pointer (some ⟨b, 2, none⟩)) := by kernel_rfl
theorem bf3T (b : Nat) : fieldAddrA PP 30 (.pointer (some ⟨b, 0, none⟩)) 3 = some (.pointer (some ⟨b, 3, none⟩)) := by kernel_rfl
theorem undLT : PP.underlying 28 = some (.slice 33) := by kernel_rfl
theorem aggLT : aggT PP 28 = some false := by kernel_rfl
theorem sizeLT : sizeT PP 28 = some 1 := by kernel_rfl
theorem aggRT : aggT PP 33 = some false := by kernel_rfl
theorem sizeRT : sizeT PP 33 = some 1 := by kernel_rfl
theorem bl0T {H : Heap} {b : Nat} {V W : Value} {h : Int} (g : H.get b = some (bkB V W h)) : loadA PP 28 (.pointer (some ⟨b, 0, none⟩)) H = some (V, H) := by
 simp only [loadA, aggLT]; simp [ld1, look, g, bkB]
theorem bl1T {H : Heap} {b : Nat} {V W : Value} {h : Int} (g : H.get b = some (bkB V W h)) : loadA PP 28 (.pointer (some ⟨b, 1, none⟩)) H = some (W, H) := by
 simp only [loadA, aggLT]; simp [ld1, look, g, bkB]
theorem bs0T {H : Heap} {b : Nat} {V W : Value} {h : Int} (g : H.get b = some (bkB V W h)) (a : Option Addr) (n c : Nat) : storeA PP 28 (.pointer (some ⟨b, 0, none⟩)) (.slice a n c) H = some (undef, H.set b (bkB (.slice a n c) W h)) := by
 simp only [storeA, sizeLT, stV]; simp [Value.cells, st, look, g, bkB, over, Value.oneCell']
theorem bs1T {H : Heap} {b : Nat} {V W : Value} {h : Int} (g : H.get b = some (bkB V W h)) (a : Option Addr) (n c : Nat) : storeA PP 28 (.pointer (some ⟨b, 1, none⟩)) (.slice a n c) H = some (undef, H.set b (bkB V (.slice a n c) h)) := by
 simp only [storeA, sizeLT, stV]; simp [Value.cells, st, look, g, bkB, over, Value.oneCell']
theorem ix0T (r o n c : Nat) (h : 0 < n) : indexAddrA PP 28 (.slice (some ⟨r, o, none⟩) n c) (.int .i64 0) = some (.pointer (some ⟨r, o, none⟩)) := by
 have e : at_ ⟨r, o, none⟩ n 1 0 = some (.pointer (some ⟨r, o, none⟩)) := by simp [at_, Addr.add, h]
 simp only [indexAddrA, undLT, sizeRT]; exact e
theorem lr0T {H : Heap} {r o : Nat} {v : Value} {vs : List Value} (h : SlR H r o (v :: vs)) : loadA PP 33 (.pointer (some ⟨r, o, none⟩)) H = some (v, H) := by
 obtain ⟨pre, h1, h2⟩ := h
 simp only [loadA, aggRT]
 simp [ld1, look, h2, ← h1]
theorem sl1T {H : Heap} {r o n : Nat} {vs : List Value} (h : SlR H r o vs) (hn : 1 ≤ n) : sliceOpA PP 28 (.slice (some ⟨r, o, none⟩) n n) (some (.int .i64 1)) none none H = some (.slice (some ⟨r, o + 1, none⟩) (n - 1) (n - 1)) := by
 obtain ⟨pre, h1, h2⟩ := h
 have e : (1 : Int) ≤ (n : Int) := by omega
 simp only [sliceOpA, undLT, sizeRT, sliceA]
 rw [if_pos ⟨by omega, e, Int.le_refl _⟩]
 simp only [look, h2]
 have e2 : ((n : Int) - 1).toNat = n - 1 := by omega
 simp [Addr.add, e2]
section
variable {K : Kf} {N : Nat} {Q : R → Prop} {k : KOE}
theorem j7t {b r1 r2 : Nat} {H0 : Heap} (h1b : r1 ≠ b) (h2b : r2 ≠ b) : ∀ (n : Nat) (vs ws : List Value) (_ : vs.length = n) (_ : ws.length = n) (m : Nat) (_ : n < m) (_ : 1 ≤ n) (_ : n ≤ 140737488355000)
   {H : Heap} {E : Env} {o1 o2 : Nat} {h : Int} (_ : Off b H0 H) (_ : E 0 = .pointer (some ⟨b, 0, none⟩)) (_ : H.get b = some (bkB (.slice (some ⟨r1, o1, none⟩) n n) (.slice (some ⟨r2, o2, none⟩) n n) h)) (_ : SlR H0 r1 o1 vs) (_ : SlR H0 r2 o2 ws)
   (_ : ∀ v ∈ vs, ∃ c : Int, ∀ G, Off b H0 G → capA PP 33 v G = some (.int .i64 c)) (_ : ∀ (i : Nat) (v w : Value), vs[i]? = some v → ws[i]? = some w → ∀ G, Off b H0 G → K 10 #[v, w] G = some (.ret (.bool true), G))
   (_ : ∀ E' G j h', j < n → n - j ≤ 4000 → Off b H0 G → G.get b = some (bkB (.slice (some ⟨r1, o1 + j, none⟩) (n - j) (n - j)) (.slice (some ⟨r2, o2 + j, none⟩) (n - j) (n - j)) h') → Q (k (.exit 0) E' [] G)),
   Q (loopE (execG PP XX K N prK cBA1 none) m E [] H k)
 | n, vs, ws, hv, hw, m + 1, hm, hn, hb, H, E, o1, o2, h, off, e0, g, l1, l2, hc, hs, hx => by
   rw [ja5]
   have out : n ≤ 4000 → ∀ E', Q (k (.exit 0) E' [] H) := fun hle E' => hx E' H 0 h hn hle off (by simpa using g)
   have l3 := tl (rgn Tryz.f11 3)
   conv at l3 => rhs; simp only [rgn, oA, codeOf, Tryz.f11, gS, gN, reduceIte, Nat.reduceEqDiff, tA]
   by_cases c1 : 1 < n
   · have d1 : decide (((n : Nat) : Int) > 1) = true := decide_eq_true (by omega)
     obtain ⟨v, vs, rfl⟩ : ∃ v l, vs = v :: l := by cases vs with | nil => simp at hv; omega | cons v l => exact ⟨v, l, rfl⟩
     obtain ⟨w, ws, rfl⟩ : ∃ v l, ws = v :: l := by cases ws with | nil => simp at hw; omega | cons v l => exact ⟨v, l, rfl⟩
     obtain ⟨c, hcap⟩ := hc v (List.mem_cons_self ..)
     have hsm := fun G hG => hs 0 v w rfl rfl G hG
     have f1 := off.set (bkB (.slice (some ⟨r1, o1, none⟩) n n) (.slice (some ⟨r2, o2, none⟩) n n) h)
     have f2 := f1.set (bkB (.slice (some ⟨r1, o1, none⟩) n n) (.slice (some ⟨r2, o2, none⟩) n n) (IntKind.i64.wrap (IntKind.i64.wrap (h - c) - 1)))
     have f3 := f2.set (bkB (.slice (some ⟨r1, o1 + 1, none⟩) (n - 1) (n - 1)) (.slice (some ⟨r2, o2, none⟩) n n) (IntKind.i64.wrap (IntKind.i64.wrap (h - c) - 1)))
     have f4 := f3.set (bkB (.slice (some ⟨r1, o1 + 1, none⟩) (n - 1) (n - 1)) (.slice (some ⟨r2, o2 + 1, none⟩) (n - 1) (n - 1)) (IntKind.i64.wrap (IntKind.i64.wrap (h - c) - 1)))
     have g1 := jc6 H b (bkB (.slice (some ⟨r1, o1, none⟩) n n) (.slice (some ⟨r2, o2, none⟩) n n) h)
     have g2 := jc6 (H.set b (bkB (.slice (some ⟨r1, o1, none⟩) n n) (.slice (some ⟨r2, o2, none⟩) n n) h)) b (bkB (.slice (some ⟨r1, o1, none⟩) n n) (.slice (some ⟨r2, o2, none⟩) n n) (IntKind.i64.wrap (IntKind.i64.wrap (h - c) - 1)))
     have g3 := jc6 ((H.set b (bkB (.slice (some ⟨r1, o1, none⟩) n n) (.slice (some ⟨r2, o2, none⟩) n n) h)).set b (bkB (.slice (some ⟨r1, o1, none⟩) n n) (.slice (some ⟨r2, o2, none⟩) n n) (IntKind.i64.wrap (IntKind.i64.wrap (h - c) - 1)))) b (bkB (.slice (some ⟨r1, o1 + 1, none⟩) (n - 1) (n - 1)) (.slice (some ⟨r2, o2, none⟩) n n) (IntKind.i64.wrap (IntKind.i64.wrap (h - c) - 1)))
     have g4 := jc6 (((H.set b (bkB (.slice (some ⟨r1, o1, none⟩) n n) (.slice (some ⟨r2, o2, none⟩) n n) h)).set b (bkB (.slice (some ⟨r1, o1, none⟩) n n) (.slice (some ⟨r2, o2, none⟩) n n) (IntKind.i64.wrap (IntKind.i64.wrap (h - c) - 1)))).set b (bkB (.slice (some ⟨r1, o1 + 1, none⟩) (n - 1) (n - 1)) (.slice (some ⟨r2, o2, none⟩) n n) (IntKind.i64.wrap (IntKind.i64.wrap (h - c) - 1)))) b (bkB (.slice (some ⟨r1, o1 + 1, none⟩) (n - 1) (n - 1)) (.slice (some ⟨r2, o2 + 1, none⟩) (n - 1) (n - 1)) (IntKind.i64.wrap (IntKind.i64.wrap (h - c) - 1)))
     have hsl1 := sl1T (n := n) (SlR.off f2 h1b l1) hn
     have hsl2 := sl1T (n := n) (SlR.off f3 h2b l2) hn
     have again : ∀ E', E' 0 = .pointer (some ⟨b, 0, none⟩) → Q (loopE (execG PP XX K N prK cBA1 none) m E' [] ((((H.set b (bkB (.slice (some ⟨r1, o1, none⟩) n n) (.slice (some ⟨r2, o2, none⟩) n n) h)).set b (bkB (.slice (some ⟨r1, o1, none⟩) n n) (.slice (some ⟨r2, o2, none⟩) n n) (IntKind.i64.wrap (IntKind.i64.wrap (h - c) - 1)))).set b (bkB (.slice (some ⟨r1, o1 + 1, none⟩) (n - 1) (n - 1)) (.slice (some ⟨r2, o2, none⟩) n n) (IntKind.i64.wrap (IntKind.i64.wrap (h - c) - 1)))).set b (bkB (.slice (some ⟨r1, o1 + 1, none⟩) (n - 1) (n - 1)) (.slice (some ⟨r2, o2 + 1, none⟩) (n - 1) (n - 1)) (IntKind.i64.wrap (IntKind.i64.wrap (h - c) - 1)))) k) := fun E' e' =>
       j7t h1b h2b (n - 1) vs ws (by simp at hv; omega) (by simp at hw; omega) m (by omega) (by omega) (by omega) f4 e' g4 l1.next l2.next (fun x hx2 => hc x (List.mem_cons_of_mem _ hx2))
         (fun i x y p1 p2 G hG => hs (i + 1) x y (by simpa using p1) (by simpa using p2) G hG) (fun E2 G j h' hj hle hG hg => hx E2 G (j + 1) h' (by omega) (by omega) hG (by
           rw [hg]
           have a1 : o1 + 1 + j = o1 + (j + 1) := by omega
           have a2 : o2 + 1 + j = o2 + (j + 1) := by omega
           have a3 : n - 1 - j = n - (j + 1) := by omega
           rw [a1, a2, a3]))
     have hcp := fun kk => jx9 (ts := #[33]) (k := kk) rfl (hcap _ f1)
     by_cases c2 : h > 1000000
     · have d2 : decide (h > 1000000) = true := decide_eq_true c2
       have lL := lX4 Tryz.f11 4 5 6 7
       conv at lL in (occs := *) (rq _ _) => all_goals simp only [rX, oA, Tryz.f11, dL.o, reduceIte, Nat.reduceEqDiff]
       obtain ⟨l4, l5, l6, l7⟩ := lL
       simp +decide only [↓uG.o, ↓jb9, ↓jh0, dG.o, ja1, jb1, reduceIte, Bool.not_false, ↓ja0 l3, ↓ja0 l4, ↓ja0 l5, ↓ja0 l6, ↓ja0 l7, ↓jb8 _ 6 true 42 _ jz7, ↓r_no _ 12 false 48 _ ju9, ↓jb8 _ 5 false 62 _ j7s, prK, List.isEmpty_nil, e0, Option.map_some, Option.map_none, bf0T, bf1T, bf2T, bf3T, bl0T g, bl0T g1, bl0T g2, bl1T g, bl1T g3, bl2 g, bl2 g1, bl3 g, bs3 g, bs2 g1, bs0T g2, bs1T g3, ix0T _ _ _ _ hn, lr0T (SlR.off f1 h1b l1), lr0T (SlR.off off h1b l1), lr0T (SlR.off off h2b l2), ja6 (ts := #[28]) rfl undLT, d1, d2, hcp, hsl1, hsl2, ja3 Tryz.func10 rfl rfl (hsm _ off), jq8]
       exact again _ (by simp +decide only [ja1, reduceIte, e0])
     · have d2 : decide (h > 1000000) = false := decide_eq_false c2
       by_cases c3 : 4000 < n
       · have d3 : decide (((n : Nat) : Int) > 4000) = true := decide_eq_true (by omega)
         have lL := lX4 Tryz.f11 4 5 6 7
         conv at lL in (occs := *) (rq _ _) => all_goals simp only [rX, oA, Tryz.f11, dL.o, reduceIte, Nat.reduceEqDiff]
         obtain ⟨l4, l5, l6, l7⟩ := lL
         simp +decide only [↓uG.o, ↓jb9, ↓jh0, dG.o, ja1, jb1, reduceIte, ↓ja0 l3, ↓ja0 l4, ↓ja0 l5, ↓ja0 l6, ↓ja0 l7, ↓jb8 _ 6 true 42 _ jz7, ↓jb8 _ 12 false 48 _ ju9, ↓jb8 _ 5 false 62 _ j7s, prK, List.isEmpty_nil, e0, Option.map_some, Option.map_none, bf0T, bf1T, bf2T, bf3T, bl0T g, bl0T g1, bl0T g2, bl1T g, bl1T g3, bl2 g, bl2 g1, bl3 g, bs3 g, bs2 g1, bs0T g2, bs1T g3, ix0T _ _ _ _ hn, lr0T (SlR.off f1 h1b l1), lr0T (SlR.off off h1b l1), lr0T (SlR.off off h2b l2), ja6 (ts := #[28]) rfl undLT, d1, d2, d3, hcp, hsl1, hsl2, ja3 Tryz.func10 rfl rfl (hsm _ off), jq8]
         exact again _ (by simp +decide only [ja1, reduceIte, e0])
       · have d3 : decide (((n : Nat) : Int) > 4000) = false := decide_eq_false (by omega)
         simp +decide only [↓uG.o, ↓jb9, dG.o, ja1, reduceIte, ↓ja0 l3, ↓jb8 _ 6 true 42 _ jz7, ↓jb8 _ 12 false 48 _ ju9, e0, bf0T, bf2T, bl0T g, bl2 g, ja6 (ts := #[28]) rfl undLT, d1, d2, d3]
         exact out (by omega) _
   · have d1 : decide (((n : Nat) : Int) > 1) = false := decide_eq_false (by omega)
     simp +decide only [↓uG.o, ↓jb9, dG.o, ja1, reduceIte, Bool.not_true, ↓ja0 l3, ↓r_no _ 6 true 42 _ jz7, ↓r_un _ 12 false 48 _ ju9, e0, bf0T, bl0T g, ja6 (ts := #[28]) rfl undLT, d1]
     exact out (by omega) _
end
theorem code17 : codeOf Tryz.f17 = .seq (rF Tryz.f17 0) (.seq (rT Tryz.f17 1) (.seq (rF Tryz.f17 2) (.block 0 (.loop cBA2)))) := by kernel_rfl
theorem jz8 : ((rgn Tryz.f17 3)[6]?).bind (·.dst) = some 42 := by kernel_rfl
theorem jv0 : ((rgn Tryz.f17 3)[12]?).bind (·.dst) = some 48 := by kernel_rfl
theorem j7u : ((rgn Tryz.f17 4)[5]?).bind (·.dst) = some 62 := by kernel_rfl
theorem bf0B (b : Nat) : fieldAddrA PP 32 (.pointer (some ⟨b, 0, none⟩)) 0 = some (.pointer (some ⟨b, 0, none⟩)) := by kernel_rfl
theorem bf1B (b : Nat) : fieldAddrA PP 32 (.pointer (some ⟨b, 0, none⟩)) 1 = some (.pointer (some ⟨b, 1, none⟩)) := by kernel_rfl
theorem bf2B (b : Nat) : fieldAddrA PP 32 (.pointer (some ⟨b, 0, none⟩)) 2 = some (.pointer (some ⟨b, 2, none⟩)) := by kernel_rfl
theorem bf3B (b : Nat) : fieldAddrA PP 32 (.pointer (some ⟨b, 0, none⟩)) 3 = some (.pointer (some ⟨b, 3, none⟩)) := by kernel_rfl
theorem undLB : PP.underlying 27 = some (.slice 22) := by kernel_rfl
theorem aggLB : aggT PP 27 = some false := by kernel_rfl
theorem sizeLB : sizeT PP 27 = some 1 := by kernel_rfl
theorem aggRB : aggT PP 22 = some false := by kernel_rfl
theorem sizeRB : sizeT PP 22 = some 1 := by kernel_rfl
theorem bl0B {H : Heap} {b : Nat} {V W : Value} {h : Int} (g : H.get b = some (bkB V W h)) : loadA PP 27 (.pointer (some ⟨b, 0, none⟩)) H = some (V, H) := by
 simp only [loadA, aggLB]; simp [ld1, look, g, bkB]
theorem bl1B {H : Heap} {b : Nat} {V W : Value} {h : Int} (g : H.get b = some (bkB V W h)) : loadA PP 27 (.pointer (some ⟨b, 1, none⟩)) H = some (W, H) := by
 simp only [loadA, aggLB]; simp [ld1, look, g, bkB]
theorem bs0B {H : Heap} {b : Nat} {V W : Value} {h : Int} (g : H.get b = some (bkB V W h)) (a : Option Addr) (n c : Nat) : storeA PP 27 (.pointer (some ⟨b, 0, none⟩)) (.slice a n c) H = some (undef, H.set b (bkB (.slice a n c) W h)) := by
 simp only [storeA, sizeLB, stV]; simp [Value.cells, st, look, g, bkB, over, Value.oneCell']
theorem bs1B {H : Heap} {b : Nat} {V W : Value} {h : Int} (g : H.get b = some (bkB V W h)) (a : Option Addr) (n c : Nat) : storeA PP 27 (.pointer (some ⟨b, 1, none⟩)) (.slice a n c) H = some (undef, H.set b (bkB V (.slice a n c) h)) := by
 simp only [storeA, sizeLB, stV]; simp [Value.cells, st, look, g, bkB, over, Value.oneCell']
theorem ix0B (r o n c : Nat) (h : 0 < n) : indexAddrA PP 27 (.slice (some ⟨r, o, none⟩) n c) (.int .i64 0) = some (.pointer (some ⟨r, o, none⟩)) := by
 have e : at_ ⟨r, o, none⟩ n 1 0 = some (.pointer (some ⟨r, o, none⟩)) := by simp [at_, Addr.add, h]
 simp only [indexAddrA, undLB, sizeRB]; exact e
theorem lr0B {H : Heap} {r o : Nat} {v : Value} {vs : List Value} (h : SlR H r o (v :: vs)) : loadA PP 22 (.pointer (some ⟨r, o, none⟩)) H = some (v, H) := by
 obtain ⟨pre, h1, h2⟩ := h
 simp only [loadA, aggRB]
 simp [ld1, look, h2, ← h1]
theorem sl1B {H : Heap} {r o n : Nat} {vs : List Value} (h : SlR H r o vs) (hn : 1 ≤ n) : sliceOpA PP 27 (.slice (some ⟨r, o, none⟩) n n) (some (.int .i64 1)) none none H = some (.slice (some ⟨r, o + 1, none⟩) (n - 1) (n - 1)) := by
 obtain ⟨pre, h1, h2⟩ := h
 have e : (1 : Int) ≤ (n : Int) := by omega
 simp only [sliceOpA, undLB, sizeRB, sliceA]
 rw [if_pos ⟨by omega, e, Int.le_refl _⟩]
 simp only [look, h2]
 have e2 : ((n : Int) - 1).toNat = n - 1 := by omega
 simp [Addr.add, e2]
section
variable {K : Kf} {N : Nat} {Q : R → Prop} {k : KOE}
theorem j7v {b r1 r2 : Nat} {H0 : Heap} (h1b : r1 ≠ b) (h2b : r2 ≠ b) : ∀ (n : Nat) (vs ws : List Value) (_ : vs.length = n) (_ : ws.length = n) (m : Nat) (_ : n < m) (_ : 1 ≤ n) (_ : n ≤ 140737488355000)
   {H : Heap} {E : Env} {o1 o2 : Nat} {h : Int} (_ : Off b H0 H) (_ : E 0 = .pointer (some ⟨b, 0, none⟩)) (_ : H.get b = some (bkB (.slice (some ⟨r1, o1, none⟩) n n) (.slice (some ⟨r2, o2, none⟩) n n) h)) (_ : SlR H0 r1 o1 vs) (_ : SlR H0 r2 o2 ws)
   (_ : ∀ v ∈ vs, ∃ c : Int, ∀ G, Off b H0 G → capA PP 22 v G = some (.int .i64 c)) (_ : ∀ (i : Nat) (v w : Value), vs[i]? = some v → ws[i]? = some w → ∀ G, Off b H0 G → K 14 #[v, w] G = some (.ret (.bool true), G))
   (_ : ∀ E' G j h', j < n → n - j ≤ 4000 → Off b H0 G → G.get b = some (bkB (.slice (some ⟨r1, o1 + j, none⟩) (n - j) (n - j)) (.slice (some ⟨r2, o2 + j, none⟩) (n - j) (n - j)) h') → Q (k (.exit 0) E' [] G)),
   Q (loopE (execG PP XX K N prK cBA2 none) m E [] H k)
 | n, vs, ws, hv, hw, m + 1, hm, hn, hb, H, E, o1, o2, h, off, e0, g, l1, l2, hc, hs, hx => by
   rw [ja5]
   have out : n ≤ 4000 → ∀ E', Q (k (.exit 0) E' [] H) := fun hle E' => hx E' H 0 h hn hle off (by simpa using g)
   have l3 := tl (rgn Tryz.f17 3)
   conv at l3 => rhs; simp only [rgn, oA, codeOf, Tryz.f17, gS, gN, reduceIte, Nat.reduceEqDiff, tA]
   by_cases c1 : 1 < n
   · have d1 : decide (((n : Nat) : Int) > 1) = true := decide_eq_true (by omega)
     obtain ⟨v, vs, rfl⟩ : ∃ v l, vs = v :: l := by cases vs with | nil => simp at hv; omega | cons v l => exact ⟨v, l, rfl⟩
     obtain ⟨w, ws, rfl⟩ : ∃ v l, ws = v :: l := by cases ws with | nil => simp at hw; omega | cons v l => exact ⟨v, l, rfl⟩
     obtain ⟨c, hcap⟩ := hc v (List.mem_cons_self ..)
     have hsm := fun G hG => hs 0 v w rfl rfl G hG
     have f1 := off.set (bkB (.slice (some ⟨r1, o1, none⟩) n n) (.slice (some ⟨r2, o2, none⟩) n n) h)
     have f2 := f1.set (bkB (.slice (some ⟨r1, o1, none⟩) n n) (.slice (some ⟨r2, o2, none⟩) n n) (IntKind.i64.wrap (IntKind.i64.wrap (h - c) - 1)))
     have f3 := f2.set (bkB (.slice (some ⟨r1, o1 + 1, none⟩) (n - 1) (n - 1)) (.slice (some ⟨r2, o2, none⟩) n n) (IntKind.i64.wrap (IntKind.i64.wrap (h - c) - 1)))
     have f4 := f3.set (bkB (.slice (some ⟨r1, o1 + 1, none⟩) (n - 1) (n - 1)) (.slice (some ⟨r2, o2 + 1, none⟩) (n - 1) (n - 1)) (IntKind.i64.wrap (IntKind.i64.wrap (h - c) - 1)))
     have g1 := jc6 H b (bkB (.slice (some ⟨r1, o1, none⟩) n n) (.slice (some ⟨r2, o2, none⟩) n n) h)
     have g2 := jc6 (H.set b (bkB (.slice (some ⟨r1, o1, none⟩) n n) (.slice (some ⟨r2, o2, none⟩) n n) h)) b (bkB (.slice (some ⟨r1, o1, none⟩) n n) (.slice (some ⟨r2, o2, none⟩) n n) (IntKind.i64.wrap (IntKind.i64.wrap (h - c) - 1)))
     have g3 := jc6 ((H.set b (bkB (.slice (some ⟨r1, o1, none⟩) n n) (.slice (some ⟨r2, o2, none⟩) n n) h)).set b (bkB (.slice (some ⟨r1, o1, none⟩) n n) (.slice (some ⟨r2, o2, none⟩) n n) (IntKind.i64.wrap (IntKind.i64.wrap (h - c) - 1)))) b (bkB (.slice (some ⟨r1, o1 + 1, none⟩) (n - 1) (n - 1)) (.slice (some ⟨r2, o2, none⟩) n n) (IntKind.i64.wrap (IntKind.i64.wrap (h - c) - 1)))
     have g4 := jc6 (((H.set b (bkB (.slice (some ⟨r1, o1, none⟩) n n) (.slice (some ⟨r2, o2, none⟩) n n) h)).set b (bkB (.slice (some ⟨r1, o1, none⟩) n n) (.slice (some ⟨r2, o2, none⟩) n n) (IntKind.i64.wrap (IntKind.i64.wrap (h - c) - 1)))).set b (bkB (.slice (some ⟨r1, o1 + 1, none⟩) (n - 1) (n - 1)) (.slice (some ⟨r2, o2, none⟩) n n) (IntKind.i64.wrap (IntKind.i64.wrap (h - c) - 1)))) b (bkB (.slice (some ⟨r1, o1 + 1, none⟩) (n - 1) (n - 1)) (.slice (some ⟨r2, o2 + 1, none⟩) (n - 1) (n - 1)) (IntKind.i64.wrap (IntKind.i64.wrap (h - c) - 1)))
     have hsl1 := sl1B (n := n) (SlR.off f2 h1b l1) hn
     have hsl2 := sl1B (n := n) (SlR.off f3 h2b l2) hn
     have again : ∀ E', E' 0 = .pointer (some ⟨b, 0, none⟩) → Q (loopE (execG PP XX K N prK cBA2 none) m E' [] ((((H.set b (bkB (.slice (some ⟨r1, o1, none⟩) n n) (.slice (some ⟨r2, o2, none⟩) n n) h)).set b (bkB (.slice (some ⟨r1, o1, none⟩) n n) (.slice (some ⟨r2, o2, none⟩) n n) (IntKind.i64.wrap (IntKind.i64.wrap (h - c) - 1)))).set b (bkB (.slice (some ⟨r1, o1 + 1, none⟩) (n - 1) (n - 1)) (.slice (some ⟨r2, o2, none⟩) n n) (IntKind.i64.wrap (IntKind.i64.wrap (h - c) - 1)))).set b (bkB (.slice (some ⟨r1, o1 + 1, none⟩) (n - 1) (n - 1)) (.slice (some ⟨r2, o2 + 1, none⟩) (n - 1) (n - 1)) (IntKind.i64.wrap (IntKind.i64.wrap (h - c) - 1)))) k) := fun E' e' =>
       j7v h1b h2b (n - 1) vs ws (by simp at hv; omega) (by simp at hw; omega) m (by omega) (by omega) (by omega) f4 e' g4 l1.next l2.next (fun x hx2 => hc x (List.mem_cons_of_mem _ hx2))
         (fun i x y p1 p2 G hG => hs (i + 1) x y (by simpa using p1) (by simpa using p2) G hG) (fun E2 G j h' hj hle hG hg => hx E2 G (j + 1) h' (by omega) (by omega) hG (by
           rw [hg]
           have a1 : o1 + 1 + j = o1 + (j + 1) := by omega
           have a2 : o2 + 1 + j = o2 + (j + 1) := by omega
           have a3 : n - 1 - j = n - (j + 1) := by omega
           rw [a1, a2, a3]))
     have hcp := fun kk => jx9 (ts := #[22]) (k := kk) rfl (hcap _ f1)
     by_cases c2 : h > 1000000
     · have d2 : decide (h > 1000000) = true := decide_eq_true c2
       have lL := lX4 Tryz.f17 4 5 6 7
       conv at lL in (occs := *) (rq _ _) => all_goals simp only [rX, oA, Tryz.f17, dL.o, reduceIte, Nat.reduceEqDiff]
       obtain ⟨l4, l5, l6, l7⟩ := lL
       simp +decide only [↓uG.o, ↓jb9, ↓jh0, dG.o, ja1, jb1, reduceIte, Bool.not_false, ↓ja0 l3, ↓ja0 l4, ↓ja0 l5, ↓ja0 l6, ↓ja0 l7, ↓jb8 _ 6 true 42 _ jz8, ↓r_no _ 12 false 48 _ jv0, ↓jb8 _ 5 false 62 _ j7u, prK, List.isEmpty_nil, e0, Option.map_some, Option.map_none, bf0B, bf1B, bf2B, bf3B, bl0B g, bl0B g1, bl0B g2, bl1B g, bl1B g3, bl2 g, bl2 g1, bl3 g, bs3 g, bs2 g1, bs0B g2, bs1B g3, ix0B _ _ _ _ hn, lr0B (SlR.off f1 h1b l1), lr0B (SlR.off off h1b l1), lr0B (SlR.off off h2b l2), ja6 (ts := #[27]) rfl undLB, d1, d2, hcp, hsl1, hsl2, ja3 Tryz.func14 rfl rfl (hsm _ off), jq8]
       exact again _ (by simp +decide only [ja1, reduceIte, e0])
     · have d2 : decide (h > 1000000) = false := decide_eq_false c2
       by_cases c3 : 4000 < n
       · have d3 : decide (((n : Nat) : Int) > 4000) = true := decide_eq_true (by omega)
         have lL := lX4 Tryz.f17 4 5 6 7
         conv at lL in (occs := *) (rq _ _) => all_goals simp only [rX, oA, Tryz.f17, dL.o, reduceIte, Nat.reduceEqDiff]
         obtain ⟨l4, l5, l6, l7⟩ := lL
         simp +decide only [↓uG.o, ↓jb9, ↓jh0, dG.o, ja1, jb1, reduceIte, ↓ja0 l3, ↓ja0 l4, ↓ja0 l5, ↓ja0 l6, ↓ja0 l7, ↓jb8 _ 6 true 42 _ jz8, ↓jb8 _ 12 false 48 _ jv0, ↓jb8 _ 5 false 62 _ j7u, prK, List.isEmpty_nil, e0, Option.map_some, Option.map_none, bf0B, bf1B, bf2B, bf3B, bl0B g, bl0B g1, bl0B g2, bl1B g, bl1B g3, bl2 g, bl2 g1, bl3 g, bs3 g, bs2 g1, bs0B g2, bs1B g3, ix0B _ _ _ _ hn, lr0B (SlR.off f1 h1b l1), lr0B (SlR.off off h1b l1), lr0B (SlR.off off h2b l2), ja6 (ts := #[27]) rfl undLB, d1, d2, d3, hcp, hsl1, hsl2, ja3 Tryz.func14 rfl rfl (hsm _ off), jq8]
         exact again _ (by simp +decide only [ja1, reduceIte, e0])
       · have d3 : decide (((n : Nat) : Int) > 4000) = false := decide_eq_false (by omega)
         simp +decide only [↓uG.o, ↓jb9, dG.o, ja1, reduceIte, ↓ja0 l3, ↓jb8 _ 6 true 42 _ jz8, ↓jb8 _ 12 false 48 _ jv0, e0, bf0B, bf2B, bl0B g, bl2 g, ja6 (ts := #[27]) rfl undLB, d1, d2, d3]
         exact out (by omega) _
   · have d1 : decide (((n : Nat) : Int) > 1) = false := decide_eq_false (by omega)
     simp +decide only [↓uG.o, ↓jb9, dG.o, ja1, reduceIte, Bool.not_true, ↓ja0 l3, ↓r_no _ 6 true 42 _ jz8, ↓r_un _ 12 false 48 _ jv0, e0, bf0B, bl0B g, ja6 (ts := #[27]) rfl undLB, d1]
     exact out (by omega) _
end
theorem goodAllG : GoodG PP okC prS := by
 intro f fn c ho hf hc
 have go : ∀ g, PP.funcs[f]? = some g → goodG PP (prS f) g.ntmps (codeOf g) = true → goodG PP (prS f) fn.ntmps c = true := fun g hg h => by
   rw [hf] at hg
   obtain rfl := Option.some.inj hg
   simpa [codeOf, hc] using h
 simp only [okC, Bool.or_eq_true, beq_iff_eq] at ho
 rcases ho with ((((((((((((((((((((((((((((((((((((((((((rfl | rfl) | rfl) | rfl) | rfl) | rfl) | rfl) | rfl) | rfl) | rfl) | rfl) | rfl) | rfl) | rfl) | rfl) | rfl) | rfl) | rfl) | rfl) | rfl) | rfl) | rfl) | rfl) | rfl) | rfl) | rfl) | rfl) | rfl) | rfl) | rfl) | rfl) | rfl) | rfl) | rfl) | rfl) | rfl) | rfl) | rfl) | rfl) | rfl) | rfl) | rfl) | rfl) | rfl
 · exact go _ Tryz.func36 (by decide +kernel)
 · exact go _ Tryz.func43 (by decide +kernel)
 · exact go _ Tryz.func27 (by decide +kernel)
 · exact go _ Tryz.func28 (by decide +kernel)
 · exact go _ Tryz.func45 (by decide +kernel)
 · exact go _ Tryz.func47 (by decide +kernel)
 · exact go _ Tryz.func65 (by decide +kernel)
 · exact go _ Tryz.func8 (by decide +kernel)
 · exact go _ Tryz.func6 (by decide +kernel)
 · exact go _ Tryz.func24 (by decide +kernel)
 · exact go _ Tryz.func34 (by decide +kernel)
 · exact go _ Tryz.func44 (by decide +kernel)
 · exact go _ Tryz.func46 (by decide +kernel)
 · exact go _ Tryz.func63 (by decide +kernel)
 · exact go _ Tryz.func3 (by decide +kernel)
 · exact go _ Tryz.func5 (by decide +kernel)
 · exact go _ Tryz.func9 (by decide +kernel)
 · exact go _ Tryz.func10 (by decide +kernel)
 · exact go _ Tryz.func14 (by decide +kernel)
 · exact go _ Tryz.func22 (by decide +kernel)
 · exact go _ Tryz.func23 (by decide +kernel)
 · exact go _ Tryz.func29 (by decide +kernel)
 · exact go _ Tryz.func30 (by decide +kernel)
 · exact go _ Tryz.func49 (by decide +kernel)
 · exact go _ Tryz.func50 (by decide +kernel)
 · exact go _ Tryz.func52 (by decide +kernel)
 · exact go _ Tryz.func53 (by decide +kernel)
 · exact go _ Tryz.func54 (by decide +kernel)
 · exact go _ Tryz.func11 (by decide +kernel)
 · exact go _ Tryz.func12 (by decide +kernel)
 · exact go _ Tryz.func13 (by decide +kernel)
 · exact go _ Tryz.func15 (by decide +kernel)
 · exact go _ Tryz.func16 (by decide +kernel)
 · exact go _ Tryz.func17 (by decide +kernel)
 · exact go _ Tryz.func18 (by decide +kernel)
 · exact go _ Tryz.func19 (by decide +kernel)
 · exact go _ Tryz.func20 (by decide +kernel)
 · exact go _ Tryz.func21 (by decide +kernel)
 · exact go _ Tryz.func31 (by decide +kernel)
 · exact go _ Tryz.func32 (by decide +kernel)
 · exact go _ Tryz.func33 (by decide +kernel)
 · exact go _ Tryz.func55 (by decide +kernel)
 · exact go _ Tryz.func69 (by decide +kernel)
 · exact go _ Tryz.func71 (by decide +kernel)
end Go.Am
namespace Go.Am
variable {H H' : Heap} {V v w : Value} {vs cs : List Value} {n : Nat}
def isSl : Value → Bool | .slice _ _ _ => true | _ => false
def plainB (x : Blk) : Bool := x.ex || (!x.cells.isEmpty && x.cells.all (fun v => !isSl v))
def KeepR (H H' : Heap) : Prop := ∀ z x, H.get z = some x → plainB x = true → H'.get z = some x
theorem KeepR.trans {A B C : Heap} (h : KeepR A B) (k : KeepR B C) : KeepR A C := fun z x e p => k z x (h z x e p) p
theorem KeepR.of_ext {A B : Heap} (h : Ext A B) : KeepR A B := fun z x e _ => h.keep z x e
def rowId : Value → Option Nat | .slice (some a) _ _ => some a.block | _ => none
def RowS (H : Heap) (V : Value) (vs : List Value) : Prop := (V = .slice none 0 0 ∧ vs = []) ∨ ∃ r o, V = .slice (some ⟨r, o, none⟩) vs.length vs.length ∧ 0 < vs.length ∧ SlR H r o vs
theorem RowS.to (h : RowS H V vs) (k : ∀ z, rowId V = some z → H'.get z = H.get z) : RowS H' V vs := by
 rcases h with h | ⟨r, o, rfl, h2, pre, h3, h4⟩
 · exact .inl h
 · exact .inr ⟨r, o, rfl, h2, pre, h3, by rw [k r rfl]; exact h4⟩
theorem RowS.live (h : RowS H V vs) (hf : Fresh H) {z : Nat} (hz : rowId V = some z) : z < H.next := by
 rcases h with ⟨rfl, _⟩ | ⟨r, o, rfl, h2, pre, h3, h4⟩
 · cases hz
 · obtain rfl := Option.some.inj hz
   by_cases c : H.next ≤ r
   · rw [hf r c] at h4; cases h4
   · show r < H.next; omega
theorem RowS.sl (h : RowS H V vs) : isSl V = true := by
 rcases h with ⟨rfl, _⟩ | ⟨r, o, rfl, _⟩ <;> rfl
theorem RowS.rough (h : RowS H V vs) (hs : ∀ v ∈ vs, isSl v = true) {z : Nat} (hz : rowId V = some z) {x : Blk} (hx : H.get z = some x) : plainB x = false := by
 rcases h with ⟨rfl, _⟩ | ⟨r, o, rfl, h2, pre, h3, h4⟩
 · cases hz
 · obtain rfl := Option.some.inj hz
   rw [h4] at hx
   obtain rfl := Option.some.inj hx
   obtain ⟨v, l, rfl⟩ : ∃ v l, vs = v :: l := by cases vs with | nil => simp at h2 | cons v l => exact ⟨v, l, rfl⟩
   have := hs v (List.mem_cons_self ..)
   simp [plainB, this]
theorem jg9 {W : Value} {h : Int} (hV : isSl V = true) : plainB (bkB V W h) = false := by simp [plainB, bkB, hV]
structure Grew (H : Heap) (V : Value) (H' : Heap) (news vs : List Value) : Prop where
 row : H'.get H.next = some ⟨vs ++ news, true, 1, none, false⟩
 next : H'.next = H.next + 1
 keep : ∀ z, z < H.next → rowId V ≠ some z → H'.get z = H.get z
 fresh : Fresh H'
theorem y04 (h : isSl v = true) : v.oneCell' = true := by cases v <;> first | rfl | cases h
theorem j7w (hV : RowS H V vs) (hf : Fresh H) (hv : isSl v = true) (hn : vs.length ≤ 4000) :
   ∃ H', app H 1 24 V 1 [v] = some (.slice (some ⟨H.next, 0, none⟩) (vs.length + 1) (vs.length + 1), H') ∧ Grew H V H' [v] vs := by
 have al : ∀ (G : Heap) (cells : List Value), Fresh G → Fresh (G.alloc 1 cells) := fun G cells hG z hz => by
   have hz' : G.next + 1 ≤ z := hz
   rw [Heap.get_alloc, if_neg (by omega)]; exact hG z (by omega)
 rcases hV with ⟨rfl, rfl⟩ | ⟨r, o, rfl, h2, pre, h3, h4⟩
 · refine ⟨_, by simp only [app]; rw [if_neg (by decide), if_pos (by decide)]; rfl, by rw [Heap.get_alloc, if_pos rfl]; rfl, rfl, fun z hz _ => by rw [Heap.get_alloc, if_neg (by omega)], al _ _ hf⟩
 · have hlk : look H ⟨r, o, none⟩ = some ⟨pre ++ vs, true, 1, none, false⟩ := by simp [look, h4]
   have hp : [v].all Value.oneCell' = true := by simp [y04 hv]
   have fd : Fresh (H.drop r) := fun z hz => by
     have hz' : H.next ≤ z := hz
     rw [Heap.get_drop]; split
     · rfl
     · exact hf z hz'
   refine ⟨(H.drop r).alloc 1 (vs ++ [v]), ?_, by rw [Heap.get_alloc]; exact if_pos rfl, rfl, fun z hz hr => ?_, al _ _ fd⟩
   · simp only [app, hlk]
     have hlen : (pre ++ vs).length = o + vs.length := by rw [List.length_append, h3]
     rw [if_pos ⟨trivial, trivial, by rw [hlen]; omega, hp, by unfold most; omega, by unfold most; omega⟩, if_neg (by omega), if_pos (by rw [hlen]; omega)]
     have e1 : (List.drop o (pre ++ vs)).take (vs.length * 1) = vs := by rw [← h3, List.drop_left, Nat.mul_one, List.take_length]
     simp only [e1, mkRow]
     rfl
   · have hr' : z ≠ r := fun e => hr (by rw [e]; rfl)
     rw [Heap.get_alloc, if_neg (by show ¬ z = H.next; omega), Heap.get_drop, if_neg hr']
def TokC (n : Nat) (cs : List Value) : Prop := ∃ ts : List Tk, ts.length = n ∧ cs = ts.flatMap Tk.cells
def ByteC (n : Nat) (cs : List Value) : Prop := ∃ s : List UInt8, s.length = n ∧ cs = s.map f8
theorem Tok.len (h : TokC n cs) : cs.length = n * 5 := by obtain ⟨ts, rfl, rfl⟩ := h; exact jo5 ts
theorem Byte.len (h : ByteC n cs) : cs.length = n * 1 := by obtain ⟨s, rfl, rfl⟩ := h; simp
theorem Tok.plain (h : TokC n cs) (hn : 0 < n) : plainB ⟨cs, true, 5, none, false⟩ = true := by
 obtain ⟨ts, rfl, rfl⟩ := h
 have h1 : (ts.flatMap Tk.cells).isEmpty = false := by
   cases ts with
   | nil => simp at hn
   | cons t l => simp [Tk.cells]
 have h2 : (ts.flatMap Tk.cells).all (fun v => !isSl v) = true := by
   rw [List.all_eq_true]
   intro v hv
   obtain ⟨t, _, ht⟩ := List.mem_flatMap.mp hv
   simp only [Tk.cells, List.mem_cons, List.not_mem_nil, or_false] at ht
   rcases ht with rfl | rfl | rfl | rfl | rfl <;> rfl
 simp [plainB, h1, h2]
theorem Byte.plain (h : ByteC n cs) (hn : 0 < n) : plainB ⟨cs, true, 1, none, false⟩ = true := by
 obtain ⟨s, rfl, rfl⟩ := h
 have h1 : (s.map f8).isEmpty = false := by
   cases s with
   | nil => simp at hn
   | cons t l => simp
 have h2 : (s.map f8).all (fun v => !isSl v) = true := by
   rw [List.all_eq_true]
   intro v hv
   obtain ⟨u, _, rfl⟩ := List.mem_map.mp hv
   rfl
 simp [plainB, h1, h2]
def NewT (H : Heap) (v : Value) : Prop := v = .slice none 0 0 ∨ ∃ (r n c : Nat) (cs sp : List Value), v = .slice (some ⟨r, 0, none⟩) n c ∧ 0 < n ∧ n ≤ c ∧ n ≤ 1000000 ∧ c ≤ 9223372036854775807 ∧ TokC n cs ∧ (cs ++ sp).length = c * 5 ∧ H.get r = some ⟨cs ++ sp, true, 5, none, true⟩
def TwoT (H : Heap) (v w : Value) : Prop := (v = .slice none 0 0 ∧ w = .slice none 0 0) ∨ ∃ (r s n c : Nat) (cs sp : List Value), v = .slice (some ⟨r, 0, none⟩) n c ∧ w = .slice (some ⟨s, 0, none⟩) n n ∧ 0 < n ∧ n ≤ c ∧ n ≤ 1000000 ∧ c ≤ 9223372036854775807 ∧ TokC n cs ∧ (cs ++ sp).length = c * 5 ∧ H.get r = some ⟨cs ++ sp, true, 5, none, true⟩ ∧ H.get s = some ⟨cs, true, 5, none, false⟩
theorem TwoT.to (h : TwoT H v w) (k : KeepR H H') : TwoT H' v w := by
 rcases h with h | ⟨r, s, n, c, cs, sp, h1, h2, h3, h4, h5, h6, h7, h8, h9, h10⟩
 · exact .inl h
 · exact .inr ⟨r, s, n, c, cs, sp, h1, h2, h3, h4, h5, h6, h7, h8, k _ _ h9 rfl, k _ _ h10 (Tok.plain h7 h3)⟩
theorem TwoT.new (h : TwoT H v w) : NewT H v := by
 rcases h with h | ⟨r, s, n, c, cs, sp, h1, h2, h3, h4, h5, h6, h7, h8, h9, h10⟩
 · exact .inl h.1
 · exact .inr ⟨r, n, c, cs, sp, h1, h3, h4, h5, h6, h7, h8, h9⟩
theorem NewT.to (h : NewT H v) (k : KeepR H H') : NewT H' v := by
 rcases h with h | ⟨r, n, c, cs, sp, h1, h3, h4, h5, h6, h7, h8, h9⟩
 · exact .inl h
 · exact .inr ⟨r, n, c, cs, sp, h1, h3, h4, h5, h6, h7, h8, k _ _ h9 rfl⟩
theorem NewT.sl (h : NewT H v) : isSl v = true := by
 rcases h with rfl | ⟨r, n, c, cs, sp, rfl, _⟩ <;> rfl
theorem sizeET : sizeT PP 42 = some 5 := by decide +kernel
theorem undET : PP.underlying 33 = some (.slice 42) := by kernel_rfl
theorem NewT.cap (h : NewT H v) : ∃ c : Int, capA PP 33 v H = some (.int .i64 c) := by
 rcases h with rfl | ⟨r, n, c, cs, sp, rfl, h3, h4, h5, h6, h7, h8, h9⟩
 · exact ⟨0, by simp [capA]⟩
 · refine ⟨c, ?_⟩
   simp only [capA, undET, look, h9, sizeET]
   rw [if_pos ⟨trivial, trivial, by decide, by rw [Nat.zero_add]; exact h8.symm⟩]
theorem infoRT : ∃ i, PP.info? 33 = some i ∧ i.size = 1 ∧ i.bytes = 24 := by
 have h : (PP.info? 33).map (fun i => (i.size, i.bytes)) = some (1, 24) := by kernel_rfl
 cases hi : PP.info? 33 with
 | none => rw [hi] at h; cases h
 | some i => rw [hi] at h; simp at h; exact ⟨i, rfl, h.1, h.2⟩
theorem zeroRT : zeroT PP 33 = some [.slice none 0 0] := by kernel_rfl
theorem apLT {q : Nat} (hV : RowS H V vs) (hf : Fresh H) (hq : H.get q = some ⟨[v], true, 1, none, false⟩) (hv : isSl v = true) (hn : vs.length ≤ 4000) :
   ∃ H', appendA PP #[28, 28] V (.slice (some ⟨q, 0, none⟩) 1 1) H = some (.slice (some ⟨H.next, 0, none⟩) (vs.length + 1) (vs.length + 1), H') ∧ Grew H V H' [v] vs := by
 obtain ⟨i, h1, h2, h3⟩ := infoRT
 have src : srcCells H 1 (.slice (some ⟨q, 0, none⟩) 1 1) = some (1, [v]) := by simp [srcCells, look, hq]
 have hA : appendA PP #[28, 28] V (.slice (some ⟨q, 0, none⟩) 1 1) H = app H 1 24 V 1 [v] := by
   simp only [appendA]
   simp [h1, h2, h3, zeroRT, src]
 rw [hA]
 exact j7w hV hf hv hn
theorem bsLT (H : Heap) (v : Value) (hv : isSl v = true) : buildSliceA PP 28 1 #[(0, v)] H = some (.slice (some ⟨H.next, 0, none⟩) 1 1, H.alloc 1 [v]) := by
 cases v with
 | slice a n c =>
   have hf : Instr.fill (fun i => some (i * 1, 1)) (zeroRow [.slice none 0 0] (1 * 1)).toArray [(0, .slice a n c)] = some #[.slice a n c] := by rfl
   simp only [buildSliceA, undLT, sizeRT, zeroRT, mkRow, hf]
   simp
 | _ => cases hv
theorem apBT (s x : Value) (H : Heap) (k : Value → Heap → R) : builtinK PP .append #[28, 28] #[s, x] H k = bindV (appendA PP #[28, 28] s x H) k := by simp [builtinK]
theorem apCT (s x : Value) (H : Heap) (k : Value → Heap → R) : builtinK PP .append #[33, 33] #[s, x] H k = bindV (appendA PP #[33, 33] s x H) k := by simp [builtinK]
theorem cpyT (h : NewT H v) (hf : Fresh H) : ∃ w H', appendA PP #[33, 33] (.slice none 0 0) v H = some (w, H') ∧ TwoT H' v w ∧ isSl w = true ∧ Ext H H' := by
 rcases h with rfl | ⟨r, n, c, cs, sp, rfl, h3, h4, h5, h6, h7, h8, h9⟩
 · refine ⟨.slice none 0 0, H, ?_, .inl ⟨rfl, rfl⟩, rfl, Nat.le_refl _, fun _ _ e => e, hf⟩
   have src : srcCells H 5 (.slice none 0 0) = some (0, []) := rfl
   obtain ⟨i, g1, g2, g3⟩ := infoT
   have hA : ∀ x n news, srcCells H 5 x = some (n, news) → appendA PP #[33, 33] (.slice none 0 0) x H = app H 5 48 (.slice none 0 0) n news := fun x n news src => by
     simp only [appendA]
     simp [g1, g2, g3, zeroT29, src]
   rw [hA _ _ _ src]
   simp [app]
 · have hl : cs.length = n * 5 := Tok.len h7
   have src : srcCells H 5 (.slice (some ⟨r, 0, none⟩) n c) = some (n, cs) := by
     simp only [srcCells, look, h9]
     rw [if_pos (by rw [List.length_append, hl]; simp), List.drop_zero, ← hl, List.take_left]
   have x1 := Ext.alloc hf 5 cs
   refine ⟨.slice (some ⟨H.next, 0, none⟩) n n, H.alloc 5 cs, ?_, .inr ⟨r, H.next, n, c, cs, sp, rfl, rfl, h3, h4, h5, h6, h7, h8, x1.keep _ _ h9, by rw [Heap.get_alloc, if_pos rfl]⟩, rfl, x1⟩
   obtain ⟨i, g1, g2, g3⟩ := infoT
   have hA : ∀ x n news, srcCells H 5 x = some (n, news) → appendA PP #[33, 33] (.slice none 0 0) x H = app H 5 48 (.slice none 0 0) n news := fun x n news src => by
     simp only [appendA]
     simp [g1, g2, g3, zeroT29, src]
   rw [hA _ _ _ src]
   simp only [app]
   rw [if_neg (by omega), if_pos (by unfold most; omega)]
   rfl
def NewB (H : Heap) (v : Value) : Prop := v = .slice none 0 0 ∨ ∃ (r n c : Nat) (cs sp : List Value), v = .slice (some ⟨r, 0, none⟩) n c ∧ 0 < n ∧ n ≤ c ∧ n ≤ 1000000 ∧ c ≤ 9223372036854775807 ∧ ByteC n cs ∧ (cs ++ sp).length = c * 1 ∧ H.get r = some ⟨cs ++ sp, true, 1, none, true⟩
def TwoB (H : Heap) (v w : Value) : Prop := (v = .slice none 0 0 ∧ w = .slice none 0 0) ∨ ∃ (r s n c : Nat) (cs sp : List Value), v = .slice (some ⟨r, 0, none⟩) n c ∧ w = .slice (some ⟨s, 0, none⟩) n n ∧ 0 < n ∧ n ≤ c ∧ n ≤ 1000000 ∧ c ≤ 9223372036854775807 ∧ ByteC n cs ∧ (cs ++ sp).length = c * 1 ∧ H.get r = some ⟨cs ++ sp, true, 1, none, true⟩ ∧ H.get s = some ⟨cs, true, 1, none, false⟩
theorem TwoB.to (h : TwoB H v w) (k : KeepR H H') : TwoB H' v w := by
 rcases h with h | ⟨r, s, n, c, cs, sp, h1, h2, h3, h4, h5, h6, h7, h8, h9, h10⟩
 · exact .inl h
 · exact .inr ⟨r, s, n, c, cs, sp, h1, h2, h3, h4, h5, h6, h7, h8, k _ _ h9 rfl, k _ _ h10 (Byte.plain h7 h3)⟩
theorem TwoB.new (h : TwoB H v w) : NewB H v := by
 rcases h with h | ⟨r, s, n, c, cs, sp, h1, h2, h3, h4, h5, h6, h7, h8, h9, h10⟩
 · exact .inl h.1
 · exact .inr ⟨r, n, c, cs, sp, h1, h3, h4, h5, h6, h7, h8, h9⟩
theorem NewB.to (h : NewB H v) (k : KeepR H H') : NewB H' v := by
 rcases h with h | ⟨r, n, c, cs, sp, h1, h3, h4, h5, h6, h7, h8, h9⟩
 · exact .inl h
 · exact .inr ⟨r, n, c, cs, sp, h1, h3, h4, h5, h6, h7, h8, k _ _ h9 rfl⟩
theorem NewB.sl (h : NewB H v) : isSl v = true := by
 rcases h with rfl | ⟨r, n, c, cs, sp, rfl, _⟩ <;> rfl
theorem sizeEB : sizeT PP 5 = some 1 := by decide +kernel
theorem undEB : PP.underlying 22 = some (.slice 5) := by kernel_rfl
theorem NewB.cap (h : NewB H v) : ∃ c : Int, capA PP 22 v H = some (.int .i64 c) := by
 rcases h with rfl | ⟨r, n, c, cs, sp, rfl, h3, h4, h5, h6, h7, h8, h9⟩
 · exact ⟨0, by simp [capA]⟩
 · refine ⟨c, ?_⟩
   simp only [capA, undEB, look, h9, sizeEB]
   rw [if_pos ⟨trivial, trivial, by decide, by rw [Nat.zero_add]; exact h8.symm⟩]
theorem infoRB : ∃ i, PP.info? 22 = some i ∧ i.size = 1 ∧ i.bytes = 24 := by
 have h : (PP.info? 22).map (fun i => (i.size, i.bytes)) = some (1, 24) := by kernel_rfl
 cases hi : PP.info? 22 with
 | none => rw [hi] at h; cases h
 | some i => rw [hi] at h; simp at h; exact ⟨i, rfl, h.1, h.2⟩
theorem zeroRB : zeroT PP 22 = some [.slice none 0 0] := by kernel_rfl
theorem apLB {q : Nat} (hV : RowS H V vs) (hf : Fresh H) (hq : H.get q = some ⟨[v], true, 1, none, false⟩) (hv : isSl v = true) (hn : vs.length ≤ 4000) :
   ∃ H', appendA PP #[27, 27] V (.slice (some ⟨q, 0, none⟩) 1 1) H = some (.slice (some ⟨H.next, 0, none⟩) (vs.length + 1) (vs.length + 1), H') ∧ Grew H V H' [v] vs := by
 obtain ⟨i, h1, h2, h3⟩ := infoRB
 have src : srcCells H 1 (.slice (some ⟨q, 0, none⟩) 1 1) = some (1, [v]) := by simp [srcCells, look, hq]
 have hA : appendA PP #[27, 27] V (.slice (some ⟨q, 0, none⟩) 1 1) H = app H 1 24 V 1 [v] := by
   simp only [appendA]
   simp [h1, h2, h3, zeroRB, src]
 rw [hA]
 exact j7w hV hf hv hn
theorem bsLB (H : Heap) (v : Value) (hv : isSl v = true) : buildSliceA PP 27 1 #[(0, v)] H = some (.slice (some ⟨H.next, 0, none⟩) 1 1, H.alloc 1 [v]) := by
 cases v with
 | slice a n c =>
   have hf : Instr.fill (fun i => some (i * 1, 1)) (zeroRow [.slice none 0 0] (1 * 1)).toArray [(0, .slice a n c)] = some #[.slice a n c] := by rfl
   simp only [buildSliceA, undLB, sizeRB, zeroRB, mkRow, hf]
   simp
 | _ => cases hv
theorem apBB (s x : Value) (H : Heap) (k : Value → Heap → R) : builtinK PP .append #[27, 27] #[s, x] H k = bindV (appendA PP #[27, 27] s x H) k := by simp [builtinK]
theorem apCB (s x : Value) (H : Heap) (k : Value → Heap → R) : builtinK PP .append #[22, 22] #[s, x] H k = bindV (appendA PP #[22, 22] s x H) k := by simp [builtinK]
theorem cpyB (h : NewB H v) (hf : Fresh H) : ∃ w H', appendA PP #[22, 22] (.slice none 0 0) v H = some (w, H') ∧ TwoB H' v w ∧ isSl w = true ∧ Ext H H' := by
 rcases h with rfl | ⟨r, n, c, cs, sp, rfl, h3, h4, h5, h6, h7, h8, h9⟩
 · refine ⟨.slice none 0 0, H, ?_, .inl ⟨rfl, rfl⟩, rfl, Nat.le_refl _, fun _ _ e => e, hf⟩
   have src : srcCells H 1 (.slice none 0 0) = some (0, []) := rfl
   obtain ⟨i, g1, g2, g3⟩ := infoB
   have hA : ∀ x n news, srcCells H 1 x = some (n, news) → appendA PP #[22, 22] (.slice none 0 0) x H = app H 1 1 (.slice none 0 0) n news := fun x n news src => by
     simp only [appendA]
     simp [g1, g2, g3, zeroB, src]
   rw [hA _ _ _ src]
   simp [app]
 · have hl : cs.length = n * 1 := Byte.len h7
   have src : srcCells H 1 (.slice (some ⟨r, 0, none⟩) n c) = some (n, cs) := by
     simp only [srcCells, look, h9]
     rw [if_pos (by rw [List.length_append, hl]; simp), List.drop_zero, ← hl, List.take_left]
   have x1 := Ext.alloc hf 1 cs
   refine ⟨.slice (some ⟨H.next, 0, none⟩) n n, H.alloc 1 cs, ?_, .inr ⟨r, H.next, n, c, cs, sp, rfl, rfl, h3, h4, h5, h6, h7, h8, x1.keep _ _ h9, by rw [Heap.get_alloc, if_pos rfl]⟩, rfl, x1⟩
   obtain ⟨i, g1, g2, g3⟩ := infoB
   have hA : ∀ x n news, srcCells H 1 x = some (n, news) → appendA PP #[22, 22] (.slice none 0 0) x H = app H 1 1 (.slice none 0 0) n news := fun x n news src => by
     simp only [appendA]
     simp [g1, g2, g3, zeroB, src]
   rw [hA _ _ _ src]
   simp only [app]
   rw [if_neg (by omega), if_pos (by unfold most; omega)]
   rfl
end Go.Am
