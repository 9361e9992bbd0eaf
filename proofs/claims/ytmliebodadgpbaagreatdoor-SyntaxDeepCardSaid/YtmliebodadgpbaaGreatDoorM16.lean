/- The text of openings within one another, as it is made: one kind. -/
import Derived.Test.YtmliebodadgpbaaGreatDoorM15
open Go.Proofs
namespace Go.Am
set_option maxRecDepth 100000
variable {H H0 : Heap} {v w : Value} {n : Nat} {b : List UInt8} {l : List (List UInt8)}
theorem jn5 (t u : TypeId) (s x : Value) (H : Heap) (k : Value → Heap → R) : builtinK PP .append #[t, u] #[s, x] H k = bindV (appendA PP #[t, u] s x H) k := by simp [builtinK]
theorem yc1 {bytes : Nat} {cells news : List Value} (hr : Row H v 1 n cells) (hf : Fresh H) (h1 : news.all Value.oneCell' = true) (hne : 0 < news.length) (hb : (n + news.length) * bytes ≤ most) (hn : n + news.length ≤ most) :
   ∃ H', app H 1 bytes v news.length news = some (.slice (some ⟨H.next, 0, none⟩) (n + news.length) (n + news.length), H') ∧ H'.get H.next = some ⟨cells ++ news, true, 1, none⟩ ∧ H'.next = H.next + 1 ∧ Fresh H' ∧ ∀ q x, H.get q = some x → blkOf v ≠ some q → H'.get q = some x := by
 rcases hr with ⟨rfl, rfl, rfl⟩ | ⟨q, rfl, hg, hc⟩
 · refine ⟨H.alloc 1 news, ?_, by rw [jc6]; rfl, rfl, jb1 hf _ _, fun q x e _ => jb3 hf e _ _⟩
   simp only [app, mkRow]
   rw [if_neg (by omega), if_pos ⟨by simpa using hb, by simpa using hn⟩]
   simp
 · have hlk : look H ⟨q, 0, none⟩ = some ⟨cells, true, 1, none⟩ := by simp [look, hg]
   refine ⟨(H.drop q).alloc 1 (cells ++ news), ?_, jc6 (H.drop q) _ _, rfl, jb1 (jk0 hf q) _ _, fun z x e hz => ?_⟩
   · simp only [app, hlk]
     rw [if_pos ⟨trivial, trivial, by simp [hc], h1, hb, hn⟩, if_neg (by omega)]
     have e1 : (List.drop 0 cells).take (n * 1) = cells := by rw [List.drop_zero, ← hc, List.take_length]
     simp only [e1, mkRow]
     rfl
   · have hne : z ≠ q := fun e' => hz (by rw [e']; rfl)
     rw [jb3 (jk0 hf q) (by rw [Heap.get_drop, if_neg hne]; exact e)]
structure Nst (H0 H : Heap) (v w : Value) (b : List UInt8) (l : List (List UInt8)) : Prop where
 nx : H0.next ≤ H.next
 fr : Fresh H
 kp : ∀ q x, q < H0.next → H0.get q = some x → H.get q = some x
 rb : Row H v 1 b.length (b.map f8)
 rl : Row H w 1 l.length (l.map strV)
 fb : ∀ z, blkOf v = some z → H0.next ≤ z ∧ z < H.next
 fl : ∀ z, blkOf w = some z → H0.next ≤ z ∧ z < H.next
 ne : ∀ z, blkOf v = some z → blkOf w ≠ some z
theorem Row.stay {H' : Heap} {cells : List Value} (h : Row H v 1 n cells) (k : ∀ q x, blkOf v = some q → H.get q = some x → H'.get q = some x) : Row H' v 1 n cells := by
 rcases h with ⟨rfl, rfl, rfl⟩ | ⟨q, rfl, hg, hc⟩
 · exact .inl ⟨rfl, rfl, rfl⟩
 · exact .inr ⟨q, rfl, k q _ rfl hg, hc⟩
theorem Nst.alloc (h : Nst H0 H v w b l) (x : List Value) : Nst H0 (H.alloc 1 x) v w b l := by
 have := h.nx
 exact ⟨by show H0.next ≤ H.next + 1; omega, jb1 h.fr _ _, fun q y hq e => jb3 h.fr (h.kp q y hq e) _ _, h.rb.stay fun q y _ e => jb3 h.fr e _ _, h.rl.stay fun q y _ e => jb3 h.fr e _ _, fun z e => ⟨(h.fb z e).1, by show z < H.next + 1; have := (h.fb z e).2; omega⟩, fun z e => ⟨(h.fl z e).1, by show z < H.next + 1; have := (h.fl z e).2; omega⟩, h.ne⟩
theorem infoB2 : ∃ i, PP.info? 5 = some i ∧ i.size = 1 ∧ i.bytes = 1 := infoB
theorem infoS2 : ∃ i, PP.info? 9 = some i ∧ i.size = 1 ∧ i.bytes = 16 := by
 have h : (match PP.info? 9 with | some i => decide (i.size = 1) && decide (i.bytes = 16) | none => false) = true := by decide +kernel
 split at h
 · rename_i i e
   simp only [Bool.and_eq_true, decide_eq_true_eq] at h
   exact ⟨i, e, h.1, h.2⟩
 · cases h
theorem zeroStr : zeroT PP 9 = some [.string .empty] := by kernel_rfl
theorem Nst.bytes {x : Value} {xs : List UInt8} {u : TypeId} (h : Nst H0 H v w b l) (hu : (∃ e, PP.underlying u = some (.slice e)) ∨ PP.underlying u = some .string) (hx : srcCells H 1 x = some (xs.length, xs.map f8)) (hne : xs ≠ []) (hs : b.length + xs.length ≤ 1048576) :
   ∃ v' H', appendA PP #[34, u] v x H = some (v', H') ∧ Nst H0 H' v' w (b ++ xs) l := by
 obtain ⟨i, h1, h2, h3⟩ := infoB2
 have hA : appendA PP #[34, u] v x H = app H 1 1 v (xs.map f8).length (xs.map f8) := by
   simp only [appendA]
   rcases hu with ⟨e, hu⟩ | hu <;> simp [hu, h1, h2, h3, zeroB, hx]
 have hl : 0 < xs.length := List.length_pos_iff.mpr hne
 obtain ⟨H', r1, r2, r3, r4, r5⟩ := yc1 (bytes := 1) (news := xs.map f8) h.rb h.fr (j97 xs) (by simpa using hl) (by simp; unfold most; omega) (by simp; unfold most; omega)
 have nx := h.nx
 refine ⟨_, H', hA.trans r1, ⟨by omega, r4, fun q y hq e => r5 q y (h.kp q y hq e) fun e2 => ?_, .inr ⟨H.next, by simp, by rw [List.map_append]; exact r2, by simp⟩, h.rl.stay fun q y e1 e => r5 q y e fun e2 => h.ne q e2 e1, fun z e => ?_, fun z e => ⟨(h.fl z e).1, by have := (h.fl z e).2; omega⟩, fun z e e2 => ?_⟩⟩
 · have := (h.fb q e2).1; omega
 · have e : H.next = z := Option.some.inj e
   omega
 · have e : H.next = z := Option.some.inj e
   have := (h.fl _ e2).2; omega
theorem Nst.str (h : Nst H0 H v w b l) (xs : List UInt8) (hne : xs ≠ []) (hs : b.length + xs.length ≤ 1048576) : ∃ v' H', appendA PP #[34, 9] v (.string ⟨⟨xs⟩⟩) H = some (v', H') ∧ Nst H0 H' v' w (b ++ xs) l :=
 h.bytes (.inr undStr) (by simp only [srcCells]; rfl) hne hs
theorem Nst.one (h : Nst H0 H v w b l) (u : UInt8) (hs : b.length + 1 ≤ 1048576) : ∃ v' H', appendA PP #[34, 34] v (.slice (some ⟨H.next, 0, none⟩) 1 1) (H.alloc 1 [.int .u8 (u.toNat : Int)]) = some (v', H') ∧ Nst H0 H' v' w (b ++ [u]) l := by
 refine (h.alloc [.int .u8 (u.toNat : Int)]).bytes (.inl ⟨_, und34⟩) ?_ (by simp) hs
 have e := jc6 H 1 [.int .u8 (u.toNat : Int)]
 simp [srcCells, look, e, f8]
theorem Nst.cut (h : Nst H0 H v w b l) (xs : List UInt8) (_ : xs ≠ []) (hs : l.length + 1 ≤ 1048576) : ∃ w' H', appendA PP #[47, 47] w (.slice (some ⟨H.next, 0, none⟩) 1 1) (H.alloc 1 [.string ⟨⟨xs⟩⟩]) = some (w', H') ∧ Nst H0 H' v w' b (l ++ [xs]) := by
 obtain ⟨i, h1, h2, h3⟩ := infoS2
 have e := jc6 H 1 [.string ⟨⟨xs⟩⟩]
 have hx : srcCells (H.alloc 1 [.string ⟨⟨xs⟩⟩]) 1 (.slice (some ⟨H.next, 0, none⟩) 1 1) = some (1, [.string ⟨⟨xs⟩⟩]) := by simp [srcCells, look, e]
 have hA : appendA PP #[47, 47] w (.slice (some ⟨H.next, 0, none⟩) 1 1) (H.alloc 1 [.string ⟨⟨xs⟩⟩]) = app (H.alloc 1 [.string ⟨⟨xs⟩⟩]) 1 16 w [strV xs].length [strV xs] := by
   simp only [appendA]
   simp [h1, h2, h3, zeroStr, hx, strV]
 have k := h.alloc [.string ⟨⟨xs⟩⟩]
 obtain ⟨H', r1, r2, r3, r4, r5⟩ := yc1 (bytes := 16) (news := [strV xs]) k.rl k.fr rfl (by simp) (by simp; unfold most; omega) (by simp; unfold most; omega)
 have nx := k.nx
 refine ⟨_, H', hA.trans r1, ⟨by omega, r4, fun q y hq e => r5 q y (k.kp q y hq e) fun e2 => ?_, k.rb.stay fun q y e1 e => r5 q y e fun e2 => k.ne q e1 e2, .inr ⟨(H.alloc 1 [.string ⟨⟨xs⟩⟩]).next, by simp, by rw [List.map_append]; exact r2, by simp⟩, fun z e => ⟨(k.fb z e).1, by have := (k.fb z e).2; omega⟩, fun z e => ?_, fun z e e2 => ?_⟩⟩
 · have := (k.fl q e2).1; omega
 · have e : (H.alloc 1 [.string ⟨⟨xs⟩⟩]).next = z := Option.some.inj e
   omega
 · have e2 : (H.alloc 1 [.string ⟨⟨xs⟩⟩]).next = z := Option.some.inj e2
   have := (k.fb _ e).2; omega
theorem jj3 (H : Heap) (x : ByteArray) : buildSliceA PP 47 1 #[(0, .string x)] H = some (.slice (some ⟨H.next, 0, none⟩) 1 1, H.alloc 1 [.string x]) := by
 have hf : Instr.fill (fun i => some (i * 1, 1)) (zeroRow [.string .empty] (1 * 1)).toArray [(0, .string x)] = some #[.string x] := by rfl
 simp only [buildSliceA, undStrs', yt7, zeroStr, mkRow, hf]
 simp
def stB (last wi : Bool) (k : Nat) : List UInt8 := if wi = false ∧ k = 3 then [115, 116, 97, 114, 116, 32, 112, 91] else if wi = true then [40] else if last = true ∧ k = 1 then [97, 115, 115, 101, 114, 116, 32, 40] else if k = 1 then [97, 115, 115, 101, 114, 116, 40] else if k = 2 then [105, 102, 32, 49, 123] else [101, 97, 99, 104, 32, 105, 32, 105, 110, 32, 48, 32, 46, 46, 32, 48, 123]
def stL (last wi : Bool) (k : Nat) : List (List UInt8) := if wi = false ∧ k = 3 then [[93, 59]] else if wi = true then [[41]] else if last = true ∧ k = 1 then [[59], [41]] else if k = 1 then [[41, 59]] else [[125]]
def stW (wi : Bool) (k : Nat) : Bool := wi || k == 3 || k == 1
theorem code16 : codeOf Tryz.f16 = .seq (rF Tryz.f16 0) (.seq (rF Tryz.f16 1) (.seq (rF Tryz.f16 2) (.seq (rF Tryz.f16 3) (.seq (.seq (rF Tryz.f16 4) (.block 0 (.loop (.seq (.seq (rF Tryz.f16 5) (.cond (.tmp 17) .skip (.exit 0))) (.seq (.block 1 (.seq (rF Tryz.f16 7) (.seq (.seq (rF Tryz.f16 8) (.cond (.tmp 22) (rF Tryz.f16 9) .skip)) (.block 2 (.seq (rF Tryz.f16 12) (.cond (.tmp 37) (.seq (rF Tryz.f16 13) (.seq (rF Tryz.f16 14) (rF Tryz.f16 15))) (.seq (rF Tryz.f16 16) (.cond (.tmp 49) (.seq (.seq (rF Tryz.f16 17) (.cond (.tmp 62) (.seq (rF Tryz.f16 18) (.seq (rF Tryz.f16 19) (rF Tryz.f16 20))) .skip)) (.seq (rF Tryz.f16 21) (rF Tryz.f16 22))) (.seq (rF Tryz.f16 23) (.cond (.tmp 74) (.seq (rF Tryz.f16 24) (.seq (rF Tryz.f16 25) (rF Tryz.f16 26))) (.seq (rF Tryz.f16 27) (.cond (.tmp 82) (.seq (rF Tryz.f16 28) (rF Tryz.f16 29)) (.seq (rF Tryz.f16 10) (rF Tryz.f16 11)))))))))))))) (rF Tryz.f16 6)))))) (.seq (.seq (rF Tryz.f16 30) (.cond (.tmp 90) (rF Tryz.f16 31) .skip)) (.seq (.seq (rF Tryz.f16 32) (.cond (.tmp 94) (.seq (.seq (rF Tryz.f16 33) (.block 3 (.loop (.seq (.seq (rF Tryz.f16 34) (.cond (.tmp 99) .skip (.exit 3))) (.seq (.block 4 (rF Tryz.f16 36)) (rF Tryz.f16 35)))))) (rF Tryz.f16 37)) .skip)) (.seq (rF Tryz.f16 38) .ret))))))) := by kernel_rfl
theorem jj4 : ((rgn Tryz.f16 12)[2]?).bind (·.dst) = some 40 := by kernel_rfl
theorem jl0 : ((rgn Tryz.f16 16)[1]?).bind (·.dst) = some 51 := by kernel_rfl
theorem jl1 : ((rgn Tryz.f16 16)[6]?).bind (·.dst) = some 56 := by kernel_rfl
set_option maxHeartbeats 1000000 in
theorem y7d {N : Nat} {hk : Hook} {D : Nat} {E : Env} {Q : Am.R → Prop} {k : KOE} {a : Option Addr} {c i : Nat} {ks : List UInt8} {cl wi : Bool} {kk : Nat} (e' : (E 0 = .int .i64 (n : Int) ∧ E 1 = .slice a ks.length c ∧ E 2 = .bool cl ∧ E 7 = v ∧ E 8 = w ∧ E 9 = .bool wi ∧ E 10 = .int .i64 (i : Int)) ∧ E 11 = .int .i64 (kk : Int)) (hk4 : kk < 4) (hi : i < n) (hn : n ≤ 20000) (st : Nst H0 H v w b l) (hb : b.length ≤ 17 * i + 9) (hl : l.length ≤ 2 * i)
   (hx : ∀ E' H' v' w', E' 0 = .int .i64 (n : Int) ∧ E' 1 = .slice a ks.length c ∧ E' 2 = .bool cl ∧ E' 7 = v' ∧ E' 8 = w' ∧ E' 9 = .bool (stW wi kk) ∧ E' 10 = .int .i64 (i : Int) → Nst H0 H' v' w' (b ++ stB (decide (i + 1 = n)) wi kk) (l ++ stL (decide (i + 1 = n)) wi kk) → Q (k .norm E' [] H')) :
   Q (execG PP XX (CH N hk D) N noPr (.block 2 (.seq (rF Tryz.f16 12) (.cond (.tmp 37) (.seq (rF Tryz.f16 13) (.seq (rF Tryz.f16 14) (rF Tryz.f16 15))) (.seq (rF Tryz.f16 16) (.cond (.tmp 49) (.seq (.seq (rF Tryz.f16 17) (.cond (.tmp 62) (.seq (rF Tryz.f16 18) (.seq (rF Tryz.f16 19) (rF Tryz.f16 20))) .skip)) (.seq (rF Tryz.f16 21) (rF Tryz.f16 22))) (.seq (rF Tryz.f16 23) (.cond (.tmp 74) (.seq (rF Tryz.f16 24) (.seq (rF Tryz.f16 25) (rF Tryz.f16 26))) (.seq (rF Tryz.f16 27) (.cond (.tmp 82) (.seq (rF Tryz.f16 28) (rF Tryz.f16 29)) (.seq (rF Tryz.f16 10) (rF Tryz.f16 11))))))))))) none E [] H k) := by
 obtain ⟨⟨e0, e1, e2, e7, e8, e9, e10⟩, e11⟩ := e'
 have w1 : IntKind.i64.wrap ((n : Int) - 1) = ((n - 1 : Nat) : Int) := by rw [jb2 (by omega) (by omega)]; omega
 have lL : _ ∧ _ ∧ _ := ⟨lX8 Tryz.f16 10 11 12 13 14 15 16 17, lX8 Tryz.f16 18 19 20 21 22 23 24 25, lX4 Tryz.f16 26 27 28 29⟩
 conv at lL in (occs := *) (rgnX _ _) => all_goals simp only [rX, opsAt, Tryz.f16, dL.o, reduceIte, Nat.reduceEqDiff]
 obtain ⟨⟨l10, l11, l12, l13, l14, l15, l16, l17⟩, ⟨l18, l19, l20, l21, l22, l23, l24, l25⟩, ⟨l26, l27, l28, l29⟩⟩ := lL
 cases wi with
 | true =>
   have gl : (decide (i + 1 = n)) = (decide (i + 1 = n)) := rfl
   obtain ⟨v1, H1, a1, st1⟩ := st.one 40 (by simp; omega)
   have a1 : appendA PP #[34, 34] v (.slice (some ⟨H.next, 0, none⟩) 1 1) (H.alloc 1 [.int .u8 40]) = some (v1, H1) := a1
   obtain ⟨w2, H2, a2, st2⟩ := st1.cut [41] (by decide) (by simp; omega)
   have a2 : appendA PP #[47, 47] w (.slice (some ⟨H1.next, 0, none⟩) 1 1) (H1.alloc 1 [.string ⟨#[41]⟩]) = some (w2, H2) := a2
   simp (decide := true) only [↓uR.o, dG.o, ja1, reduceIte, Bool.not_true, Bool.not_false, ↓ja0 l12, ↓ja0 l16, ↓ja0 l17, ↓ja0 l21, ↓ja0 l22, ↓r_no _ 2 true 40 _ jj4, ↓r_no _ 1 false 51 _ jl0, ↓yn5 _ 6 true 56 _ jl1, e7, e8, e9, jn5, bslice1, jj3, unNT, a1, a2]
   rw [show stB (decide (i + 1 = n)) true kk = [40] from rfl, show stL (decide (i + 1 = n)) true kk = [[41]] from rfl, show stW true kk = true from rfl] at hx
   refine hx _ H2 v1 w2 ?_ (by simpa using st2)
   exact ⟨by simp (decide := true) only [ja1, reduceIte, e0], by simp (decide := true) only [ja1, reduceIte, e1], by simp (decide := true) only [ja1, reduceIte, e2], by simp (decide := true) only [ja1, reduceIte, e7], by simp (decide := true) only [ja1, reduceIte, e8], by simp (decide := true) only [ja1, reduceIte, e9], by simp (decide := true) only [ja1, reduceIte, e10]⟩
 | false =>
   by_cases k3 : kk = 3
   · have z3 : ((kk : Int) == 3) = true := by rw [k3]; rfl
     obtain ⟨v1, H1, a1, st1⟩ := st.str [115, 116, 97, 114, 116, 32, 112, 91] (by decide) (by simp; omega)
     have a1 : appendA PP #[34, 9] v (.string ⟨#[115, 116, 97, 114, 116, 32, 112, 91]⟩) H = some (v1, H1) := a1
     obtain ⟨w2, H2, a2, st2⟩ := st1.cut [93, 59] (by decide) (by simp; omega)
     have a2 : appendA PP #[47, 47] w (.slice (some ⟨H1.next, 0, none⟩) 1 1) (H1.alloc 1 [.string ⟨#[93, 59]⟩]) = some (w2, H2) := a2
     simp (decide := true) only [↓uR.o, dG.o, ja1, reduceIte, ↓ja0 l12, ↓ja0 l13, ↓ja0 l14, ↓ja0 l15, ↓jb7 _ 2 true 40 _ jj4, e7, e8, e9, e11, jn5, jj3, unNF, z3, a1, a2]
     rw [show stB (decide (i + 1 = n)) false kk = [115, 116, 97, 114, 116, 32, 112, 91] from if_pos ⟨rfl, k3⟩, show stL (decide (i + 1 = n)) false kk = [[93, 59]] from if_pos ⟨rfl, k3⟩, show stW false kk = true by rw [k3]; rfl] at hx
     refine hx _ H2 v1 w2 ?_ (by simpa using st2)
     exact ⟨by simp (decide := true) only [ja1, reduceIte, e0], by simp (decide := true) only [ja1, reduceIte, e1], by simp (decide := true) only [ja1, reduceIte, e2], by simp (decide := true) only [ja1, reduceIte, e7], by simp (decide := true) only [ja1, reduceIte, e8], by simp (decide := true) only [ja1, reduceIte, e9], by simp (decide := true) only [ja1, reduceIte, e10]⟩
   have z3 : ((kk : Int) == 3) = false := by simp; omega
   have c3 : ¬ (false = false ∧ kk = 3) := fun h => k3 h.2
   by_cases k1 : kk = 1
   · have z1 : ((kk : Int) == 1) = true := by rw [k1]; rfl
     by_cases hla : i + 1 = n
     · have zl : ((i : Int) == ((n - 1 : Nat) : Int)) = true := by simp; omega
       have c1 : (decide (i + 1 = n)) = true ∧ kk = 1 := ⟨decide_eq_true hla, k1⟩
       obtain ⟨v1, H1, a1, st1⟩ := st.str [97, 115, 115, 101, 114, 116, 32] (by decide) (by simp; omega)
       have a1 : appendA PP #[34, 9] v (.string ⟨#[97, 115, 115, 101, 114, 116, 32]⟩) H = some (v1, H1) := a1
       obtain ⟨w2, H2, a2, st2⟩ := st1.cut [59] (by decide) (by simp; omega)
       have a2 : appendA PP #[47, 47] w (.slice (some ⟨H1.next, 0, none⟩) 1 1) (H1.alloc 1 [.string ⟨#[59]⟩]) = some (w2, H2) := a2
       obtain ⟨v3, H3, a3, st3⟩ := st2.one 40 (by simp; omega)
       have a3 : appendA PP #[34, 34] v1 (.slice (some ⟨H2.next, 0, none⟩) 1 1) (H2.alloc 1 [.int .u8 40]) = some (v3, H3) := a3
       obtain ⟨w4, H4, a4, st4⟩ := st3.cut [41] (by decide) (by simp; omega)
       have a4 : appendA PP #[47, 47] w2 (.slice (some ⟨H3.next, 0, none⟩) 1 1) (H3.alloc 1 [.string ⟨#[41]⟩]) = some (w4, H4) := a4
       simp (decide := true) only [↓uR.o, dG.o, ja1, reduceIte, ↓ja0 l12, ↓ja0 l16, ↓ja0 l17, ↓ja0 l18, ↓ja0 l19, ↓ja0 l20, ↓ja0 l21, ↓ja0 l22, ↓jb7 _ 2 true 40 _ jj4, ↓jb7 _ 1 false 51 _ jl0, ↓jb7 _ 6 true 56 _ jl1, e0, e7, e8, e9, e10, e11, jn5, bslice1, jj3, unNF, z3, z1, zl, w1, a1, a2, a3, a4]
       rw [show stB (decide (i + 1 = n)) false kk = [97, 115, 115, 101, 114, 116, 32, 40] by unfold stB; rw [if_neg c3, if_neg (by decide), if_pos c1], show stL (decide (i + 1 = n)) false kk = [[59], [41]] by unfold stL; rw [if_neg c3, if_neg (by decide), if_pos c1], show stW false kk = true by rw [k1]; rfl] at hx
       refine hx _ H4 v3 w4 ?_ (by simpa using st4)
       exact ⟨by simp (decide := true) only [ja1, reduceIte, e0], by simp (decide := true) only [ja1, reduceIte, e1], by simp (decide := true) only [ja1, reduceIte, e2], by simp (decide := true) only [ja1, reduceIte, e7], by simp (decide := true) only [ja1, reduceIte, e8], by simp (decide := true) only [ja1, reduceIte, e9], by simp (decide := true) only [ja1, reduceIte, e10]⟩
     · have zl : ((i : Int) == ((n - 1 : Nat) : Int)) = false := by simp; omega
       have c1 : ¬ ((decide (i + 1 = n)) = true ∧ kk = 1) := fun h => hla (of_decide_eq_true h.1)
       obtain ⟨v1, H1, a1, st1⟩ := st.str [97, 115, 115, 101, 114, 116, 40] (by decide) (by simp; omega)
       have a1 : appendA PP #[34, 9] v (.string ⟨#[97, 115, 115, 101, 114, 116, 40]⟩) H = some (v1, H1) := a1
       obtain ⟨w2, H2, a2, st2⟩ := st1.cut [41, 59] (by decide) (by simp; omega)
       have a2 : appendA PP #[47, 47] w (.slice (some ⟨H1.next, 0, none⟩) 1 1) (H1.alloc 1 [.string ⟨#[41, 59]⟩]) = some (w2, H2) := a2
       simp (decide := true) only [↓uR.o, dG.o, ja1, reduceIte, Bool.not_true, ↓ja0 l12, ↓ja0 l16, ↓ja0 l23, ↓ja0 l24, ↓ja0 l25, ↓ja0 l26, ↓jb7 _ 2 true 40 _ jj4, ↓jb7 _ 1 false 51 _ jl0, ↓r_no _ 6 true 56 _ jl1, e0, e7, e8, e9, e10, e11, jn5, jj3, unNF, z3, z1, zl, w1, a1, a2]
       rw [show stB (decide (i + 1 = n)) false kk = [97, 115, 115, 101, 114, 116, 40] by unfold stB; rw [if_neg c3, if_neg (by decide), if_neg c1, if_pos k1], show stL (decide (i + 1 = n)) false kk = [[41, 59]] by unfold stL; rw [if_neg c3, if_neg (by decide), if_neg c1, if_pos k1], show stW false kk = true by rw [k1]; rfl] at hx
       refine hx _ H2 v1 w2 ?_ (by simpa using st2)
       exact ⟨by simp (decide := true) only [ja1, reduceIte, e0], by simp (decide := true) only [ja1, reduceIte, e1], by simp (decide := true) only [ja1, reduceIte, e2], by simp (decide := true) only [ja1, reduceIte, e7], by simp (decide := true) only [ja1, reduceIte, e8], by simp (decide := true) only [ja1, reduceIte, e9], by simp (decide := true) only [ja1, reduceIte, e10]⟩
   have z1 : ((kk : Int) == 1) = false := by simp; omega
   have c1 : ¬ ((decide (i + 1 = n)) = true ∧ kk = 1) := fun h => k1 h.2
   obtain ⟨la, hla⟩ : ∃ la, ((i : Int) == ((n - 1 : Nat) : Int)) = la := ⟨_, rfl⟩
   have wF : stW false kk = false := by unfold stW; simp [k3, k1]
   by_cases k2 : kk = 2
   · have z2 : ((kk : Int) == 2) = true := by rw [k2]; rfl
     cases la with
     | true =>
       obtain ⟨v1, H1, a1, st1⟩ := st.str [105, 102, 32, 49, 123] (by decide) (by simp; omega)
       have a1 : appendA PP #[34, 9] v (.string ⟨#[105, 102, 32, 49, 123]⟩) H = some (v1, H1) := a1
       obtain ⟨w2, H2, a2, st2⟩ := st1.cut [125] (by decide) (by simp; omega)
       have a2 : appendA PP #[47, 47] w (.slice (some ⟨H1.next, 0, none⟩) 1 1) (H1.alloc 1 [.string ⟨#[125]⟩]) = some (w2, H2) := a2
       simp (decide := true) only [↓uR.o, dG.o, ja1, reduceIte, ↓ja0 l12, ↓ja0 l16, ↓ja0 l23, ↓ja0 l27, ↓ja0 l28, ↓ja0 l29, ↓jb7 _ 2 true 40 _ jj4, ↓jb7 _ 1 false 51 _ jl0, ↓jb7 _ 6 true 56 _ jl1, e0, e7, e8, e9, e10, e11, jn5, jj3, unNF, z3, z1, z2, hla, w1, a1, a2]
       rw [show stB (decide (i + 1 = n)) false kk = [105, 102, 32, 49, 123] by unfold stB; rw [if_neg c3, if_neg (by decide), if_neg c1, if_neg k1, if_pos k2], show stL (decide (i + 1 = n)) false kk = [[125]] by unfold stL; rw [if_neg c3, if_neg (by decide), if_neg c1, if_neg k1], wF] at hx
       refine hx _ H2 v1 w2 ?_ (by simpa using st2)
       exact ⟨by simp (decide := true) only [ja1, reduceIte, e0], by simp (decide := true) only [ja1, reduceIte, e1], by simp (decide := true) only [ja1, reduceIte, e2], by simp (decide := true) only [ja1, reduceIte, e7], by simp (decide := true) only [ja1, reduceIte, e8], by simp (decide := true) only [ja1, reduceIte, e9], by simp (decide := true) only [ja1, reduceIte, e10]⟩
     | false =>
       obtain ⟨v1, H1, a1, st1⟩ := st.str [105, 102, 32, 49, 123] (by decide) (by simp; omega)
       have a1 : appendA PP #[34, 9] v (.string ⟨#[105, 102, 32, 49, 123]⟩) H = some (v1, H1) := a1
       obtain ⟨w2, H2, a2, st2⟩ := st1.cut [125] (by decide) (by simp; omega)
       have a2 : appendA PP #[47, 47] w (.slice (some ⟨H1.next, 0, none⟩) 1 1) (H1.alloc 1 [.string ⟨#[125]⟩]) = some (w2, H2) := a2
       simp (decide := true) only [↓uR.o, dG.o, ja1, reduceIte, Bool.not_true, ↓ja0 l12, ↓ja0 l16, ↓ja0 l23, ↓ja0 l27, ↓ja0 l28, ↓ja0 l29, ↓jb7 _ 2 true 40 _ jj4, ↓jb7 _ 1 false 51 _ jl0, ↓r_no _ 6 true 56 _ jl1, e0, e7, e8, e9, e10, e11, jn5, jj3, unNF, z3, z1, z2, hla, w1, a1, a2]
       rw [show stB (decide (i + 1 = n)) false kk = [105, 102, 32, 49, 123] by unfold stB; rw [if_neg c3, if_neg (by decide), if_neg c1, if_neg k1, if_pos k2], show stL (decide (i + 1 = n)) false kk = [[125]] by unfold stL; rw [if_neg c3, if_neg (by decide), if_neg c1, if_neg k1], wF] at hx
       refine hx _ H2 v1 w2 ?_ (by simpa using st2)
       exact ⟨by simp (decide := true) only [ja1, reduceIte, e0], by simp (decide := true) only [ja1, reduceIte, e1], by simp (decide := true) only [ja1, reduceIte, e2], by simp (decide := true) only [ja1, reduceIte, e7], by simp (decide := true) only [ja1, reduceIte, e8], by simp (decide := true) only [ja1, reduceIte, e9], by simp (decide := true) only [ja1, reduceIte, e10]⟩
   · have z2 : ((kk : Int) == 2) = false := by simp; omega
     cases la with
     | true =>
       obtain ⟨v1, H1, a1, st1⟩ := st.str [101, 97, 99, 104, 32, 105, 32, 105, 110, 32, 48, 32, 46, 46, 32, 48, 123] (by decide) (by simp; omega)
       have a1 : appendA PP #[34, 9] v (.string ⟨#[101, 97, 99, 104, 32, 105, 32, 105, 110, 32, 48, 32, 46, 46, 32, 48, 123]⟩) H = some (v1, H1) := a1
       obtain ⟨w2, H2, a2, st2⟩ := st1.cut [125] (by decide) (by simp; omega)
       have a2 : appendA PP #[47, 47] w (.slice (some ⟨H1.next, 0, none⟩) 1 1) (H1.alloc 1 [.string ⟨#[125]⟩]) = some (w2, H2) := a2
       simp (decide := true) only [↓uR.o, dG.o, ja1, reduceIte, ↓ja0 l12, ↓ja0 l16, ↓ja0 l23, ↓ja0 l27, ↓ja0 l10, ↓ja0 l11, ↓jb7 _ 2 true 40 _ jj4, ↓jb7 _ 1 false 51 _ jl0, ↓jb7 _ 6 true 56 _ jl1, e0, e7, e8, e9, e10, e11, jn5, jj3, unNF, z3, z1, z2, hla, w1, a1, a2]
       rw [show stB (decide (i + 1 = n)) false kk = [101, 97, 99, 104, 32, 105, 32, 105, 110, 32, 48, 32, 46, 46, 32, 48, 123] by unfold stB; rw [if_neg c3, if_neg (by decide), if_neg c1, if_neg k1, if_neg k2], show stL (decide (i + 1 = n)) false kk = [[125]] by unfold stL; rw [if_neg c3, if_neg (by decide), if_neg c1, if_neg k1], wF] at hx
       refine hx _ H2 v1 w2 ?_ (by simpa using st2)
       exact ⟨by simp (decide := true) only [ja1, reduceIte, e0], by simp (decide := true) only [ja1, reduceIte, e1], by simp (decide := true) only [ja1, reduceIte, e2], by simp (decide := true) only [ja1, reduceIte, e7], by simp (decide := true) only [ja1, reduceIte, e8], by simp (decide := true) only [ja1, reduceIte, e9], by simp (decide := true) only [ja1, reduceIte, e10]⟩
     | false =>
       obtain ⟨v1, H1, a1, st1⟩ := st.str [101, 97, 99, 104, 32, 105, 32, 105, 110, 32, 48, 32, 46, 46, 32, 48, 123] (by decide) (by simp; omega)
       have a1 : appendA PP #[34, 9] v (.string ⟨#[101, 97, 99, 104, 32, 105, 32, 105, 110, 32, 48, 32, 46, 46, 32, 48, 123]⟩) H = some (v1, H1) := a1
       obtain ⟨w2, H2, a2, st2⟩ := st1.cut [125] (by decide) (by simp; omega)
       have a2 : appendA PP #[47, 47] w (.slice (some ⟨H1.next, 0, none⟩) 1 1) (H1.alloc 1 [.string ⟨#[125]⟩]) = some (w2, H2) := a2
       simp (decide := true) only [↓uR.o, dG.o, ja1, reduceIte, Bool.not_true, ↓ja0 l12, ↓ja0 l16, ↓ja0 l23, ↓ja0 l27, ↓ja0 l10, ↓ja0 l11, ↓jb7 _ 2 true 40 _ jj4, ↓jb7 _ 1 false 51 _ jl0, ↓r_no _ 6 true 56 _ jl1, e0, e7, e8, e9, e10, e11, jn5, jj3, unNF, z3, z1, z2, hla, w1, a1, a2]
       rw [show stB (decide (i + 1 = n)) false kk = [101, 97, 99, 104, 32, 105, 32, 105, 110, 32, 48, 32, 46, 46, 32, 48, 123] by unfold stB; rw [if_neg c3, if_neg (by decide), if_neg c1, if_neg k1, if_neg k2], show stL (decide (i + 1 = n)) false kk = [[125]] by unfold stL; rw [if_neg c3, if_neg (by decide), if_neg c1, if_neg k1], wF] at hx
       refine hx _ H2 v1 w2 ?_ (by simpa using st2)
       exact ⟨by simp (decide := true) only [ja1, reduceIte, e0], by simp (decide := true) only [ja1, reduceIte, e1], by simp (decide := true) only [ja1, reduceIte, e2], by simp (decide := true) only [ja1, reduceIte, e7], by simp (decide := true) only [ja1, reduceIte, e8], by simp (decide := true) only [ja1, reduceIte, e9], by simp (decide := true) only [ja1, reduceIte, e10]⟩
end Go.Am
namespace Go.Am
set_option maxRecDepth 100000
variable {H0 H : Heap} {v w : Value} {b : List UInt8} {l : List (List UInt8)} {N D n : Nat} {hk : Hook} {Q : Am.R → Prop} {k : KOE}
def kAt (ks : List UInt8) (i : Nat) : Nat := if ks = [] then 0 else (ks.getD (i % ks.length) 0).toNat % 4
theorem y22 (ks : List UInt8) (i : Nat) : kAt ks i < 4 := by
 unfold kAt
 split <;> omega
def kL (ks : List UInt8) : Nat → Nat → List Nat
 | _, 0 => []
 | i, j + 1 => kAt ks i :: kL ks (i + 1) j
theorem yw6 (ks : List UInt8) : ∀ (j i : Nat), (kL ks i j).length = j
 | 0, _ => rfl
 | j + 1, i => by show (kL ks (i + 1) j).length + 1 = _; rw [yw6 ks j]
theorem y7e (ks : List UInt8) (i j n : Nat) (h : i + (j + 1) = n) : (kL ks (i + 1) j).isEmpty = decide (i + 1 = n) := by
 cases j with
 | zero => simp [kL]; omega
 | succ j => simp [kL]; omega
def opW : Bool → List Nat → List UInt8
 | _, [] => []
 | wi, k :: ks => stB ks.isEmpty wi k ++ opW (stW wi k) ks
def clW : Bool → List Nat → List (List UInt8)
 | _, [] => []
 | wi, k :: ks => stL ks.isEmpty wi k ++ clW (stW wi k) ks
def inW : Bool → List Nat → Bool
 | wi, [] => wi
 | wi, k :: ks => inW (stW wi k) ks
theorem y23 (la wi : Bool) (k : Nat) : (stB la wi k).length ≤ 17 := by
 unfold stB
 repeat' split
 all_goals decide
theorem y24 (la wi : Bool) (k : Nat) : (stL la wi k).length ≤ 2 ∧ ∀ x ∈ stL la wi k, x ≠ [] ∧ x.length ≤ 2 := by
 unfold stL
 repeat' split
 all_goals decide
theorem yw7 : ∀ (ks : List Nat) (wi : Bool), (opW wi ks).length ≤ 17 * ks.length
 | [], _ => by simp [opW]
 | k :: ks, wi => by
   have := y23 ks.isEmpty wi k
   have := yw7 ks (stW wi k)
   simp only [opW, List.length_append, List.length_cons]
   omega
theorem yw8 : ∀ (ks : List Nat) (wi : Bool), (clW wi ks).length ≤ 2 * ks.length ∧ ∀ x ∈ clW wi ks, x ≠ [] ∧ x.length ≤ 2
 | [], _ => by simp [clW]
 | k :: ks, wi => by
   have h1 := y24 ks.isEmpty wi k
   have h2 := yw8 ks (stW wi k)
   simp only [clW, List.length_append, List.length_cons]
   refine ⟨by omega, fun x hx => ?_⟩
   rcases List.mem_append.mp hx with h | h
   · exact h1.2 x h
   · exact h2.2 x h
theorem Nst.ext (h : Nst H0 H v w b l) (f : Fresh H0) : Ext H0 H := ⟨h.nx, fun q x e => h.kp q x (by
 rcases Nat.lt_or_ge q H0.next with z | z
 · exact z
 · rw [f q z] at e; cases e) e, h.fr⟩
theorem y15 (x : Int) (H : Heap) : convertA PP 5 3 (.int .u8 x) H = some (.int .i64 (IntKind.i64.wrap x), H) := by kernel_rfl
set_option maxHeartbeats 1000000 in
theorem y5q {E : Env} {a : Option Addr} {c i : Nat} {ks : List UInt8} {cl wi : Bool} (hf0 : Fresh H0) (hr : Brow H0 a ks) (e' : E 0 = .int .i64 (n : Int) ∧ E 1 = .slice a ks.length c ∧ E 2 = .bool cl ∧ E 7 = v ∧ E 8 = w ∧ E 9 = .bool wi ∧ E 10 = .int .i64 (i : Int)) (hi : i < n) (hn : n ≤ 20000) (st : Nst H0 H v w b l) (hb : b.length ≤ 17 * i + 9) (hl : l.length ≤ 2 * i)
   (hx : ∀ E' H' v' w', E' 0 = .int .i64 (n : Int) ∧ E' 1 = .slice a ks.length c ∧ E' 2 = .bool cl ∧ E' 7 = v' ∧ E' 8 = w' ∧ E' 9 = .bool (stW wi (kAt ks i)) ∧ E' 10 = .int .i64 ((i + 1 : Nat) : Int) → Nst H0 H' v' w' (b ++ stB (decide (i + 1 = n)) wi (kAt ks i)) (l ++ stL (decide (i + 1 = n)) wi (kAt ks i)) → Q (k .norm E' [] H')) :
   Q (execG PP XX (CH N hk D) N noPr (.seq (.seq (rF Tryz.f16 5) (.cond (.tmp 17) .skip (.exit 0))) (.seq (.block 1 (.seq (rF Tryz.f16 7) (.seq (.seq (rF Tryz.f16 8) (.cond (.tmp 22) (rF Tryz.f16 9) .skip)) (.block 2 (.seq (rF Tryz.f16 12) (.cond (.tmp 37) (.seq (rF Tryz.f16 13) (.seq (rF Tryz.f16 14) (rF Tryz.f16 15))) (.seq (rF Tryz.f16 16) (.cond (.tmp 49) (.seq (.seq (rF Tryz.f16 17) (.cond (.tmp 62) (.seq (rF Tryz.f16 18) (.seq (rF Tryz.f16 19) (rF Tryz.f16 20))) .skip)) (.seq (rF Tryz.f16 21) (rF Tryz.f16 22))) (.seq (rF Tryz.f16 23) (.cond (.tmp 74) (.seq (rF Tryz.f16 24) (.seq (rF Tryz.f16 25) (rF Tryz.f16 26))) (.seq (rF Tryz.f16 27) (.cond (.tmp 82) (.seq (rF Tryz.f16 28) (rF Tryz.f16 29)) (.seq (rF Tryz.f16 10) (rF Tryz.f16 11)))))))))))))) (rF Tryz.f16 6))) none E [] H k) := by
 obtain ⟨e0, e1, e2, e7, e8, e9, e10⟩ := e'
 have w1 : IntKind.i64.wrap ((i : Int) + 1) = ((i + 1 : Nat) : Int) := by rw [jb2 (by omega) (by omega)]; omega
 have hlt : decide ((i : Int) < (n : Int)) = true := decide_eq_true (by omega)
 have lL := lX5 Tryz.f16 5 6 7 8 9
 conv at lL in (occs := *) (rgnX _ _) => all_goals simp only [rX, opsAt, Tryz.f16, dL.o, reduceIte, Nat.reduceEqDiff]
 obtain ⟨l5, l6, l7, l8, l9⟩ := lL
 generalize hC : (.block 2 (.seq (rF Tryz.f16 12) (.cond (.tmp 37) (.seq (rF Tryz.f16 13) (.seq (rF Tryz.f16 14) (rF Tryz.f16 15))) (.seq (rF Tryz.f16 16) (.cond (.tmp 49) (.seq (.seq (rF Tryz.f16 17) (.cond (.tmp 62) (.seq (rF Tryz.f16 18) (.seq (rF Tryz.f16 19) (rF Tryz.f16 20))) .skip)) (.seq (rF Tryz.f16 21) (rF Tryz.f16 22))) (.seq (rF Tryz.f16 23) (.cond (.tmp 74) (.seq (rF Tryz.f16 24) (.seq (rF Tryz.f16 25) (rF Tryz.f16 26))) (.seq (rF Tryz.f16 27) (.cond (.tmp 82) (.seq (rF Tryz.f16 28) (rF Tryz.f16 29)) (.seq (rF Tryz.f16 10) (rF Tryz.f16 11)))))))))) : Code) = C
 by_cases hks : ks = []
 · have hk' : kAt ks i = 0 := if_pos hks
   have g : decide ((ks.length : Int) > 0) = false := by rw [hks]; rfl
   simp (decide := true) only [↓uR.o, dG.o, ja1, reduceIte, ↓ja0 l5, ↓ja0 l7, ↓ja0 l8, e0, e1, e10, hlt, ja7 (ts := #[34]) rfl und34, g]
   rw [← hC]
   refine y7d (a := a) (c := c) (n := n) (i := i) (ks := ks) (cl := cl) (wi := wi) (v := v) (w := w) (kk := kAt ks i) ⟨⟨by simp (decide := true) only [ja1, reduceIte, e0], by simp (decide := true) only [ja1, reduceIte, e1], by simp (decide := true) only [ja1, reduceIte, e2], by simp (decide := true) only [ja1, reduceIte, e7], by simp (decide := true) only [ja1, reduceIte, e8], by simp (decide := true) only [ja1, reduceIte, e9], by simp (decide := true) only [ja1, reduceIte, e10]⟩, ?_⟩ (y22 ks i) hi hn st hb hl fun E' H' v' w' f st' => ?_
   · rw [hk']; simp (decide := true) only [ja1, reduceIte, Int.ofNat_zero]
   · obtain ⟨f0, f1, f2, f7, f8, f9, f10⟩ := f
     simp (decide := true) only [↓uR.o, dG.o, ja1, reduceIte, ↓ja0 l6, f10, w1]
     refine hx _ H' v' w' ?_ st'
     exact ⟨by simp (decide := true) only [ja1, reduceIte, f0], by simp (decide := true) only [ja1, reduceIte, f1], by simp (decide := true) only [ja1, reduceIte, f2], by simp (decide := true) only [ja1, reduceIte, f7], by simp (decide := true) only [ja1, reduceIte, f8], by simp (decide := true) only [ja1, reduceIte, f9], by simp (decide := true) only [ja1, reduceIte, f10]⟩
 · have hlen : 0 < ks.length := List.length_pos_iff.mpr hks
   have g : decide ((ks.length : Int) > 0) = true := decide_eq_true (by omega)
   have hm : i % ks.length < ks.length := Nat.mod_lt _ hlen
   have hk' : kAt ks i = (ks[i % ks.length]).toNat % 4 := by unfold kAt; rw [if_neg hks]; simp [List.getD, hm]
   have hne : (ks.length : Int) ≠ 0 := by omega
   have t1 : (i : Int).tmod (ks.length : Int) = ((i % ks.length : Nat) : Int) := by rw [Int.tmod_eq_emod_of_nonneg (by omega)]; exact (Int.natCast_emod _ _).symm
   have t2 : (((ks[i % ks.length]).toNat : Nat) : Int).tmod 4 = (((ks[i % ks.length]).toNat % 4 : Nat) : Int) := by rw [Int.tmod_eq_emod_of_nonneg (by omega)]; omega
   have hw : IntKind.i64.wrap (((ks[i % ks.length]).toNat : Nat) : Int) = (((ks[i % ks.length]).toNat : Nat) : Int) := by
     have := (ks[i % ks.length]).toNat_lt
     rw [jb2 (by omega) (by omega)]
   obtain ⟨y, hy, hld⟩ := (hr.ext (st.ext hf0)).bts.cell (i % ks.length) hm
   have hix : indexAddrA PP 34 (.slice a ks.length c) (.int .i64 ((i % ks.length : Nat) : Int)) = some (.pointer (some (y.add (i % ks.length)))) := by rw [hy]; exact jc1 (n := ks.length) (c := c) (a := y) hm
   simp (decide := true) only [↓uR.o, dG.o, ja1, reduceIte, ↓ja0 l5, ↓ja0 l7, ↓ja0 l8, ↓ja0 l9, e0, e1, e10, hlt, ja7 (ts := #[34]) rfl und34, g, j05 hne, t1, hix, ja9 hld, y15, hw, j05 (show (4 : Int) ≠ 0 by decide), t2]
   rw [← hC]
   refine y7d (a := a) (c := c) (n := n) (i := i) (ks := ks) (cl := cl) (wi := wi) (v := v) (w := w) (kk := kAt ks i) ⟨⟨by simp (decide := true) only [ja1, reduceIte, e0], by simp (decide := true) only [ja1, reduceIte, e1], by simp (decide := true) only [ja1, reduceIte, e2], by simp (decide := true) only [ja1, reduceIte, e7], by simp (decide := true) only [ja1, reduceIte, e8], by simp (decide := true) only [ja1, reduceIte, e9], by simp (decide := true) only [ja1, reduceIte, e10]⟩, ?_⟩ (y22 ks i) hi hn st hb hl fun E' H' v' w' f st' => ?_
   · rw [hk']; simp (decide := true) only [ja1, reduceIte]
   · obtain ⟨f0, f1, f2, f7, f8, f9, f10⟩ := f
     simp (decide := true) only [↓uR.o, dG.o, ja1, reduceIte, ↓ja0 l6, f10, w1]
     refine hx _ H' v' w' ?_ st'
     exact ⟨by simp (decide := true) only [ja1, reduceIte, f0], by simp (decide := true) only [ja1, reduceIte, f1], by simp (decide := true) only [ja1, reduceIte, f2], by simp (decide := true) only [ja1, reduceIte, f7], by simp (decide := true) only [ja1, reduceIte, f8], by simp (decide := true) only [ja1, reduceIte, f9], by simp (decide := true) only [ja1, reduceIte, f10]⟩
theorem yw9 {a : Option Addr} {c : Nat} {ks : List UInt8} {cl : Bool} (hf0 : Fresh H0) (hr : Brow H0 a ks) (hn : n ≤ 20000) : ∀ (j m : Nat) (_ : j < m) {i : Nat} {H : Heap} {E : Env} {wi : Bool} {v w : Value} {b : List UInt8} {l : List (List UInt8)} (_ : i + j = n) (_ : E 0 = .int .i64 (n : Int) ∧ E 1 = .slice a ks.length c ∧ E 2 = .bool cl ∧ E 7 = v ∧ E 8 = w ∧ E 9 = .bool wi ∧ E 10 = .int .i64 (i : Int)) (_ : Nst H0 H v w b l) (_ : b.length ≤ 17 * i + 9) (_ : l.length ≤ 2 * i)
   (_ : ∀ E' H' v' w', E' 0 = .int .i64 (n : Int) ∧ E' 1 = .slice a ks.length c ∧ E' 2 = .bool cl ∧ E' 7 = v' ∧ E' 8 = w' ∧ E' 9 = .bool (inW wi (kL ks i j)) ∧ E' 10 = .int .i64 (n : Int) → Nst H0 H' v' w' (b ++ opW wi (kL ks i j)) (l ++ clW wi (kL ks i j)) → Q (k (.exit 0) E' [] H')),
   Q (loopE (execG PP XX (CH N hk D) N noPr (.seq (.seq (rF Tryz.f16 5) (.cond (.tmp 17) .skip (.exit 0))) (.seq (.block 1 (.seq (rF Tryz.f16 7) (.seq (.seq (rF Tryz.f16 8) (.cond (.tmp 22) (rF Tryz.f16 9) .skip)) (.block 2 (.seq (rF Tryz.f16 12) (.cond (.tmp 37) (.seq (rF Tryz.f16 13) (.seq (rF Tryz.f16 14) (rF Tryz.f16 15))) (.seq (rF Tryz.f16 16) (.cond (.tmp 49) (.seq (.seq (rF Tryz.f16 17) (.cond (.tmp 62) (.seq (rF Tryz.f16 18) (.seq (rF Tryz.f16 19) (rF Tryz.f16 20))) .skip)) (.seq (rF Tryz.f16 21) (rF Tryz.f16 22))) (.seq (rF Tryz.f16 23) (.cond (.tmp 74) (.seq (rF Tryz.f16 24) (.seq (rF Tryz.f16 25) (rF Tryz.f16 26))) (.seq (rF Tryz.f16 27) (.cond (.tmp 82) (.seq (rF Tryz.f16 28) (rF Tryz.f16 29)) (.seq (rF Tryz.f16 10) (rF Tryz.f16 11)))))))))))))) (rF Tryz.f16 6))) none) m E [] H k)
 | 0, m + 1, hm, i, H, E, wi, v, w, b, l, hij, e', st, hb, hl, hx => by
   obtain ⟨e0, e1, e2, e7, e8, e9, e10⟩ := e'
   have hin : i = n := by omega
   have hlt : decide ((i : Int) < (n : Int)) = false := decide_eq_false (by omega)
   rw [jb5]
   have l5 := tl (rgn Tryz.f16 5)
   conv at l5 => rhs; simp only [rgn, opsAt, codeOf, Tryz.f16, gS, gN, reduceIte, Nat.reduceEqDiff, tA]
   simp (decide := true) only [↓uR.o, dG.o, ja1, reduceIte, ↓ja0 l5, e0, e10, hlt]
   refine hx _ H v w ?_ (by simpa [kL, opW, clW] using st)
   rw [hin] at e10
   exact ⟨by simp (decide := true) only [ja1, reduceIte, e0], by simp (decide := true) only [ja1, reduceIte, e1], by simp (decide := true) only [ja1, reduceIte, e2], by simp (decide := true) only [ja1, reduceIte, e7], by simp (decide := true) only [ja1, reduceIte, e8], by simp (decide := true) only [ja1, reduceIte, e9, kL, inW], by simp (decide := true) only [ja1, reduceIte, e10]⟩
 | j + 1, m + 1, hm, i, H, E, wi, v, w, b, l, hij, e', st, hb, hl, hx => by
   rw [jb5]
   refine y5q hf0 hr e' (by omega) hn st hb hl fun E' H' v' w' f st' => ?_
   rw [jc4]
   have hla := y7e ks i j n hij
   rw [← hla] at st'
   have h1 := y23 (kL ks (i + 1) j).isEmpty wi (kAt ks i)
   have h2 := (y24 (kL ks (i + 1) j).isEmpty wi (kAt ks i)).1
   refine yw9 hf0 hr hn j m (by omega) (by omega) f st' (by rw [List.length_append]; omega) (by rw [List.length_append]; omega) fun E'' H'' v'' w'' f' st'' => ?_
   refine hx E'' H'' v'' w'' f' ?_
   rw [List.append_assoc, List.append_assoc] at st''
   exact st''
def clF (l : List (List UInt8)) : Nat → List UInt8
 | 0 => []
 | j + 1 => l.getD j [] ++ clF l j
theorem yx0 (l : List (List UInt8)) (hl : ∀ x ∈ l, x ≠ [] ∧ x.length ≤ 2) : ∀ j, j ≤ l.length → (clF l j).length ≤ 2 * j
 | 0, _ => by simp [clF]
 | j + 1, h => by
   have h1 := yx0 l hl j (by omega)
   have h2 := (hl (l[j]) (List.getElem_mem _)).2
   have e : l.getD j [] = l[j] := by simp [List.getD, show j < l.length by omega]
   simp only [clF, e, List.length_append]
   omega
theorem y16 (h : Row H w 1 l.length (l.map strV)) {j : Nat} (hj : j < l.length) : ∃ p, indexAddrA PP 47 w (.int .i64 (j : Int)) = some p ∧ loadA PP 9 p H = some (.string ⟨⟨l[j]⟩⟩, H) := by
 rcases h with ⟨_, h, _⟩ | ⟨q, rfl, hg, _⟩
 · omega
 · exact ⟨_, yt8 hj, j8l hg hj⟩
theorem j81 (hl : ∀ x ∈ l, x ≠ [] ∧ x.length ≤ 2) (hs : l.length ≤ 40000) : ∀ (j m : Nat) (_ : j < m) (_ : j ≤ l.length) {H : Heap} {E : Env} {v : Value} {b : List UInt8} (_ : E 7 = v ∧ E 8 = w ∧ E 12 = .int .i64 ((j : Int) - 1)) (_ : Nst H0 H v w b l) (_ : b.length + 2 * j ≤ 500000)
   (_ : ∀ E' H' v', E' 7 = v' ∧ E' 8 = w ∧ E' 12 = .int .i64 (-1) → (∀ t, t ≠ 7 → t ≠ 12 → t < 98 → E' t = E t) → Nst H0 H' v' w (b ++ clF l j) l → Q (k (.exit 3) E' [] H')),
   Q (loopE (execG PP XX (CH N hk D) N noPr (.seq (.seq (rF Tryz.f16 34) (.cond (.tmp 99) .skip (.exit 3))) (.seq (.block 4 (rF Tryz.f16 36)) (rF Tryz.f16 35))) none) m E [] H k)
 | 0, m + 1, hm, hj, H, E, v, b, e', st, hb, hx => by
   obtain ⟨e7, e8, e12⟩ := e'
   have e12 : E 12 = .int .i64 (-1) := e12
   have g : decide ((-1 : Int) ≥ 0) = false := rfl
   rw [jb5]
   have l34 := tl (rgn Tryz.f16 34)
   conv at l34 => rhs; simp only [rgn, opsAt, codeOf, Tryz.f16, gS, gN, reduceIte, Nat.reduceEqDiff, tA]
   simp (decide := true) only [↓uR.o, dG.o, ja1, reduceIte, ↓ja0 l34, e12, dcF]
   refine hx _ H v ?_ (fun t h1 h2 h3 => ?_) (by simpa [clF] using st)
   · exact ⟨by simp (decide := true) only [ja1, reduceIte, e7], by simp (decide := true) only [ja1, reduceIte, e8], by simp (decide := true) only [ja1, reduceIte, e12]⟩
   · simp only [ja1]; rw [if_neg (by omega), if_neg (by omega)]
 | j + 1, m + 1, hm, hj, H, E, v, b, e', st, hb, hx => by
   obtain ⟨e7, e8, e12⟩ := e'
   have e12 : E 12 = .int .i64 (j : Int) := by rw [e12]; congr 1; omega
   have g : decide ((j : Int) ≥ 0) = true := decide_eq_true (by omega)
   have w1 : IntKind.i64.wrap ((j : Int) - 1) = (j : Int) - 1 := jb2 (by omega) (by omega)
   have hm2 := hl (l[j]) (List.getElem_mem _)
   obtain ⟨p, hix, hld⟩ := y16 st.rl (show j < l.length by omega)
   obtain ⟨v1, H1, a1, st1⟩ := st.str (l[j]) hm2.1 (by omega)
   rw [jb5]
   have lL := lX3 Tryz.f16 34 35 36
   conv at lL in (occs := *) (rgnX _ _) => all_goals simp only [rX, opsAt, Tryz.f16, dL.o, reduceIte, Nat.reduceEqDiff]
   obtain ⟨l34, l35, l36⟩ := lL
   simp (decide := true) only [↓uR.o, dG.o, ja1, reduceIte, ↓ja0 l34, ↓ja0 l35, ↓ja0 l36, e7, e8, e12, g, w1, hix, hld, jn5, a1]
   have ec : clF l (j + 1) = l[j] ++ clF l j := by simp [clF, List.getD, show j < l.length by omega]
   refine j81 hl hs j m (by omega) (by omega) ?_ st1 (by rw [List.length_append]; omega) fun E' H' v' f fr st' => ?_
   · exact ⟨by simp (decide := true) only [ja1, reduceIte, e7], by simp (decide := true) only [ja1, reduceIte, e8], by simp (decide := true) only [ja1, reduceIte, e12]⟩
   · refine hx E' H' v' f (fun t h1 h2 h3 => ?_) ?_
     · rw [fr t h1 h2 h3]
       simp only [ja1]
       repeat rw [if_neg (by omega)]
     · rw [ec, ← List.append_assoc]; exact st'
def nestT (cl : Bool) (ks : List Nat) : List UInt8 := [115, 121, 115, 116, 101, 109, 32, 97, 123] ++ opW false ks ++ (if inW false ks = true then [48] else []) ++ (if cl = true then clF (clW false ks) (clW false ks).length ++ [125] else [])
theorem yh7 (H : Heap) : buildSliceA PP 34 9 #[(0, .int .u8 115), (1, .int .u8 121), (2, .int .u8 115), (3, .int .u8 116), (4, .int .u8 101), (5, .int .u8 109), (6, .int .u8 32), (7, .int .u8 97), (8, .int .u8 123)] H = some (.slice (some ⟨H.next, 0, none⟩) 9 9, H.alloc 1 [.int .u8 115, .int .u8 121, .int .u8 115, .int .u8 116, .int .u8 101, .int .u8 109, .int .u8 32, .int .u8 97, .int .u8 123]) := by
 have hf : Instr.fill (fun i => some (i * 1, 1)) (zeroRow [.int .u8 0] (9 * 1)).toArray [(0, .int .u8 115), (1, .int .u8 121), (2, .int .u8 115), (3, .int .u8 116), (4, .int .u8 101), (5, .int .u8 109), (6, .int .u8 32), (7, .int .u8 97), (8, .int .u8 123)] = some #[.int .u8 115, .int .u8 121, .int .u8 115, .int .u8 116, .int .u8 101, .int .u8 109, .int .u8 32, .int .u8 97, .int .u8 123] := by rfl
 simp only [buildSliceA, und34, size5, zeroB, mkRow, hf]
 simp
theorem yx1 {q : Nat} {cells : List Value} (h : H.get q = some ⟨cells, true, 1, none⟩) : convertA PP 34 34 (.slice (some ⟨q, 0, none⟩) n n) H = some (.slice (some ⟨q, 0, none⟩) n n, H) := by
 simp [convertA, look, h]
theorem Nst.brow (h : Nst H0 H v w b l) (hs : b.length ≤ 1048576) (hne : b ≠ []) : ∃ y, v = .slice (some y) b.length b.length ∧ Brow H (some y) b := by
 rcases h.rb with ⟨_, h0, _⟩ | ⟨q, hv, hg, _⟩
 · exact absurd (List.length_eq_zero_iff.mp h0) hne
 · refine ⟨_, hv, fun z hz => ?_, fun e => (by cases e), by omega⟩
   obtain rfl := Option.some.inj hz
   refine ⟨_, by simp [look, hg]; rfl, rfl, by simp, ?_⟩
   simp only [List.drop_zero]
   rw [List.take_of_length_le (by simp)]
   rfl
theorem yh8 (E : Env) (x0 : Operand) (x1 : Operand) (x2 : Operand) (x3 : Operand) (x4 : Operand) (x5 : Operand) (x6 : Operand) (x7 : Operand) (x8 : Operand) : (#[(0, x0), (1, x1), (2, x2), (3, x3), (4, x4), (5, x5), (6, x6), (7, x7), (8, x8)] : Array (Nat × Operand)).map (fun (i, x) => (i, evalE E x)) = #[(0, evalE E x0), (1, evalE E x1), (2, evalE E x2), (3, evalE E x3), (4, evalE E x4), (5, evalE E x5), (6, evalE E x6), (7, evalE E x7), (8, evalE E x8)] := by simp
end Go.Am
namespace Go.Am
theorem y5r (n : Nat) (x : UInt8) (t : List UInt8) : List.replicate n x ++ x :: t = List.replicate (n + 1) x ++ t := by
 rw [List.replicate_succ', List.append_assoc]; rfl
theorem j5c (k : Nat) : stW true k = true := rfl
theorem j5d : ∀ ks : List Nat, opW true ks = List.replicate ks.length 40
 | [] => rfl
 | k :: ks => by
   show stB ks.isEmpty true k ++ opW (stW true k) ks = _
   rw [j5c, j5d ks]
   rfl
theorem j5e : ∀ ks : List Nat, inW true ks = true
 | [] => rfl
 | k :: ks => by
   show inW (stW true k) ks = _
   rw [j5c, j5e ks]
theorem j2p : ∀ (ks : List Nat) (t : List UInt8), opW false ks ++ ((if inW false ks = true then [48] else []) ++ t) = nXT ks t
 | [], t => rfl
 | k :: ks, t => by
   show (stB ks.isEmpty false k ++ opW (stW false k) ks) ++ ((if inW (stW false k) ks = true then [48] else []) ++ t) = _
   unfold nXT
   by_cases k3 : k = 3
   · have e1 : stB ks.isEmpty false k = [115, 116, 97, 114, 116, 32, 112, 91] := by unfold stB; rw [if_pos ⟨rfl, k3⟩]
     have e2 : stW false k = true := by rw [k3]; rfl
     rw [if_pos k3, e1, e2, j5d, j5e, if_pos rfl]
     simp [brT]
   · rw [if_neg k3]
     have c3 : ¬ (false = false ∧ k = 3) := fun h => k3 h.2
     by_cases k1 : k = 1
     · have e2 : stW false k = true := by rw [k1]; rfl
       rw [if_pos k1, e2, j5d, j5e, if_pos rfl]
       cases ks with
       | nil =>
         have e1 : stB ([] : List Nat).isEmpty false k = [97, 115, 115, 101, 114, 116, 32, 40] := by unfold stB; rw [if_neg c3, if_neg (by decide), if_pos ⟨rfl, k1⟩]
         rw [e1]
         simp [brT]
       | cons k' ks =>
         have e1 : stB (k' :: ks).isEmpty false k = [97, 115, 115, 101, 114, 116, 40] := by unfold stB; rw [if_neg c3, if_neg (by decide), if_neg (fun h => by cases h.1), if_pos k1]
         rw [e1, if_neg (by simp)]
         simp [brT, List.replicate_succ]
     · have e2 : stW false k = false := by unfold stW; simp [k3, k1]
       rw [if_neg k1, e2]
       have ih := j2p ks t
       by_cases k2 : k = 2
       · have e1 : stB ks.isEmpty false k = [105, 102, 32, 49, 123] := by unfold stB; rw [if_neg c3, if_neg (by decide), if_neg (fun h => k1 h.2), if_neg k1, if_pos k2]
         rw [if_pos k2, e1, ← ih]
         simp
       · have e1 : stB ks.isEmpty false k = [101, 97, 99, 104, 32, 105, 32, 105, 110, 32, 48, 32, 46, 46, 32, 48, 123] := by unfold stB; rw [if_neg c3, if_neg (by decide), if_neg (fun h => k1 h.2), if_neg k1, if_neg k2]
         rw [if_neg k2, e1, ← ih]
         simp
theorem yc2 (x : List UInt8) (l : List (List UInt8)) : ∀ j, clF (x :: l) (j + 1) = clF l j ++ x
 | 0 => by simp [clF]
 | j + 1 => by
   show (x :: l).getD (j + 1) [] ++ clF (x :: l) (j + 1) = (l.getD j [] ++ clF l j) ++ x
   rw [yc2 x l j, List.append_assoc]
   rfl
def clA (l : List (List UInt8)) : List UInt8 := clF l l.length
theorem j07 (x : List UInt8) (l : List (List UInt8)) : clA (x :: l) = clA l ++ x := yc2 x l l.length
theorem j5f : ∀ ks : List Nat, clA (clW true ks) = List.replicate ks.length 41
 | [] => rfl
 | k :: ks => by
   show clA (stL ks.isEmpty true k ++ clW (stW true k) ks) = _
   have e : stL ks.isEmpty true k = [[41]] := rfl
   rw [e, j5c, List.cons_append, List.nil_append, j07, j5f ks, List.length_cons, ← List.replicate_succ']
theorem j0f : ∀ (ks : List Nat) (t : List UInt8), clA (clW false ks) ++ t = nCT ks t
 | [], t => rfl
 | k :: ks, t => by
   show clA (stL ks.isEmpty false k ++ clW (stW false k) ks) ++ t = _
   unfold nCT
   by_cases k3 : k = 3
   · have e1 : stL ks.isEmpty false k = [[93, 59]] := by unfold stL; rw [if_pos ⟨rfl, k3⟩]
     have e2 : stW false k = true := by rw [k3]; rfl
     rw [if_pos k3, e1, e2, List.cons_append, List.nil_append, j07, j5f]
     simp
   · rw [if_neg k3]
     have c3 : ¬ (false = false ∧ k = 3) := fun h => k3 h.2
     by_cases k1 : k = 1
     · have e2 : stW false k = true := by rw [k1]; rfl
       rw [if_pos k1, e2]
       cases ks with
       | nil =>
         have e1 : stL ([] : List Nat).isEmpty false k = [[59], [41]] := by unfold stL; rw [if_neg c3, if_neg (by decide), if_pos ⟨rfl, k1⟩]
         rw [e1]
         rfl
       | cons k' ks =>
         have e1 : stL (k' :: ks).isEmpty false k = [[41, 59]] := by unfold stL; rw [if_neg c3, if_neg (by decide), if_neg (fun h => by cases h.1), if_pos k1]
         rw [e1, List.cons_append, List.nil_append, j07, j5f, List.append_assoc]
         show List.replicate (k' :: ks).length 41 ++ (41 :: 59 :: t) = _
         rw [y5r]
     · have e2 : stW false k = false := by unfold stW; simp [k3, k1]
       have e1 : stL ks.isEmpty false k = [[125]] := by unfold stL; rw [if_neg c3, if_neg (by decide), if_neg (fun h => k1 h.2), if_neg k1]
       rw [if_neg k1, e2, e1, List.cons_append, List.nil_append, j07, List.append_assoc]
       exact j0f ks (125 :: t)
theorem j2q (ks : List Nat) : nestT true ks = [115, 121, 115, 116, 101, 109] ++ (32 :: 97 :: 123 :: nXT ks (nCT ks (125 :: []))) := by
 have h1 := j2p ks (clA (clW false ks) ++ [125])
 rw [j0f ks [125]] at h1
 rw [← h1, ← j0f ks [125]]
 simp [nestT, clA]
theorem jx8 (ks : List Nat) : nestT false ks = [115, 121, 115, 116, 101, 109] ++ (32 :: 97 :: 123 :: nXT ks []) := by
 rw [← j2p ks []]
 simp [nestT]
theorem yx2 (cl : Bool) (ks : List Nat) : ∃ t, Hd t ∧ nestT cl ks = [115, 121, 115, 116, 101, 109] ++ (32 :: 97 :: 123 :: nXT ks t) := by
 cases cl with
 | true => exact ⟨_, y7c ks _ (yw1 []), j2q ks⟩
 | false => exact ⟨_, yw2, jx8 ks⟩
theorem j0g {s x : List UInt8} {nn m fl : Nat} (h : s = [115, 121, 115, 116, 101, 109] ++ (32 :: 97 :: 123 :: x)) : ∃ (f : Rf) (p : PS), Cur s p [123] x ∧ p.opened = 0 ∧ p.at_ = 8 ∧ f.word = ⟨#[97]⟩ ∧
   parseP s nn m fl = bindM (blockP s (ruP s (exprP s nn) m fl 0) m p) fun l p => if p.at_ < s.length then some (.er (.bad p.at_)) else some (.ok ⟨(nextP s ps0).at_, f, p.its, p.nds, l⟩ p) := by
 have c1 := jg1 (s := s) (p := ps0) (b := []) (w := [115, 121, 115, 116, 101, 109]) (r := 32 :: 97 :: 123 :: x) (.inl rfl) h (by simp) (by decide) (fun u e => by injection e with e; rw [← e]; decide)
 have k1 : (nextP s ps0).k.kind = 30 := by rw [c1.1.k]; exact yv8
 have c2 := jg1 (s := s) (p := nextP s ps0) (b := [32]) (w := [97]) (r := 123 :: x) (.inr rfl) c1.1.ahead (by simp) (by decide) (fun u e => by injection e with e; rw [← e]; decide)
 have k2 : (nextP s (nextP s ps0)).k.kind = 1 := by rw [c2.1.k]; exact kd_a
 have c3 := jg7 (s := s) (p := nextP s (nextP s ps0)) (b := []) (u := 123) (r := x) (.inl rfl) c2.1.ahead (by decide)
 refine ⟨⟨(nextP s (nextP s ps0)).k.w, (nextP s (nextP s ps0)).at_, []⟩, nextP s (nextP s (nextP s ps0)), c3.1, ?_, ?_, ?_, ?_⟩
 · rw [(jb0 s _).1, (jb0 s _).1, (jb0 s _).1]; rfl
 · have h0 : ps0.to_ = 0 := rfl
   have h1 := c1.2
   have h2 := c1.1.to_
   have h3 := c2.2
   have h4 := c2.1.to_
   have h5 := c3.2
   simp only [List.length_cons, List.length_nil] at *
   omega
 · show (nextP s (nextP s ps0)).k.w = _
   rw [c2.1.k]
   decide +kernel
 · unfold parseP mustP wordP
   rw [if_pos k1, ja6, if_pos k2, ja6]
theorem j63 (ks : List Nat) {nn m fl : Nat} (hm : 1 < m) (hn : ks.length ≤ nn) (hf : ks.length < fl) (hk : ks.length + 1 ≤ 32) : ∃ t p, parseP (nestT true ks) (nn + 1) m fl = some (.ok t p) ∧ t.name.word = ⟨#[97]⟩ := by
 obtain ⟨f, p, c, o, a, hw, e⟩ := j0g (nn := nn + 1) (m := m) (fl := fl) (j2q ks)
 obtain ⟨l, q, e2, _, st⟩ := (j80 (nestT true ks) (nn := nn) hm ks fl hn hf).1 p [] c yw2 (by omega)
 rcases st with ⟨_, _, ha⟩ | ⟨u, r', hu, _⟩
 · rw [e2, ja6, if_neg (by omega)] at e
   exact ⟨_, _, e, hw⟩
 · cases hu
theorem j21 (ks : List Nat) {nn m fl : Nat} (hm : 1 < m) (hn : ks.length ≤ nn) (hf : ks.length < fl) (hk : ks.length + 1 ≤ 32) : parseP (nestT false ks) (nn + 1) m fl = some (.er (.bad (nestT false ks).length)) := by
 obtain ⟨f, p, c, o, a, hw, e⟩ := j0g (nn := nn + 1) (m := m) (fl := fl) (jx8 ks)
 rw [(j80 (nestT false ks) (nn := nn) hm ks fl hn hf).2.1 p c (by omega), jg6] at e
 exact e
theorem yh9 (cl : Bool) (ks : List Nat) {nn m fl : Nat} (hm : 1 < m) (hn : ks.length ≤ nn) (hf : ks.length < fl) (hk : 32 < ks.length + 1) : parseP (nestT cl ks) (nn + 1) m fl = some (.er (.deep (nthO 32 (nestT cl ks)))) := by
 obtain ⟨t, ht, hs⟩ := yx2 cl ks
 obtain ⟨f, p, c, o, a, hw, e⟩ := j0g (nn := nn + 1) (m := m) (fl := fl) hs
 rw [(j80 (nestT cl ks) (nn := nn) hm ks fl hn hf).2.2 p t c ht (by omega) (by omega), jg6, o, a] at e
 have en : nthO 32 (nestT cl ks) = 8 + nthO 32 (123 :: nXT ks t) := by
   rw [hs]
   exact jp1 32 [115, 121, 115, 116, 101, 109, 32, 97] (123 :: nXT ks t) (by decide)
 rw [en]
 exact e
def cntO : List UInt8 → Nat
 | [] => 0
 | u :: l => if opB u = true then cntO l + 1 else cntO l
theorem jx9 : ∀ a b : List UInt8, cntO (a ++ b) = cntO a + cntO b
 | [], b => by simp [cntO]
 | u :: a, b => by
   show (if opB u = true then cntO (a ++ b) + 1 else cntO (a ++ b)) = (if opB u = true then cntO a + 1 else cntO a) + cntO b
   rw [jx9 a b]
   split <;> omega
theorem j82 : ∀ (j : Nat) (l : List UInt8), j < cntO l → nthO j l < l.length
 | j, [], h => by cases h
 | j, u :: l, h => by
   by_cases hu : opB u = true
   · have hc : cntO (u :: l) = cntO l + 1 := if_pos hu
     cases j with
     | zero => rw [jq7 hu]; simp
     | succ j => rw [jq8 hu, List.length_cons]; have := j82 j l (by omega); omega
   · have hc : cntO (u :: l) = cntO l := if_neg hu
     rw [jq6 (by simpa using hu), List.length_cons]
     have := j82 j l (by omega)
     omega
theorem y5s (la wi : Bool) (k : Nat) : cntO (stB la wi k) = 1 := by
 unfold stB
 repeat' split
 all_goals decide
theorem yx3 : ∀ (ks : List Nat) (wi : Bool), cntO (opW wi ks) = ks.length
 | [], _ => rfl
 | k :: ks, wi => by
   show cntO (stB ks.isEmpty wi k ++ opW (stW wi k) ks) = _
   rw [jx9, y5s, yx3 ks, List.length_cons]
   omega
theorem yc3 (cl : Bool) (ks : List Nat) : ks.length + 1 ≤ cntO (nestT cl ks) := by
 have e : cntO [115, 121, 115, 116, 101, 109, 32, 97, 123] = 1 := by decide
 unfold nestT
 rw [jx9, jx9, jx9, e, yx3]
 omega
theorem yx4 : ∀ l : List UInt8, cntO l ≤ l.length
 | [] => Nat.le_refl _
 | u :: l => by
   have := yx4 l
   show (if opB u = true then cntO l + 1 else cntO l) ≤ l.length + 1
   split <;> omega
theorem y17 (cl : Bool) (ks : List Nat) : ks.length + 1 ≤ (nestT cl ks).length := Nat.le_trans (yc3 cl ks) (yx4 _)
theorem y18 (cl : Bool) (ks : List Nat) : (nestT cl ks).length ≤ 11 + 21 * ks.length := by
 have h1 := yw7 ks false
 have h2 := yw8 ks false
 have h3 := yx0 (clW false ks) h2.2 (clW false ks).length (Nat.le_refl _)
 unfold nestT
 simp only [List.length_append, List.length_cons, List.length_nil]
 have a1 : (if inW false ks = true then [(48 : UInt8)] else []).length ≤ 1 := by split <;> simp
 have a2 : (if cl = true then clF (clW false ks) (clW false ks).length ++ [125] else []).length ≤ (clF (clW false ks) (clW false ks).length).length + 1 := by
   split
   · simp
   · simp
 omega
def noNl (l : List UInt8) : Prop := ∀ u ∈ l, u ≠ 10
theorem noNl.app {a b : List UInt8} (h : noNl a) (k : noNl b) : noNl (a ++ b) := fun u hu => by
 rcases List.mem_append.mp hu with e | e
 · exact h u e
 · exact k u e
theorem y7f (la wi : Bool) (k : Nat) : noNl (stB la wi k) := by
 unfold stB noNl
 repeat' split
 all_goals decide
theorem y25 : ∀ (ks : List Nat) (wi : Bool), noNl (opW wi ks)
 | [], _ => fun u hu => by cases hu
 | k :: ks, wi => (y7f _ _ _).app (y25 ks _)
theorem y7g (la wi : Bool) (k : Nat) : ∀ x ∈ stL la wi k, noNl x := by
 unfold stL noNl
 repeat' split
 all_goals decide
theorem y26 : ∀ (ks : List Nat) (wi : Bool), ∀ x ∈ clW wi ks, noNl x
 | [], _ => fun u hu => by cases hu
 | k :: ks, wi => fun x hx => by
   rcases List.mem_append.mp hx with e | e
   · exact y7g _ _ _ x e
   · exact y26 ks _ x e
theorem y27 {l : List (List UInt8)} (h : ∀ x ∈ l, noNl x) : ∀ j, noNl (clF l j)
 | 0 => fun u hu => by cases hu
 | j + 1 => by
   refine noNl.app ?_ (y27 h j)
   by_cases hj : j < l.length
   · rw [show l.getD j [] = l[j] by simp [List.getD, hj]]
     exact h _ (List.getElem_mem _)
   · rw [show l.getD j [] = [] by simp [List.getD, Nat.le_of_not_lt hj]]
     exact fun u hu => by cases hu
theorem yx5 (cl : Bool) (ks : List Nat) : noNl (nestT cl ks) := by
 refine noNl.app (noNl.app (noNl.app (by unfold noNl; decide) (y25 ks _)) ?_) ?_
 · split
   · unfold noNl; decide
   · exact fun u hu => by cases hu
 · split
   · exact noNl.app (y27 (y26 ks _) _) (by unfold noNl; decide)
   · exact fun u hu => by cases hu
theorem okP.app {a b : List UInt8} (h : okP a) (k : okP b) : okP (a ++ b) := fun u hu => by
 rcases List.mem_append.mp hu with e | e
 · exact h u e
 · exact k u e
theorem y7h (la wi : Bool) (k : Nat) : okP (stB la wi k) := by
 unfold stB okP
 repeat' split
 all_goals decide
theorem y28 : ∀ (ks : List Nat) (wi : Bool), okP (opW wi ks)
 | [], _ => fun u hu => by cases hu
 | k :: ks, wi => (y7h _ _ _).app (y28 ks _)
theorem y7i (la wi : Bool) (k : Nat) : ∀ x ∈ stL la wi k, okP x := by
 unfold stL okP
 repeat' split
 all_goals decide
theorem y29 : ∀ (ks : List Nat) (wi : Bool), ∀ x ∈ clW wi ks, okP x
 | [], _ => fun u hu => by cases hu
 | k :: ks, wi => fun x hx => by
   rcases List.mem_append.mp hx with e | e
   · exact y7i _ _ _ x e
   · exact y29 ks _ x e
theorem y3a {l : List (List UInt8)} (h : ∀ x ∈ l, okP x) : ∀ j, okP (clF l j)
 | 0 => fun u hu => by cases hu
 | j + 1 => by
   refine okP.app ?_ (y3a h j)
   by_cases hj : j < l.length
   · rw [show l.getD j [] = l[j] by simp [List.getD, hj]]
     exact h _ (List.getElem_mem _)
   · rw [show l.getD j [] = [] by simp [List.getD, Nat.le_of_not_lt hj]]
     exact fun u hu => by cases hu
theorem y5t (cl : Bool) (ks : List Nat) : okP (nestT cl ks) := by
 refine okP.app (okP.app (okP.app (by unfold okP; decide) (y28 ks _)) ?_) ?_
 · split
   · unfold okP; decide
   · exact fun u hu => by cases hu
 · split
   · exact okP.app (y3a (y29 ks _) _) (by unfold okP; decide)
   · exact fun u hu => by cases hu
theorem y7j {l : List UInt8} (h : noNl l) : cntB l 10 = 0 := by
 unfold cntB
 have : ∀ (l : List UInt8) (n : Int), noNl l → l.foldl (fun n x => if x == 10 then n + 1 else n) n = n := by
   intro l
   induction l with
   | nil => intro n _; rfl
   | cons u l ih =>
     intro n h
     have hu : (u == 10) = false := by simpa using h u (by simp)
     rw [List.foldl_cons, hu]
     exact ih n fun v hv => h v (by simp [hv])
 exact this l 0 h
theorem yx6 {l : List UInt8} (h : noNl l) : ∀ j, j ≤ l.length → lastB l 10 j = -1
 | 0, _ => rfl
 | j + 1, hj => by
   have e : l.getD j 0 = l[j] := by simp [List.getD, show j < l.length by omega]
   show (if l.getD j 0 = 10 then (j : Int) else lastB l 10 j) = -1
   rw [if_neg (by rw [e]; exact h _ (List.getElem_mem _)), yx6 h j (by omega)]
theorem yc4 {s : List UInt8} (h : noNl s) (hs : s.length ≤ 1048576) {z : Nat} (hz : z ≤ s.length) : placeC s (z : Int) = #[.int .i64 (z : Int), .int .i64 1, .int .i64 ((z + 1 : Nat) : Int)] := by
 have ea : atN (z : Int) s.length = z := by unfold atN; rw [if_neg (by omega), if_neg (by omega)]; rfl
 have ht : noNl (s.take z) := fun u hu => h u (List.mem_of_mem_take hu)
 unfold placeC
 rw [ea, y7j ht, yx6 ht z (by simp; omega)]
 rw [show IntKind.i64.wrap (1 + 0) = 1 from rfl, show (z : Int) - -1 = ((z + 1 : Nat) : Int) by omega, jb2 (by omega) (by omega)]
set_option maxRecDepth 100000
theorem y3b {P : Program} {t : TypeId} {x : Value} {H : Heap} {n : Int} (h : lenA P t x H = some (.int .i64 n)) (k : Value → Heap → R) : builtinK P .len #[t] #[x] H k = k (.int .i64 n) H := by simp [builtinK, h]; rfl
set_option maxHeartbeats 1000000 in
theorem j83 {N : Nat} {hk : Hook} {D : Nat} {H : Heap} {a : Option Addr} {c n : Nat} {ks : List UInt8} (cl : Bool) (hh : NH hk) (hf : Fresh H) (hr : Brow H a ks) (hn : n ≤ 20000) (hN : 100000 < N) :
   ∃ (H' : Heap) (y : Addr), Ext H H' ∧ CH N hk (D + 1) 16 #[.int .i64 (n : Int), .slice a ks.length c, .bool cl] H = some (.ret (.slice (some y) (nestT cl (kL ks 0 n)).length (nestT cl (kL ks 0 n)).length), H') ∧ Brow H' (some y) (nestT cl (kL ks 0 n)) := by
 suffices main : ∀ X : Am.R → Prop, (∀ (H' : Heap) (y : Addr) (t : List UInt8), Ext H H' → Brow H' (some y) t → t = nestT cl (kL ks 0 n) → X (some (.ret (.slice (some y) t.length t.length), H'))) → X (CH N hk (D + 1) 16 #[.int .i64 (n : Int), .slice a ks.length c, .bool cl] H) by
   obtain ⟨H', y, h1, h2, h3⟩ := main (fun r => ∃ (H' : Heap) (y : Addr), Ext H H' ∧ r = some (.ret (.slice (some y) (nestT cl (kL ks 0 n)).length (nestT cl (kL ks 0 n)).length), H') ∧ Brow H' (some y) (nestT cl (kL ks 0 n))) fun H' y t h1 h2 h3 => by
     subst h3
     exact ⟨H', y, h1, rfl, h2⟩
   exact ⟨H', y, h1, h2, h3⟩
 intro X hX
 have hU := jb8 (P := PP) (okf := okC) (prf := prS) (X := XX) (N := N) (hk := hk) (d := D) (args := #[.int .i64 (n : Int), .slice a ks.length c, .bool cl]) (H := H) (hh _ _ _ rfl) Tryz.func16 (c := codeOf Tryz.f16) rfl rfl rfl (pr := noPr) rfl
 rw [code16] at hU
 generalize hF : finG PP okC prS XX (CH N hk (D)) N Tryz.f16 = F at hU
 refine Eq.mpr (congrArg X hU) ?_
 have lL : _ ∧ _ := ⟨lX8 Tryz.f16 0 1 2 3 4 30 31 32, lX3 Tryz.f16 33 37 38⟩
 conv at lL in (occs := *) (rgnX _ _) => all_goals simp only [rX, opsAt, Tryz.f16, dL.o, reduceIte, Nat.reduceEqDiff]
 obtain ⟨⟨l0, l1, l2, l3, l4, l30, l31, l32⟩, ⟨l33, l37, l38⟩⟩ := lL
 have hg : (H.alloc 1 [.int .u8 115, .int .u8 121, .int .u8 115, .int .u8 116, .int .u8 101, .int .u8 109, .int .u8 32, .int .u8 97, .int .u8 123]).get H.next = some ⟨[.int .u8 115, .int .u8 121, .int .u8 115, .int .u8 116, .int .u8 101, .int .u8 109, .int .u8 32, .int .u8 97, .int .u8 123], true, 1, none⟩ := jc6 _ _ _
 simp (decide := true) only [↓uR.o, dG.o, ja1, reduceIte, ↓ja0 l0, ↓ja0 l1, ↓ja0 l2, ↓ja0 l3, ↓ja0 l4, yh8, yh7, yx1 hg, ↓jc8]
 have st0 : Nst H (H.alloc 1 [.int .u8 115, .int .u8 121, .int .u8 115, .int .u8 116, .int .u8 101, .int .u8 109, .int .u8 32, .int .u8 97, .int .u8 123]) (.slice (some ⟨H.next, 0, none⟩) 9 9) (.slice none 0 0) [115, 121, 115, 116, 101, 109, 32, 97, 123] [] :=
   ⟨Nat.le_succ _, jb1 hf _ _, fun q x _ e => jb3 hf e _ _, .inr ⟨H.next, rfl, hg, rfl⟩, .inl ⟨rfl, rfl, rfl⟩, fun z e => by
     have e : H.next = z := Option.some.inj e
     exact ⟨by omega, by show z < H.next + 1; omega⟩, fun z e => (by cases e), fun z _ e => (by cases e)⟩
 have hkl := yw6 ks n 0
 have hop := yw7 (kL ks 0 n) false
 have hcl := yw8 (kL ks 0 n) false
 rw [hkl] at hop hcl
 refine yw9 (Q := X) (a := a) (c := c) (n := n) (ks := ks) (cl := cl) (wi := false) (i := 0) (v := .slice (some ⟨H.next, 0, none⟩) 9 9) (w := .slice none 0 0) hf hr hn n N (by omega) (by omega) ?_ st0 (by simp) (by simp) fun E' H' v' w' f st => ?_
 · exact ⟨by simp (decide := true) only [ja1, reduceIte, jd4], by simp (decide := true) only [ja1, reduceIte, jf3], by simp (decide := true) only [ja1, reduceIte, jh2], by simp (decide := true) only [ja1, reduceIte], by simp (decide := true) only [ja1, reduceIte], by simp (decide := true) only [ja1, reduceIte], by simp (decide := true) only [ja1, reduceIte, Int.ofNat_zero]⟩
 obtain ⟨f0, f1, f2, f7, f8, f9, f10⟩ := f
 have hcf := yx0 (clW false (kL ks 0 n)) hcl.2 (clW false (kL ks 0 n)).length (Nat.le_refl _)
 have hb9 : ([115, 121, 115, 116, 101, 109, 32, 97, 123] : List UInt8).length = 9 := rfl
 have st : Nst H H' v' w' ([115, 121, 115, 116, 101, 109, 32, 97, 123] ++ opW false (kL ks 0 n)) (clW false (kL ks 0 n)) := by simpa using st
 have wl : IntKind.i64.wrap (((clW false (kL ks 0 n)).length : Int) - 1) = ((clW false (kL ks 0 n)).length : Int) - 1 := jb2 (by omega) (by omega)
 cases cl with
 | true =>
  cases hi : inW false (kL ks 0 n) with
  | true =>
   have hi : inW false (kL ks 0 n) = true := hi
   obtain ⟨v1, H1, a1, st1⟩ := st.one 48 (by rw [List.length_append]; omega)
   have a1 : appendA PP #[34, 34] v' (.slice (some ⟨H'.next, 0, none⟩) 1 1) (H'.alloc 1 [.int .u8 48]) = some (v1, H1) := a1
   obtain ⟨yw, hw⟩ := (jq4 st1.rl).1
   have hlen : lenA PP 47 w' H1 = some (.int .i64 ((clW false (kL ks 0 n)).length : Int)) := by rw [hw]; simp [lenA]
   simp (decide := true) only [↓uR.o, dG.o, ja1, reduceIte, ↓ja0 l30, ↓ja0 l32, ↓ja0 l31, ↓ja0 l33, f2, f7, f8, f9, hi, jn5, bslice1, wl, y3b hlen, ↓jc8, a1]
   refine j81 (Q := X) (w := w') (v := v1) (H0 := H) hcl.2 (by omega) (clW false (kL ks 0 n)).length N (by omega) (Nat.le_refl _) ?_ (by simpa using st1) (by simp only [List.length_append, List.length_cons, List.length_nil]; omega) fun E3 H3 v3 e3 _ st3 => ?_
   · exact ⟨by simp (decide := true) only [ja1, reduceIte, f7], by simp (decide := true) only [ja1, reduceIte, f8], by simp (decide := true) only [ja1, reduceIte]⟩
   · obtain ⟨q7, q8, q12⟩ := e3
     obtain ⟨v4, H4, a4, st4⟩ := st3.one 125 (by simp only [List.length_append, List.length_cons, List.length_nil]; omega)
     have a4 : appendA PP #[34, 34] v3 (.slice (some ⟨H3.next, 0, none⟩) 1 1) (H3.alloc 1 [.int .u8 125]) = some (v4, H4) := a4
     simp (decide := true) only [↓uR.o, dG.o, ja1, reduceIte, ↓ja0 l37, ↓ja0 l38, q7, jn5, bslice1, a4]
     obtain ⟨y, hv, hb⟩ := st4.brow (by simp only [List.length_append, List.length_cons, List.length_nil]; omega) (by simp)
     rw [← hF, ja4 (l := [v4]) (by simp (decide := true) [Tryz.f16, resE, ja1])]
     show X (some (.ret v4, H4))
     rw [hv]
     refine hX H4 y _ (st4.ext hf) hb ?_
     simp [nestT, hi]
  | false =>
   have hi : inW false (kL ks 0 n) = false := hi
   obtain ⟨yw, hw⟩ := (jq4 st.rl).1
   have hlen : lenA PP 47 w' H' = some (.int .i64 ((clW false (kL ks 0 n)).length : Int)) := by rw [hw]; simp [lenA]
   simp (decide := true) only [↓uR.o, dG.o, ja1, reduceIte, ↓ja0 l30, ↓ja0 l32, ↓ja0 l33, f2, f8, f9, hi, wl, y3b hlen, ↓jc8]
   refine j81 (Q := X) (w := w') (v := v') (H0 := H) hcl.2 (by omega) (clW false (kL ks 0 n)).length N (by omega) (Nat.le_refl _) ?_ (by simpa using st) (by simp only [List.length_cons]; omega) fun E3 H3 v3 e3 _ st3 => ?_
   · exact ⟨by simp (decide := true) only [ja1, reduceIte, f7], by simp (decide := true) only [ja1, reduceIte, f8], by simp (decide := true) only [ja1, reduceIte]⟩
   · obtain ⟨q7, q8, q12⟩ := e3
     obtain ⟨v4, H4, a4, st4⟩ := st3.one 125 (by simp only [List.length_append, List.length_cons]; omega)
     have a4 : appendA PP #[34, 34] v3 (.slice (some ⟨H3.next, 0, none⟩) 1 1) (H3.alloc 1 [.int .u8 125]) = some (v4, H4) := a4
     simp (decide := true) only [↓uR.o, dG.o, ja1, reduceIte, ↓ja0 l37, ↓ja0 l38, q7, jn5, bslice1, a4]
     obtain ⟨y, hv, hb⟩ := st4.brow (by simp only [List.length_append, List.length_cons, List.length_nil]; omega) (by simp)
     rw [← hF, ja4 (l := [v4]) (by simp (decide := true) [Tryz.f16, resE, ja1])]
     show X (some (.ret v4, H4))
     rw [hv]
     refine hX H4 y _ (st4.ext hf) hb ?_
     simp [nestT, hi]
 | false =>
  cases hi : inW false (kL ks 0 n) with
  | true =>
   have hi : inW false (kL ks 0 n) = true := hi
   obtain ⟨v1, H1, a1, st1⟩ := st.one 48 (by rw [List.length_append]; omega)
   have a1 : appendA PP #[34, 34] v' (.slice (some ⟨H'.next, 0, none⟩) 1 1) (H'.alloc 1 [.int .u8 48]) = some (v1, H1) := a1
   simp (decide := true) only [↓uR.o, dG.o, ja1, reduceIte, ↓ja0 l30, ↓ja0 l32, ↓ja0 l31, ↓ja0 l38, f2, f7, f9, hi, jn5, bslice1, a1]
   obtain ⟨y, hv, hb⟩ := st1.brow (by simp only [List.length_append, List.length_cons, List.length_nil]; omega) (by simp)
   rw [← hF, ja4 (l := [v1]) (by simp (decide := true) [Tryz.f16, resE, ja1])]
   show X (some (.ret v1, H1))
   rw [hv]
   refine hX H1 y _ (st1.ext hf) hb ?_
   simp [nestT, hi]
  | false =>
   have hi : inW false (kL ks 0 n) = false := hi
   simp (decide := true) only [↓uR.o, dG.o, ja1, reduceIte, ↓ja0 l30, ↓ja0 l32, ↓ja0 l38, f2, f7, f9, hi]
   obtain ⟨y, hv, hb⟩ := st.brow (by simp only [List.length_append, List.length_cons, List.length_nil]; omega) (by simp)
   rw [← hF, ja4 (l := [v']) (by simp (decide := true) [Tryz.f16, resE, ja1])]
   show X (some (.ret v', H'))
   rw [hv]
   refine hX H' y _ (st.ext hf) hb ?_
   simp [nestT, hi]
end Go.Am
namespace Go.Am
set_option maxRecDepth 100000
variable {H : Heap} {q : Nat}
theorem j5g {T : TypeId} {i : Nat} {cells : List Value} {v : Value} (ha : aggT PP T = some false) (h : H.get q = some ⟨cells, true, 1, none⟩) (hc : cells[i]? = some v) : loadA PP T (.pointer (some ⟨q, i, none⟩)) H = some (v, H) := by
 simp only [loadA, ha]
 simp [ld1, look, h, hc]
theorem y5u : aggT PP 3 = some false := by decide +kernel
theorem yx7 : aggT PP 25 = some false := by decide +kernel
theorem y5v (q : Nat) : fieldAddrA PP 28 (.pointer (some ⟨q, 0, none⟩)) 1 = some (.pointer (some ⟨q, 1, none⟩)) := by kernel_rfl
theorem y5w (q : Nat) : fieldAddrA PP 24 (.pointer (some ⟨q, 1, none⟩)) 0 = some (.pointer (some ⟨q, 1, none⟩)) := by kernel_rfl
theorem y19 (q : Nat) : fieldAddrA PP 28 (.pointer (some ⟨q, 0, none⟩)) 2 = some (.pointer (some ⟨q, 4, none⟩)) := by kernel_rfl
theorem y8g (q : Nat) : fieldAddrA PP 30 (.pointer (some ⟨q, 0, none⟩)) 0 = some (.pointer (some ⟨q, 0, none⟩)) := by kernel_rfl
theorem j84 {H2 : Heap} {tc : List Value} (p0 p1 p2 : Int) (f2 : Fresh H2) (hl : tc.length = 7) (h1 : tc.all Value.oneCell' = true) :
   ∃ Ha H3, storeA PP 28 (.pointer (some ⟨H2.next, 0, none⟩)) (.agg tc.toArray) ((H2.alloc 1 zt).alloc 1 [.int .i64 0, .int .i64 0, .int .i64 0]) = some (undef, Ha) ∧ storeA PP 30 (.pointer (some ⟨H2.next + 1, 0, none⟩)) (.agg #[.int .i64 p0, .int .i64 p1, .int .i64 p2]) Ha = some (undef, H3) ∧ H3.get H2.next = some ⟨tc, true, 1, none⟩ ∧ H3.get (H2.next + 1) = some (pl p0 p1 p2) ∧ Ext H2 H3 := by
 have f3 := jb1 f2 1 zt
 have f4 := jb1 f3 1 [.int .i64 0, .int .i64 0, .int .i64 0]
 have ga : ((H2.alloc 1 zt).alloc 1 [.int .i64 0, .int .i64 0, .int .i64 0]).get H2.next = some ⟨zt, true, 1, none⟩ := jb3 f3 (jc6 H2 _ _) _ _
 have gb : ((H2.alloc 1 zt).alloc 1 [.int .i64 0, .int .i64 0, .int .i64 0]).get (H2.next + 1) = some (pl 0 0 0) := jc6 (H2.alloc 1 zt) _ _
 generalize hA : (H2.alloc 1 zt).alloc 1 [.int .i64 0, .int .i64 0, .int .i64 0] = A at ga gb f4
 have nA : A.next = H2.next + 2 := by rw [← hA]; rfl
 have gc : (A.set H2.next ⟨tc, true, 1, none⟩).get (H2.next + 1) = some (pl 0 0 0) := by rw [Heap.get_set, if_neg (by omega)]; exact gb
 refine ⟨_, _, j8q ga rfl hl h1, store30 gc, ?_, jb4 _ _ _, ⟨?_, fun z x e => ?_, ?_⟩⟩
 · rw [Heap.get_set, if_neg (by omega)]; exact jb4 _ _ _
 · show H2.next ≤ A.next; omega
 · have hz := jc9 f2 e
   rw [Heap.get_set, if_neg (by omega), Heap.get_set, if_neg (by omega), ← hA]
   exact jb3 f3 (jb3 f2 e _ _) _ _
 · exact jd5 (jd5 f4 (by omega) _) (by show H2.next + 1 < A.next; omega) _
theorem code7 : codeOf Tryz.f7 = .seq (rF Tryz.f7 0) (.seq (rF Tryz.f7 1) (.seq (rF Tryz.f7 2) (.seq (rF Tryz.f7 3) (.seq (.seq (rF Tryz.f7 4) (.cond (.tmp 27) (.seq (.seq (rF Tryz.f7 5) (.cond (.tmp 28) (.seq (rF Tryz.f7 6) .ret) .skip)) (.seq (rF Tryz.f7 7) .ret)) .skip)) (.seq (rF Tryz.f7 8) (.seq (.seq (rF Tryz.f7 9) (.block 0 (.loop (.seq (.seq (rF Tryz.f7 10) (.cond (.tmp 60) .skip (.exit 0))) (.seq (.block 1 (.seq (.seq (rF Tryz.f7 12) (.cond (.tmp 81) (rF Tryz.f7 13) .skip)) (.seq (rF Tryz.f7 14) (.cond (.tmp 85) (.seq (rF Tryz.f7 15) .ret) .skip)))) (rF Tryz.f7 11)))))) (.seq (rF Tryz.f7 16) .ret))))))) := by kernel_rfl
theorem y5x : ((rgn Tryz.f7 6)[2]?).bind (·.dst) = some 31 := by kernel_rfl
theorem y5y : ((rgn Tryz.f7 6)[7]?).bind (·.dst) = some 36 := by kernel_rfl
theorem y2a : ((rgn Tryz.f7 6)[13]?).bind (·.dst) = some 42 := by kernel_rfl
theorem y5z : ((rgn Tryz.f7 7)[2]?).bind (·.dst) = some 47 := by kernel_rfl
theorem y50 : ((rgn Tryz.f7 7)[9]?).bind (·.dst) = some 54 := by kernel_rfl
theorem j08 : ((rgn Tryz.f7 12)[5]?).bind (·.dst) = some 68 := by kernel_rfl
theorem jy0 : ((rgn Tryz.f7 12)[12]?).bind (·.dst) = some 75 := by kernel_rfl
theorem y2b : ((rgn Tryz.f7 15)[2]?).bind (·.dst) = some 88 := by kernel_rfl
theorem yx8 : ((rgn Tryz.f7 15)[10]?).bind (·.dst) = some 96 := by kernel_rfl
theorem yx9 : ((rgn Tryz.f7 15)[16]?).bind (·.dst) = some 102 := by kernel_rfl
noncomputable def f3 (i : Nat) : Field := (PP.fieldsOf 30).getD i default
theorem names30 : (f3 0).name ≠ "_" ∧ (f3 1).name ≠ "_" ∧ (f3 2).name ≠ "_" := by decide +kernel
theorem f30 : (f3 0).type = 3 ∧ (f3 0).offset = 0 ∧ (f3 1).type = 3 ∧ (f3 1).offset = 1 ∧ (f3 2).type = 3 ∧ (f3 2).offset = 2 := by decide +kernel
theorem stood30 : PP.stoodInHeld 30 = false := by kernel_rfl
theorem j85 : pureRun PP (underlying 30) = some (.struct #[f3 0, f3 1, f3 2]) := by
 simp [underlying, je4, jm1, je9]
 exact ⟨by kernel_rfl, by kernel_rfl, by kernel_rfl⟩
theorem yi0 : pureRun PP (underlying 3) = some (.int .i64) := by
 simp [underlying, je4, jm1, je9]
theorem part3 (cs : Array Value) (i : Nat) (v : Value) (h : cs[i]? = some v) : pureRun PP (part 3 cs i) = some v := by
 have ha : pureRun PP (isAgg 3) = some false := by kernel_rfl
 simp [part, je4, ha, h, je9]
theorem eqI (d : Nat) (x : Int) : pureRun PP (Op.equalIn (d + 1) 3 (.int .i64 x) (.int .i64 x)) = some true := by
 simp [Op.equalIn, je4, yi0, je9]
theorem eqS (d : Nat) (x y w : Int) : pureRun PP (Op.equalIn (d + 2) 30 (.agg #[.int .i64 x, .int .i64 y, .int .i64 w]) (.agg #[.int .i64 x, .int .i64 y, .int .i64 w])) = some true := by
 obtain ⟨n0, n1, n2⟩ := names30
 obtain ⟨t0, o0, t1, o1, t2, o2⟩ := f30
 have p0 := part3 #[.int .i64 x, .int .i64 y, .int .i64 w] 0 (.int .i64 x) rfl
 have p1 := part3 #[.int .i64 x, .int .i64 y, .int .i64 w] 1 (.int .i64 y) rfl
 have p2 := part3 #[.int .i64 x, .int .i64 y, .int .i64 w] 2 (.int .i64 w) rfl
 unfold Op.equalIn
 simp only [je4, j85, Option.bind_some, jm1, stood30]
 rw [← Array.forIn_toList]
 simp [je4, je9, n0, n1, n2, t0, t1, t2, o0, o1, o2, p0, p1, p2, eqI]
theorem eq30 (o1 o2 : Operand) (x y w : Int) : binA PP .eql 30 o1 o2 (.agg #[.int .i64 x, .int .i64 y, .int .i64 w]) (.agg #[.int .i64 x, .int .i64 y, .int .i64 w]) = some (.bool true) := by
 have he := eqS 9998 x y w
 have hd : Op.maxDepth = 9998 + 2 := rfl
 rw [← hd] at he
 unfold binA
 rw [if_pos (by simp [ground, atomic])]
 simp only [eqGuard, binOp, Op.equal, je4, je9]
 simp only [he]
 simp [je9, je4, jm1]
theorem y2c (x y w : Int) : buildA PP 30 #[(0, .int .i64 x), (1, .int .i64 y), (2, .int .i64 w)] = some (.agg #[.int .i64 x, .int .i64 y, .int .i64 w]) := by kernel_rfl
theorem y7k {N : Nat} {hk : Hook} {D : Nat} {E : Env} {Q : Am.R → Prop} {k : KOE} {y : Addr} {s : List UInt8} {o i : Nat} {u : UInt8} (hi : i < s.length) (hu : s[i] = u) (ho : o ≤ 40) (hr : Brow H (some y) s) (e' : E 7 = .slice (some y) s.length s.length ∧ E 8 = .pointer (some ⟨q, 0, none⟩) ∧ E 9 = .pointer (some ⟨q + 1, 0, none⟩) ∧ E 10 = .int .i64 61 ∧ E 11 = .int .i64 (o : Int) ∧ E 12 = .int .i64 (i : Int)) (hx : ∀ E', E' 7 = .slice (some y) s.length s.length ∧ E' 8 = .pointer (some ⟨q, 0, none⟩) ∧ E' 9 = .pointer (some ⟨q + 1, 0, none⟩) ∧ E' 10 = .int .i64 61 ∧ E' 11 = .int .i64 ((o + (if opB u = true then 1 else 0) : Nat) : Int) ∧ E' 12 = .int .i64 (i : Int) → Q (k .norm E' [] H)) :
   Q (execG PP XX (CH N hk D) N noPr (.seq (rF Tryz.f7 12) (.cond (.tmp 81) (rF Tryz.f7 13) .skip)) none E [] H k) := by
 obtain ⟨e7, e8, e9, e10, e11, e12⟩ := e'
 obtain ⟨y', hy, hld⟩ := hr.bts.cell i hi
 have hix : indexAddrA PP 34 (.slice (some y) s.length s.length) (.int .i64 (i : Int)) = some (.pointer (some (y'.add i))) := by rw [hy]; exact jc1 (n := s.length) (c := s.length) (a := y') hi
 have w1 : IntKind.i64.wrap ((o : Int) + 1) = ((o + 1 : Nat) : Int) := by rw [jb2 (by omega) (by omega)]; omega
 rw [hu] at hld
 have lL := lX2 Tryz.f7 12 13
 conv at lL in (occs := *) (rgnX _ _) => all_goals simp only [rX, opsAt, Tryz.f7, dL.o, reduceIte, Nat.reduceEqDiff]
 obtain ⟨l12, l13⟩ := lL
 by_cases h1 : u = 123
 · have g123 : ((u.toNat : Int) == 123) = true := by rw [h1]; rfl
   rw [show (if opB u = true then 1 else 0) = 1 by rw [h1]; rfl] at hx
   simp (decide := true) only [↓uR.o, dG.o, ja1, reduceIte, Bool.not_false, ↓ja0 l12, ↓ja0 l13, ↓r_no _ 5 false 68 _ j08, ↓r_no _ 12 false 75 _ jy0, e7, e11, e12, hix, ja9 hld, w1, g123]
   refine hx _ ?_
   exact ⟨by simp (decide := true) only [ja1, reduceIte, e7], by simp (decide := true) only [ja1, reduceIte, e8], by simp (decide := true) only [ja1, reduceIte, e9], by simp (decide := true) only [ja1, reduceIte, e10], by simp (decide := true) only [ja1, reduceIte, e11], by simp (decide := true) only [ja1, reduceIte, e12]⟩
 have g123 : ((u.toNat : Int) == 123) = false := by
   rw [beq_eq_false_iff_ne]
   intro h
   exact h1 (UInt8.toNat_inj.mp (by show u.toNat = 123; omega))
 by_cases h2 : u = 40
 · have g40 : ((u.toNat : Int) == 40) = true := by rw [h2]; rfl
   rw [show (if opB u = true then 1 else 0) = 1 by rw [h2]; rfl] at hx
   simp (decide := true) only [↓uR.o, dG.o, ja1, reduceIte, Bool.not_false, ↓ja0 l12, ↓ja0 l13, ↓jb7 _ 5 false 68 _ j08, ↓r_no _ 12 false 75 _ jy0, e7, e11, e12, hix, ja9 hld, w1, g123, g40]
   refine hx _ ?_
   exact ⟨by simp (decide := true) only [ja1, reduceIte, e7], by simp (decide := true) only [ja1, reduceIte, e8], by simp (decide := true) only [ja1, reduceIte, e9], by simp (decide := true) only [ja1, reduceIte, e10], by simp (decide := true) only [ja1, reduceIte, e11], by simp (decide := true) only [ja1, reduceIte, e12]⟩
 have g40 : ((u.toNat : Int) == 40) = false := by
   rw [beq_eq_false_iff_ne]
   intro h
   exact h2 (UInt8.toNat_inj.mp (by show u.toNat = 40; omega))
 by_cases h3 : u = 91
 · have g91 : ((u.toNat : Int) == 91) = true := by rw [h3]; rfl
   rw [show (if opB u = true then 1 else 0) = 1 by rw [h3]; rfl] at hx
   simp (decide := true) only [↓uR.o, dG.o, ja1, reduceIte, ↓ja0 l12, ↓ja0 l13, ↓jb7 _ 5 false 68 _ j08, ↓jb7 _ 12 false 75 _ jy0, e7, e11, e12, hix, ja9 hld, w1, g123, g40, g91]
   refine hx _ ?_
   exact ⟨by simp (decide := true) only [ja1, reduceIte, e7], by simp (decide := true) only [ja1, reduceIte, e8], by simp (decide := true) only [ja1, reduceIte, e9], by simp (decide := true) only [ja1, reduceIte, e10], by simp (decide := true) only [ja1, reduceIte, e11], by simp (decide := true) only [ja1, reduceIte, e12]⟩
 · have g91 : ((u.toNat : Int) == 91) = false := by
     rw [beq_eq_false_iff_ne]
     intro h
     exact h3 (UInt8.toNat_inj.mp (by show u.toNat = 91; omega))
   rw [show (if opB u = true then 1 else 0) = 0 by simp [opB, h1, h2, h3], show o + 0 = o from rfl] at hx
   simp (decide := true) only [↓uR.o, dG.o, ja1, reduceIte, ↓ja0 l12, ↓jb7 _ 5 false 68 _ j08, ↓jb7 _ 12 false 75 _ jy0, e7, e12, hix, ja9 hld, g123, g40, g91]
   refine hx _ ?_
   exact ⟨by simp (decide := true) only [ja1, reduceIte, e7], by simp (decide := true) only [ja1, reduceIte, e8], by simp (decide := true) only [ja1, reduceIte, e9], by simp (decide := true) only [ja1, reduceIte, e10], by simp (decide := true) only [ja1, reduceIte, e11], by simp (decide := true) only [ja1, reduceIte, e12]⟩
set_option maxHeartbeats 1000000 in
theorem j86 {N : Nat} {hk : Hook} {D : Nat} {Q : Am.R → Prop} {k : KOE} {y : Addr} {s : List UInt8} {z : Nat} {tc : List Value} (hr : Brow H (some y) s) (hs : s.length ≤ 1048576) (g8 : H.get q = some ⟨tc, true, 1, none⟩) (hci : tc[4]? = some (.slice none 0 0)) (g9 : H.get (q + 1) = some (pl (z : Int) 1 ((z + 1 : Nat) : Int))) (h9 : CH N hk D 9 #[] H = some (.ret (.bool true), H)) :
   ∀ (j m : Nat) (_ : j < m) {i o : Nat} {E : Env} (_ : i + j = s.length) (_ : E 7 = .slice (some y) s.length s.length ∧ E 8 = .pointer (some ⟨q, 0, none⟩) ∧ E 9 = .pointer (some ⟨q + 1, 0, none⟩) ∧ E 10 = .int .i64 61 ∧ E 11 = .int .i64 (o : Int) ∧ E 12 = .int .i64 (i : Int)) (_ : o ≤ 32) (_ : 32 - o < cntO (s.drop i)) (_ : z = i + nthO (32 - o) (s.drop i)) (_ : ∀ E', E' 6 = .bool true → Q (k .ret E' [] H)),
   Q (loopE (execG PP XX (CH N hk D) N noPr (.seq (.seq (rF Tryz.f7 10) (.cond (.tmp 60) .skip (.exit 0))) (.seq (.block 1 (.seq (.seq (rF Tryz.f7 12) (.cond (.tmp 81) (rF Tryz.f7 13) .skip)) (.seq (rF Tryz.f7 14) (.cond (.tmp 85) (.seq (rF Tryz.f7 15) .ret) .skip)))) (rF Tryz.f7 11))) none) m E [] H k)
 | 0, m + 1, hm, i, o, E, hij, e', ho, hc, hz, hx => by
   rw [List.drop_eq_nil_of_le (by omega)] at hc
   cases hc
 | j + 1, m + 1, hm, i, o, E, hij, e', ho, hc, hz, hx => by
   have hi : i < s.length := by omega
   have hd : s.drop i = s[i] :: s.drop (i + 1) := List.drop_eq_getElem_cons hi
   rw [hd] at hc hz
   obtain ⟨e7, e8, e9, e10, e11, e12⟩ := e'
   have hlt : decide ((i : Int) < (s.length : Int)) = true := decide_eq_true (by omega)
   have w1 : IntKind.i64.wrap ((i : Int) + 1) = ((i + 1 : Nat) : Int) := by rw [jb2 (by omega) (by omega)]; omega
   rw [jb5]
   have lL := lX4 Tryz.f7 10 11 14 15
   conv at lL in (occs := *) (rgnX _ _) => all_goals simp only [rX, opsAt, Tryz.f7, dL.o, reduceIte, Nat.reduceEqDiff]
   obtain ⟨l10, l11, l14, l15⟩ := lL
   generalize hC : (.seq (rF Tryz.f7 12) (.cond (.tmp 81) (rF Tryz.f7 13) .skip) : Code) = C
   simp (decide := true) only [↓uR.o, dG.o, ja1, reduceIte, ↓ja0 l10, e7, e12, ja7 (ts := #[34]) rfl und34, hlt]
   rw [← hC]
   refine y7k (y := y) (q := q) (o := o) (i := i) (u := s[i]) hi rfl (by omega) hr ?_ fun E' f => ?_
   · exact ⟨by simp (decide := true) only [ja1, reduceIte, e7], by simp (decide := true) only [ja1, reduceIte, e8], by simp (decide := true) only [ja1, reduceIte, e9], by simp (decide := true) only [ja1, reduceIte, e10], by simp (decide := true) only [ja1, reduceIte, e11], by simp (decide := true) only [ja1, reduceIte, e12]⟩
   obtain ⟨f7, f8, f9, f10, f11, f12⟩ := f
   by_cases hu : opB s[i] = true
   · rw [if_pos hu] at f11
     have hc1 : cntO (s[i] :: s.drop (i + 1)) = cntO (s.drop (i + 1)) + 1 := if_pos hu
     by_cases h32 : o = 32
     · subst h32
       rw [Nat.sub_self, jq7 hu] at hz
       have hz' : i = z := by omega
       subst hz'
       have z33 : (((32 + 1 : Nat) : Int) == 33) = true := rfl
       have z61 : ((61 : Int) == 61) = true := rfl
       have z0 : ((0 : Int) == 0) = true := rfl
       have ll : loadA PP 25 (.pointer (some ⟨q, 4, none⟩)) H = some (.slice none 0 0, H) := j5g yx7 g8 hci
       simp (decide := true) only [↓uR.o, dG.o, ja1, reduceIte, ↓ja0 l14, ↓ja0 l15, ↓jb7 _ 2 true 88 _ y2b, ↓jb7 _ 10 true 96 _ yx8, ↓jb7 _ 16 true 102 _ yx9, f8, f9, f10, f11, f12, w1, z33, z61, load30 g9, y2c, eq30, y19, ll, ja7 (ts := #[25]) rfl undItems, Int.ofNat_zero, z0, ja3 Tryz.func9 rfl rfl h9]
       exact hx _ (by simp (decide := true) only [ja1, reduceIte])
     · have z33 : (((o + 1 : Nat) : Int) == 33) = false := by rw [beq_eq_false_iff_ne]; omega
       obtain ⟨t, ht⟩ : ∃ t, 32 - o = t + 1 := ⟨31 - o, by omega⟩
       rw [ht, jq8 hu] at hz
       simp (decide := true) only [↓uR.o, dG.o, ja1, reduceIte, ↓ja0 l11, ↓ja0 l14, f11, f12, w1, z33]
       refine j86 hr hs g8 hci g9 h9 j m (by omega) (i := i + 1) (o := o + 1) (by omega) ?_ (by omega) (by omega) (by rw [show 32 - (o + 1) = t by omega]; omega) hx
       exact ⟨by simp (decide := true) only [ja1, reduceIte, f7], by simp (decide := true) only [ja1, reduceIte, f8], by simp (decide := true) only [ja1, reduceIte, f9], by simp (decide := true) only [ja1, reduceIte, f10], by simp (decide := true) only [ja1, reduceIte, f11], by simp (decide := true) only [ja1, reduceIte, f12]⟩
   · rw [if_neg hu, show o + 0 = o from rfl] at f11
     have hc1 : cntO (s[i] :: s.drop (i + 1)) = cntO (s.drop (i + 1)) := if_neg hu
     have z33 : ((o : Int) == 33) = false := by rw [beq_eq_false_iff_ne]; omega
     rw [jq6 (by simpa using hu)] at hz
     simp (decide := true) only [↓uR.o, dG.o, ja1, reduceIte, ↓ja0 l11, ↓ja0 l14, f11, f12, w1, z33]
     refine j86 hr hs g8 hci g9 h9 j m (by omega) (i := i + 1) (o := o) (by omega) ?_ (by omega) (by omega) (by omega) hx
     exact ⟨by simp (decide := true) only [ja1, reduceIte, f7], by simp (decide := true) only [ja1, reduceIte, f8], by simp (decide := true) only [ja1, reduceIte, f9], by simp (decide := true) only [ja1, reduceIte, f10], by simp (decide := true) only [ja1, reduceIte, f11], by simp (decide := true) only [ja1, reduceIte, f12]⟩
end Go.Am
namespace Go.Am
set_option maxRecDepth 100000
theorem eq_a (o1 o2 : Operand) : binA PP .eql 9 o1 o2 (.string ⟨#[97]⟩) (.string ⟨#[97]⟩) = some (.bool true) := j0y o1 o2 [97] [97]
theorem yy0 {H : Heap} {tc : List Value} {t : Trd} {w : ByteArray} (h : TreeR H tc t) (hw : t.name.word = w) : tc[1]? = some (.string w) ∧ tc.all Value.oneCell' = true := by
 obtain ⟨vi, vn, vt, ci, cn, rfl, _, h1, _, h2, _, h3⟩ := h
 obtain ⟨y1, e1⟩ := (jq4 h1).1
 obtain ⟨y2, e2⟩ := (jq4 h2).1
 have e3 := h3.one.1
 subst e1 e2 hw
 refine ⟨rfl, ?_⟩
 simp only [List.all_cons, List.all_nil, e3]
 rfl
theorem y7l {a : Nat} (h : a ≤ 420012) : dpt a a + 100 ≤ 400000000000 := by
 unfold dpt
 have h1 : a * (2 * a + 100) ≤ 420012 * (2 * 420012 + 100) := Nat.mul_le_mul h (by omega)
 have h2 : 420012 * (2 * 420012 + 100) = 352862161488 := rfl
 omega
set_option maxHeartbeats 2000000 in
theorem yy1 {N : Nat} {hk : Hook} {D : Nat} {H : Heap} {a : Option Addr} {c : Nat} {ks : List UInt8} (cl : Bool) (n : Int) (K : HkP hk) (hkn : ∀ H, Ext GE H → hk 9 #[] H = some (some (.ret (.bool true), H))) (hN : 2097400 < N) (hD : 400000000000 ≤ D) (hG : Ext GE H) (hr : Brow H a ks) :
   ∃ H', Ext H H' ∧ CH N hk (D + 1) 7 #[.int .i64 n, .slice a ks.length c, .bool cl] H = some (.ret (.bool true), H') := by
 have hh := K.ok.nil
 suffices main : ∀ X : Am.R → Prop, (∀ H', Ext H H' → X (some (.ret (.bool true), H'))) → X (CH N hk (D + 1) 7 #[.int .i64 n, .slice a ks.length c, .bool cl] H) by
   obtain ⟨H', h1, h2⟩ := main (fun r => ∃ H', Ext H H' ∧ r = some (.ret (.bool true), H')) fun H' h => ⟨H', h, rfl⟩
   exact ⟨H', h1, h2⟩
 intro X hX
 obtain ⟨D1, hD1⟩ : ∃ D1, D = D1 + 1 := ⟨D - 1, by omega⟩
 have h9 : ∀ H', Ext GE H' → CH N hk D 9 #[] H' = some (.ret (.bool true), H') := fun H' e => by rw [hD1]; exact j6v (jj9 (hkn H' e))
 obtain ⟨x, hx, h15⟩ := j8s (N := N) (hk := hk) (d := D1) (H := H) n 20000 (by decide) hh
 have h15 : CH N hk D 15 #[.int .i64 n, .int .i64 0, .int .i64 20000] H = some (.ret (.int .i64 (x : Int)), H) := by rw [hD1]; exact j6v h15
 obtain ⟨H1, y, x1, h16, hb⟩ := j83 (N := N) (hk := hk) (D := D1) (a := a) (c := c) (ks := ks) cl hh hG.fresh hr hx (by omega)
 rw [← hD1] at h16
 have hkl := yw6 ks x 0
 have hmx := y18 cl (kL ks 0 x)
 have hmn := y17 cl (kL ks 0 x)
 rw [hkl] at hmx hmn
 have hP : ∀ o, parseP (nestT cl (kL ks 0 x)) ((nestT cl (kL ks 0 x)).length + 1) ((nestT cl (kL ks 0 x)).length + 1) ((nestT cl (kL ks 0 x)).length + 1) = some o → PRes H1 (nestT cl (kL ks 0 x)) (CH N hk D 8 #[.slice (some y) (nestT cl (kL ks 0 x)).length (nestT cl (kL ks 0 x)).length] H1) o :=
   fun o ho => y1u K hN (hG.trans x1) hb (Nat.le_refl _) (fun e => by cases e) (by omega) (y5t cl _) (by omega) (by omega) (Nat.le_trans (y7l (by omega)) hD) ho
 have w32 : IntKind.i64.wrap ((x : Int) + 1) = (x : Int) + 1 := jb2 (by omega) (by omega)
 have z0 : ((0 : Int) == 0) = true := rfl
 have z60 : ((60 : Int) == 60) = true := rfl
 have hU := jb8 (P := PP) (okf := okC) (prf := prS) (X := XX) (N := N) (hk := hk) (d := D) (args := #[.int .i64 n, .slice a ks.length c, .bool cl]) (H := H) (hh _ _ _ rfl) Tryz.func7 (c := codeOf Tryz.f7) rfl rfl rfl (pr := noPr) rfl
 rw [code7] at hU
 generalize hF : finG PP okC prS XX (CH N hk (D)) N Tryz.f7 = F at hU
 refine Eq.mpr (congrArg X hU) ?_
 have lL : _ ∧ _ := ⟨lX8 Tryz.f7 0 1 2 3 4 5 6 7, lX2 Tryz.f7 8 9⟩
 conv at lL in (occs := *) (rgnX _ _) => all_goals simp only [rX, opsAt, Tryz.f7, dL.o, reduceIte, Nat.reduceEqDiff]
 obtain ⟨⟨l0, l1, l2, l3, l4, l5, l6, l7⟩, ⟨l8, l9⟩⟩ := lL
 by_cases h32 : x + 1 ≤ 32
 · have g32 : decide ((x : Int) + 1 ≤ 32) = true := decide_eq_true (by omega)
   cases cl
   rotate_left 1
   obtain ⟨t, p, hp, hw⟩ := j63 (kL ks 0 x) (nn := (nestT true (kL ks 0 x)).length) (m := (nestT true (kL ks 0 x)).length + 1) (fl := (nestT true (kL ks 0 x)).length + 1) (by omega) (by omega) (by omega) (by omega)
   have hres := hP _ hp
   obtain ⟨H2, x2, tc, h8, htl, htr, _, _⟩ := hres
   obtain ⟨htn, hto⟩ := yy0 htr hw
   obtain ⟨Ha, H3, s1, s2, g8, g9, x3⟩ := j84 (H2 := H2) (tc := tc) 0 0 0 x2.fresh htl hto
   have al1 := jr8 H2
   have al2 : allocA PP 30 (H2.alloc 1 zt) = some (.pointer (some ⟨H2.next + 1, 0, none⟩), (H2.alloc 1 zt).alloc 1 [.int .i64 0, .int .i64 0, .int .i64 0]) := alloc30 _
   simp (decide := true) only [↓uR.o, dG.o, ja1, ja5, reduceIte, ↓ja0 l0, ↓ja0 l1, ↓ja0 l2, ↓ja0 l3, ↓ja0 l4, jh2, ja3 Tryz.func15 rfl rfl h15, ja3 Tryz.func16 rfl rfl h16, ja3 Tryz.func8 rfl rfl h8, exA, exB, exC, al1, al2, s1, s2, w32, g32]
   have h9 : CH N hk D 9 #[] H3 = some (.ret (.bool true), H3) := h9 H3 (((hG.trans x1).trans x2).trans x3)
   have lw : loadA PP 9 (.pointer (some ⟨H2.next, 1, none⟩)) H3 = some (.string ⟨#[97]⟩, H3) := j5g yt6 g8 htn
   simp (decide := true) only [↓uR.o, dG.o, ja1, reduceIte, ↓ja0 l5, ↓ja0 l6, ↓jb7 _ 2 true 31 _ y5x, ↓jb7 _ 7 true 36 _ y5y, ↓jb7 _ 13 true 42 _ y2a, jh2, z0, load30 g9, yb5, eq30, y5v, y5w, lw, eq_a, ja3 Tryz.func9 rfl rfl h9]
   rw [← hF, ja4 (l := [.bool true]) (by simp (decide := true) [Tryz.f7, resE, ja1])]
   exact hX H3 ((x1.trans x2).trans x3)
   have hp := j21 (kL ks 0 x) (nn := (nestT false (kL ks 0 x)).length) (m := (nestT false (kL ks 0 x)).length + 1) (fl := (nestT false (kL ks 0 x)).length + 1) (by omega) (by omega) (by omega) (by omega)
   have hres := hP _ hp
   obtain ⟨H2, x2, v, h8, hv⟩ := hres
   have hv : v = ((nestT false (kL ks 0 x)).length : Int) := hv rfl
   have hpl := yc4 (yx5 false (kL ks 0 x)) (by omega) (Nat.le_refl (nestT false (kL ks 0 x)).length)
   rw [← hv] at hpl
   rw [hpl, hv] at h8
   have h8 : CH N hk D 8 #[.slice (some y) (nestT false (kL ks 0 x)).length (nestT false (kL ks 0 x)).length] H1 = some (.ret (.tuple #[.agg zt.toArray, .agg #[.int .i64 ((nestT false (kL ks 0 x)).length : Int), .int .i64 1, .int .i64 (((nestT false (kL ks 0 x)).length + 1 : Nat) : Int)], .int .i64 60]), H2) := h8
   have htl : zt.length = 7 := rfl
   have hto : zt.all Value.oneCell' = true := rfl
   obtain ⟨tc, htc⟩ : ∃ tc, tc = zt := ⟨_, rfl⟩
   rw [← htc] at h8 htl hto
   obtain ⟨Ha, H3, s1, s2, g8, g9, x3⟩ := j84 (H2 := H2) (tc := tc) ((nestT false (kL ks 0 x)).length : Int) 1 (((nestT false (kL ks 0 x)).length + 1 : Nat) : Int) x2.fresh htl hto
   have al1 := jr8 H2
   have al2 : allocA PP 30 (H2.alloc 1 zt) = some (.pointer (some ⟨H2.next + 1, 0, none⟩), (H2.alloc 1 zt).alloc 1 [.int .i64 0, .int .i64 0, .int .i64 0]) := alloc30 _
   simp (decide := true) only [↓uR.o, dG.o, ja1, ja5, reduceIte, ↓ja0 l0, ↓ja0 l1, ↓ja0 l2, ↓ja0 l3, ↓ja0 l4, jh2, ja3 Tryz.func15 rfl rfl h15, ja3 Tryz.func16 rfl rfl h16, ja3 Tryz.func8 rfl rfl h8, exA, exB, exC, al1, al2, s1, s2, w32, g32]
   have h9 : CH N hk D 9 #[] H3 = some (.ret (.bool true), H3) := h9 H3 (((hG.trans x1).trans x2).trans x3)
   have la : loadA PP 3 (.pointer (some ⟨H2.next + 1, 0, none⟩)) H3 = some (.int .i64 ((nestT false (kL ks 0 x)).length : Int), H3) := j5g y5u g9 rfl
   simp (decide := true) only [↓uR.o, dG.o, ja1, reduceIte, ↓ja0 l5, ↓ja0 l7, ↓jb7 _ 2 true 47 _ y5z, ↓jb7 _ 9 true 54 _ y50, jh2, z60, y8g, la, ja7 (ts := #[34]) rfl und34, beq_self_eq_true, ja3 Tryz.func9 rfl rfl h9]
   rw [← hF, ja4 (l := [.bool true]) (by simp (decide := true) [Tryz.f7, resE, ja1])]
   exact hX H3 ((x1.trans x2).trans x3)
 · have g32 : decide ((x : Int) + 1 ≤ 32) = false := decide_eq_false (by omega)
   have hp := yh9 cl (kL ks 0 x) (nn := (nestT cl (kL ks 0 x)).length) (m := (nestT cl (kL ks 0 x)).length + 1) (fl := (nestT cl (kL ks 0 x)).length + 1) (by omega) (by omega) (by omega) (by omega)
   have hres := hP _ hp
   obtain ⟨H2, x2, v, h8, hv⟩ := hres
   have hv : v = (nthO 32 (nestT cl (kL ks 0 x)) : Int) := hv
   have hcn := yc3 cl (kL ks 0 x)
   have hzl := j82 32 (nestT cl (kL ks 0 x)) (by omega)
   have hpl := yc4 (yx5 cl (kL ks 0 x)) (by omega) (Nat.le_of_lt hzl)
   rw [← hv] at hpl
   rw [hpl, hv] at h8
   have h8 : CH N hk D 8 #[.slice (some y) (nestT cl (kL ks 0 x)).length (nestT cl (kL ks 0 x)).length] H1 = some (.ret (.tuple #[.agg zt.toArray, .agg #[.int .i64 (nthO 32 (nestT cl (kL ks 0 x)) : Int), .int .i64 1, .int .i64 ((nthO 32 (nestT cl (kL ks 0 x)) + 1 : Nat) : Int)], .int .i64 61]), H2) := h8
   have htl : zt.length = 7 := rfl
   have hto : zt.all Value.oneCell' = true := rfl
   have h4 : zt[4]? = some (.slice none 0 0) := rfl
   obtain ⟨tc, htc⟩ : ∃ tc, tc = zt := ⟨_, rfl⟩
   rw [← htc] at h8 htl hto h4
   obtain ⟨Ha, H3, s1, s2, g8, g9, x3⟩ := j84 (H2 := H2) (tc := tc) (nthO 32 (nestT cl (kL ks 0 x)) : Int) 1 ((nthO 32 (nestT cl (kL ks 0 x)) + 1 : Nat) : Int) x2.fresh htl hto
   have al1 := jr8 H2
   have al2 : allocA PP 30 (H2.alloc 1 zt) = some (.pointer (some ⟨H2.next + 1, 0, none⟩), (H2.alloc 1 zt).alloc 1 [.int .i64 0, .int .i64 0, .int .i64 0]) := alloc30 _
   simp (decide := true) only [↓uR.o, dG.o, ja1, ja5, reduceIte, ↓ja0 l0, ↓ja0 l1, ↓ja0 l2, ↓ja0 l3, ↓ja0 l4, jh2, ja3 Tryz.func15 rfl rfl h15, ja3 Tryz.func16 rfl rfl h16, ja3 Tryz.func8 rfl rfl h8, exA, exB, exC, al1, al2, s1, s2, w32, g32]
   have h9 : CH N hk D 9 #[] H3 = some (.ret (.bool true), H3) := h9 H3 (((hG.trans x1).trans x2).trans x3)
   simp (decide := true) only [↓uR.o, dG.o, ↓ja0 l8, ↓ja0 l9, ↓jc8]
   refine j86 (Q := X) (y := y) (q := H2.next) (z := nthO 32 (nestT cl (kL ks 0 x))) (s := nestT cl (kL ks 0 x)) (hb.ext (x2.trans x3)) (by omega) g8 h4 g9 h9 (nestT cl (kL ks 0 x)).length N (by omega) (i := 0) (o := 0) (by omega) ?_ (by omega) (by rw [List.drop_zero]; omega) (by rw [List.drop_zero, Nat.sub_zero, Nat.zero_add]) fun E' f6 => ?_
   · exact ⟨by simp (decide := true) only [ja1, reduceIte], by simp (decide := true) only [ja1, reduceIte], by simp (decide := true) only [ja1, reduceIte], by simp (decide := true) only [ja1, reduceIte], by simp (decide := true) only [ja1, reduceIte, Int.ofNat_zero], by simp (decide := true) only [ja1, reduceIte, Int.ofNat_zero]⟩
   simp only [jn0, ji7]
   rw [← hF, ja4 (l := [.bool true]) (by simp (decide := true) [Tryz.f7, resE, f6])]
   exact hX H3 ((x1.trans x2).trans x3)
end Go.Am
