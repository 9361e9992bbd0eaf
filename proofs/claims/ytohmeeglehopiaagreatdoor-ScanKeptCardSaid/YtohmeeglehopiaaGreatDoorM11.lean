/- Digits of base sixteen behind a row of bytes. -/
import Derived.Test.YtohmeeglehopiaaGreatDoorM10
open Go.Proofs
namespace Go.Am
set_option maxRecDepth 100000
theorem BRow.ext {H H' : Heap} {v : Value} {o : List UInt8} {lo : Nat} (h : BRow H v o lo) (x : Ext H H') : BRow H' v o lo := by
 rcases h with p | ⟨o1, q, o2, o3, o4⟩
 · exact .inl p
 · exact .inr ⟨o1, q, o2, x.keep _ _ o3, o4⟩
theorem js7 {H : Heap} (hf : Fresh H) {z : Nat} {y : Blk} (h : H.get z = some y) : z < H.next := by
 rcases Nat.lt_or_ge z H.next with q | q
 · exact q
 · rw [hf z q] at h; cases h
theorem j7d (x : Int) (H : Heap) : convertA PP 3 68 (.int .i64 x) H = some (.int .u64 (IntKind.u64.wrap x), H) := by kernel_rfl
theorem j7e (x : Int) (H : Heap) : convertA PP 3 40 (.int .i64 x) H = some (.int .u64 (IntKind.u64.wrap x), H) := by kernel_rfl
def isU (r : Option Value) (n : Nat) : Bool := match r with | some (.int .u64 m) => decide (m = (n : Int)) | _ => false
theorem yr0 {r : Option Value} {n : Nat} (h : isU r n = true) : r = some (.int .u64 (n : Int)) := by
 unfold isU at h
 split at h
 · rw [of_decide_eq_true h]
 · cases h
def isB (r : Option Value) (n : Nat) : Bool := match r with | some (.int .u8 m) => decide (m = (n : Int)) | _ => false
theorem j7f {r : Option Value} {n : Nat} (h : isB r n = true) : r = some (.int .u8 (n : Int)) := by
 unfold isB at h
 split at h
 · rw [of_decide_eq_true h]
 · cases h
theorem y0u {u : Nat} (hu : u < 256) : binA PP .and 68 (.tmp 50) (.tmp 51) (.int .u64 (u : Int)) (.int .u64 15) = some (.int .u64 ((u % 16 : Nat) : Int)) := by
 have hall : (List.range 256).all (fun u => isU (binA PP .and 68 (.tmp 50) (.tmp 51) (.int .u64 (u : Int)) (.int .u64 15)) (u % 16)) = true := by decide +kernel
 exact yr0 (List.all_eq_true.mp hall u (List.mem_range.mpr hu))
theorem y0v {u : Nat} (hu : u < 256) : binA PP .shr 40 (.tmp 55) (.tmp 56) (.int .u64 (u : Int)) (.int .u64 4) = some (.int .u64 ((u / 16 : Nat) : Int)) := by
 have hall : (List.range 256).all (fun u => isU (binA PP .shr 40 (.tmp 55) (.tmp 56) (.int .u64 (u : Int)) (.int .u64 4)) (u / 16)) = true := by decide +kernel
 exact yr0 (List.all_eq_true.mp hall u (List.mem_range.mpr hu))
theorem ye9 {u : Nat} (hu : u < 16) : indexA PP 9 (.string ⟨#[48, 49, 50, 51, 52, 53, 54, 55, 56, 57, 97, 98, 99, 100, 101, 102, 103, 104, 105, 106, 107, 108, 109, 110, 111, 112, 113, 114, 115, 116, 117, 118, 119, 120, 121, 122]⟩) (.int .u64 (u : Int)) = some (.int .u8 ((hexD u).toNat : Int)) := by
 have hall : (List.range 16).all (fun u => isB (indexA PP 9 (.string ⟨#[48, 49, 50, 51, 52, 53, 54, 55, 56, 57, 97, 98, 99, 100, 101, 102, 103, 104, 105, 106, 107, 108, 109, 110, 111, 112, 113, 114, 115, 116, 117, 118, 119, 120, 121, 122]⟩) (.int .u64 (u : Int))) (hexD u).toNat) = true := by decide +kernel
 exact j7f (List.all_eq_true.mp hall u (List.mem_range.mpr hu))
def zs65 : List Value := List.replicate 65 (.int .u8 0)
def dg1 (x : UInt8) : List Value := List.replicate 64 (.int .u8 0) ++ [f8 x]
def dg2 (x y : UInt8) : List Value := List.replicate 63 (.int .u8 0) ++ [f8 x, f8 y]
theorem j4s (H : Heap) : allocA PP 127 H = some (.pointer (some ⟨H.next, 0, none⟩), H.alloc 1 zs65) := by kernel_rfl
theorem undA : PP.underlying 127 = some (.array 65 5) := Tryz.underlying127
theorem j03 (q : Nat) {i : Nat} (h : i < 65) : indexAddrA PP 127 (.pointer (some ⟨q, 0, none⟩)) (.int .i64 (i : Int)) = some (.pointer (some ⟨q, i, none⟩)) := by
 have e : (⟨q, 0, none⟩ : Addr).add i = ⟨q, i, none⟩ := by rw [Addr.add_lit, Nat.zero_add]
 simp [indexAddrA, size5, at_, e]
 omega
def rwB (l : List Value) : Blk := ⟨l, true, 1, none, false⟩
theorem j04 {H : Heap} {q i : Nat} {l : List Value} (h : H.get q = some (rwB l)) (hl : l.length = 65) (hi : i < 65) (x : UInt8) : storeA PP 5 (.pointer (some ⟨q, i, none⟩)) (.int .u8 (x.toNat : Int)) H = some (undef, H.set q (rwB (over l i [f8 x]))) := by
 simp only [storeA, size5, stV]
 simp [Value.cells, st, look, h, rwB, Value.oneCell', hl, Nat.succ_le_of_lt hi, f8]
theorem over1 (x : UInt8) : over zs65 64 [f8 x] = dg1 x := by rfl
theorem over2 (x y : UInt8) : over (dg1 y) 63 [f8 x] = dg2 x y := by rfl
theorem j4t {H : Heap} {q i : Nat} {l : List Value} (h : H.get q = some (rwB l)) (hl : l.length = 65) (hi : i ≤ 65) : sliceOpA PP 127 (.pointer (some ⟨q, 0, none⟩)) (some (.int .i64 (i : Int))) none none H = some (.slice (some ⟨q, i, none⟩) (65 - i) (65 - i)) := by
 have e : (⟨q, 0, none⟩ : Addr).add i = ⟨q, i, none⟩ := by rw [Addr.add_lit, Nat.zero_add]
 have hk : look H ⟨q, 0, none⟩ = some (rwB l) := by simp only [look, h]; rfl
 simp only [sliceOpA, undA, size5, sliceP, hk]
 rw [if_pos ⟨by omega, by omega, by omega⟩, if_pos ⟨rfl, by show 0 + 65 * 1 ≤ l.length; omega⟩]
 have e2 : ((65 : Int) - (i : Int)).toNat = 65 - i := by omega
 simp [e, e2]
theorem j05 {G0 H : Heap} (hf0 : Fresh G0) (hE : Ext G0 H) (z : List Value) (x : Blk) : Ext G0 ((H.alloc 1 z).set H.next x) := by
 refine ⟨Nat.le_succ_of_le hE.next, fun b y hb => ?_, fun b hb => ?_⟩
 · have hlt := js7 hE.fresh (hE.keep b y hb)
   rw [Heap.get_set, if_neg (by omega), Heap.get_alloc, if_neg (by omega)]; exact hE.keep b y hb
 · have hb' : H.next + 1 ≤ b := hb
   rw [Heap.get_set, if_neg (by omega), Heap.get_alloc, if_neg (by omega)]; exact hE.fresh b (by omega)
theorem yn0 {α β : Type} (f : α → β) (x y z u v : α) : (#[x, y, z, u, v] : Array α).map f = #[f x, f y, f z, f u, f v] := by simp
theorem yw6 (H : Heap) (q : Nat) (x y : Blk) (b : Nat) : ((H.set q x).set q y).get b = (H.set q y).get b := by
 rw [Heap.get_set, Heap.get_set, Heap.get_set]; split <;> rfl
theorem code71 : codeOf Tryz.f71 = .seq (rF Tryz.f71 0) (.seq (.seq (rF Tryz.f71 1) (.cond (.tmp 28) (rF Tryz.f71 2) .skip)) (.seq (rF Tryz.f71 3) (.seq (rF Tryz.f71 4) (.seq (.seq (rF Tryz.f71 5) (.cond (.tmp 30) (rF Tryz.f71 6) .skip)) (.seq (.seq (rF Tryz.f71 7) (.cond (.tmp 34) (.seq (rF Tryz.f71 8) (.seq (rF Tryz.f71 9) (.seq (rF Tryz.f71 10) (.seq (.block 0 (.loop (.seq (.seq (rF Tryz.f71 11) (.cond (.tmp 46) .skip (.exit 0))) (.block 1 (.seq (rF Tryz.f71 12) (.seq (rF Tryz.f71 13) (rF Tryz.f71 14))))))) (.seq (rF Tryz.f71 15) (rF Tryz.f71 16)))))) (.seq (rF Tryz.f71 17) (.seq (.block 2 (.loop (.seq (.seq (rF Tryz.f71 18) (.cond (.tmp 68) .skip (.exit 2))) (.block 3 (.seq (rF Tryz.f71 19) (.seq (rF Tryz.f71 20) (.seq (rF Tryz.f71 21) (rF Tryz.f71 22)))))))) (.seq (rF Tryz.f71 23) (rF Tryz.f71 24)))))) (.seq (.seq (rF Tryz.f71 25) (.cond (.tmp 89) (.seq (rF Tryz.f71 26) (rF Tryz.f71 27)) .skip)) (.seq (.seq (rF Tryz.f71 28) (.cond (.tmp 94) (.seq (rF Tryz.f71 29) .ret) .skip)) (.seq (rF Tryz.f71 30) .ret)))))))) := by kernel_rfl
theorem j7g : ((rgn Tryz.f71 1)[2]?).bind (·.dst) = some 21 := by kernel_rfl
theorem j7h : ((rgn Tryz.f71 1)[6]?).bind (·.dst) = some 25 := by kernel_rfl
theorem code55 : codeOf Tryz.f55 = .seq (rF Tryz.f55 0) (.seq (.seq (rF Tryz.f55 1) (.cond (.tmp 10) (.seq (.seq (rF Tryz.f55 2) (.cond (.tmp 12) (.seq (rF Tryz.f55 3) .ret) .skip)) (.seq (rF Tryz.f55 4) (.seq (rF Tryz.f55 5) (.seq (rF Tryz.f55 6) (.seq (rF Tryz.f55 7) .ret))))) .skip)) (.seq (rF Tryz.f55 8) (.seq (rF Tryz.f55 9) .ret))) := by kernel_rfl
theorem code31 : codeOf Tryz.f31 = .seq (rF Tryz.f31 0) (.seq (rF Tryz.f31 1) .ret) := by kernel_rfl
section
variable {N : Nat} {hk : Hook} {d : Nat} {G0 H : Heap} {v : Value} {o : List UInt8} {u : Nat}
theorem yn1 (K : HkOk hk) (B : HkN hk) (hf0 : Fresh G0) (hGH : Ext GE H) (hE : Ext G0 H) (ho : BRow H v o G0.next) (hu : u < 16) (hN : 10 < N) (hl : o.length + 2 ≤ 140737488355328) :
   ∃ v' H', CG N hk (d + 2) 71 #[v, .int .u64 (u : Int), .int .i64 16, .bool false, .bool true] H = some (.ret (.tuple #[v', .string ⟨#[]⟩]), H') ∧ Ext G0 H' ∧ BRow H' v' (o ++ [hexD u]) G0.next := by
 have h86 : CG N hk (d + 1) 89 #[.int .i64 16] (H.alloc 1 zs65) = some (.ret (.bool true), H.alloc 1 zs65) := jc1 (B.pw _ (hGH.trans (Ext.alloc hGH.fresh 1 _)))
 have h87 : CG N hk (d + 1) 90 #[.int .u64 16] (H.alloc 1 zs65) = some (.ret (.int .i64 4), H.alloc 1 zs65) := jc1 (B.tz _ (hGH.trans (Ext.alloc hGH.fresh 1 _)))
 have dF : ∀ {i : Decidable False}, @decide False i = false := fun {i} => decide_eq_false id
 have dT : ∀ {i : Decidable True}, @decide True i = true := fun {i} => decide_eq_true trivial
 have z10 : ((16 : Int) == 10) = false := rfl
 have w16 : IntKind.u64.wrap 16 = 16 := rfl
 have w4 : IntKind.u64.wrap 4 = 4 := rfl
 have w15 : IntKind.u64.wrap (16 - 1) = 15 := rfl
 have w64 : IntKind.i64.wrap (65 - 1) = 64 := rfl
 have w63 : IntKind.i64.wrap (64 - 1) = 63 := rfl
 have hgeq : decide ((u : Int) ≥ 16) = false := decide_eq_false (by omega)
 have hdg := ye9 hu
 have hq : (H.alloc 1 zs65).get H.next = some (rwB zs65) := by rw [Heap.get_alloc, if_pos rfl]; rfl
 have i64 := j03 H.next (i := 64) (by decide)
 have s64 := j04 (i := 64) hq rfl (by decide) (hexD u)
 rw [over1] at s64
 have i64 : indexAddrA PP 127 (.pointer (some ⟨H.next, 0, none⟩)) (.int .i64 64) = some (.pointer (some ⟨H.next, 64, none⟩)) := i64
 have x1 := j05 hf0 hE zs65 (rwB (dg1 (hexD u)))
 have x0 := j05 hE.fresh ⟨Nat.le_refl _, fun _ _ h => h, hE.fresh⟩ zs65 (rwB (dg1 (hexD u)))
 have hq1 : ((H.alloc 1 zs65).set H.next (rwB (dg1 (hexD u)))).get H.next = some (rwB (dg1 (hexD u))) := by rw [Heap.get_set, if_pos rfl]
 have sl := j4t (i := 64) hq1 rfl (by decide)
 have sl : sliceOpA PP 127 (.pointer (some ⟨H.next, 0, none⟩)) (some (.int .i64 64)) none none ((H.alloc 1 zs65).set H.next (rwB (dg1 (hexD u)))) = some (.slice (some ⟨H.next, 64, none⟩) 1 1) := sl
 have src : srcCells ((H.alloc 1 zs65).set H.next (rwB (dg1 (hexD u)))) 1 (.slice (some ⟨H.next, 64, none⟩) 1 1) = some ([hexD u].length, [hexD u].map f8) := by
   have hk1 : look ((H.alloc 1 zs65).set H.next (rwB (dg1 (hexD u)))) ⟨H.next, 64, none⟩ = some (rwB (dg1 (hexD u))) := by simp only [look, hq1]; rfl
   simp only [srcCells, hk1]
   rfl
 obtain ⟨v', H', q1, q2, q3, q4, q5⟩ := jp8 (u := 22) (ho.ext x0) x1.fresh x1.next (.inl ⟨_, und34⟩) src (by simp only [List.length_cons, List.length_nil]; omega)
 have xR : Ext G0 H' := ⟨Nat.le_trans x1.next q4, fun z y hy => q3 z y (js7 hf0 hy) (x1.keep z y hy), q5⟩
 have main : ∃ R0 : R, CG N hk (d + 2) 71 #[v, .int .u64 (u : Int), .int .i64 16, .bool false, .bool true] H = R0 ∧ R0 = some (.ret (.tuple #[v', .string ⟨#[]⟩]), H') := by
   refine ⟨_, jb6 (K.nil _ _ _ rfl) Tryz.func71 (c := codeOf Tryz.f71) rfl rfl rfl (pr := noPr) rfl, ?_⟩
   obtain ⟨M, rfl⟩ : ∃ q, N = q + 1 := ⟨N - 1, by omega⟩
   rw [code71]
   generalize hF : finE PP Tryz.f71 = F
   have lL : _ ∧ _ := ⟨lX8 Tryz.f71 0 1 3 4 5 7 8 9, lX7 Tryz.f71 10 11 15 16 25 28 29⟩
   conv at lL in (occs := *) (rq _ _) => all_goals simp only [rX, oA, Tryz.f71, dL.o, reduceIte, Nat.reduceEqDiff]
   obtain ⟨⟨l0, l1, l3, l4, l5, l7, l8, l9⟩, ⟨l10, l11, l15, l16, l25, l28, l29⟩⟩ := lL
   simp +decide only [↓uR.o, dG.o, ja1, jb1, reduceIte, ↓ja0 l0, ↓ja0 l1, ↓ja0 l3, ↓ja0 l4, ↓ja0 l5, ↓ja0 l7, ↓ja0 l8, ↓ja0 l9, ↓ja0 l10, ↓ja0 l11, ↓ja0 l15, ↓ja0 l16, ↓ja0 l25, ↓ja0 l28, ↓ja0 l29, ↓jb8 _ 2 false 21 _ j7g, ↓jb8 _ 6 false 25 _ j7h, dF, z10, ↓jb4, j4s, ja3 Tryz.func89 rfl rfl h86, ja3 Tryz.func90 rfl rfl h87, j7d, j7e, w16, w4, w15, ↓ja5, hgeq, hdg, w64, i64, s64, ↓Option.map_some, ↓Option.map_none, sl, jc3, q1, jy8]
   rw [← hF, jb0 (l := [v', .string ⟨#[]⟩]) (by simp +decide [Tryz.f71, resE, ja1])]
   rfl
 obtain ⟨R0, m1, m2⟩ := main
 exact ⟨v', H', m1.trans m2, xR, q2⟩
theorem yn2 (K : HkOk hk) (B : HkN hk) (hf0 : Fresh G0) (hGH : Ext GE H) (hE : Ext G0 H) (ho : BRow H v o G0.next) (hu0 : 16 ≤ u) (hu : u < 256) (hN : 10 < N) (hl : o.length + 2 ≤ 140737488355328) :
   ∃ v' H', CG N hk (d + 2) 71 #[v, .int .u64 (u : Int), .int .i64 16, .bool false, .bool true] H = some (.ret (.tuple #[v', .string ⟨#[]⟩]), H') ∧ Ext G0 H' ∧ BRow H' v' (o ++ [hexD (u / 16), hexD (u % 16)]) G0.next := by
 have h86 : CG N hk (d + 1) 89 #[.int .i64 16] (H.alloc 1 zs65) = some (.ret (.bool true), H.alloc 1 zs65) := jc1 (B.pw _ (hGH.trans (Ext.alloc hGH.fresh 1 _)))
 have h87 : CG N hk (d + 1) 90 #[.int .u64 16] (H.alloc 1 zs65) = some (.ret (.int .i64 4), H.alloc 1 zs65) := jc1 (B.tz _ (hGH.trans (Ext.alloc hGH.fresh 1 _)))
 have dF : ∀ {i : Decidable False}, @decide False i = false := fun {i} => decide_eq_false id
 have dT : ∀ {i : Decidable True}, @decide True i = true := fun {i} => decide_eq_true trivial
 have z10 : ((16 : Int) == 10) = false := rfl
 have w16 : IntKind.u64.wrap 16 = 16 := rfl
 have w4 : IntKind.u64.wrap 4 = 4 := rfl
 have w15 : IntKind.u64.wrap (16 - 1) = 15 := rfl
 have w64 : IntKind.i64.wrap (65 - 1) = 64 := rfl
 have w63 : IntKind.i64.wrap (64 - 1) = 63 := rfl
 have hgeq : decide ((u : Int) ≥ 16) = true := decide_eq_true (by omega)
 have hgeq2 : decide (((u / 16 : Nat) : Int) ≥ 16) = false := decide_eq_false (by omega)
 have hand := y0u hu
 have hshr := y0v hu
 have hd1 := ye9 (u := u % 16) (by omega)
 have hd0 := ye9 (u := u / 16) (by omega)
 have hq : (H.alloc 1 zs65).get H.next = some (rwB zs65) := by rw [Heap.get_alloc, if_pos rfl]; rfl
 have i64 : indexAddrA PP 127 (.pointer (some ⟨H.next, 0, none⟩)) (.int .i64 64) = some (.pointer (some ⟨H.next, 64, none⟩)) := j03 H.next (i := 64) (by decide)
 have i63 : indexAddrA PP 127 (.pointer (some ⟨H.next, 0, none⟩)) (.int .i64 63) = some (.pointer (some ⟨H.next, 63, none⟩)) := j03 H.next (i := 63) (by decide)
 have s64 := j04 (i := 64) hq rfl (by decide) (hexD (u % 16))
 rw [over1] at s64
 have hq1 : ((H.alloc 1 zs65).set H.next (rwB (dg1 (hexD (u % 16))))).get H.next = some (rwB (dg1 (hexD (u % 16)))) := by rw [Heap.get_set, if_pos rfl]
 have s63 := j04 (i := 63) hq1 rfl (by decide) (hexD (u / 16))
 rw [over2] at s63
 generalize hH2 : ((H.alloc 1 zs65).set H.next (rwB (dg1 (hexD (u % 16))))).set H.next (rwB (dg2 (hexD (u / 16)) (hexD (u % 16)))) = H2 at s63
 have same : ∀ b, H2.get b = ((H.alloc 1 zs65).set H.next (rwB (dg2 (hexD (u / 16)) (hexD (u % 16))))).get b := fun b => by rw [← hH2, yw6]
 have hn2 : H2.next = H.next + 1 := by rw [← hH2]; rfl
 have mv : ∀ {G : Heap}, Ext G ((H.alloc 1 zs65).set H.next (rwB (dg2 (hexD (u / 16)) (hexD (u % 16))))) → Ext G H2 := fun x => ⟨by rw [hn2]; exact x.next, fun b y hy => by rw [same]; exact x.keep b y hy, fun b hb => by rw [same]; exact x.fresh b (by rw [hn2] at hb; exact hb)⟩
 have x1 := mv (j05 hf0 hE zs65 (rwB (dg2 (hexD (u / 16)) (hexD (u % 16)))))
 have x0 := mv (j05 hE.fresh ⟨Nat.le_refl _, fun _ _ h => h, hE.fresh⟩ zs65 (rwB (dg2 (hexD (u / 16)) (hexD (u % 16)))))
 have hq2 : H2.get H.next = some (rwB (dg2 (hexD (u / 16)) (hexD (u % 16)))) := by rw [same, Heap.get_set, if_pos rfl]
 have sl : sliceOpA PP 127 (.pointer (some ⟨H.next, 0, none⟩)) (some (.int .i64 63)) none none H2 = some (.slice (some ⟨H.next, 63, none⟩) 2 2) := j4t (i := 63) hq2 rfl (by decide)
 have src : srcCells H2 1 (.slice (some ⟨H.next, 63, none⟩) 2 2) = some ([hexD (u / 16), hexD (u % 16)].length, [hexD (u / 16), hexD (u % 16)].map f8) := by
   have hk1 : look H2 ⟨H.next, 63, none⟩ = some (rwB (dg2 (hexD (u / 16)) (hexD (u % 16)))) := by simp only [look, hq2]; rfl
   simp only [srcCells, hk1]
   rfl
 obtain ⟨v', H', q1, q2, q3, q4, q5⟩ := jp8 (u := 22) (ho.ext x0) x1.fresh x1.next (.inl ⟨_, und34⟩) src (by simp only [List.length_cons, List.length_nil]; omega)
 have xR : Ext G0 H' := ⟨Nat.le_trans x1.next q4, fun z y hy => q3 z y (js7 hf0 hy) (x1.keep z y hy), q5⟩
 have main : ∃ R0 : R, CG N hk (d + 2) 71 #[v, .int .u64 (u : Int), .int .i64 16, .bool false, .bool true] H = R0 ∧ R0 = some (.ret (.tuple #[v', .string ⟨#[]⟩]), H') := by
   refine ⟨_, jb6 (K.nil _ _ _ rfl) Tryz.func71 (c := codeOf Tryz.f71) rfl rfl rfl (pr := noPr) rfl, ?_⟩
   obtain ⟨M, rfl⟩ : ∃ q, N = q + 1 + 1 := ⟨N - 2, by omega⟩
   rw [code71]
   generalize hF : finE PP Tryz.f71 = F
   have lL : _ ∧ _ ∧ _ := ⟨lX8 Tryz.f71 0 1 3 4 5 7 8 9, lX8 Tryz.f71 10 11 12 13 14 15 16 25, lX2 Tryz.f71 28 29⟩
   conv at lL in (occs := *) (rq _ _) => all_goals simp only [rX, oA, Tryz.f71, dL.o, reduceIte, Nat.reduceEqDiff]
   obtain ⟨⟨l0, l1, l3, l4, l5, l7, l8, l9⟩, ⟨l10, l11, l12, l13, l14, l15, l16, l25⟩, ⟨l28, l29⟩⟩ := lL
   simp +decide only [↓uR.o, dG.o, ja1, jb1, reduceIte, ↓ja0 l0, ↓ja0 l1, ↓ja0 l3, ↓ja0 l4, ↓ja0 l5, ↓ja0 l7, ↓ja0 l8, ↓ja0 l9, ↓ja0 l10, ↓ja0 l11, ↓ja0 l12, ↓ja0 l13, ↓ja0 l14, ↓ja0 l15, ↓ja0 l16, ↓ja0 l25, ↓ja0 l28, ↓ja0 l29, ↓jb8 _ 2 false 21 _ j7g, ↓jb8 _ 6 false 25 _ j7h, dF, z10, ↓jb4, j4s, ja3 Tryz.func89 rfl rfl h86, ja3 Tryz.func90 rfl rfl h87, j7d, j7e, w16, w4, w15, ↓ja5, hgeq, hgeq2, hand, hshr, hd0, hd1, w64, w63, i64, i63, s64, s63, ↓Option.map_some, ↓Option.map_none, sl, jc3, q1, jy8]
   rw [← hF, jb0 (l := [v', .string ⟨#[]⟩]) (by simp +decide [Tryz.f71, resE, ja1])]
   rfl
 obtain ⟨R0, m1, m2⟩ := main
 exact ⟨v', H', m1.trans m2, xR, q2⟩
theorem app53 {v' : Value} {H' : Heap} (K : HkOk hk) (h : CG N hk (d + 2) 71 #[v, .int .u64 (u : Int), .int .i64 16, .bool false, .bool true] H = some (.ret (.tuple #[v', .string ⟨#[]⟩]), H')) :
   CG N hk (d + 4) 31 #[v, .int .u64 (u : Int), .int .i64 16] H = some (.ret v', H') := by
 have q0 : ∀ (x y : Value), extractA (.tuple #[x, y]) 0 = some x := fun _ _ => rfl
 have q1 : ∀ (x y : Value), extractA (.tuple #[x, y]) 1 = some y := fun _ _ => rfl
 have z10 : ((16 : Int) == 10) = false := rfl
 have m53 : ∃ R0 : R, CG N hk (d + 3) 55 #[v, .int .u64 (u : Int), .int .i64 16] H = R0 ∧ R0 = some (.ret v', H') := by
   refine ⟨_, jb6 (K.nil _ _ _ rfl) Tryz.func55 (c := codeOf Tryz.f55) rfl rfl rfl (pr := noPr) rfl, ?_⟩
   rw [code55]
   generalize hF : finE PP Tryz.f55 = F
   have lL := lX4 Tryz.f55 0 1 8 9
   conv at lL in (occs := *) (rq _ _) => all_goals simp only [rX, oA, Tryz.f55, dL.o, reduceIte, Nat.reduceEqDiff]
   obtain ⟨l0, l1, l8, l9⟩ := lL
   simp +decide only [↓uR.o, dG.o, ja1, reduceIte, ↓ja0 l0, ↓ja0 l1, ↓ja0 l8, ↓ja0 l9, z10, yn0, ja3 Tryz.func71 rfl rfl h, q0, q1]
   rw [← hF, jb0 (l := [v']) (by simp +decide [Tryz.f55, resE, ja1])]
   rfl
 obtain ⟨R1, n1, n2⟩ := m53
 have h53 := n1.trans n2
 have m37 : ∃ R0 : R, CG N hk (d + 4) 31 #[v, .int .u64 (u : Int), .int .i64 16] H = R0 ∧ R0 = some (.ret v', H') := by
   refine ⟨_, jb6 (K.nil _ _ _ rfl) Tryz.func31 (c := codeOf Tryz.f31) rfl rfl rfl (pr := noPr) rfl, ?_⟩
   rw [code31]
   generalize hF : finE PP Tryz.f31 = F
   have lL := lX2 Tryz.f31 0 1
   conv at lL in (occs := *) (rq _ _) => all_goals simp only [rX, oA, Tryz.f31, dL.o, reduceIte, Nat.reduceEqDiff]
   obtain ⟨l0, l1⟩ := lL
   simp +decide only [↓uR.o, dG.o, ja1, reduceIte, ↓ja0 l0, ↓ja0 l1, ja3 Tryz.func55 rfl rfl h53]
   rw [← hF, jb0 (l := [v']) (by simp +decide [Tryz.f31, resE, ja1])]
   rfl
 obtain ⟨R2, o1, o2⟩ := m37
 exact o1.trans o2
theorem yw7 (K : HkOk hk) (B : HkN hk) (hf0 : Fresh G0) (hGH : Ext GE H) (hE : Ext G0 H) (ho : BRow H v o G0.next) (hu : u < 16) (hN : 10 < N) (hl : o.length + 2 ≤ 140737488355328) :
   ∃ v' H', CG N hk (d + 4) 31 #[v, .int .u64 (u : Int), .int .i64 16] H = some (.ret v', H') ∧ Ext G0 H' ∧ BRow H' v' (o ++ [hexD u]) G0.next := by
 obtain ⟨v', H', h, r⟩ := yn1 (N := N) (d := d) K B hf0 hGH hE ho hu hN hl
 exact ⟨v', H', app53 K h, r⟩
theorem yw8 (K : HkOk hk) (B : HkN hk) (hf0 : Fresh G0) (hGH : Ext GE H) (hE : Ext G0 H) (ho : BRow H v o G0.next) (hu0 : 16 ≤ u) (hu : u < 256) (hN : 10 < N) (hl : o.length + 2 ≤ 140737488355328) :
   ∃ v' H', CG N hk (d + 4) 31 #[v, .int .u64 (u : Int), .int .i64 16] H = some (.ret v', H') ∧ Ext G0 H' ∧ BRow H' v' (o ++ [hexD (u / 16), hexD (u % 16)]) G0.next := by
 obtain ⟨v', H', h, r⟩ := yn2 (N := N) (d := d) K B hf0 hGH hE ho hu0 hu hN hl
 exact ⟨v', H', app53 K h, r⟩
end
noncomputable abbrev cUB1 : Code := .seq (rF Tryz.f12 3) (.seq (.cond (.tmp 10) .skip (.exit 0)) (.seq (.block 1 (.seq (rF Tryz.f12 4) (.seq (rF Tryz.f12 5) (.block 2 (.seq (.block 7 (.seq (.block 6 (.seq (.block 5 (.seq (.block 4 (.seq (.block 3 (.seq (.seq (.seq (rF Tryz.f12 6) (.cond (.tmp 15) (.exit 3) .skip)) (.seq (.seq (rF Tryz.f12 7) (.cond (.tmp 18) (.exit 4) .skip)) (.seq (.seq (rF Tryz.f12 8) (.cond (.tmp 21) (.exit 5) .skip)) (.seq (rF Tryz.f12 9) (.cond (.tmp 28) (.exit 6) .skip))))) (.exit 7))) (.seq (rF Tryz.f12 10) (.exit 2)))) (.seq (rF Tryz.f12 11) (.exit 2)))) (.seq (.seq (rF Tryz.f12 12) (.seq (.seq (rF Tryz.f12 13) (.cond (.tmp 45) (rF Tryz.f12 14) .skip)) (rF Tryz.f12 15))) (.exit 2)))) (rF Tryz.f12 16))) (.seq (rF Tryz.f12 17) (.exit 2))))))) (rF Tryz.f12 18)))
theorem bslice2 (H : Heap) (x y : Int) : buildSliceA PP 22 2 #[(0, .int .u8 x), (1, .int .u8 y)] H = some (.slice (some ⟨H.next, 0, none⟩) 2 2, H.alloc 1 [.int .u8 x, .int .u8 y]) := by
 have hf : Instr.fill (fun i => some (i * 1, 1)) (zeroRow [.int .u8 0] (2 * 1)).toArray [(0, .int .u8 x), (1, .int .u8 y)] = some #[.int .u8 x, .int .u8 y] := by rfl
 simp only [buildSliceA, und34, size5, zeroB, mkRow, hf]
 simp
theorem jw9 {G0 H : Heap} {v : Value} {o : List UInt8} (hf0 : Fresh G0) (hE : Ext G0 H) (ho : BRow H v o G0.next) (w : List UInt8) (hn : o.length + w.length ≤ 140737488355328) :
   ∃ v' H', appendA PP #[22, 22] v (.slice (some ⟨H.next, 0, none⟩) w.length w.length) (H.alloc 1 (w.map f8)) = some (v', H') ∧ Ext G0 H' ∧ BRow H' v' (o ++ w) G0.next := by
 have x2 : Ext H (H.alloc 1 (w.map f8)) := Ext.alloc hE.fresh 1 _
 have hn1 : (H.alloc 1 (w.map f8)).get H.next = some ⟨w.map f8, true, 1, none, false⟩ := by rw [Heap.get_alloc, if_pos rfl]
 have src : srcCells (H.alloc 1 (w.map f8)) 1 (.slice (some ⟨H.next, 0, none⟩) w.length w.length) = some (w.length, w.map f8) := by
   simp only [srcCells, look, hn1, Nat.mul_one, Nat.zero_add, List.drop_zero]
   rw [if_pos (by simp), List.take_of_length_le (by simp)]
 obtain ⟨v', H', q1, q2, q3, q4, q5⟩ := jp8 (u := 22) (ho.ext x2) x2.fresh (Nat.le_trans hE.next x2.next) (.inl ⟨_, und34⟩) src hn
 exact ⟨v', H', q1, ⟨Nat.le_trans hE.next (Nat.le_trans x2.next q4), fun z y hy => q3 z y (js7 hf0 hy) (x2.keep z y (hE.keep z y hy)), q5⟩, q2⟩
theorem yf0 (t : List UInt8) (c : UInt8) : bodyB (t ++ [c]) = bodyB t ++ escB c := by simp [bodyB]
theorem j4u (t : List UInt8) {i : Nat} (hi : i < t.length) : 34 :: bodyB (t.take (i + 1)) = 34 :: bodyB (t.take i) ++ escB t[i] := by
 rw [List.take_add_one, List.getElem?_eq_getElem hi]
 show 34 :: bodyB (t.take i ++ [t[i]]) = _
 rw [yf0]; rfl
theorem code12 : codeOf Tryz.f12 = .seq (rF Tryz.f12 0) (.seq (rF Tryz.f12 1) (.seq (.seq (rF Tryz.f12 2) (.block 0 (.loop cUB1))) (.seq (rF Tryz.f12 19) .ret))) := by kernel_rfl
theorem jq1 : ((rgn Tryz.f12 8)[2]?).bind (·.dst) = some 24 := by kernel_rfl
theorem j3c : ((rgn Tryz.f12 9)[2]?).bind (·.dst) = some 31 := by kernel_rfl
section
variable {N : Nat} {hk : Hook} {d : Nat} {t : List UInt8} {G0 : Heap} {Q : R → Prop} {k : KOE}
set_option maxHeartbeats 4000000 in
theorem ju7 (K : HkOk hk) (B : HkN hk) (hG0 : Ext GE G0) (hsm : t.length ≤ 20000000) (hN : 100 < N) :
   ∀ (n i m : Nat) (_ : i + n = t.length) (_ : n < m) {E : Env} {H : Heap} {va : Value} (_ : E 0 = .string ⟨⟨t⟩⟩) (_ : E 3 = va) (_ : E 8 = .int .i64 (t.length : Int)) (_ : E 9 = .int .i64 (i : Int)) (_ : Ext G0 H ∧ BRow H va (34 :: bodyB (t.take i)) G0.next)
     (_ : ∀ E' H' va', E' 3 = va' → Ext G0 H' → BRow H' va' (34 :: bodyB t) G0.next → Q (k (.exit 0) E' [] H')), Q (loopE (execG PP XX (CG N hk (d + 4)) N noPr cUB1 none) m E [] H k)
 | 0, i, m + 1, hn, hm, E, H, va, e0, e3, e8, e9, hB, hx => by
   rw [ja5]
   have hi : i = t.length := by omega
   subst hi
   have hlt : decide ((t.length : Int) < (t.length : Int)) = false := decide_eq_false (by omega)
   rw [List.take_length] at hB
   have l3 := tl (rgn Tryz.f12 3)
   conv at l3 => rhs; simp only [rgn, oA, codeOf, Tryz.f12, gS, gN, reduceIte, Nat.reduceEqDiff, tA]
   simp +decide only [↓uR.o, dG.o, ja1, reduceIte, ↓ja0 l3, e8, e9, hlt]
   exact hx _ _ va (by simp +decide only [ja1, reduceIte, e3]) hB.1 hB.2
 | n + 1, i, m + 1, hn, hm, E, H, va, e0, e3, e8, e9, hB, hx => by
   rw [ja5]
   have hi : i < t.length := by omega
   have hlt : decide ((i : Int) < (t.length : Int)) = true := decide_eq_true (by omega)
   have w : IntKind.i64.wrap ((i : Int) + 1) = ((i + 1 : Nat) : Int) := by rw [ja4 (by omega) (by omega)]; omega
   have hix := jc5 hi
   have hbt := j4u t hi
   have hbl := (jp9 (t.take i)).2
   have htl : (t.take i).length ≤ 20000000 := by rw [List.length_take]; omega
   obtain ⟨hE, hB⟩ := hB
   have app : ∀ w : List UInt8, w.length ≤ 4 → ∃ v' H', appendA PP #[22, 22] va (.slice (some ⟨H.next, 0, none⟩) w.length w.length) (H.alloc 1 (w.map f8)) = some (v', H') ∧ Ext G0 H' ∧ BRow H' v' (34 :: bodyB (t.take i) ++ w) G0.next := fun w hw =>
     jw9 hG0.fresh hE hB w (by rw [List.length_cons]; omega)
   generalize hc : t[i] = c at hix hbt
   have lL : _ ∧ _ := ⟨lX8 Tryz.f12 3 4 5 6 7 8 9 10, lX8 Tryz.f12 11 12 13 14 15 16 17 18⟩
   conv at lL in (occs := *) (rq _ _) => all_goals simp only [rX, oA, Tryz.f12, dL.o, reduceIte, Nat.reduceEqDiff]
   obtain ⟨⟨l3, l4, l5, l6, l7, l8, l9, l10⟩, ⟨l11, l12, l13, l14, l15, l16, l17, l18⟩⟩ := lL
   by_cases c10 : c = 10
   · have z10 : ((c.toNat : Int) == 10) = true := by rw [c10]; rfl
     have he : escB c = [92, 110] := by rw [c10]; rfl
     rw [he] at hbt
     obtain ⟨v1, H1, a1, x1, r1⟩ := app [92, 110] (by decide)
     rw [← hbt] at r1
     have a1 : appendA PP #[22, 22] va (.slice (some ⟨H.next, 0, none⟩) 2 2) (H.alloc 1 [.int .u8 92, .int .u8 110]) = some (v1, H1) := a1
     simp +decide only [↓uR.o, dG.o, ja1, reduceIte, ↓ja0 l3, ↓ja0 l4, ↓ja0 l5, ↓ja0 l6, ↓ja0 l10, ↓ja0 l18, e0, e3, e8, e9, hlt, hix, jc3, w, z10, bslice2, a1]
     exact ju7 K B hG0 hsm hN n (i + 1) m (by omega) (by omega) (by simp +decide only [ja1, reduceIte, e0]) (by simp +decide only [ja1, reduceIte, e3]) (by simp +decide only [ja1, reduceIte, e8]) (by simp +decide only [ja1, reduceIte, e9]) ⟨x1, r1⟩ hx
   have z10 : ((c.toNat : Int) == 10) = false := (ja7 c 10).trans (decide_eq_false c10)
   by_cases c9 : c = 9
   · have z9 : ((c.toNat : Int) == 9) = true := by rw [c9]; rfl
     have he : escB c = [92, 116] := by rw [c9]; rfl
     rw [he] at hbt
     obtain ⟨v1, H1, a1, x1, r1⟩ := app [92, 116] (by decide)
     rw [← hbt] at r1
     have a1 : appendA PP #[22, 22] va (.slice (some ⟨H.next, 0, none⟩) 2 2) (H.alloc 1 [.int .u8 92, .int .u8 116]) = some (v1, H1) := a1
     simp +decide only [↓uR.o, dG.o, ja1, reduceIte, ↓ja0 l3, ↓ja0 l4, ↓ja0 l5, ↓ja0 l6, ↓ja0 l7, ↓ja0 l11, ↓ja0 l18, e0, e3, e8, e9, hlt, hix, jc3, w, z10, z9, bslice2, a1]
     exact ju7 K B hG0 hsm hN n (i + 1) m (by omega) (by omega) (by simp +decide only [ja1, reduceIte, e0]) (by simp +decide only [ja1, reduceIte, e3]) (by simp +decide only [ja1, reduceIte, e8]) (by simp +decide only [ja1, reduceIte, e9]) ⟨x1, r1⟩ hx
   have z9 : ((c.toNat : Int) == 9) = false := (ja7 c 9).trans (decide_eq_false c9)
   by_cases cc : c.toNat < 32 ∨ 126 < c.toNat
   · have he : escB c = [92, 120, hexD (c.toNat / 16), hexD (c.toNat % 16)] := by unfold escB; rw [if_neg c10, if_neg c9, if_pos cc]
     rw [he] at hbt
     have hu := c.toNat_lt
     obtain ⟨v1, H1, a1, x1, r1⟩ := app [92, 120] (by decide)
     have a1 : appendA PP #[22, 22] va (.slice (some ⟨H.next, 0, none⟩) 2 2) (H.alloc 1 [.int .u8 92, .int .u8 120]) = some (v1, H1) := a1
     have wu : IntKind.u64.wrap (c.toNat : Int) = (c.toNat : Int) := jd9 (by omega) (by omega)
     have lb : (34 :: bodyB (t.take i)).length ≤ 80000001 := by rw [List.length_cons]; omega
     by_cases c16 : c.toNat < 16
     · have g32 : decide ((c.toNat : Int) < 32) = true := decide_eq_true (by omega)
       have g16 : decide ((c.toNat : Int) < 16) = true := decide_eq_true (by omega)
       obtain ⟨v2, H2, a2, x2, r2⟩ := jw9 hG0.fresh x1 r1 [48] (by rw [List.length_append]; simp only [List.length_cons, List.length_nil] at *; omega)
       have a2 : appendA PP #[22, 22] v1 (.slice (some ⟨H1.next, 0, none⟩) 1 1) (H1.alloc 1 [.int .u8 48]) = some (v2, H2) := a2
       obtain ⟨v3, H3, a3, x3, r3⟩ := yw7 (N := N) (hk := hk) (d := d) K B hG0.fresh (hG0.trans x2) x2 r2 c16 (by omega) (by rw [List.length_append, List.length_append]; simp only [List.length_cons, List.length_nil] at *; omega)
       have hd0 : hexD (c.toNat / 16) = 48 := by rw [show c.toNat / 16 = 0 by omega]; rfl
       have hd1 : c.toNat % 16 = c.toNat := by omega
       have er : 34 :: bodyB (t.take i) ++ [92, 120] ++ [48] ++ [hexD c.toNat] = 34 :: bodyB (t.take (i + 1)) := by rw [hbt, hd0, hd1]; simp
       rw [er] at r3
       simp +decide only [↓uR.o, dG.o, ja1, reduceIte, Bool.not_false, ↓ja0 l3, ↓ja0 l4, ↓ja0 l5, ↓ja0 l6, ↓ja0 l7, ↓ja0 l8, ↓ja0 l12, ↓ja0 l13, ↓ja0 l14, ↓ja0 l15, ↓ja0 l18, ↓r_no _ 2 false 24 _ jq1, e0, e3, e8, e9, hlt, hix, jc3, w, z10, z9, g32, g16, bslice2, bslice1, a1, a2, jn2, wu, ja3 Tryz.func31 rfl rfl a3]
       exact ju7 K B hG0 hsm hN n (i + 1) m (by omega) (by omega) (by simp +decide only [ja1, reduceIte, e0]) (by simp +decide only [ja1, reduceIte, e3]) (by simp +decide only [ja1, reduceIte, e8]) (by simp +decide only [ja1, reduceIte, e9]) ⟨x3, r3⟩ hx
     · have g16 : decide ((c.toNat : Int) < 16) = false := decide_eq_false (by omega)
       obtain ⟨v3, H3, a3, x3, r3⟩ := yw8 (N := N) (hk := hk) (d := d) K B hG0.fresh (hG0.trans x1) x1 r1 (by omega) hu (by omega) (by rw [List.length_append]; simp only [List.length_cons, List.length_nil] at *; omega)
       have er : 34 :: bodyB (t.take i) ++ [92, 120] ++ [hexD (c.toNat / 16), hexD (c.toNat % 16)] = 34 :: bodyB (t.take (i + 1)) := by rw [hbt]; simp
       rw [er] at r3
       by_cases c32 : c.toNat < 32
       · have g32 : decide ((c.toNat : Int) < 32) = true := decide_eq_true (by omega)
         simp +decide only [↓uR.o, dG.o, ja1, reduceIte, Bool.not_false, ↓ja0 l3, ↓ja0 l4, ↓ja0 l5, ↓ja0 l6, ↓ja0 l7, ↓ja0 l8, ↓ja0 l12, ↓ja0 l13, ↓ja0 l15, ↓ja0 l18, ↓r_no _ 2 false 24 _ jq1, e0, e3, e8, e9, hlt, hix, jc3, w, z10, z9, g32, g16, bslice2, a1, jn2, wu, ja3 Tryz.func31 rfl rfl a3]
         exact ju7 K B hG0 hsm hN n (i + 1) m (by omega) (by omega) (by simp +decide only [ja1, reduceIte, e0]) (by simp +decide only [ja1, reduceIte, e3]) (by simp +decide only [ja1, reduceIte, e8]) (by simp +decide only [ja1, reduceIte, e9]) ⟨x3, r3⟩ hx
       · have g32 : decide ((c.toNat : Int) < 32) = false := decide_eq_false (by omega)
         have g126 : decide ((c.toNat : Int) > 126) = true := decide_eq_true (by omega)
         simp +decide only [↓uR.o, dG.o, ja1, reduceIte, ↓ja0 l3, ↓ja0 l4, ↓ja0 l5, ↓ja0 l6, ↓ja0 l7, ↓ja0 l8, ↓ja0 l12, ↓ja0 l13, ↓ja0 l15, ↓ja0 l18, ↓jb8 _ 2 false 24 _ jq1, e0, e3, e8, e9, hlt, hix, jc3, w, z10, z9, g32, g126, g16, bslice2, a1, jn2, wu, ja3 Tryz.func31 rfl rfl a3]
         exact ju7 K B hG0 hsm hN n (i + 1) m (by omega) (by omega) (by simp +decide only [ja1, reduceIte, e0]) (by simp +decide only [ja1, reduceIte, e3]) (by simp +decide only [ja1, reduceIte, e8]) (by simp +decide only [ja1, reduceIte, e9]) ⟨x3, r3⟩ hx
   have g32 : decide ((c.toNat : Int) < 32) = false := decide_eq_false (by omega)
   have g126 : decide ((c.toNat : Int) > 126) = false := decide_eq_false (by omega)
   by_cases cq : c = 34 ∨ c = 92
   · have he : escB c = [92, c] := by unfold escB; rw [if_neg c10, if_neg c9, if_neg cc, if_pos cq]
     rw [he] at hbt
     obtain ⟨v1, H1, a1, x1, r1⟩ := app [92] (by decide)
     have a1 : appendA PP #[22, 22] va (.slice (some ⟨H.next, 0, none⟩) 1 1) (H.alloc 1 [.int .u8 92]) = some (v1, H1) := a1
     obtain ⟨v2, H2, a2, x2, r2⟩ := jw9 hG0.fresh x1 r1 [c] (by rw [List.length_append]; simp only [List.length_cons, List.length_nil] at *; omega)
     have a2 : appendA PP #[22, 22] v1 (.slice (some ⟨H1.next, 0, none⟩) 1 1) (H1.alloc 1 [.int .u8 (c.toNat : Int)]) = some (v2, H2) := a2
     have er : 34 :: bodyB (t.take i) ++ [92] ++ [c] = 34 :: bodyB (t.take (i + 1)) := by rw [hbt]; simp
     rw [er] at r2
     by_cases c34 : c = 34
     · have z34 : ((c.toNat : Int) == 34) = true := by rw [c34]; rfl
       simp +decide only [↓uR.o, dG.o, ja1, reduceIte, Bool.not_false, ↓ja0 l3, ↓ja0 l4, ↓ja0 l5, ↓ja0 l6, ↓ja0 l7, ↓ja0 l8, ↓ja0 l9, ↓ja0 l16, ↓ja0 l17, ↓ja0 l18, ↓jb8 _ 2 false 24 _ jq1, ↓r_no _ 2 false 31 _ j3c, e0, e3, e8, e9, hlt, hix, jc3, w, z10, z9, g32, g126, z34, bslice1, a1, a2]
       exact ju7 K B hG0 hsm hN n (i + 1) m (by omega) (by omega) (by simp +decide only [ja1, reduceIte, e0]) (by simp +decide only [ja1, reduceIte, e3]) (by simp +decide only [ja1, reduceIte, e8]) (by simp +decide only [ja1, reduceIte, e9]) ⟨x2, r2⟩ hx
     · have z34 : ((c.toNat : Int) == 34) = false := (ja7 c 34).trans (decide_eq_false c34)
       have z92 : ((c.toNat : Int) == 92) = true := by rcases cq with h | h; exact absurd h c34; rw [h]; rfl
       simp +decide only [↓uR.o, dG.o, ja1, reduceIte, ↓ja0 l3, ↓ja0 l4, ↓ja0 l5, ↓ja0 l6, ↓ja0 l7, ↓ja0 l8, ↓ja0 l9, ↓ja0 l16, ↓ja0 l17, ↓ja0 l18, ↓jb8 _ 2 false 24 _ jq1, ↓jb8 _ 2 false 31 _ j3c, e0, e3, e8, e9, hlt, hix, jc3, w, z10, z9, g32, g126, z34, z92, bslice1, a1, a2]
       exact ju7 K B hG0 hsm hN n (i + 1) m (by omega) (by omega) (by simp +decide only [ja1, reduceIte, e0]) (by simp +decide only [ja1, reduceIte, e3]) (by simp +decide only [ja1, reduceIte, e8]) (by simp +decide only [ja1, reduceIte, e9]) ⟨x2, r2⟩ hx
   · have he : escB c = [c] := by unfold escB; rw [if_neg c10, if_neg c9, if_neg cc, if_neg cq]
     rw [he] at hbt
     have z34 : ((c.toNat : Int) == 34) = false := (ja7 c 34).trans (decide_eq_false fun h => cq (.inl h))
     have z92 : ((c.toNat : Int) == 92) = false := (ja7 c 92).trans (decide_eq_false fun h => cq (.inr h))
     obtain ⟨v1, H1, a1, x1, r1⟩ := app [c] (by simp)
     rw [← hbt] at r1
     have a1 : appendA PP #[22, 22] va (.slice (some ⟨H.next, 0, none⟩) 1 1) (H.alloc 1 [.int .u8 (c.toNat : Int)]) = some (v1, H1) := a1
     simp +decide only [↓uR.o, dG.o, ja1, reduceIte, ↓ja0 l3, ↓ja0 l4, ↓ja0 l5, ↓ja0 l6, ↓ja0 l7, ↓ja0 l8, ↓ja0 l9, ↓ja0 l17, ↓ja0 l18, ↓jb8 _ 2 false 24 _ jq1, ↓jb8 _ 2 false 31 _ j3c, e0, e3, e8, e9, hlt, hix, jc3, w, z10, z9, g32, g126, z34, z92, bslice1, a1]
     exact ju7 K B hG0 hsm hN n (i + 1) m (by omega) (by omega) (by simp +decide only [ja1, reduceIte, e0]) (by simp +decide only [ja1, reduceIte, e3]) (by simp +decide only [ja1, reduceIte, e8]) (by simp +decide only [ja1, reduceIte, e9]) ⟨x1, r1⟩ hx
end
theorem j9h {N : Nat} {hk : Hook} {d : Nat} {t : List UInt8} {H : Heap} (K : HkOk hk) (B : HkN hk) (hG : Ext GE H) (hsm : t.length ≤ 20000000) (hN : t.length + 100 < N) :
   ∃ v H', Ext H H' ∧ BRow H' v (quoteB t) H.next ∧ CG N hk (d + 5) 12 #[.string ⟨⟨t⟩⟩] H = some (.ret v, H') := by
 have main : ∃ R0 : R, CG N hk (d + 5) 12 #[.string ⟨⟨t⟩⟩] H = R0 ∧ ∃ v H', (Ext H H' ∧ BRow H' v (quoteB t) H.next) ∧ R0 = some (.ret v, H') := by
   refine ⟨_, jb6 (K.nil _ _ _ rfl) Tryz.func12 (c := codeOf Tryz.f12) rfl rfl rfl (pr := noPr) rfl, ?_⟩
   rw [code12]
   generalize hF : finE PP Tryz.f12 = F
   have x1 : Ext H (H.alloc 1 [.int .u8 34]) := Ext.alloc hG.fresh 1 _
   have r1 : BRow (H.alloc 1 [.int .u8 34]) (.slice (some ⟨H.next, 0, none⟩) 1 1) (34 :: bodyB (t.take 0)) H.next := .inr ⟨by simp, H.next, rfl, by rw [Heap.get_alloc, if_pos rfl]; rfl, Nat.le_refl _⟩
   have lL := lX4 Tryz.f12 0 1 2 19
   conv at lL in (occs := *) (rq _ _) => all_goals simp only [rX, oA, Tryz.f12, dL.o, reduceIte, Nat.reduceEqDiff]
   obtain ⟨l0, l1, l2, l19⟩ := lL
   simp +decide only [↓uR.o, dG.o, ja1, reduceIte, ↓ja0 l0, ↓ja0 l1, ↓ja0 l2, ↓jb4, bslice1, jb5]
   refine ju7 (G0 := H) (Q := fun r => ∃ v H', (Ext H H' ∧ BRow H' v (quoteB t) H.next) ∧ r = some (.ret v, H')) K B hG hsm (by omega) t.length 0 N (by omega) (by omega) (va := .slice (some ⟨H.next, 0, none⟩) 1 1) ?_ ?_ ?_ ?_ ⟨x1, r1⟩ (fun E' H' va' e3 x2 r2 => ?_)
   · simp +decide only [ja1, reduceIte, jc7]
   · simp +decide only [ja1, reduceIte]
   · simp +decide only [ja1, reduceIte]
   · simp +decide only [ja1, reduceIte]; rfl
   have hl := (jp9 t).2
   obtain ⟨v3, H3, a3, x3, r3⟩ := jw9 hG.fresh x2 r2 [34] (by rw [List.length_cons]; simp only [List.length_cons, List.length_nil]; omega)
   have a3 : appendA PP #[22, 22] va' (.slice (some ⟨H'.next, 0, none⟩) 1 1) (H'.alloc 1 [.int .u8 34]) = some (v3, H3) := a3
   refine ⟨v3, H3, ⟨x3, r3⟩, ?_⟩
   simp +decide only [↓uR.o, dG.o, ja1, reduceIte, ↓ja0 l19, e3, bslice1, jc3, a3]
   rw [← hF, jb0 (l := [v3]) (by simp +decide [Tryz.f12, resE, ja1])]
   rfl
 obtain ⟨R0, m1, v, H', ⟨m2, m3⟩, m4⟩ := main
 exact ⟨v, H', m2, m3, m1.trans m4⟩
noncomputable abbrev cWA1 : Code := .seq (.seq (rF Tryz.f15 4) (.cond (.tmp 11) .skip (.exit 0))) (.seq (.block 1 (.seq (rF Tryz.f15 6) (.block 2 (.seq (rF Tryz.f15 8) (.cond (.tmp 21) (rF Tryz.f15 9) (.seq (rF Tryz.f15 10) (.cond (.tmp 27) (rF Tryz.f15 11) (.seq (rF Tryz.f15 12) (.cond (.tmp 33) (rF Tryz.f15 13) (.seq (rF Tryz.f15 14) (.cond (.tmp 44) (rT Tryz.f15 15) (rF Tryz.f15 7)))))))))))) (rF Tryz.f15 5))
theorem j14 (E : Env) (i j l m : Nat) (x y z u : Operand) : (#[(i, x), (j, y), (l, z), (m, u)] : Array (Nat × Operand)).map (fun (i, x) => (i, evalE E x)) = #[(i, evalE E x), (j, evalE E y), (l, evalE E z), (m, evalE E u)] := by simp
theorem bslice4 (H : Heap) (x y z u : Int) : buildSliceA PP 22 4 #[(0, .int .u8 x), (1, .int .u8 y), (2, .int .u8 z), (3, .int .u8 u)] H = some (.slice (some ⟨H.next, 0, none⟩) 4 4, H.alloc 1 [.int .u8 x, .int .u8 y, .int .u8 z, .int .u8 u]) := by
 have hf : Instr.fill (fun i => some (i * 1, 1)) (zeroRow [.int .u8 0] (4 * 1)).toArray [(0, .int .u8 x), (1, .int .u8 y), (2, .int .u8 z), (3, .int .u8 u)] = some #[.int .u8 x, .int .u8 y, .int .u8 z, .int .u8 u] := by rfl
 simp only [buildSliceA, und34, size5, zeroB, mkRow, hf]
 simp
theorem quo8 {u : Nat} (hu : u < 256) : binA PP .quo 5 (.tmp 53) (.const (.int .u8 16)) (.int .u8 (u : Int)) (.int .u8 16) = some (.int .u8 ((u / 16 : Nat) : Int)) := by
 have hall : (List.range 256).all (fun u => isB (binA PP .quo 5 (.tmp 53) (.const (.int .u8 16)) (.int .u8 (u : Int)) (.int .u8 16)) (u / 16)) = true := by decide +kernel
 exact j7f (List.all_eq_true.mp hall u (List.mem_range.mpr hu))
theorem rem8 {u : Nat} (hu : u < 256) : binA PP .rem 5 (.tmp 57) (.const (.int .u8 16)) (.int .u8 (u : Int)) (.int .u8 16) = some (.int .u8 ((u % 16 : Nat) : Int)) := by
 have hall : (List.range 256).all (fun u => isB (binA PP .rem 5 (.tmp 57) (.const (.int .u8 16)) (.int .u8 (u : Int)) (.int .u8 16)) (u % 16)) = true := by decide +kernel
 exact j7f (List.all_eq_true.mp hall u (List.mem_range.mpr hu))
def hexS : Value := .string ⟨#[48, 49, 50, 51, 52, 53, 54, 55, 56, 57, 97, 98, 99, 100, 101, 102]⟩
theorem dig16 {u : Nat} (hu : u < 16) : indexA PP 9 hexS (.int .u8 (u : Int)) = some (.int .u8 ((hexD u).toNat : Int)) := by
 have hall : (List.range 16).all (fun u => isB (indexA PP 9 hexS (.int .u8 (u : Int))) (hexD u).toNat) = true := by decide +kernel
 exact j7f (List.all_eq_true.mp hall u (List.mem_range.mpr hu))
theorem code15 : codeOf Tryz.f15 = .seq (rF Tryz.f15 0) (.seq (rF Tryz.f15 1) (.seq (rF Tryz.f15 2) (.seq (.seq (rF Tryz.f15 3) (.block 0 (.loop cWA1))) (.seq (rF Tryz.f15 16) .ret)))) := by kernel_rfl
theorem jo9 : ((rgn Tryz.f15 12)[2]?).bind (·.dst) = some 36 := by kernel_rfl
theorem j06 : ((rgn Tryz.f15 14)[2]?).bind (·.dst) = some 47 := by kernel_rfl
section
variable {K : Kf} {N : Nat} {t : List UInt8} {G0 : Heap} {Q : R → Prop} {k : KOE}
set_option maxHeartbeats 4000000 in
theorem jp0 (hG0 : Fresh G0) (hsm : t.length ≤ 20000000) :
   ∀ (n i m : Nat) (_ : i + n = t.length) (_ : n < m) {E : Env} {H : Heap} {va : Value} (_ : E 0 = .string ⟨⟨t⟩⟩) (_ : E 3 = hexS) (_ : E 4 = va) (_ : E 5 = .int .i64 (i : Int)) (_ : Ext G0 H ∧ BRow H va (34 :: bodyB (t.take i)) G0.next)
     (_ : ∀ E' H' va', E' 4 = va' → Ext G0 H' → BRow H' va' (34 :: bodyB t) G0.next → Q (k (.exit 0) E' [] H')), Q (loopE (execG PP XX K N noPr cWA1 none) m E [] H k)
 | 0, i, m + 1, hn, hm, E, H, va, e0, e3, e4, e5, hB, hx => by
   rw [ja5]
   have hi : i = t.length := by omega
   subst hi
   have hlt : decide ((t.length : Int) < (t.length : Int)) = false := decide_eq_false (by omega)
   rw [List.take_length] at hB
   have l4 := tl (rgn Tryz.f15 4)
   conv at l4 => rhs; simp only [rgn, oA, codeOf, Tryz.f15, gS, gN, reduceIte, Nat.reduceEqDiff, tA]
   simp +decide only [↓uR.o, dG.o, ja1, reduceIte, ↓ja0 l4, e0, e5, jb5, hlt]
   exact hx _ _ va (by simp +decide only [ja1, reduceIte, e4]) hB.1 hB.2
 | n + 1, i, m + 1, hn, hm, E, H, va, e0, e3, e4, e5, hB, hx => by
   rw [ja5]
   have hi : i < t.length := by omega
   have hlt : decide ((i : Int) < (t.length : Int)) = true := decide_eq_true (by omega)
   have w : IntKind.i64.wrap ((i : Int) + 1) = ((i + 1 : Nat) : Int) := by rw [ja4 (by omega) (by omega)]; omega
   have hix := jc5 hi
   have hbt := j4u t hi
   have hbl := (jp9 (t.take i)).2
   have htl : (t.take i).length ≤ 20000000 := by rw [List.length_take]; omega
   obtain ⟨hE, hB⟩ := hB
   generalize hc : t[i] = c at hix hbt
   have hel := (yd8 c).2
   obtain ⟨v1, H1, a1, x1, r1⟩ := jw9 hG0 hE hB (escB c) (by rw [List.length_cons]; omega)
   rw [← hbt] at r1
   have lL : _ ∧ _ := ⟨lX8 Tryz.f15 4 5 6 7 8 9 10 11, lX4 Tryz.f15 12 13 14 15⟩
   conv at lL in (occs := *) (rq _ _) => all_goals simp only [rX, oA, Tryz.f15, dL.o, reduceIte, Nat.reduceEqDiff]
   obtain ⟨⟨l4, l5, l6, l7, l8, l9, l10, l11⟩, ⟨l12, l13, l14, l15⟩⟩ := lL
   by_cases c10 : c = 10
   · have z10 : ((c.toNat : Int) == 10) = true := by rw [c10]; rfl
     have he : escB c = [92, 110] := by rw [c10]; rfl
     rw [he] at a1
     have a1 : appendA PP #[22, 22] va (.slice (some ⟨H.next, 0, none⟩) 2 2) (H.alloc 1 [.int .u8 92, .int .u8 110]) = some (v1, H1) := a1
     simp +decide only [↓uR.o, dG.o, ja1, reduceIte, ↓ja0 l4, ↓ja0 l6, ↓ja0 l8, ↓ja0 l9, ↓ja0 l5, e0, e4, e5, jb5, hlt, hix, jc3, w, z10, bslice2, a1]
     exact jp0 hG0 hsm n (i + 1) m (by omega) (by omega) (by simp +decide only [ja1, reduceIte, e0]) (by simp +decide only [ja1, reduceIte, e3]) (by simp +decide only [ja1, reduceIte, e4]) (by simp +decide only [ja1, reduceIte, e5]) ⟨x1, r1⟩ hx
   have z10 : ((c.toNat : Int) == 10) = false := (ja7 c 10).trans (decide_eq_false c10)
   by_cases c9 : c = 9
   · have z9 : ((c.toNat : Int) == 9) = true := by rw [c9]; rfl
     have he : escB c = [92, 116] := by rw [c9]; rfl
     rw [he] at a1
     have a1 : appendA PP #[22, 22] va (.slice (some ⟨H.next, 0, none⟩) 2 2) (H.alloc 1 [.int .u8 92, .int .u8 116]) = some (v1, H1) := a1
     simp +decide only [↓uR.o, dG.o, ja1, reduceIte, ↓ja0 l4, ↓ja0 l6, ↓ja0 l8, ↓ja0 l10, ↓ja0 l11, ↓ja0 l5, e0, e4, e5, jb5, hlt, hix, jc3, w, z10, z9, bslice2, a1]
     exact jp0 hG0 hsm n (i + 1) m (by omega) (by omega) (by simp +decide only [ja1, reduceIte, e0]) (by simp +decide only [ja1, reduceIte, e3]) (by simp +decide only [ja1, reduceIte, e4]) (by simp +decide only [ja1, reduceIte, e5]) ⟨x1, r1⟩ hx
   have z9 : ((c.toNat : Int) == 9) = false := (ja7 c 9).trans (decide_eq_false c9)
   by_cases c34 : c = 34
   · have z34 : ((c.toNat : Int) == 34) = true := by rw [c34]; rfl
     have he : escB c = [92, c] := by rw [c34]; rfl
     rw [he] at a1
     have a1 : appendA PP #[22, 22] va (.slice (some ⟨H.next, 0, none⟩) 2 2) (H.alloc 1 [.int .u8 92, .int .u8 (c.toNat : Int)]) = some (v1, H1) := a1
     simp +decide only [↓uR.o, dG.o, ja1, reduceIte, Bool.not_false, ↓ja0 l4, ↓ja0 l6, ↓ja0 l8, ↓ja0 l10, ↓ja0 l12, ↓ja0 l13, ↓ja0 l5, ↓r_no _ 2 false 36 _ jo9, e0, e4, e5, jb5, hlt, hix, jc3, w, z10, z9, z34, bslice2, a1]
     exact jp0 hG0 hsm n (i + 1) m (by omega) (by omega) (by simp +decide only [ja1, reduceIte, e0]) (by simp +decide only [ja1, reduceIte, e3]) (by simp +decide only [ja1, reduceIte, e4]) (by simp +decide only [ja1, reduceIte, e5]) ⟨x1, r1⟩ hx
   have z34 : ((c.toNat : Int) == 34) = false := (ja7 c 34).trans (decide_eq_false c34)
   by_cases c92 : c = 92
   · have z92 : ((c.toNat : Int) == 92) = true := by rw [c92]; rfl
     have he : escB c = [92, c] := by rw [c92]; rfl
     rw [he] at a1
     have a1 : appendA PP #[22, 22] va (.slice (some ⟨H.next, 0, none⟩) 2 2) (H.alloc 1 [.int .u8 92, .int .u8 (c.toNat : Int)]) = some (v1, H1) := a1
     simp +decide only [↓uR.o, dG.o, ja1, reduceIte, ↓ja0 l4, ↓ja0 l6, ↓ja0 l8, ↓ja0 l10, ↓ja0 l12, ↓ja0 l13, ↓ja0 l5, ↓jb8 _ 2 false 36 _ jo9, e0, e4, e5, jb5, hlt, hix, jc3, w, z10, z9, z34, z92, bslice2, a1]
     exact jp0 hG0 hsm n (i + 1) m (by omega) (by omega) (by simp +decide only [ja1, reduceIte, e0]) (by simp +decide only [ja1, reduceIte, e3]) (by simp +decide only [ja1, reduceIte, e4]) (by simp +decide only [ja1, reduceIte, e5]) ⟨x1, r1⟩ hx
   have z92 : ((c.toNat : Int) == 92) = false := (ja7 c 92).trans (decide_eq_false c92)
   by_cases cc : c.toNat < 32 ∨ 126 < c.toNat
   · have he : escB c = [92, 120, hexD (c.toNat / 16), hexD (c.toNat % 16)] := by unfold escB; rw [if_neg c10, if_neg c9, if_pos cc]
     rw [he] at a1
     have hu := c.toNat_lt
     have a1 : appendA PP #[22, 22] va (.slice (some ⟨H.next, 0, none⟩) 4 4) (H.alloc 1 [.int .u8 92, .int .u8 120, .int .u8 ((hexD (c.toNat / 16)).toNat : Int), .int .u8 ((hexD (c.toNat % 16)).toNat : Int)]) = some (v1, H1) := a1
     have q8 := quo8 (u := c.toNat) hu
     have m8 := rem8 (u := c.toNat) hu
     have d0 := dig16 (u := c.toNat / 16) (by omega)
     have d1 := dig16 (u := c.toNat % 16) (by omega)
     by_cases c32 : c.toNat < 32
     · have g32 : decide ((c.toNat : Int) < 32) = true := decide_eq_true (by omega)
       simp +decide only [↓uR.o, dG.o, ja1, reduceIte, Bool.not_false, ↓ja0 l4, ↓ja0 l6, ↓ja0 l8, ↓ja0 l10, ↓ja0 l12, ↓ja0 l14, ↓ja0 l15, ↓ja0 l5, ↓jb8 _ 2 false 36 _ jo9, ↓r_no _ 2 false 47 _ j06, e0, e3, e4, e5, jb5, hlt, hix, jc3, w, z10, z9, z34, z92, g32, q8, m8, d0, d1, j14, bslice4, a1]
       exact jp0 hG0 hsm n (i + 1) m (by omega) (by omega) (by simp +decide only [ja1, reduceIte, e0]) (by simp +decide only [ja1, reduceIte, e3]) (by simp +decide only [ja1, reduceIte, e4]) (by simp +decide only [ja1, reduceIte, e5]) ⟨x1, r1⟩ hx
     · have g32 : decide ((c.toNat : Int) < 32) = false := decide_eq_false (by omega)
       have g126 : decide ((c.toNat : Int) > 126) = true := decide_eq_true (by omega)
       simp +decide only [↓uR.o, dG.o, ja1, reduceIte, ↓ja0 l4, ↓ja0 l6, ↓ja0 l8, ↓ja0 l10, ↓ja0 l12, ↓ja0 l14, ↓ja0 l15, ↓ja0 l5, ↓jb8 _ 2 false 36 _ jo9, ↓jb8 _ 2 false 47 _ j06, e0, e3, e4, e5, jb5, hlt, hix, jc3, w, z10, z9, z34, z92, g32, g126, q8, m8, d0, d1, j14, bslice4, a1]
       exact jp0 hG0 hsm n (i + 1) m (by omega) (by omega) (by simp +decide only [ja1, reduceIte, e0]) (by simp +decide only [ja1, reduceIte, e3]) (by simp +decide only [ja1, reduceIte, e4]) (by simp +decide only [ja1, reduceIte, e5]) ⟨x1, r1⟩ hx
   · have he : escB c = [c] := by unfold escB; rw [if_neg c10, if_neg c9, if_neg cc, if_neg (fun q => by rcases q with q | q; exact c34 q; exact c92 q)]
     rw [he] at a1
     have a1 : appendA PP #[22, 22] va (.slice (some ⟨H.next, 0, none⟩) 1 1) (H.alloc 1 [.int .u8 (c.toNat : Int)]) = some (v1, H1) := a1
     have g32 : decide ((c.toNat : Int) < 32) = false := decide_eq_false (by omega)
     have g126 : decide ((c.toNat : Int) > 126) = false := decide_eq_false (by omega)
     simp +decide only [↓uR.o, dG.o, ja1, reduceIte, ↓ja0 l4, ↓ja0 l6, ↓ja0 l8, ↓ja0 l10, ↓ja0 l12, ↓ja0 l14, ↓ja0 l7, ↓ja0 l5, ↓jb8 _ 2 false 36 _ jo9, ↓jb8 _ 2 false 47 _ j06, e0, e4, e5, jb5, hlt, hix, jc3, w, z10, z9, z34, z92, g32, g126, bslice1, a1]
     exact jp0 hG0 hsm n (i + 1) m (by omega) (by omega) (by simp +decide only [ja1, reduceIte, e0]) (by simp +decide only [ja1, reduceIte, e3]) (by simp +decide only [ja1, reduceIte, e4]) (by simp +decide only [ja1, reduceIte, e5]) ⟨x1, r1⟩ hx
end
theorem j6f {N : Nat} {hk : Hook} {d : Nat} {t : List UInt8} {H : Heap} (hh : NH hk) (hG : Ext GE H) (hsm : t.length ≤ 20000000) (hN : t.length + 100 < N) :
   ∃ v H', Ext H H' ∧ BRow H' v (quoteB t) H.next ∧ CG N hk (d + 1) 15 #[.string ⟨⟨t⟩⟩] H = some (.ret v, H') := by
 have main : ∃ R0 : R, CG N hk (d + 1) 15 #[.string ⟨⟨t⟩⟩] H = R0 ∧ ∃ v H', (Ext H H' ∧ BRow H' v (quoteB t) H.next) ∧ R0 = some (.ret v, H') := by
   refine ⟨_, jb6 (hh _ _ _ rfl) Tryz.func15 (c := codeOf Tryz.f15) rfl rfl rfl (pr := noPr) rfl, ?_⟩
   rw [code15]
   generalize hF : finE PP Tryz.f15 = F
   have x1 : Ext H (H.alloc 1 [.int .u8 34]) := Ext.alloc hG.fresh 1 _
   have r1 : BRow (H.alloc 1 [.int .u8 34]) (.slice (some ⟨H.next, 0, none⟩) 1 1) (34 :: bodyB (t.take 0)) H.next := .inr ⟨by simp, H.next, rfl, by rw [Heap.get_alloc, if_pos rfl]; rfl, Nat.le_refl _⟩
   have lL := lX5 Tryz.f15 0 1 2 3 16
   conv at lL in (occs := *) (rq _ _) => all_goals simp only [rX, oA, Tryz.f15, dL.o, reduceIte, Nat.reduceEqDiff]
   obtain ⟨l0, l1, l2, l3, l16⟩ := lL
   simp +decide only [↓uR.o, dG.o, ja1, reduceIte, ↓ja0 l0, ↓ja0 l1, ↓ja0 l2, ↓ja0 l3, ↓jb4, bslice1]
   refine jp0 (G0 := H) (Q := fun r => ∃ v H', (Ext H H' ∧ BRow H' v (quoteB t) H.next) ∧ r = some (.ret v, H')) hG.fresh hsm t.length 0 N (by omega) (by omega) (va := .slice (some ⟨H.next, 0, none⟩) 1 1) ?_ ?_ ?_ ?_ ⟨x1, r1⟩ (fun E' H' va' e4 x2 r2 => ?_)
   · simp +decide only [ja1, reduceIte, jc7]
   · simp +decide only [ja1, reduceIte]
     rfl
   · simp +decide only [ja1, reduceIte]
   · simp +decide only [ja1, reduceIte]; rfl
   have hl := (jp9 t).2
   obtain ⟨v3, H3, a3, x3, r3⟩ := jw9 hG.fresh x2 r2 [34] (by rw [List.length_cons]; simp only [List.length_cons, List.length_nil]; omega)
   have a3 : appendA PP #[22, 22] va' (.slice (some ⟨H'.next, 0, none⟩) 1 1) (H'.alloc 1 [.int .u8 34]) = some (v3, H3) := a3
   refine ⟨v3, H3, ⟨x3, r3⟩, ?_⟩
   simp +decide only [↓uR.o, dG.o, ja1, reduceIte, ↓ja0 l16, e4, bslice1, jc3, a3]
   rw [← hF, jb0 (l := [v3]) (by simp +decide [Tryz.f15, resE, ja1])]
   rfl
 obtain ⟨R0, m1, v, H', ⟨m2, m3⟩, m4⟩ := main
 exact ⟨v, H', m2, m3, m1.trans m4⟩
noncomputable abbrev cRB1 : Code := .seq (.seq (rF Tryz.f54 4) (.cond (.tmp 12) .skip (.exit 0))) (.seq (.block 1 (.seq (rF Tryz.f54 6) (.seq (.seq (rF Tryz.f54 7) (.cond (.tmp 48) (rF Tryz.f54 8) .skip)) (rT Tryz.f54 9)))) (rF Tryz.f54 5))
theorem j15 : signsL.length = 26 := rfl
theorem je9 {i : Nat} (h : i < 26) : indexAddrA PP 100 (.pointer (some ⟨3, 0, none⟩)) (.int .i64 (i : Int)) = some (.pointer (some ⟨3, i, none⟩)) := by
 have e : (⟨3, 0, none⟩ : Addr).add i = ⟨3, i, none⟩ := by rw [Addr.add_lit, Nat.zero_add]
 simp [indexAddrA, sizeS, at_, e]
 omega
theorem jf3 {H : Heap} {i : Nat} (hG : Ext GE H) (hi : i < 26) : loadA PP 9 (.pointer (some ⟨3, i, none⟩)) H = some (.string ⟨⟨signsL.getD i []⟩⟩, H) := by
 have h : H.get 3 = some (ro signsV) := hG.keep 3 _ rfl
 have hl : i < signsL.length := by rw [j15]; exact hi
 simp only [loadA, aggS]
 simp only [ld1, look, h]
 simp [ro, signsV, strV, List.getD, hl]
theorem jk2 {i : Nat} (hi : i < 26) : 0 < (signsL.getD i []).length ∧ (signsL.getD i []).length ≤ 2 := by
 have hall : (List.range 26).all (fun i => decide (0 < (signsL.getD i []).length) && decide ((signsL.getD i []).length ≤ 2)) = true := by decide +kernel
 have := List.all_eq_true.mp hall i (List.mem_range.mpr hi)
 simpa using this
theorem jh4 {s : List UInt8} (h : 0 < s.length) : indexA PP 9 (.string ⟨⟨s⟩⟩) (.int .i64 0) = some (.int .u8 ((s.getD 0 0).toNat : Int)) := by
 have := jc5 (s := s) (i := 0) h
 rw [show s.getD 0 0 = s[0] by simp [List.getD, h]]
 exact this
theorem code54 : codeOf Tryz.f54 = .seq (rF Tryz.f54 0) (.seq (rF Tryz.f54 1) (.seq (rF Tryz.f54 2) (.seq (.seq (rF Tryz.f54 3) (.block 0 (.loop cRB1))) (.seq (.seq (rF Tryz.f54 10) (.cond (.tmp 60) (.seq (rT Tryz.f54 11) .ret) .skip)) (.seq (.seq (rF Tryz.f54 12) (.cond (.tmp 69) (.seq (rF Tryz.f54 13) .ret) .skip)) (.seq (rF Tryz.f54 14) .ret)))))) := by kernel_rfl
theorem ji1 : ((rgn Tryz.f54 7)[7]?).bind (·.dst) = some 25 := by kernel_rfl
theorem jg2 : ((rgn Tryz.f54 7)[18]?).bind (·.dst) = some 36 := by kernel_rfl
theorem jg3 : ((rgn Tryz.f54 7)[21]?).bind (·.dst) = some 39 := by kernel_rfl
theorem ji2 : ((rgn Tryz.f54 9)[1]?).bind (·.dst) = some 51 := by kernel_rfl
section
theorem j3d {K : Kf} {N : Nat} {H : Heap} {s : List UInt8} {i p : Nat} {b : Int} {E : Env} {Q : R → Prop} {k : KOE} (hG : Ext GE H) (hi : i < 26) (hp : p < s.length) (hsm : s.length < 9223372036854775000) (e0 : E 0 = .string ⟨⟨s⟩⟩) (e1 : E 1 = .int .i64 (p : Int)) (e7 : E 7 = .int .i64 b) (e8 : E 8 = .bool true) (e9 : E 9 = .int .i64 (i : Int)) (h1 : ¬ p + (signsL.getD i []).length ≤ s.length)
   (hx : ∀ E', E' 0 = .string ⟨⟨s⟩⟩ → E' 1 = .int .i64 (p : Int) → E' 7 = .int .i64 b → E' 8 = .bool true → E' 9 = .int .i64 ((i + 1 : Nat) : Int) → Q (k .norm E' [] H)) :
   Q (execG PP XX K N noPr cRB1 none E [] H k) := by
 have hlt : decide ((i : Int) < 26) = true := decide_eq_true (by omega)
 have hix := je9 hi
 have hld := jf3 hG hi
 obtain ⟨l1, l2⟩ := jk2 hi
 generalize hz : signsL.getD i [] = z at *
 have wr : IntKind.i64.wrap ((i : Int) + 1) = ((i + 1 : Nat) : Int) := by rw [ja4 (by omega) (by omega)]; omega
 have wp : IntKind.i64.wrap ((p : Int) + (z.length : Int)) = ((p + z.length : Nat) : Int) := by rw [ja4 (by omega) (by omega)]; omega
 have hz0 := jh4 l1
 have hixp := jc5 (s := s) hp
 have hze : (((z.getD 0 0).toNat : Int) == (s[p].toNat : Int)) = decide (z.getD 0 0 = s[p]) := ja7 _ _
 have hle : decide (((p + z.length : Nat) : Int) ≤ (s.length : Int)) = false := decide_eq_false (by omega)
 have lL := lX6 Tryz.f54 4 5 6 7 8 9
 conv at lL in (occs := *) (rq _ _) => all_goals simp only [rX, oA, Tryz.f54, dL.o, reduceIte, Nat.reduceEqDiff]
 obtain ⟨l4, l5, l6, l7, l8, l9⟩ := lL
 simp +decide only [↓uR.o, dG.o, ja1, reduceIte, Bool.not_true, Bool.not_false, ↓ja0 l4, ↓ja0 l5, ↓ja0 l6, ↓ja0 l7, ↓ja0 l9, ↓r_no _ 7 true 25 _ ji1, ↓r_no _ 18 true 36 _ jg2, ↓r_un _ 21 false 39 _ jg3, ↓r_no _ 1 false 51 _ ji2, e0, e1, e8, e9, hlt, hix, hld, jb5, wp, wr, hle]
 exact hx _ (by simp +decide only [ja1, reduceIte, e0]) (by simp +decide only [ja1, reduceIte, e1]) (by simp +decide only [ja1, reduceIte, e7]) (by simp +decide only [ja1, reduceIte, e8]) (by simp +decide only [ja1, reduceIte, e9])
theorem j3e {K : Kf} {N : Nat} {H : Heap} {s : List UInt8} {i p : Nat} {b : Int} {E : Env} {Q : R → Prop} {k : KOE} (hG : Ext GE H) (hi : i < 26) (hp : p < s.length) (hsm : s.length < 9223372036854775000) (e0 : E 0 = .string ⟨⟨s⟩⟩) (e1 : E 1 = .int .i64 (p : Int)) (e7 : E 7 = .int .i64 b) (e8 : E 8 = .bool true) (e9 : E 9 = .int .i64 (i : Int)) (h1 : p + (signsL.getD i []).length ≤ s.length) (h2 : ¬ (s.take (p + (signsL.getD i []).length)).drop p = signsL.getD i [])
   (hx : ∀ E', E' 0 = .string ⟨⟨s⟩⟩ → E' 1 = .int .i64 (p : Int) → E' 7 = .int .i64 b → E' 8 = .bool true → E' 9 = .int .i64 ((i + 1 : Nat) : Int) → Q (k .norm E' [] H)) :
   Q (execG PP XX K N noPr cRB1 none E [] H k) := by
 have hlt : decide ((i : Int) < 26) = true := decide_eq_true (by omega)
 have hix := je9 hi
 have hld := jf3 hG hi
 obtain ⟨l1, l2⟩ := jk2 hi
 generalize hz : signsL.getD i [] = z at *
 have wr : IntKind.i64.wrap ((i : Int) + 1) = ((i + 1 : Nat) : Int) := by rw [ja4 (by omega) (by omega)]; omega
 have wp : IntKind.i64.wrap ((p : Int) + (z.length : Int)) = ((p + z.length : Nat) : Int) := by rw [ja4 (by omega) (by omega)]; omega
 have hz0 := jh4 l1
 have hixp := jc5 (s := s) hp
 have hze : (((z.getD 0 0).toNat : Int) == (s[p].toNat : Int)) = decide (z.getD 0 0 = s[p]) := ja7 _ _
 have hle : decide (((p + z.length : Nat) : Int) ≤ (s.length : Int)) = true := decide_eq_true (by omega)
 have hsl := jr3 (s := s) (i := p) (j := p + z.length) (by omega) (by omega) H
 have hq : decide ((s.take (p + z.length)).drop p = z) = false := decide_eq_false h2
 have lL := lX6 Tryz.f54 4 5 6 7 8 9
 conv at lL in (occs := *) (rq _ _) => all_goals simp only [rX, oA, Tryz.f54, dL.o, reduceIte, Nat.reduceEqDiff]
 obtain ⟨l4, l5, l6, l7, l8, l9⟩ := lL
 simp +decide only [↓uR.o, dG.o, ja1, reduceIte, Bool.not_true, Bool.not_false, ↓ja0 l4, ↓ja0 l5, ↓ja0 l6, ↓ja0 l7, ↓ja0 l9, ↓jb8 _ 7 true 25 _ ji1, ↓r_no _ 18 true 36 _ jg2, ↓r_un _ 21 false 39 _ jg3, ↓r_no _ 1 false 51 _ ji2, e0, e1, e8, e9, hlt, hix, hld, jb5, wp, wr, hle, ↓Option.map_some, ↓Option.map_none, hsl, jg7, hq]
 exact hx _ (by simp +decide only [ja1, reduceIte, e0]) (by simp +decide only [ja1, reduceIte, e1]) (by simp +decide only [ja1, reduceIte, e7]) (by simp +decide only [ja1, reduceIte, e8]) (by simp +decide only [ja1, reduceIte, e9])
theorem j3f {K : Kf} {N : Nat} {H : Heap} {s : List UInt8} {i p : Nat} {b : Int} {E : Env} {Q : R → Prop} {k : KOE} (hG : Ext GE H) (hi : i < 26) (hp : p < s.length) (hsm : s.length < 9223372036854775000) (e0 : E 0 = .string ⟨⟨s⟩⟩) (e1 : E 1 = .int .i64 (p : Int)) (e7 : E 7 = .int .i64 b) (e8 : E 8 = .bool true) (e9 : E 9 = .int .i64 (i : Int)) (h1 : p + (signsL.getD i []).length ≤ s.length) (h2 : (s.take (p + (signsL.getD i []).length)).drop p = signsL.getD i []) (h3 : b < 0)
   (hx : ∀ E', E' 0 = .string ⟨⟨s⟩⟩ → E' 1 = .int .i64 (p : Int) → E' 7 = .int .i64 (i : Int) → E' 8 = .bool true → E' 9 = .int .i64 ((i + 1 : Nat) : Int) → Q (k .norm E' [] H)) :
   Q (execG PP XX K N noPr cRB1 none E [] H k) := by
 have hlt : decide ((i : Int) < 26) = true := decide_eq_true (by omega)
 have hix := je9 hi
 have hld := jf3 hG hi
 obtain ⟨l1, l2⟩ := jk2 hi
 generalize hz : signsL.getD i [] = z at *
 have wr : IntKind.i64.wrap ((i : Int) + 1) = ((i + 1 : Nat) : Int) := by rw [ja4 (by omega) (by omega)]; omega
 have wp : IntKind.i64.wrap ((p : Int) + (z.length : Int)) = ((p + z.length : Nat) : Int) := by rw [ja4 (by omega) (by omega)]; omega
 have hz0 := jh4 l1
 have hixp := jc5 (s := s) hp
 have hze : (((z.getD 0 0).toNat : Int) == (s[p].toNat : Int)) = decide (z.getD 0 0 = s[p]) := ja7 _ _
 have hle : decide (((p + z.length : Nat) : Int) ≤ (s.length : Int)) = true := decide_eq_true (by omega)
 have hsl := jr3 (s := s) (i := p) (j := p + z.length) (by omega) (by omega) H
 have hq : decide ((s.take (p + z.length)).drop p = z) = true := decide_eq_true h2
 have hb : decide (b < 0) = true := decide_eq_true h3
 have lL := lX6 Tryz.f54 4 5 6 7 8 9
 conv at lL in (occs := *) (rq _ _) => all_goals simp only [rX, oA, Tryz.f54, dL.o, reduceIte, Nat.reduceEqDiff]
 obtain ⟨l4, l5, l6, l7, l8, l9⟩ := lL
 simp +decide only [↓uR.o, dG.o, ja1, reduceIte, Bool.not_false, ↓ja0 l4, ↓ja0 l5, ↓ja0 l6, ↓ja0 l7, ↓ja0 l8, ↓ja0 l9, ↓jb8 _ 7 true 25 _ ji1, ↓jb8 _ 18 true 36 _ jg2, ↓r_no _ 21 false 39 _ jg3, ↓r_no _ 1 false 51 _ ji2, e0, e1, e7, e8, e9, hlt, hix, hld, jb5, wp, wr, hle, ↓Option.map_some, ↓Option.map_none, hsl, jg7, hq, hb]
 exact hx _ (by simp +decide only [ja1, reduceIte, e0]) (by simp +decide only [ja1, reduceIte, e1]) (by simp +decide only [ja1, reduceIte, e7]) (by simp +decide only [ja1, reduceIte, e8]) (by simp +decide only [ja1, reduceIte, e9])
theorem j1h {K : Kf} {N : Nat} {H : Heap} {s : List UInt8} {i p : Nat} {b : Int} {E : Env} {Q : R → Prop} {k : KOE} (hG : Ext GE H) (hi : i < 26) (hp : p < s.length) (hsm : s.length < 9223372036854775000) (e0 : E 0 = .string ⟨⟨s⟩⟩) (e1 : E 1 = .int .i64 (p : Int)) (e7 : E 7 = .int .i64 b) (e8 : E 8 = .bool true) (e9 : E 9 = .int .i64 (i : Int)) {q : Nat} (hb : b = (q : Int)) (hq26 : q < 26) (h1 : p + (signsL.getD i []).length ≤ s.length) (h2 : (s.take (p + (signsL.getD i []).length)).drop p = signsL.getD i []) (h3 :  (signsL.getD i []).length > (signsL.getD q []).length)
   (hx : ∀ E', E' 0 = .string ⟨⟨s⟩⟩ → E' 1 = .int .i64 (p : Int) → E' 7 = .int .i64 (i : Int) → E' 8 = .bool true → E' 9 = .int .i64 ((i + 1 : Nat) : Int) → Q (k .norm E' [] H)) :
   Q (execG PP XX K N noPr cRB1 none E [] H k) := by
 have hlt : decide ((i : Int) < 26) = true := decide_eq_true (by omega)
 have hix := je9 hi
 have hld := jf3 hG hi
 obtain ⟨l1, l2⟩ := jk2 hi
 generalize hz : signsL.getD i [] = z at *
 have wr : IntKind.i64.wrap ((i : Int) + 1) = ((i + 1 : Nat) : Int) := by rw [ja4 (by omega) (by omega)]; omega
 have wp : IntKind.i64.wrap ((p : Int) + (z.length : Int)) = ((p + z.length : Nat) : Int) := by rw [ja4 (by omega) (by omega)]; omega
 have hz0 := jh4 l1
 have hixp := jc5 (s := s) hp
 have hze : (((z.getD 0 0).toNat : Int) == (s[p].toNat : Int)) = decide (z.getD 0 0 = s[p]) := ja7 _ _
 have hle : decide (((p + z.length : Nat) : Int) ≤ (s.length : Int)) = true := decide_eq_true (by omega)
 have hsl := jr3 (s := s) (i := p) (j := p + z.length) (by omega) (by omega) H
 subst hb
 have hq : decide ((s.take (p + z.length)).drop p = z) = true := decide_eq_true h2
 have hb : decide ((q : Int) < 0) = false := decide_eq_false (by omega)
 have hixq := je9 hq26
 have hldq := jf3 hG hq26
 have hgt : decide ((z.length : Int) > ((signsL.getD q []).length : Int)) = true := decide_eq_true (by omega)
 have lL := lX6 Tryz.f54 4 5 6 7 8 9
 conv at lL in (occs := *) (rq _ _) => all_goals simp only [rX, oA, Tryz.f54, dL.o, reduceIte, Nat.reduceEqDiff]
 obtain ⟨l4, l5, l6, l7, l8, l9⟩ := lL
 simp +decide only [↓uR.o, dG.o, ja1, reduceIte, Bool.not_false, ↓ja0 l4, ↓ja0 l5, ↓ja0 l6, ↓ja0 l7, ↓ja0 l8, ↓ja0 l9, ↓jb8 _ 7 true 25 _ ji1, ↓jb8 _ 18 true 36 _ jg2, ↓jb8 _ 21 false 39 _ jg3, ↓r_no _ 1 false 51 _ ji2, e0, e1, e7, e8, e9, hlt, hix, hld, jb5, wp, wr, hle, ↓Option.map_some, ↓Option.map_none, hsl, jg7, hq, hb, hixq, hldq, hgt]
 exact hx _ (by simp +decide only [ja1, reduceIte, e0]) (by simp +decide only [ja1, reduceIte, e1]) (by simp +decide only [ja1, reduceIte, e7]) (by simp +decide only [ja1, reduceIte, e8]) (by simp +decide only [ja1, reduceIte, e9])
theorem j6g {K : Kf} {N : Nat} {H : Heap} {s : List UInt8} {i p : Nat} {b : Int} {E : Env} {Q : R → Prop} {k : KOE} (hG : Ext GE H) (hi : i < 26) (hp : p < s.length) (hsm : s.length < 9223372036854775000) (e0 : E 0 = .string ⟨⟨s⟩⟩) (e1 : E 1 = .int .i64 (p : Int)) (e7 : E 7 = .int .i64 b) (e8 : E 8 = .bool true) (e9 : E 9 = .int .i64 (i : Int)) {q : Nat} (hb : b = (q : Int)) (hq26 : q < 26) (h1 : p + (signsL.getD i []).length ≤ s.length) (h2 : (s.take (p + (signsL.getD i []).length)).drop p = signsL.getD i []) (h3 : ¬ (signsL.getD i []).length > (signsL.getD q []).length)
   (hx : ∀ E', E' 0 = .string ⟨⟨s⟩⟩ → E' 1 = .int .i64 (p : Int) → E' 7 = .int .i64 (q : Int) → E' 8 = .bool true → E' 9 = .int .i64 ((i + 1 : Nat) : Int) → Q (k .norm E' [] H)) :
   Q (execG PP XX K N noPr cRB1 none E [] H k) := by
 have hlt : decide ((i : Int) < 26) = true := decide_eq_true (by omega)
 have hix := je9 hi
 have hld := jf3 hG hi
 obtain ⟨l1, l2⟩ := jk2 hi
 generalize hz : signsL.getD i [] = z at *
 have wr : IntKind.i64.wrap ((i : Int) + 1) = ((i + 1 : Nat) : Int) := by rw [ja4 (by omega) (by omega)]; omega
 have wp : IntKind.i64.wrap ((p : Int) + (z.length : Int)) = ((p + z.length : Nat) : Int) := by rw [ja4 (by omega) (by omega)]; omega
 have hz0 := jh4 l1
 have hixp := jc5 (s := s) hp
 have hze : (((z.getD 0 0).toNat : Int) == (s[p].toNat : Int)) = decide (z.getD 0 0 = s[p]) := ja7 _ _
 have hle : decide (((p + z.length : Nat) : Int) ≤ (s.length : Int)) = true := decide_eq_true (by omega)
 have hsl := jr3 (s := s) (i := p) (j := p + z.length) (by omega) (by omega) H
 subst hb
 have hq : decide ((s.take (p + z.length)).drop p = z) = true := decide_eq_true h2
 have hb : decide ((q : Int) < 0) = false := decide_eq_false (by omega)
 have hixq := je9 hq26
 have hldq := jf3 hG hq26
 have hgt : decide ((z.length : Int) > ((signsL.getD q []).length : Int)) = false := decide_eq_false (by omega)
 have lL := lX6 Tryz.f54 4 5 6 7 8 9
 conv at lL in (occs := *) (rq _ _) => all_goals simp only [rX, oA, Tryz.f54, dL.o, reduceIte, Nat.reduceEqDiff]
 obtain ⟨l4, l5, l6, l7, l8, l9⟩ := lL
 simp +decide only [↓uR.o, dG.o, ja1, reduceIte, Bool.not_false, ↓ja0 l4, ↓ja0 l5, ↓ja0 l6, ↓ja0 l7, ↓ja0 l9, ↓jb8 _ 7 true 25 _ ji1, ↓jb8 _ 18 true 36 _ jg2, ↓jb8 _ 21 false 39 _ jg3, ↓r_no _ 1 false 51 _ ji2, e0, e1, e7, e8, e9, hlt, hix, hld, jb5, wp, wr, hle, ↓Option.map_some, ↓Option.map_none, hsl, jg7, hq, hb, hixq, hldq, hgt]
 exact hx _ (by simp +decide only [ja1, reduceIte, e0]) (by simp +decide only [ja1, reduceIte, e1]) (by simp +decide only [ja1, reduceIte, e7]) (by simp +decide only [ja1, reduceIte, e8]) (by simp +decide only [ja1, reduceIte, e9])
theorem j1i {K : Kf} {N : Nat} {H : Heap} {s : List UInt8} {i p : Nat} {b : Int} {E : Env} {Q : R → Prop} {k : KOE} (hG : Ext GE H) (hi : i < 26) (hp : p < s.length) (hsm : s.length < 9223372036854775000) (e0 : E 0 = .string ⟨⟨s⟩⟩) (e1 : E 1 = .int .i64 (p : Int)) (e7 : E 7 = .int .i64 b) (e8 : E 8 = .bool false) (e9 : E 9 = .int .i64 (i : Int)) (h1 : ¬ p + (signsL.getD i []).length ≤ s.length)
   (hx : ∀ E', E' 0 = .string ⟨⟨s⟩⟩ → E' 1 = .int .i64 (p : Int) → E' 7 = .int .i64 b → E' 8 = .bool (decide ((signsL.getD i []).getD 0 0 = s[p])) → E' 9 = .int .i64 ((i + 1 : Nat) : Int) → Q (k .norm E' [] H)) :
   Q (execG PP XX K N noPr cRB1 none E [] H k) := by
 have hlt : decide ((i : Int) < 26) = true := decide_eq_true (by omega)
 have hix := je9 hi
 have hld := jf3 hG hi
 obtain ⟨l1, l2⟩ := jk2 hi
 generalize hz : signsL.getD i [] = z at *
 have wr : IntKind.i64.wrap ((i : Int) + 1) = ((i + 1 : Nat) : Int) := by rw [ja4 (by omega) (by omega)]; omega
 have wp : IntKind.i64.wrap ((p : Int) + (z.length : Int)) = ((p + z.length : Nat) : Int) := by rw [ja4 (by omega) (by omega)]; omega
 have hz0 := jh4 l1
 have hixp := jc5 (s := s) hp
 have hze : (((z.getD 0 0).toNat : Int) == (s[p].toNat : Int)) = decide (z.getD 0 0 = s[p]) := ja7 _ _
 have hle : decide (((p + z.length : Nat) : Int) ≤ (s.length : Int)) = false := decide_eq_false (by omega)
 have lL := lX6 Tryz.f54 4 5 6 7 8 9
 conv at lL in (occs := *) (rq _ _) => all_goals simp only [rX, oA, Tryz.f54, dL.o, reduceIte, Nat.reduceEqDiff]
 obtain ⟨l4, l5, l6, l7, l8, l9⟩ := lL
 simp +decide only [↓uR.o, dG.o, ja1, reduceIte, Bool.not_true, ↓ja0 l4, ↓ja0 l5, ↓ja0 l6, ↓ja0 l7, ↓ja0 l9, ↓r_no _ 7 true 25 _ ji1, ↓r_no _ 18 true 36 _ jg2, ↓r_un _ 21 false 39 _ jg3, ↓jb8 _ 1 false 51 _ ji2, e0, e1, e8, e9, hlt, hix, hld, jb5, wp, wr, hle, hz0, hixp, hze]
 exact hx _ (by simp +decide only [ja1, reduceIte, e0]) (by simp +decide only [ja1, reduceIte, e1]) (by simp +decide only [ja1, reduceIte, e7]) (by simp +decide only [ja1, reduceIte, e8]) (by simp +decide only [ja1, reduceIte, e9])
theorem j1j {K : Kf} {N : Nat} {H : Heap} {s : List UInt8} {i p : Nat} {b : Int} {E : Env} {Q : R → Prop} {k : KOE} (hG : Ext GE H) (hi : i < 26) (hp : p < s.length) (hsm : s.length < 9223372036854775000) (e0 : E 0 = .string ⟨⟨s⟩⟩) (e1 : E 1 = .int .i64 (p : Int)) (e7 : E 7 = .int .i64 b) (e8 : E 8 = .bool false) (e9 : E 9 = .int .i64 (i : Int)) (h1 : p + (signsL.getD i []).length ≤ s.length) (h2 : ¬ (s.take (p + (signsL.getD i []).length)).drop p = signsL.getD i [])
   (hx : ∀ E', E' 0 = .string ⟨⟨s⟩⟩ → E' 1 = .int .i64 (p : Int) → E' 7 = .int .i64 b → E' 8 = .bool (decide ((signsL.getD i []).getD 0 0 = s[p])) → E' 9 = .int .i64 ((i + 1 : Nat) : Int) → Q (k .norm E' [] H)) :
   Q (execG PP XX K N noPr cRB1 none E [] H k) := by
 have hlt : decide ((i : Int) < 26) = true := decide_eq_true (by omega)
 have hix := je9 hi
 have hld := jf3 hG hi
 obtain ⟨l1, l2⟩ := jk2 hi
 generalize hz : signsL.getD i [] = z at *
 have wr : IntKind.i64.wrap ((i : Int) + 1) = ((i + 1 : Nat) : Int) := by rw [ja4 (by omega) (by omega)]; omega
 have wp : IntKind.i64.wrap ((p : Int) + (z.length : Int)) = ((p + z.length : Nat) : Int) := by rw [ja4 (by omega) (by omega)]; omega
 have hz0 := jh4 l1
 have hixp := jc5 (s := s) hp
 have hze : (((z.getD 0 0).toNat : Int) == (s[p].toNat : Int)) = decide (z.getD 0 0 = s[p]) := ja7 _ _
 have hle : decide (((p + z.length : Nat) : Int) ≤ (s.length : Int)) = true := decide_eq_true (by omega)
 have hsl := jr3 (s := s) (i := p) (j := p + z.length) (by omega) (by omega) H
 have hq : decide ((s.take (p + z.length)).drop p = z) = false := decide_eq_false h2
 have lL := lX6 Tryz.f54 4 5 6 7 8 9
 conv at lL in (occs := *) (rq _ _) => all_goals simp only [rX, oA, Tryz.f54, dL.o, reduceIte, Nat.reduceEqDiff]
 obtain ⟨l4, l5, l6, l7, l8, l9⟩ := lL
 simp +decide only [↓uR.o, dG.o, ja1, reduceIte, Bool.not_true, ↓ja0 l4, ↓ja0 l5, ↓ja0 l6, ↓ja0 l7, ↓ja0 l9, ↓jb8 _ 7 true 25 _ ji1, ↓r_no _ 18 true 36 _ jg2, ↓r_un _ 21 false 39 _ jg3, ↓jb8 _ 1 false 51 _ ji2, e0, e1, e8, e9, hlt, hix, hld, jb5, wp, wr, hle, ↓Option.map_some, ↓Option.map_none, hsl, jg7, hq, hz0, hixp, hze]
 exact hx _ (by simp +decide only [ja1, reduceIte, e0]) (by simp +decide only [ja1, reduceIte, e1]) (by simp +decide only [ja1, reduceIte, e7]) (by simp +decide only [ja1, reduceIte, e8]) (by simp +decide only [ja1, reduceIte, e9])
theorem j1k {K : Kf} {N : Nat} {H : Heap} {s : List UInt8} {i p : Nat} {b : Int} {E : Env} {Q : R → Prop} {k : KOE} (hG : Ext GE H) (hi : i < 26) (hp : p < s.length) (hsm : s.length < 9223372036854775000) (e0 : E 0 = .string ⟨⟨s⟩⟩) (e1 : E 1 = .int .i64 (p : Int)) (e7 : E 7 = .int .i64 b) (e8 : E 8 = .bool false) (e9 : E 9 = .int .i64 (i : Int)) (h1 : p + (signsL.getD i []).length ≤ s.length) (h2 : (s.take (p + (signsL.getD i []).length)).drop p = signsL.getD i []) (h3 : b < 0)
   (hx : ∀ E', E' 0 = .string ⟨⟨s⟩⟩ → E' 1 = .int .i64 (p : Int) → E' 7 = .int .i64 (i : Int) → E' 8 = .bool (decide ((signsL.getD i []).getD 0 0 = s[p])) → E' 9 = .int .i64 ((i + 1 : Nat) : Int) → Q (k .norm E' [] H)) :
   Q (execG PP XX K N noPr cRB1 none E [] H k) := by
 have hlt : decide ((i : Int) < 26) = true := decide_eq_true (by omega)
 have hix := je9 hi
 have hld := jf3 hG hi
 obtain ⟨l1, l2⟩ := jk2 hi
 generalize hz : signsL.getD i [] = z at *
 have wr : IntKind.i64.wrap ((i : Int) + 1) = ((i + 1 : Nat) : Int) := by rw [ja4 (by omega) (by omega)]; omega
 have wp : IntKind.i64.wrap ((p : Int) + (z.length : Int)) = ((p + z.length : Nat) : Int) := by rw [ja4 (by omega) (by omega)]; omega
 have hz0 := jh4 l1
 have hixp := jc5 (s := s) hp
 have hze : (((z.getD 0 0).toNat : Int) == (s[p].toNat : Int)) = decide (z.getD 0 0 = s[p]) := ja7 _ _
 have hle : decide (((p + z.length : Nat) : Int) ≤ (s.length : Int)) = true := decide_eq_true (by omega)
 have hsl := jr3 (s := s) (i := p) (j := p + z.length) (by omega) (by omega) H
 have hq : decide ((s.take (p + z.length)).drop p = z) = true := decide_eq_true h2
 have hb : decide (b < 0) = true := decide_eq_true h3
 have lL := lX6 Tryz.f54 4 5 6 7 8 9
 conv at lL in (occs := *) (rq _ _) => all_goals simp only [rX, oA, Tryz.f54, dL.o, reduceIte, Nat.reduceEqDiff]
 obtain ⟨l4, l5, l6, l7, l8, l9⟩ := lL
 simp +decide only [↓uR.o, dG.o, ja1, reduceIte, Bool.not_false, ↓ja0 l4, ↓ja0 l5, ↓ja0 l6, ↓ja0 l7, ↓ja0 l8, ↓ja0 l9, ↓jb8 _ 7 true 25 _ ji1, ↓jb8 _ 18 true 36 _ jg2, ↓r_no _ 21 false 39 _ jg3, ↓jb8 _ 1 false 51 _ ji2, e0, e1, e7, e8, e9, hlt, hix, hld, jb5, wp, wr, hle, ↓Option.map_some, ↓Option.map_none, hsl, jg7, hq, hb, hz0, hixp, hze]
 exact hx _ (by simp +decide only [ja1, reduceIte, e0]) (by simp +decide only [ja1, reduceIte, e1]) (by simp +decide only [ja1, reduceIte, e7]) (by simp +decide only [ja1, reduceIte, e8]) (by simp +decide only [ja1, reduceIte, e9])
theorem j07 {K : Kf} {N : Nat} {H : Heap} {s : List UInt8} {i p : Nat} {b : Int} {E : Env} {Q : R → Prop} {k : KOE} (hG : Ext GE H) (hi : i < 26) (hp : p < s.length) (hsm : s.length < 9223372036854775000) (e0 : E 0 = .string ⟨⟨s⟩⟩) (e1 : E 1 = .int .i64 (p : Int)) (e7 : E 7 = .int .i64 b) (e8 : E 8 = .bool false) (e9 : E 9 = .int .i64 (i : Int)) {q : Nat} (hb : b = (q : Int)) (hq26 : q < 26) (h1 : p + (signsL.getD i []).length ≤ s.length) (h2 : (s.take (p + (signsL.getD i []).length)).drop p = signsL.getD i []) (h3 :  (signsL.getD i []).length > (signsL.getD q []).length)
   (hx : ∀ E', E' 0 = .string ⟨⟨s⟩⟩ → E' 1 = .int .i64 (p : Int) → E' 7 = .int .i64 (i : Int) → E' 8 = .bool (decide ((signsL.getD i []).getD 0 0 = s[p])) → E' 9 = .int .i64 ((i + 1 : Nat) : Int) → Q (k .norm E' [] H)) :
   Q (execG PP XX K N noPr cRB1 none E [] H k) := by
 have hlt : decide ((i : Int) < 26) = true := decide_eq_true (by omega)
 have hix := je9 hi
 have hld := jf3 hG hi
 obtain ⟨l1, l2⟩ := jk2 hi
 generalize hz : signsL.getD i [] = z at *
 have wr : IntKind.i64.wrap ((i : Int) + 1) = ((i + 1 : Nat) : Int) := by rw [ja4 (by omega) (by omega)]; omega
 have wp : IntKind.i64.wrap ((p : Int) + (z.length : Int)) = ((p + z.length : Nat) : Int) := by rw [ja4 (by omega) (by omega)]; omega
 have hz0 := jh4 l1
 have hixp := jc5 (s := s) hp
 have hze : (((z.getD 0 0).toNat : Int) == (s[p].toNat : Int)) = decide (z.getD 0 0 = s[p]) := ja7 _ _
 have hle : decide (((p + z.length : Nat) : Int) ≤ (s.length : Int)) = true := decide_eq_true (by omega)
 have hsl := jr3 (s := s) (i := p) (j := p + z.length) (by omega) (by omega) H
 subst hb
 have hq : decide ((s.take (p + z.length)).drop p = z) = true := decide_eq_true h2
 have hb : decide ((q : Int) < 0) = false := decide_eq_false (by omega)
 have hixq := je9 hq26
 have hldq := jf3 hG hq26
 have hgt : decide ((z.length : Int) > ((signsL.getD q []).length : Int)) = true := decide_eq_true (by omega)
 have lL := lX6 Tryz.f54 4 5 6 7 8 9
 conv at lL in (occs := *) (rq _ _) => all_goals simp only [rX, oA, Tryz.f54, dL.o, reduceIte, Nat.reduceEqDiff]
 obtain ⟨l4, l5, l6, l7, l8, l9⟩ := lL
 simp +decide only [↓uR.o, dG.o, ja1, reduceIte, ↓ja0 l4, ↓ja0 l5, ↓ja0 l6, ↓ja0 l7, ↓ja0 l8, ↓ja0 l9, ↓jb8 _ 7 true 25 _ ji1, ↓jb8 _ 18 true 36 _ jg2, ↓jb8 _ 21 false 39 _ jg3, ↓jb8 _ 1 false 51 _ ji2, e0, e1, e7, e8, e9, hlt, hix, hld, jb5, wp, wr, hle, ↓Option.map_some, ↓Option.map_none, hsl, jg7, hq, hb, hixq, hldq, hgt, hz0, hixp, hze]
 exact hx _ (by simp +decide only [ja1, reduceIte, e0]) (by simp +decide only [ja1, reduceIte, e1]) (by simp +decide only [ja1, reduceIte, e7]) (by simp +decide only [ja1, reduceIte, e8]) (by simp +decide only [ja1, reduceIte, e9])
theorem j4v {K : Kf} {N : Nat} {H : Heap} {s : List UInt8} {i p : Nat} {b : Int} {E : Env} {Q : R → Prop} {k : KOE} (hG : Ext GE H) (hi : i < 26) (hp : p < s.length) (hsm : s.length < 9223372036854775000) (e0 : E 0 = .string ⟨⟨s⟩⟩) (e1 : E 1 = .int .i64 (p : Int)) (e7 : E 7 = .int .i64 b) (e8 : E 8 = .bool false) (e9 : E 9 = .int .i64 (i : Int)) {q : Nat} (hb : b = (q : Int)) (hq26 : q < 26) (h1 : p + (signsL.getD i []).length ≤ s.length) (h2 : (s.take (p + (signsL.getD i []).length)).drop p = signsL.getD i []) (h3 : ¬ (signsL.getD i []).length > (signsL.getD q []).length)
   (hx : ∀ E', E' 0 = .string ⟨⟨s⟩⟩ → E' 1 = .int .i64 (p : Int) → E' 7 = .int .i64 (q : Int) → E' 8 = .bool (decide ((signsL.getD i []).getD 0 0 = s[p])) → E' 9 = .int .i64 ((i + 1 : Nat) : Int) → Q (k .norm E' [] H)) :
   Q (execG PP XX K N noPr cRB1 none E [] H k) := by
 have hlt : decide ((i : Int) < 26) = true := decide_eq_true (by omega)
 have hix := je9 hi
 have hld := jf3 hG hi
 obtain ⟨l1, l2⟩ := jk2 hi
 generalize hz : signsL.getD i [] = z at *
 have wr : IntKind.i64.wrap ((i : Int) + 1) = ((i + 1 : Nat) : Int) := by rw [ja4 (by omega) (by omega)]; omega
 have wp : IntKind.i64.wrap ((p : Int) + (z.length : Int)) = ((p + z.length : Nat) : Int) := by rw [ja4 (by omega) (by omega)]; omega
 have hz0 := jh4 l1
 have hixp := jc5 (s := s) hp
 have hze : (((z.getD 0 0).toNat : Int) == (s[p].toNat : Int)) = decide (z.getD 0 0 = s[p]) := ja7 _ _
 have hle : decide (((p + z.length : Nat) : Int) ≤ (s.length : Int)) = true := decide_eq_true (by omega)
 have hsl := jr3 (s := s) (i := p) (j := p + z.length) (by omega) (by omega) H
 subst hb
 have hq : decide ((s.take (p + z.length)).drop p = z) = true := decide_eq_true h2
 have hb : decide ((q : Int) < 0) = false := decide_eq_false (by omega)
 have hixq := je9 hq26
 have hldq := jf3 hG hq26
 have hgt : decide ((z.length : Int) > ((signsL.getD q []).length : Int)) = false := decide_eq_false (by omega)
 have lL := lX6 Tryz.f54 4 5 6 7 8 9
 conv at lL in (occs := *) (rq _ _) => all_goals simp only [rX, oA, Tryz.f54, dL.o, reduceIte, Nat.reduceEqDiff]
 obtain ⟨l4, l5, l6, l7, l8, l9⟩ := lL
 simp +decide only [↓uR.o, dG.o, ja1, reduceIte, ↓ja0 l4, ↓ja0 l5, ↓ja0 l6, ↓ja0 l7, ↓ja0 l9, ↓jb8 _ 7 true 25 _ ji1, ↓jb8 _ 18 true 36 _ jg2, ↓jb8 _ 21 false 39 _ jg3, ↓jb8 _ 1 false 51 _ ji2, e0, e1, e7, e8, e9, hlt, hix, hld, jb5, wp, wr, hle, ↓Option.map_some, ↓Option.map_none, hsl, jg7, hq, hb, hixq, hldq, hgt, hz0, hixp, hze]
 exact hx _ (by simp +decide only [ja1, reduceIte, e0]) (by simp +decide only [ja1, reduceIte, e1]) (by simp +decide only [ja1, reduceIte, e7]) (by simp +decide only [ja1, reduceIte, e8]) (by simp +decide only [ja1, reduceIte, e9])
end
def mtS (s : List UInt8) (p : Nat) (z : List UInt8) : Bool := decide (p + z.length ≤ s.length) && decide ((s.take (p + z.length)).drop p = z)
def bestS (m : List UInt8 → Bool) : List (List UInt8) → Nat → Int → Int
 | [], _, b => b
 | z :: r, i, b => bestS m r (i + 1) (if m z && (decide (b < 0) || decide (z.length > (signsL.getD b.toNat []).length)) then (i : Int) else b)
def begunS (u : UInt8) : List (List UInt8) → Bool → Bool
 | [], g => g
 | z :: r, g => begunS u r (g || decide (z.getD 0 0 = u))
theorem yf1 {K : Kf} {N : Nat} {H : Heap} {s : List UInt8} {p : Nat} {Q : R → Prop} {k : KOE} (hG : Ext GE H) (hp : p < s.length) (hsm : s.length < 9223372036854775000) :
   ∀ (n i m : Nat) (b : Int) (g : Bool) (_ : i + n = 26) (_ : n < m) (_ : -1 ≤ b ∧ b < 26) {E : Env} (_ : E 0 = .string ⟨⟨s⟩⟩) (_ : E 1 = .int .i64 (p : Int)) (_ : E 7 = .int .i64 b) (_ : E 8 = .bool g) (_ : E 9 = .int .i64 (i : Int))
     (_ : ∀ E', E' 1 = .int .i64 (p : Int) → -1 ≤ bestS (mtS s p) (signsL.drop i) i b → bestS (mtS s p) (signsL.drop i) i b < 26 → E' 7 = .int .i64 (bestS (mtS s p) (signsL.drop i) i b) → E' 8 = .bool (begunS s[p] (signsL.drop i) g) → Q (k (.exit 0) E' [] H)),
     Q (loopE (execG PP XX K N noPr cRB1 none) m E [] H k)
 | 0, i, m + 1, b, g, hn, hm, hb, E, e0, e1, e7, e8, e9, hx => by
   rw [ja5]
   have hi : i = 26 := by omega
   subst hi
   have hlt : decide (((26 : Nat) : Int) < 26) = false := by decide
   have l4 := tl (rgn Tryz.f54 4)
   conv at l4 => rhs; simp only [rgn, oA, codeOf, Tryz.f54, gS, gN, reduceIte, Nat.reduceEqDiff, tA]
   simp +decide only [↓uR.o, dG.o, ja1, reduceIte, ↓ja0 l4, e9]
   exact hx _ (by simp +decide only [ja1, reduceIte, e1]) hb.1 hb.2 (by simp +decide only [ja1, reduceIte, e7]; rfl) (by simp +decide only [ja1, reduceIte, e8]; rfl)
 | n + 1, i, m + 1, b, g, hn, hm, hb, E, e0, e1, e7, e8, e9, hx => by
   rw [ja5]
   have hi : i < 26 := by omega
   have hl : i < signsL.length := by rw [j15]; exact hi
   have hd : signsL.drop i = signsL.getD i [] :: signsL.drop (i + 1) := by
     rw [List.drop_eq_getElem_cons hl]; simp [List.getD, hl]
   rw [hd] at hx
   have go : ∀ (b' : Int), -1 ≤ b' ∧ b' < 26 → (if mtS s p (signsL.getD i []) && (decide (b < 0) || decide ((signsL.getD i []).length > (signsL.getD b.toNat []).length)) then (i : Int) else b) = b' →
       ∀ E', E' 0 = .string ⟨⟨s⟩⟩ → E' 1 = .int .i64 (p : Int) → E' 7 = .int .i64 b' → E' 8 = .bool (g || decide ((signsL.getD i []).getD 0 0 = s[p])) → E' 9 = .int .i64 ((i + 1 : Nat) : Int) → Q (thenE (fun E ds H k => loopE (execG PP XX K N noPr cRB1 none) m E ds H k) k .norm E' [] H) := fun b' hb' hs E' q0 q1 q7 q8 q9 => by
     rw [jc9]
     refine yf1 hG hp hsm n (i + 1) m b' _ (by omega) (by omega) hb' q0 q1 q7 q8 q9 fun E2 z1 z2 z3 z7 z8 => ?_
     unfold bestS begunS at hx
     rw [hs] at hx
     exact hx E2 z1 z2 z3 z7 z8
   have gt : g = true → (g || decide ((signsL.getD i []).getD 0 0 = s[p])) = true := fun h => by rw [h]; rfl
   have gf : g = false → (g || decide ((signsL.getD i []).getD 0 0 = s[p])) = decide ((signsL.getD i []).getD 0 0 = s[p]) := fun h => by rw [h]; rfl
   by_cases h1 : p + (signsL.getD i []).length ≤ s.length
   · by_cases h2 : (s.take (p + (signsL.getD i []).length)).drop p = signsL.getD i []
     · have hmt : mtS s p (signsL.getD i []) = true := by unfold mtS; rw [decide_eq_true h1, decide_eq_true h2]; rfl
       by_cases h3 : b < 0
       · have go' := go (i : Int) (by omega) (by rw [hmt, decide_eq_true h3]; rfl)
         cases g with
         | true => exact j3f hG hi hp hsm e0 e1 e7 e8 e9 h1 h2 h3 (by rw [gt rfl] at go'; exact go')
         | false => exact j1k hG hi hp hsm e0 e1 e7 e8 e9 h1 h2 h3 (by rw [gf rfl] at go'; exact go')
       · obtain ⟨q, hq⟩ : ∃ q : Nat, b = (q : Int) := ⟨b.toNat, by omega⟩
         subst hq
         by_cases h4 : (signsL.getD i []).length > (signsL.getD q []).length
         · have go' := go (i : Int) (by omega) (by rw [hmt, Int.toNat_natCast, decide_eq_true h4]; simp)
           cases g with
           | true => exact j1h hG hi hp hsm e0 e1 e7 e8 e9 rfl (by omega) h1 h2 h4 (by rw [gt rfl] at go'; exact go')
           | false => exact j07 hG hi hp hsm e0 e1 e7 e8 e9 rfl (by omega) h1 h2 h4 (by rw [gf rfl] at go'; exact go')
         · have go' := go (q : Int) (by omega) (by rw [hmt, Int.toNat_natCast, decide_eq_false h4, decide_eq_false h3]; rfl)
           cases g with
           | true => exact j6g hG hi hp hsm e0 e1 e7 e8 e9 rfl (by omega) h1 h2 h4 (by rw [gt rfl] at go'; exact go')
           | false => exact j4v hG hi hp hsm e0 e1 e7 e8 e9 rfl (by omega) h1 h2 h4 (by rw [gf rfl] at go'; exact go')
     · have hmt : mtS s p (signsL.getD i []) = false := by unfold mtS; rw [decide_eq_false h2, Bool.and_false]
       have go' := go b hb (by rw [hmt]; rfl)
       cases g with
       | true => exact j3e hG hi hp hsm e0 e1 e7 e8 e9 h1 h2 (by rw [gt rfl] at go'; exact go')
       | false => exact j1j hG hi hp hsm e0 e1 e7 e8 e9 h1 h2 (by rw [gf rfl] at go'; exact go')
   · have hmt : mtS s p (signsL.getD i []) = false := by unfold mtS; rw [decide_eq_false h1]; rfl
     have go' := go b hb (by rw [hmt]; rfl)
     cases g with
     | true => exact j3d hG hi hp hsm e0 e1 e7 e8 e9 h1 (by rw [gt rfl] at go'; exact go')
     | false => exact j1i hG hi hp hsm e0 e1 e7 e8 e9 h1 (by rw [gf rfl] at go'; exact go')
def signF (m : List UInt8 → Bool) (u : UInt8) : Int × Nat × Bool :=
 if bestS m signsL 0 (-1) ≥ 0 then (4 + bestS m signsL 0 (-1), (signsL.getD (bestS m signsL 0 (-1)).toNat []).length, true)
 else (0, if begunS u signsL false then 1 else 0, false)
def sgV (p : Nat) (r : Int × Nat × Bool) : Value := if r.2.2 then .tuple #[.int .i64 r.1, .int .i64 ((p + r.2.1 : Nat) : Int), .int .i64 (-1)] else .tuple #[.int .i64 0, .int .i64 0, .int .i64 ((p + r.2.1 : Nat) : Int)]
theorem j9i {N : Nat} {hk : Hook} {d : Nat} {H : Heap} {s : List UInt8} {p : Nat} (hG : Ext GE H) (hp : p < s.length) (hsm : s.length < 9223372036854775000) (hN : 60 < N) (hh : NH hk) :
   CG N hk (d + 1) 54 #[.string ⟨⟨s⟩⟩, .int .i64 (p : Int)] H = some (.ret (sgV p (signF (mtS s p) s[p])), H) := by
 have main : ∃ R0 : R, CG N hk (d + 1) 54 #[.string ⟨⟨s⟩⟩, .int .i64 (p : Int)] H = R0 ∧ R0 = some (.ret (sgV p (signF (mtS s p) s[p])), H) := by
   refine ⟨_, jb6 (hh _ _ _ rfl) Tryz.func54 (c := codeOf Tryz.f54) rfl rfl rfl (pr := noPr) rfl, ?_⟩
   rw [code54]
   generalize hF : finE PP Tryz.f54 = F
   have lL : _ ∧ _ := ⟨lX8 Tryz.f54 0 1 2 3 10 11 12 13, lX Tryz.f54 14⟩
   conv at lL in (occs := *) (rq _ _) => all_goals simp only [rX, oA, Tryz.f54, dL.o, reduceIte, Nat.reduceEqDiff]
   obtain ⟨⟨l0, l1, l2, l3, l10, l11, l12, l13⟩, l14⟩ := lL
   simp +decide only [↓uR.o, dG.o, ↓ja0 l0, ↓ja0 l1, ↓ja0 l2, ↓ja0 l3, ↓jb4]
   refine yf1 (s := s) (p := p) (Q := fun r => r = some (.ret (sgV p (signF (mtS s p) s[p])), H)) hG hp hsm 26 0 N (-1) false rfl (by omega) ⟨by omega, by omega⟩ ?_ ?_ ?_ ?_ ?_ (fun E' e1 b1 b2 e7 e8 => ?_)
   · simp +decide only [ja1, reduceIte, jc7]
   · simp +decide only [ja1, reduceIte, je4]
   · simp +decide only [ja1, reduceIte]
   · simp +decide only [ja1, reduceIte]
   · simp +decide only [ja1, reduceIte]; rfl
   · rw [List.drop_zero] at b1 b2 e7 e8
     by_cases hb : bestS (mtS s p) signsL 0 (-1) ≥ 0
     · obtain ⟨q, hq⟩ : ∃ q : Nat, bestS (mtS s p) signsL 0 (-1) = (q : Int) := ⟨(bestS (mtS s p) signsL 0 (-1)).toNat, by omega⟩
       have hs : signF (mtS s p) s[p] = (4 + (q : Int), (signsL.getD q []).length, true) := by unfold signF; rw [if_pos hb, hq, Int.toNat_natCast]
       rw [hs]
       rw [hq] at b2 e7
       have hge : decide ((q : Int) ≥ 0) = true := decide_eq_true (by omega)
       have hq26 : q < 26 := by omega
       have hixq := je9 hq26
       have hldq := jf3 hG hq26
       obtain ⟨l1, l2⟩ := jk2 hq26
       have w1 : IntKind.i64.wrap (4 + (q : Int)) = 4 + (q : Int) := ja4 (by omega) (by omega)
       have w2 : IntKind.i64.wrap ((p : Int) + ((signsL.getD q []).length : Int)) = ((p + (signsL.getD q []).length : Nat) : Int) := by rw [ja4 (by omega) (by omega)]; omega
       simp +decide only [↓uR.o, dG.o, ja1, reduceIte, ↓ja0 l10, ↓ja0 l11, e1, e7, hge, w1, hixq, hldq, jb5, w2]
       rw [← hF, jb0 (l := [.int .i64 (4 + (q : Int)), .int .i64 ((p + (signsL.getD q []).length : Nat) : Int), .int .i64 (-1)]) (by simp +decide [Tryz.f54, resE, ja1])]
       rfl
     · have hge : decide (bestS (mtS s p) signsL 0 (-1) ≥ 0) = false := decide_eq_false hb
       cases hg : begunS s[p] signsL false with
       | true =>
         have hs : signF (mtS s p) s[p] = (0, 1, false) := by unfold signF; rw [if_neg hb, hg]; rfl
         rw [hs]
         rw [hg] at e8
         have w1 : IntKind.i64.wrap ((p : Int) + 1) = ((p + 1 : Nat) : Int) := by rw [ja4 (by omega) (by omega)]; omega
         simp +decide only [↓uR.o, dG.o, ja1, reduceIte, ↓ja0 l10, ↓ja0 l12, ↓ja0 l13, e1, e7, e8, hge, w1]
         rw [← hF, jb0 (l := [.int .i64 0, .int .i64 0, .int .i64 ((p + 1 : Nat) : Int)]) (by simp +decide [Tryz.f54, resE, ja1])]
         rfl
       | false =>
         have hs : signF (mtS s p) s[p] = (0, 0, false) := by unfold signF; rw [if_neg hb, hg]; rfl
         rw [hs]
         rw [hg] at e8
         simp +decide only [↓uR.o, dG.o, ja1, reduceIte, ↓ja0 l10, ↓ja0 l12, ↓ja0 l14, e1, e7, e8, hge]
         rw [← hF, jb0 (l := [.int .i64 0, .int .i64 0, .int .i64 (p : Int)]) (by simp +decide [Tryz.f54, resE, ja1])]
         rfl
 obtain ⟨R0, m1, m2⟩ := main
 exact m1.trans m2
end Go.Am
