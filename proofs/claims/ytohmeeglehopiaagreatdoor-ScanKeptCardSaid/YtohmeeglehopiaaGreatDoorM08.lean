/- A lexeme: by its first byte. -/
import Derived.Test.YtohmeeglehopiaaGreatDoorM07
import Derived.Shelf.Bits.Mul64
import Derived.Test.YtohmeeglehopiaaGreatDoorM06
open Go.Proofs
namespace Go.Am
set_option maxRecDepth 100000
theorem eq43 : (((4 : Int)) == 3) = false := rfl
theorem eq44 : (((4 : Int)) == 4) = true := rfl
theorem eq63 : (((6 : Int)) == 3) = false := rfl
theorem eq64 : (((6 : Int)) == 4) = false := rfl
theorem eq65 : (((6 : Int)) == 5) = false := rfl
theorem eq66 : (((6 : Int)) == 6) = true := rfl
theorem code28 : codeOf Tryz.f28 = .seq (rF Tryz.f28 0) (.seq (.seq (rT Tryz.f28 1) (.block 0 (.seq (rF Tryz.f28 2) (.cond (.tmp 16) (.seq (rF Tryz.f28 3) (.seq (rF Tryz.f28 4) .ret)) (.seq (rF Tryz.f28 5) (.cond (.tmp 24) (.seq (rF Tryz.f28 6) .ret) (.seq (rF Tryz.f28 7) (.cond (.tmp 29) (.seq (rF Tryz.f28 8) (.seq (rF Tryz.f28 9) .ret)) (.seq (rF Tryz.f28 10) (.cond (.tmp 37) (.seq (rF Tryz.f28 11) .ret) .skip)))))))))) (.seq (rF Tryz.f28 12) .ret)) := by kernel_rfl
theorem j65 {N : Nat} {hk : Hook} {d : Nat} {H H' : Heap} {a : Option Addr} {c : Nat} {s : List UInt8} {b t i : Nat} {r : Bool} (x : Ctx H a c s b) (hb : H.get b = some (cur a s.length c i)) (hi : i < s.length) (hcl : clsI s[i] = 4) (hh : NH hk)
   (hr : CG N hk (d + 1) 45 #[.pointer (some ⟨b, 0, none⟩), .pointer (some ⟨t, 0, none⟩)] H = some (.ret (.bool r), H')) :
   CG N hk (d + 2) 28 #[.pointer (some ⟨b, 0, none⟩), .pointer (some ⟨t, 0, none⟩)] H = some (.ret (.bool r), H') := by
 refine (jb6 (hh _ _ _ rfl) Tryz.func28 (c := codeOf Tryz.f28) rfl rfl rfl (pr := noPr) rfl).trans ?_
 rw [code28]
 generalize hF : finE PP Tryz.f28 = F
 have hcls := jp7 (N := N) (hk := hk) (d := d) x.gg s[i] (fun _ _ => hh _ _ _ rfl)
 rw [hcl] at hcls
 obtain ⟨y, rfl, hl⟩ := x.row.bts.cell i hi
 have hix := jc4 (n := s.length) (c := c) (a := y) hi
 have lL := lX5 Tryz.f28 0 1 2 5 6
 conv at lL in (occs := *) (rq _ _) => all_goals simp only [rX, oA, Tryz.f28, dL.o, reduceIte, Nat.reduceEqDiff]
 obtain ⟨l0, l1, l2, l5, l6⟩ := lL
 simp +decide only [↓uR.o, dG.o, ja1, reduceIte, ↓ja0 l0, ↓ja0 l1, ↓ja0 l2, ↓ja0 l5, ↓ja0 l6, fld0, fld1, jc0 hb, jb3 hb, hix, jb7 hl, ja3 Tryz.func36 rfl rfl hcls, eq43, eq44, ja3 Tryz.func45 rfl rfl hr]
 rw [← hF, jb0 (l := [.bool r]) (by simp +decide [Tryz.f28, resE, ja1])]
 rfl
theorem j66 {N : Nat} {hk : Hook} {d : Nat} {H H' : Heap} {a : Option Addr} {c : Nat} {s : List UInt8} {b t i : Nat} {r : Bool} (x : Ctx H a c s b) (hb : H.get b = some (cur a s.length c i)) (hi : i < s.length) (hcl : clsI s[i] = 6) (hh : NH hk)
   (hr : CG N hk (d + 1) 47 #[.pointer (some ⟨b, 0, none⟩), .pointer (some ⟨t, 0, none⟩)] H = some (.ret (.bool r), H')) :
   CG N hk (d + 2) 28 #[.pointer (some ⟨b, 0, none⟩), .pointer (some ⟨t, 0, none⟩)] H = some (.ret (.bool r), H') := by
 refine (jb6 (hh _ _ _ rfl) Tryz.func28 (c := codeOf Tryz.f28) rfl rfl rfl (pr := noPr) rfl).trans ?_
 rw [code28]
 generalize hF : finE PP Tryz.f28 = F
 have hcls := jp7 (N := N) (hk := hk) (d := d) x.gg s[i] (fun _ _ => hh _ _ _ rfl)
 rw [hcl] at hcls
 obtain ⟨y, rfl, hl⟩ := x.row.bts.cell i hi
 have hix := jc4 (n := s.length) (c := c) (a := y) hi
 have lL := lX7 Tryz.f28 0 1 2 5 7 10 11
 conv at lL in (occs := *) (rq _ _) => all_goals simp only [rX, oA, Tryz.f28, dL.o, reduceIte, Nat.reduceEqDiff]
 obtain ⟨l0, l1, l2, l5, l7, l10, l11⟩ := lL
 simp +decide only [↓uR.o, dG.o, ja1, reduceIte, ↓ja0 l0, ↓ja0 l1, ↓ja0 l2, ↓ja0 l5, ↓ja0 l7, ↓ja0 l10, ↓ja0 l11, fld0, fld1, jc0 hb, jb3 hb, hix, jb7 hl, ja3 Tryz.func36 rfl rfl hcls, eq63, eq64, eq65, eq66, ja3 Tryz.func47 rfl rfl hr]
 rw [← hF, jb0 (l := [.bool r]) (by simp +decide [Tryz.f28, resE, ja1])]
 rfl
noncomputable abbrev cSI5 : Code := .seq (rF Tryz.f8 7) (.cond (.tmp 23) (.seq (rT Tryz.f8 8) .ret) .skip)
noncomputable abbrev cSI4 : Code := .seq cSI5 (.seq (rF Tryz.f8 9) (rF Tryz.f8 10))
noncomputable abbrev cSI3 : Code := .seq (rF Tryz.f8 6) cSI4
noncomputable abbrev cSI2 : Code := .block 1 cSI3
noncomputable abbrev cSI1 : Code := .seq (.seq (rF Tryz.f8 5) (.cond (.tmp 15) .skip (.exit 0))) cSI2
structure Tk where
 kind : Int
 n : Int
 w : ByteArray
 from_ : Nat
 to_ : Nat
def Tk.cells (k : Tk) : List Value := [.int .i64 k.kind, .int .u64 k.n, .string k.w, .int .i64 (k.from_ : Int), .int .i64 (k.to_ : Int)]
def TkRow (H : Heap) (v : Value) (ts : List Tk) (lo : Nat) : Prop :=
 (ts = [] ∧ v = .slice none 0 0) ∨ (ts ≠ [] ∧ ∃ q, v = .slice (some ⟨q, 0, none⟩) ts.length ts.length ∧ H.get q = some ⟨ts.flatMap Tk.cells, true, 5, none, false⟩ ∧ lo ≤ q)
theorem jo5 : ∀ ts : List Tk, (ts.flatMap Tk.cells).length = ts.length * 5
 | [] => rfl
 | k :: l => by simp [List.flatMap_cons, Tk.cells, jo5 l]; omega
theorem undTs : PP.underlying 33 = some (.slice 42) := Tryz.underlying33
theorem infoT : ∃ i, PP.info? 42 = some i ∧ i.size = 5 ∧ i.bytes = 48 := by
 have h : (PP.info? 42).map (fun i => (i.size, i.bytes)) = some (5, 48) := by kernel_rfl
 cases hi : PP.info? 42 with
 | none => rw [hi] at h; cases h
 | some i => rw [hi] at h; simp at h; exact ⟨i, rfl, h.1, h.2⟩
theorem zeroT29 : zeroT PP 42 = some [.int .i64 0, .int .u64 0, .string .empty, .int .i64 0, .int .i64 0] := by kernel_rfl
theorem size29 : sizeT PP 42 = some 5 := by decide +kernel
theorem agg29 : aggT PP 42 = some true := by decide +kernel
theorem es29 : esT PP 42 = 1 := by decide +kernel
theorem esCur : esT PP 59 = 1 := by decide +kernel
theorem j9a {H : Heap} {v : Value} {ts : List Tk} {lo q1 : Nat} (ho : TkRow H v ts lo) (hf : Fresh H) (hlo : lo ≤ H.next) (tk : Tk) (hq : H.get q1 = some ⟨tk.cells, true, 5, none, false⟩) (hn : ts.length ≤ 1048576) :
   ∃ v' H', appendA PP #[33, 33] v (.slice (some ⟨q1, 0, none⟩) 1 1) H = some (v', H') ∧ TkRow H' v' (ts ++ [tk]) lo ∧ (∀ z w, z < lo → H.get z = some w → H'.get z = some w) ∧ H.next ≤ H'.next ∧ Fresh H' := by
 obtain ⟨i, h1, h2, h3⟩ := infoT
 have src : srcCells H 5 (.slice (some ⟨q1, 0, none⟩) 1 1) = some (1, tk.cells) := by simp [srcCells, look, hq, Tk.cells]
 have hA : appendA PP #[33, 33] v (.slice (some ⟨q1, 0, none⟩) 1 1) H = app H 5 48 v 1 tk.cells := by
   simp only [appendA]
   simp [h1, h2, h3, zeroT29, src]
 rw [hA]
 have al : ∀ (G : Heap) (cells : List Value), Fresh G → Fresh (G.alloc 5 cells) := fun G cells hG z hz => by
   have hz' : G.next + 1 ≤ z := hz
   rw [Heap.get_alloc, if_neg (by omega)]; exact hG z (by omega)
 rcases ho with ⟨rfl, rfl⟩ | ⟨hne, q, rfl, hg, hlq⟩
 · refine ⟨_, _, by simp only [app]; rw [if_neg (by decide), if_pos (by decide)]; rfl, .inr ⟨by simp, H.next, rfl, ?_, hlo⟩, fun z w hz hg => ?_, Nat.le_succ _, al _ _ hf⟩
   · rw [Heap.get_alloc, if_pos rfl]; simp
   · rw [Heap.get_alloc, if_neg (by omega)]; exact hg
 · have hlen : ts.length ≠ 0 := by simpa using hne
   have hl5 := jo5 ts
   have hlk : look H ⟨q, 0, none⟩ = some ⟨ts.flatMap Tk.cells, true, 5, none, false⟩ := by simp [look, hg]
   have hp : tk.cells.all Value.oneCell' = true := rfl
   have hqn : q < H.next := by
     by_cases c : H.next ≤ q
     · rw [hf q c] at hg; cases hg
     · omega
   have fd : Fresh (H.drop q) := fun z hz => by
     have hz' : H.next ≤ z := hz
     rw [Heap.get_drop]; split
     · rfl
     · exact hf z hz'
   refine ⟨_, (H.drop q).alloc 5 ((ts ++ [tk]).flatMap Tk.cells), ?_, .inr ⟨by simp, H.next, rfl, ?_, hlo⟩, fun z w hz hg => ?_, Nat.le_succ _, al (H.drop q) _ fd⟩
   · simp only [app, hlk]
     rw [if_pos ⟨trivial, trivial, by simp only [Nat.zero_add]; rw [hl5]; exact Nat.le_refl _, hp, by unfold most; omega, by unfold most; omega⟩, if_neg (by omega), if_pos (by first | omega | (simp; omega))]
     have e1 : (List.drop 0 (ts.flatMap Tk.cells)).take (ts.length * 5) = ts.flatMap Tk.cells := by rw [List.drop_zero, ← hl5, List.take_length]
     simp only [e1, mkRow, List.flatMap_append, List.length_append, List.length_cons, List.length_nil]
     have e2 : List.flatMap Tk.cells [tk] = tk.cells := by simp
     rw [e2]; rfl
   · rw [Heap.get_alloc]; exact if_pos rfl
   · rw [Heap.get_alloc, if_neg (by show ¬ z = H.next; omega), Heap.get_drop, if_neg (by omega)]; exact hg
theorem j0s (i : Int) : buildA PP 42 #[(3, .int .i64 i)] = some (.agg #[.int .i64 0, .int .u64 0, .string .empty, .int .i64 i, .int .i64 0]) := by kernel_rfl
theorem yc5 (a : Option Addr) (n c : Nat) : buildA PP 59 #[(0, .slice a n c)] = some (.agg #[.slice a n c, .int .i64 0]) := by kernel_rfl
theorem yu7 (H : Heap) (a : Option Addr) (n c : Nat) : boxA PP 59 (.agg #[.slice a n c, .int .i64 0]) H = some (.pointer (some ⟨H.next, 0, none⟩), H.alloc 1 [.slice a n c, .int .i64 0]) := by simp only [boxA, esCur, mk, Value.cells]
theorem jm1 (H : Heap) : allocA PP 42 H = some (.pointer (some ⟨H.next, 0, none⟩), H.alloc 1 [.int .i64 0, .int .u64 0, .string .empty, .int .i64 0, .int .i64 0]) := by simp only [allocA, zeroT29, es29, mk]
theorem jj9 {H : Heap} {b : Nat} {k n f e k' n' f' e' : Int} {w w' : ByteArray} (h : H.get b = some (tok k n w f e)) : storeA PP 42 (.pointer (some ⟨b, 0, none⟩)) (.agg #[.int .i64 k', .int .u64 n', .string w', .int .i64 f', .int .i64 e']) H = some (undef, H.set b (tok k' n' w' f' e')) := by
 simp only [storeA, size29, stV]
 simp [Value.cells, st, look, h, tok, over, Value.oneCell']
theorem ju0 {H : Heap} {b : Nat} {k n f e : Int} {w : ByteArray} (h : H.get b = some (tok k n w f e)) : loadA PP 42 (.pointer (some ⟨b, 0, none⟩)) H = some (.agg #[.int .i64 k, .int .u64 n, .string w, .int .i64 f, .int .i64 e], H) := by
 simp only [loadA, agg29, size29]
 simp [ldN, look, h, tok]
theorem j10 (H : Heap) (k n f e : Int) (w : ByteArray) : buildSliceA PP 33 1 #[(0, .agg #[.int .i64 k, .int .u64 n, .string w, .int .i64 f, .int .i64 e])] H = some (.slice (some ⟨H.next, 0, none⟩) 1 1, H.alloc 5 [.int .i64 k, .int .u64 n, .string w, .int .i64 f, .int .i64 e]) := by
 have hf : Instr.fill (fun i => some (i * 5, 5)) (zeroRow [.int .i64 0, .int .u64 0, .string .empty, .int .i64 0, .int .i64 0] (1 * 5)).toArray [(0, .agg #[.int .i64 k, .int .u64 n, .string w, .int .i64 f, .int .i64 e])] = some #[.int .i64 k, .int .u64 n, .string w, .int .i64 f, .int .i64 e] := by rfl
 simp only [buildSliceA, undTs, size29, zeroT29, mkRow, hf]
 simp
theorem jz0 {H : Heap} (a : Option Addr) (n c : Nat) (k : Value → Heap → R) : builtinK PP .len #[33] #[.slice a n c] H k = k (.int .i64 n) H := ja6 (ts := #[33]) rfl undTs a n c H k
theorem Lexd.trans {A B C : Heap} {b t : Nat} {x y x' y' : Blk} (h : Lexd A B b x t y) (k : Lexd B C b x' t y') : Lexd A C b x' t y' :=
 ⟨Nat.le_trans h.next k.next, k.one, k.two, fun z w h1 h2 hz => k.there z w h1 h2 (h.there z w h1 h2 hz), k.fresh⟩
theorem j11 {H H1 : Heap} {b : Nat} {a : Option Addr} {n c i : Nat} (h : Curs H H1 b a n c i) (hf : Fresh H) (hb : b < H.next) (cs : List Value) (y : Blk) : Lexd H ((H1.alloc 1 cs).set H1.next y) b (cur a n c i) H1.next y := by
 have hn := h.next
 refine ⟨by show H.next ≤ H1.next + 1; omega, ?_, jc6 _ _ _, fun z w h1 h2 hz => ?_, fun z hz => ?_⟩
 · rw [Heap.get_set, if_neg (by omega), Heap.get_alloc, if_neg (by omega)]; exact h.here
 · rw [Heap.get_set, if_neg h2, Heap.get_alloc, if_neg h2, h.there z h1]; exact hz
 · have hz' : H1.next + 1 ≤ z := hz
   rw [Heap.get_set, if_neg (by omega), Heap.get_alloc, if_neg (by omega), h.there z (by omega)]; exact hf z (by omega)
structure TS (H0 H : Heap) (b : Nat) (a : Option Addr) (n c i : Nat) (v : Value) (ts : List Tk) : Prop where
 ext : Ext H0 H
 here : H.get b = some (cur a n c i)
 lb : H0.next ≤ b
 bl : b < H.next
 out : TkRow H v ts (b + 1)
theorem TS.ctx {H0 H : Heap} {b : Nat} {a : Option Addr} {c i : Nat} {s : List UInt8} {v : Value} {ts : List Tk} (h : TS H0 H b a s.length c i v ts) (hG : Ext GE H0) (hr : Brow H0 a s) : Ctx H a c s b :=
 ⟨hG.trans h.ext, Nat.le_trans hG.next h.lb, h.bl, hr.ext h.ext, fun q hq e => by
   obtain ⟨z, h1, _⟩ := hr.row q hq
   have := h.lb
   unfold look at h1
   split at h1
   · cases h1
   · rw [e, hG.fresh b h.lb] at h1; cases h1⟩
def LexOk (N : Nat) (hk : Hook) (d : Nat) (a : Option Addr) (c : Nat) (s : List UInt8) (tk : Tk) : Prop :=
 ∀ H b t, Ctx H a c s b → H.get b = some (cur a s.length c tk.from_) → H.get t = some (tok 0 0 .empty (tk.from_ : Int) 0) → t ≠ b → t < H.next → GE.next ≤ t → (∀ q, a = some q → q.block ≠ t) →
   ∃ H', Lexd H H' b (cur a s.length c tk.to_) t (tok tk.kind tk.n tk.w (tk.from_ : Int) 0) ∧ CG N hk d 28 #[.pointer (some ⟨b, 0, none⟩), .pointer (some ⟨t, 0, none⟩)] H = some (.ret (.bool true), H')
def LexBad (N : Nat) (hk : Hook) (d : Nat) (a : Option Addr) (c : Nat) (s : List UInt8) (i e : Nat) : Prop :=
 ∀ H b t, Ctx H a c s b → H.get b = some (cur a s.length c i) → H.get t = some (tok 0 0 .empty (i : Int) 0) → t ≠ b → t < H.next → GE.next ≤ t → (∀ q, a = some q → q.block ≠ t) →
   ∃ H' y, Lexd H H' b (cur a s.length c e) t y ∧ CG N hk d 28 #[.pointer (some ⟨b, 0, none⟩), .pointer (some ⟨t, 0, none⟩)] H = some (.ret (.bool false), H')
inductive TRun (s : List UInt8) (ok : Tk → Prop) (bad : Nat → Nat → Prop) : Nat → List Tk → Option Nat → Prop
 | stop (i : Nat) (h : ¬ skipTo s (s.length - i) i < s.length) : TRun s ok bad i [] none
 | wrong (i e : Nat) (h : skipTo s (s.length - i) i < s.length) (hb : bad (skipTo s (s.length - i) i) e) : TRun s ok bad i [] (some e)
 | step (i : Nat) (tk : Tk) (l : List Tk) (r : Option Nat) (h : skipTo s (s.length - i) i < s.length) (hf : tk.from_ = skipTo s (s.length - i) i) (ht : tk.to_ ≤ s.length) (hl : ok tk) (hr : TRun s ok bad tk.to_ l r) : TRun s ok bad i (tk :: l) r
theorem code8 : codeOf Tryz.f8 = .seq (rF Tryz.f8 0) (.seq (.seq (rF Tryz.f8 1) (.cond (.tmp 10) (.seq (rF Tryz.f8 2) .ret) .skip)) (.seq (rF Tryz.f8 3) (.seq (rF Tryz.f8 4) (.seq (.block 0 (.loop cSI1)) (.seq (rF Tryz.f8 11) .ret))))) := by kernel_rfl
theorem j23 : unA PP .not (.bool false) = some (.bool true) := by kernel_rfl
theorem jq8 : unA PP .not (.bool true) = some (.bool false) := by kernel_rfl
theorem j0t (s x : Value) (H : Heap) (k : Value → Heap → R) : builtinK PP .append #[33, 33] #[s, x] H k = bindV (appendA PP #[33, 33] s x H) k := by simp [builtinK]
section
variable {N : Nat} {hk : Hook} {d : Nat} {H0 : Heap} {a : Option Addr} {c : Nat} {s : List UInt8} {b : Nat} {Q : R → Prop} {k : KOE}
theorem yc6 (hG : Ext GE H0) (hr : Brow H0 a s) (hh : NH hk) (hN : s.length < N) {H : Heap} {i : Nat} {v : Value} {ts : List Tk} (h : TS H0 H b a s.length c i v ts) (hi : i ≤ s.length) :
   ∃ H1, Curs H H1 b a s.length c (skipTo s (s.length - i) i) ∧ TS H0 H1 b a s.length c (skipTo s (s.length - i) i) v ts ∧ CG N hk (d + 4) 27 #[.pointer (some ⟨b, 0, none⟩)] H = some (.ret (.bool (decide (skipTo s (s.length - i) i < s.length))), H1) := by
 have x := h.ctx hG hr
 obtain ⟨H1, h1, h2⟩ := yb9 (N := N) (hk := hk) (d := d + 1) x ⟨rfl, h.here, fun _ _ => rfl⟩ hh hi hN
 have g := h1.gg x
 refine ⟨H1, h1, ⟨⟨by rw [h1.next]; exact h.ext.next, fun z w hz => ?_, g.fresh⟩, h1.here, h.lb, by rw [h1.next]; exact h.bl, ?_⟩, h2⟩
 · have hzb : z ≠ b := fun e => by rw [e, hG.fresh b h.lb] at hz; cases hz
   rw [h1.there z hzb]; exact h.ext.keep z w hz
 · rcases h.out with o | ⟨o1, q, o2, o3, o4⟩
   · exact .inl o
   · exact .inr ⟨o1, q, o2, by rw [h1.there q (by omega)]; exact o3, o4⟩
theorem yu8 (hG : Ext GE H0) (hr : Brow H0 a s) (hh : NH hk) (hN : s.length < N) {H : Heap} {i : Nat} {v : Value} {ts : List Tk} {E : Env} (h : TS H0 H b a s.length c i v ts) (hi : i ≤ s.length) (e5 : E 5 = .pointer (some ⟨b, 0, none⟩)) (e6 : E 6 = v)
   (hs : ¬ skipTo s (s.length - i) i < s.length) (hx : ∀ E' H', E' 6 = v → TS H0 H' b a s.length c (skipTo s (s.length - i) i) v ts → Q (k (.exit 0) E' [] H')) :
   Q (execG PP XX (CG N hk (d + 4)) N noPr cSI1 none E [] H k) := by
 obtain ⟨H1, _, h2, h3⟩ := yc6 (d := d) hG hr hh hN h hi
 rw [decide_eq_false hs] at h3
 have l5 := tl (rgn Tryz.f8 5)
 conv at l5 => rhs; simp only [rgn, oA, codeOf, Tryz.f8, gS, gN, reduceIte, Nat.reduceEqDiff, tA]
 simp +decide only [↓uR.o, dG.o, ja1, reduceIte, ↓ja0 l5, e5, ja3 Tryz.func27 rfl rfl h3]
 exact hx _ H1 (e6) h2
theorem yl9 (hG : Ext GE H0) (hr : Brow H0 a s) (hh : NH hk) (hN : s.length < N) {H : Heap} {i e : Nat} {v : Value} {ts : List Tk} {E : Env} (h : TS H0 H b a s.length c i v ts) (hi : i ≤ s.length) (e5 : E 5 = .pointer (some ⟨b, 0, none⟩))
   (hs : skipTo s (s.length - i) i < s.length) (hb : LexBad N hk (d + 4) a c s (skipTo s (s.length - i) i) e) (hx : ∀ E' H', E' 2 = .slice none 0 0 → E' 3 = .int .i64 (e : Int) → E' 4 = .int .i64 60 → Ext H0 H' → Q (k .ret E' [] H')) :
   Q (execG PP XX (CG N hk (d + 4)) N noPr cSI1 none E [] H k) := by
 obtain ⟨H1, h1, h2, h3⟩ := yc6 (d := d) hG hr hh hN h hi
 rw [decide_eq_true hs] at h3
 have x0 := h.ctx hG hr
 have st := j11 h1 x0.gg.fresh h.bl [.int .i64 0, .int .u64 0, .string .empty, .int .i64 0, .int .i64 0] (tok 0 0 .empty (skipTo s (s.length - i) i : Nat) 0)
 have g0 : (H1.alloc 1 [.int .i64 0, .int .u64 0, .string .empty, .int .i64 0, .int .i64 0]).get H1.next = some (tok 0 0 .empty 0 0) := by rw [Heap.get_alloc]; exact if_pos rfl
 have hlt : H.next = H1.next := h1.next.symm
 have hbl := h.bl
 have hnt : ∀ q, a = some q → q.block ≠ H1.next := fun q hq e' => by
   obtain ⟨z, z1, _⟩ := x0.row.row q hq
   unfold look at z1
   split at z1
   · cases z1
   · rw [e', x0.gg.fresh _ (by omega)] at z1; cases z1
 have gl : GE.next ≤ H1.next := by have := x0.low; omega
 have x3 : Ctx ((H1.alloc 1 [.int .i64 0, .int .u64 0, .string .empty, .int .i64 0, .int .i64 0]).set H1.next (tok 0 0 .empty (skipTo s (s.length - i) i : Nat) 0)) a c s b := ⟨st.gg x0 gl, x0.low, by show b < H1.next + 1; omega, st.row x0 hnt, x0.ne⟩
 obtain ⟨H4, y, h4, hc⟩ := hb _ b H1.next x3 st.one st.two (by omega) (by show H1.next < H1.next + 1; omega) gl hnt
 have l4 := st.trans h4
 have lL := lX4 Tryz.f8 5 6 7 8
 conv at lL in (occs := *) (rq _ _) => all_goals simp only [rX, oA, Tryz.f8, dL.o, reduceIte, Nat.reduceEqDiff]
 obtain ⟨l5, l6, l7, l8⟩ := lL
 simp +decide only [↓uR.o, dG.o, ja1, jb1, reduceIte, ↓ja0 l5, ↓ja0 l6, ↓ja0 l7, ↓ja0 l8, e5, ja3 Tryz.func27 rfl rfl h3, fld1, jb3 h2.here, j0s, jm1, jj9 g0, ja3 Tryz.func28 rfl rfl hc, j23, jb3 h4.one]
 exact hx _ H4 (by simp +decide only [ja1, reduceIte]) (by simp +decide only [ja1, reduceIte]) (by simp +decide only [ja1, reduceIte])
   ⟨Nat.le_trans h.ext.next l4.next, fun z w hz => l4.there z w (fun e' => by rw [e', hG.fresh b h.lb] at hz; cases hz) (fun e' => by rw [e', hG.fresh _ (by have := h.ext.next; omega)] at hz; cases hz) (h.ext.keep z w hz), l4.fresh⟩
theorem yu9 (hG : Ext GE H0) (hr : Brow H0 a s) (hh : NH hk) (hN : s.length < N) {H : Heap} {i : Nat} {v : Value} {ts : List Tk} {tk : Tk} {E : Env} (h : TS H0 H b a s.length c i v ts) (hi : i ≤ s.length) (e5 : E 5 = .pointer (some ⟨b, 0, none⟩)) (e6 : E 6 = v) (hts : ts.length ≤ 1048576)
   (hs : skipTo s (s.length - i) i < s.length) (hfr : tk.from_ = skipTo s (s.length - i) i) (hb : LexOk N hk (d + 4) a c s tk) (hx : ∀ E' H' v', E' 5 = .pointer (some ⟨b, 0, none⟩) → E' 6 = v' → TS H0 H' b a s.length c tk.to_ v' (ts ++ [tk]) → Q (k .norm E' [] H')) :
   Q (execG PP XX (CG N hk (d + 4)) N noPr cSI1 none E [] H k) := by
 obtain ⟨H1, h1, h2, h3⟩ := yc6 (d := d) hG hr hh hN h hi
 rw [decide_eq_true hs] at h3
 have x0 := h.ctx hG hr
 rw [← hfr] at h1 h2
 have st := j11 h1 x0.gg.fresh h.bl [.int .i64 0, .int .u64 0, .string .empty, .int .i64 0, .int .i64 0] (tok 0 0 .empty (tk.from_ : Int) 0)
 have g0 : (H1.alloc 1 [.int .i64 0, .int .u64 0, .string .empty, .int .i64 0, .int .i64 0]).get H1.next = some (tok 0 0 .empty 0 0) := by rw [Heap.get_alloc]; exact if_pos rfl
 have hlt : H.next = H1.next := h1.next.symm
 have hbl := h.bl
 have hnt : ∀ q, a = some q → q.block ≠ H1.next := fun q hq e' => by
   obtain ⟨z, z1, _⟩ := x0.row.row q hq
   unfold look at z1
   split at z1
   · cases z1
   · rw [e', x0.gg.fresh _ (by omega)] at z1; cases z1
 have gl : GE.next ≤ H1.next := by have := x0.low; omega
 have x3 : Ctx ((H1.alloc 1 [.int .i64 0, .int .u64 0, .string .empty, .int .i64 0, .int .i64 0]).set H1.next (tok 0 0 .empty (tk.from_ : Int) 0)) a c s b := ⟨st.gg x0 gl, x0.low, by show b < H1.next + 1; omega, st.row x0 hnt, x0.ne⟩
 obtain ⟨H4, h4, hc⟩ := hb _ b H1.next x3 st.one st.two (by omega) (by show H1.next < H1.next + 1; omega) gl hnt
 have l4 := st.trans h4
 have n4 : H1.next < H4.next := Nat.lt_of_lt_of_le (by show H1.next < H1.next + 1; omega) h4.next
 have m5 := l4.set2 (by omega) n4 (tok tk.kind tk.n tk.w (tk.from_ : Int) (tk.to_ : Int))
 generalize hH5 : H4.set H1.next (tok tk.kind tk.n tk.w (tk.from_ : Int) (tk.to_ : Int)) = H5 at m5
 have q1 : (H5.alloc 5 [.int .i64 tk.kind, .int .u64 tk.n, .string tk.w, .int .i64 (tk.from_ : Int), .int .i64 (tk.to_ : Int)]).get H5.next = some ⟨tk.cells, true, 5, none, false⟩ := by rw [Heap.get_alloc, if_pos rfl]; rfl
 have n5 : H.next ≤ H5.next := m5.next
 have f6 : Fresh (H5.alloc 5 [.int .i64 tk.kind, .int .u64 tk.n, .string tk.w, .int .i64 (tk.from_ : Int), .int .i64 (tk.to_ : Int)]) := (Ext.alloc m5.fresh 5 _).fresh
 have o6 : TkRow (H5.alloc 5 [.int .i64 tk.kind, .int .u64 tk.n, .string tk.w, .int .i64 (tk.from_ : Int), .int .i64 (tk.to_ : Int)]) v ts (b + 1) := by
   rcases h.out with o | ⟨o1, q, o2, o3, o4⟩
   · exact .inl o
   · have hqn : q < H.next := by
       by_cases cq : H.next ≤ q
       · rw [x0.gg.fresh q cq] at o3; cases o3
       · omega
     exact .inr ⟨o1, q, o2, by rw [Heap.get_alloc, if_neg (by omega)]; exact m5.there q _ (by omega) (by omega) o3, o4⟩
 obtain ⟨v', H7, a1, a2, a3, a4, a5⟩ := j9a (lo := b + 1) o6 f6 (by show b + 1 ≤ H5.next + 1; omega) tk q1 hts
 have two5 := m5.two
 have one5 := m5.one
 have lL := lX5 Tryz.f8 5 6 7 9 10
 conv at lL in (occs := *) (rq _ _) => all_goals simp only [rX, oA, Tryz.f8, dL.o, reduceIte, Nat.reduceEqDiff]
 obtain ⟨l5, l6, l7, l9, l10⟩ := lL
 simp +decide only [↓uR.o, dG.o, ja1, jb1, reduceIte, ↓ja0 l5, ↓ja0 l6, ↓ja0 l7, ↓ja0 l9, ↓ja0 l10, e5, e6, ja3 Tryz.func27 rfl rfl h3, fld1, jb3 h2.here, j0s, jm1, jj9 g0, ja3 Tryz.func28 rfl rfl hc, jq8, jb3 h4.one, tf4, jf8 h4.two, hH5, ju0 two5, j10, j0t, a1]
 refine hx _ H7 v' (e5) (by simp +decide only [ja1, reduceIte]) ⟨⟨?_, fun z w hz => ?_, a5⟩, ?_, h.lb, ?_, a2⟩
 · have := h.ext.next
   have n6 : H5.next + 1 ≤ H7.next := a4
   omega
 · have hzb : z < b := by
     have := h.lb
     by_cases cz : H0.next ≤ z
     · rw [hG.fresh z cz] at hz; cases hz
     · omega
   refine a3 z w (by omega) ?_
   rw [Heap.get_alloc, if_neg (by omega)]
   exact m5.there z w (by omega) (by omega) (h.ext.keep z w hz)
 · refine a3 b _ (by omega) ?_
   rw [Heap.get_alloc, if_neg (by omega)]; exact one5
 · have n6 : H5.next + 1 ≤ H7.next := a4
   omega
end
section
variable {N : Nat} {hk : Hook} {d : Nat} {H0 : Heap} {a : Option Addr} {c : Nat} {s : List UInt8}
theorem ym0 {b : Nat} {Q : R → Prop} {k : KOE} (hG : Ext GE H0) (hr : Brow H0 a s) (hh : NH hk) (hN : s.length < N) {i : Nat} {l : List Tk} {r : Option Nat} (run : TRun s (LexOk N hk (d + 4) a c s) (LexBad N hk (d + 4) a c s) i l r) :
   ∀ (m : Nat) (_ : i ≤ s.length) (_ : l.length < m) {H : Heap} {E : Env} {v : Value} {ts : List Tk} (_ : TS H0 H b a s.length c i v ts) (_ : E 5 = .pointer (some ⟨b, 0, none⟩)) (_ : E 6 = v) (_ : ts.length + l.length ≤ 1048576)
     (_ : r = none → ∀ E' H' v' j, E' 6 = v' → TS H0 H' b a s.length c j v' (ts ++ l) → Q (k (.exit 0) E' [] H'))
     (_ : ∀ e : Nat, r = some e → ∀ E' H', E' 2 = .slice none 0 0 → E' 3 = .int .i64 (e : Int) → E' 4 = .int .i64 60 → Ext H0 H' → Q (k .ret E' [] H')),
     Q (loopE (execG PP XX (CG N hk (d + 4)) N noPr cSI1 none) m E [] H k) := by
 induction run with
 | stop i hs =>
   intro m hi hm H E v ts h e5 e6 hts h1 h2
   obtain ⟨m, rfl⟩ : ∃ q, m = q + 1 := ⟨m - 1, by simp at hm; omega⟩
   rw [ja5]
   exact yu8 hG hr hh hN h hi e5 e6 hs fun E' H' e h' => h1 rfl E' H' v _ e (by rw [List.append_nil]; exact h')
 | wrong i e hs hb =>
   intro m hi hm H E v ts h e5 e6 hts h1 h2
   obtain ⟨m, rfl⟩ : ∃ q, m = q + 1 := ⟨m - 1, by simp at hm; omega⟩
   rw [ja5]
   exact yl9 hG hr hh hN h hi e5 hs hb fun E' H' a2 a3 a4 x => h2 e rfl E' H' a2 a3 a4 x
 | step i tk l r hs hf ht hl hrun ih =>
   intro m hi hm H E v ts h e5 e6 hts h1 h2
   simp only [List.length_cons] at hm hts
   obtain ⟨m, rfl⟩ : ∃ q, m = q + 1 := ⟨m - 1, by omega⟩
   rw [ja5]
   refine yu9 hG hr hh hN h hi e5 e6 (by omega) hs hf hl fun E' H' v' e5' e6' h' => ?_
   rw [jc9]
   refine ih m ht (by omega) h' e5' e6' (by simp only [List.length_append, List.length_cons, List.length_nil]; omega) (fun hn E2 H2 v2 j x y => h1 hn E2 H2 v2 j x ?_) h2
   rw [List.append_assoc] at y
   exact y
theorem yc7 (hf : Fresh H0) : TS H0 (H0.alloc 1 [.slice a s.length c, .int .i64 0]) H0.next a s.length c 0 (.slice none 0 0) [] :=
 ⟨.alloc hf _ _, by rw [Heap.get_alloc, if_pos rfl]; rfl, Nat.le_refl _, by show H0.next < H0.next + 1; omega, .inl ⟨rfl, rfl⟩⟩
theorem j57 (hG : Ext GE H0) (hr : Brow H0 a s) (hh : NH hk) (hN : s.length + 1 < N) (hl : s.length ≤ 1048576) {l : List Tk} {r : Option Nat} (run : TRun s (LexOk N hk (d + 4) a c s) (LexBad N hk (d + 4) a c s) 0 l r) (hlen : l.length ≤ s.length) :
   ∃ H', Ext H0 H' ∧ ∃ v e q, CG N hk (d + 5) 8 #[.slice a s.length c] H0 = some (.ret (.tuple #[v, .int .i64 e, .int .i64 q]), H') ∧
     ((r = none ∧ TkRow H' v l (H0.next + 1) ∧ e = 0 ∧ q = 0) ∨ (∃ w : Nat, r = some w ∧ v = .slice none 0 0 ∧ e = (w : Int) ∧ q = 60)) := by
 have main : ∃ R0 : R, CG N hk (d + 5) 8 #[.slice a s.length c] H0 = R0 ∧ ∃ H', Ext H0 H' ∧ ∃ v e q, R0 = some (.ret (.tuple #[v, .int .i64 e, .int .i64 q]), H') ∧
     ((r = none ∧ TkRow H' v l (H0.next + 1) ∧ e = 0 ∧ q = 0) ∨ (∃ w : Nat, r = some w ∧ v = .slice none 0 0 ∧ e = (w : Int) ∧ q = 60)) := by
   refine ⟨_, jb6 (hh _ _ _ rfl) Tryz.func8 (c := codeOf Tryz.f8) rfl rfl rfl (pr := noPr) rfl, ?_⟩
   rw [code8]
   generalize hF : finE PP Tryz.f8 = F
   have hgt : decide ((s.length : Int) > 1048576) = false := decide_eq_false (by omega)
   have lL := lX6 Tryz.f8 0 1 2 3 4 11
   conv at lL in (occs := *) (rq _ _) => all_goals simp only [rX, oA, Tryz.f8, dL.o, reduceIte, Nat.reduceEqDiff]
   obtain ⟨l0, l1, l2, l3, l4, l11⟩ := lL
   simp +decide only [↓uR.o, dG.o, ja1, reduceIte, ↓ja0 l0, ↓ja0 l1, ↓ja0 l3, ↓ja0 l4, ↓jb4, ja6 (ts := #[22]) rfl und34, hgt, yc5, yu7]
   refine ym0 (Q := fun x => ∃ H', Ext H0 H' ∧ ∃ v e q, x = some (.ret (.tuple #[v, .int .i64 e, .int .i64 q]), H') ∧ ((r = none ∧ TkRow H' v l (H0.next + 1) ∧ e = 0 ∧ q = 0) ∨ (∃ w : Nat, r = some w ∧ v = .slice none 0 0 ∧ e = (w : Int) ∧ q = 60)))
     hG hr hh (by omega) run N (Nat.zero_le _) (by omega) (yc7 hG.fresh) ?_ ?_ (by simp only [List.length_nil]; omega) (fun hn E' H' v' j e6 h' => ?_) (fun e he E' H' e2 e3 e4 x => ?_)
   · simp +decide only [ja1, reduceIte]
   · simp +decide only [ja1, reduceIte]
   · simp +decide only [↓uR.o, dG.o, ja1, reduceIte, ↓ja0 l11, e6]
     refine ⟨H', h'.ext, v', 0, 0, ?_, .inl ⟨hn, h'.out, rfl, rfl⟩⟩
     rw [← hF, jb0 (l := [v', .int .i64 0, .int .i64 0]) (by simp +decide [Tryz.f8, resE, ja1])]
     rfl
   · simp +decide only [dG.o]
     refine ⟨H', x, .slice none 0 0, (e : Int), 60, ?_, .inr ⟨e, he, rfl, rfl, rfl⟩⟩
     rw [← hF, jb0 (l := [.slice none 0 0, .int .i64 (e : Int), .int .i64 60]) (by simp +decide [Tryz.f8, resE, e2, e3, e4])]
     rfl
 obtain ⟨R0, m1, H', m2, v, e, q, m3, m4⟩ := main
 exact ⟨H', m2, v, e, q, m1.trans m3, m4⟩
end
noncomputable abbrev cSP1 : Code := .seq (rF Tryz.f34 2) (.seq (.cond (.tmp 9) .skip (.exit 0)) (.seq (.block 1 (.seq (rF Tryz.f34 3) (.seq (rF Tryz.f34 4) (.cond (.tmp 16) (.seq (rF Tryz.f34 5) .ret) .skip)))) (rF Tryz.f34 6)))
theorem jd3 {α β : Type} (P : Program) (s : Sem α) (f : α → Sem β) : pureRun P (s >>= f) = (pureRun P s).bind fun a => pureRun P (f a) := by
 induction s with
 | pure x => rfl
 | program k ih => exact ih P
 | mark m k ih => exact ih
 | _ => rfl
theorem jd7 {α : Type} (P : Program) (a : α) : pureRun P (pure a) = some a := rfl
theorem jo6 (P : Program) : pureRun P program = some P := rfl
theorem jg7 (o1 o2 : Operand) (a b : List UInt8) : binA PP .eql 9 o1 o2 (.string ⟨⟨a⟩⟩) (.string ⟨⟨b⟩⟩) = some (.bool (decide (a = b))) := by
 unfold binA
 rw [if_pos (by simp [ground, atomic])]
 simp only [eqGuard, binOp, jd3, Op.stringOp]
 simp [jd7]
 rw [Bool.eq_iff_iff]; simp
def findI (w : List UInt8) : List (List UInt8) → Nat → Int
 | [], _ => -1
 | x :: r, i => if w = x then (i : Int) else findI w r (i + 1)
def resI (w : List UInt8) : Int := if findI w wordsL 0 ≥ 0 then 30 + findI w wordsL 0 else 0
theorem jm2 : wordsL.length = 50 := rfl
theorem j0u (w : List UInt8) : ∀ (l : List (List UInt8)) (i : Nat), -1 ≤ findI w l i ∧ findI w l i < (i + l.length : Nat)
 | [], i => by simp [findI]; omega
 | x :: r, i => by
   unfold findI
   have := j0u w r (i + 1)
   split
   · simp; omega
   · simp only [List.length_cons]; omega
theorem und39 : PP.underlying 70 = some (.slice 9) := Tryz.underlying70
theorem sizeS : sizeT PP 9 = some 1 := by decide +kernel
theorem aggS : aggT PP 9 = some false := by decide +kernel
theorem j58 {q i : Nat} (h : i < 50) : indexAddrA PP 70 (.slice (some ⟨q, 0, none⟩) 50 50) (.int .i64 (i : Int)) = some (.pointer (some ⟨q, i, none⟩)) := by
 have e : (⟨q, 0, none⟩ : Addr).add i = ⟨q, i, none⟩ := by rw [Addr.add_lit, Nat.zero_add]
 simp [indexAddrA, sizeS, at_, e]
 omega
theorem yc8 {H : Heap} {q i : Nat} (h : H.get q = some ⟨wordsV, true, 1, none, false⟩) (hi : i < 50) : loadA PP 9 (.pointer (some ⟨q, i, none⟩)) H = some (.string ⟨⟨wordsL.getD i []⟩⟩, H) := by
 have hl : i < wordsL.length := by rw [jm2]; exact hi
 simp only [loadA, aggS]
 simp only [ld1, look, h]
 simp [wordsV, strV, List.getD, hl]
theorem code34 : codeOf Tryz.f34 = .seq (rF Tryz.f34 0) (.seq (.seq (rF Tryz.f34 1) (.block 0 (.loop cSP1))) (.seq (rF Tryz.f34 7) .ret)) := by kernel_rfl
theorem code24 : codeOf Tryz.f24 = .seq (rF Tryz.f24 0) (.seq (.seq (rF Tryz.f24 1) (.seq (rF Tryz.f24 2) (.cond (.tmp 8) (.seq (rF Tryz.f24 3) .ret) .skip))) (.seq (rF Tryz.f24 4) .ret)) := by kernel_rfl
section
variable {K : Kf} {N : Nat} {H : Heap} {q : Nat} {w : List UInt8} {Q : R → Prop} {k : KOE}
theorem yq2 (hq : H.get q = some ⟨wordsV, true, 1, none, false⟩) : ∀ (n i m : Nat) (_ : i + n = 50) (_ : n < m) {E : Env} (_ : E 0 = .slice (some ⟨q, 0, none⟩) 50 50) (_ : E 1 = .string ⟨⟨w⟩⟩) (_ : E 7 = .int .i64 50) (_ : E 8 = .int .i64 (i : Int))
   (_ : findI w (wordsL.drop i) i = -1 → ∀ E', Q (k (.exit 0) E' [] H)) (_ : findI w (wordsL.drop i) i ≥ 0 → ∀ E', E' 4 = .int .i64 (findI w (wordsL.drop i) i) → Q (k .ret E' [] H)), Q (loopE (execG PP XX K N noPr cSP1 none) m E [] H k)
 | 0, i, m + 1, hn, hm, E, e0, e1, e7, e8, h1, h2 => by
   rw [ja5]
   have hi : i = 50 := by omega
   subst hi
   have hlt : decide (((50 : Nat) : Int) < 50) = false := by decide
   have l2 := tl (rgn Tryz.f34 2)
   conv at l2 => rhs; simp only [rgn, oA, codeOf, Tryz.f34, gS, gN, reduceIte, Nat.reduceEqDiff, tA]
   simp +decide only [↓uR.o, dG.o, ↓ja0 l2, e7, e8]
   exact h1 rfl _
 | n + 1, i, m + 1, hn, hm, E, e0, e1, e7, e8, h1, h2 => by
   rw [ja5]
   have hi : i < 50 := by omega
   have hlt : decide ((i : Int) < 50) = true := decide_eq_true (by omega)
   have hix := j58 (q := q) hi
   have hld := yc8 hq hi
   have hl : i < wordsL.length := by rw [jm2]; exact hi
   have hd : wordsL.drop i = wordsL.getD i [] :: wordsL.drop (i + 1) := by
     rw [List.drop_eq_getElem_cons hl]; simp [List.getD, hl]
   have wr : IntKind.i64.wrap ((i : Int) + 1) = ((i + 1 : Nat) : Int) := by rw [ja4 (by omega) (by omega)]; omega
   rw [hd] at h1 h2
   unfold findI at h1 h2
   have lL := lX5 Tryz.f34 2 3 4 5 6
   conv at lL in (occs := *) (rq _ _) => all_goals simp only [rX, oA, Tryz.f34, dL.o, reduceIte, Nat.reduceEqDiff]
   obtain ⟨l2, l3, l4, l5, l6⟩ := lL
   by_cases hw : w = wordsL.getD i []
   · have he : decide (w = wordsL.getD i []) = true := decide_eq_true hw
     rw [if_pos hw] at h2
     simp +decide only [↓uR.o, dG.o, ja1, reduceIte, ↓ja0 l2, ↓ja0 l3, ↓ja0 l4, ↓ja0 l5, e0, e1, e7, e8, hlt, hix, hld, jg7, he]
     exact h2 (by omega) _ (by simp +decide only [ja1, reduceIte])
   · have he : decide (w = wordsL.getD i []) = false := decide_eq_false hw
     rw [if_neg hw] at h1 h2
     simp +decide only [↓uR.o, dG.o, ja1, reduceIte, ↓ja0 l2, ↓ja0 l3, ↓ja0 l4, ↓ja0 l6, e0, e1, e7, e8, hlt, hix, hld, jg7, he, wr]
     exact yq2 hq n (i + 1) m (by omega) (by omega) (e0) (e1) (e7) (by simp +decide only [ja1, reduceIte]) h1 h2
end
theorem yc9 {N : Nat} {hk : Hook} {d : Nat} {H : Heap} {q : Nat} (hq : H.get q = some ⟨wordsV, true, 1, none, false⟩) (w : List UInt8) (hN : 60 < N) (hh : NH hk) :
   CG N hk (d + 1) 34 #[.slice (some ⟨q, 0, none⟩) 50 50, .string ⟨⟨w⟩⟩] H = some (.ret (.int .i64 (findI w wordsL 0)), H) := by
 have main : ∃ R0 : R, CG N hk (d + 1) 34 #[.slice (some ⟨q, 0, none⟩) 50 50, .string ⟨⟨w⟩⟩] H = R0 ∧ R0 = some (.ret (.int .i64 (findI w wordsL 0)), H) := by
   refine ⟨_, jb6 (hh _ _ _ rfl) Tryz.func34 (c := codeOf Tryz.f34) rfl rfl rfl (pr := noPr) rfl, ?_⟩
   rw [code34]
   generalize hF : finE PP Tryz.f34 = F
   have lL := lX3 Tryz.f34 0 1 7
   conv at lL in (occs := *) (rq _ _) => all_goals simp only [rX, oA, Tryz.f34, dL.o, reduceIte, Nat.reduceEqDiff]
   obtain ⟨l0, l1, l7⟩ := lL
   simp +decide only [↓uR.o, dG.o, ja1, reduceIte, ↓ja0 l0, ↓ja0 l1, ↓jb4, ja6 (ts := #[70]) rfl und39]
   refine yq2 (w := w) (Q := fun r => r = some (.ret (.int .i64 (findI w wordsL 0)), H)) hq 50 0 N rfl (by omega) ?_ ?_ ?_ ?_ (fun hf E' => ?_) (fun hf E' e4 => ?_)
   · simp +decide only [ja1, reduceIte, jc7]
   · simp +decide only [ja1, reduceIte, je4]
   · simp +decide only [ja1, reduceIte]; rfl
   · simp +decide only [ja1, reduceIte]; rfl
   · rw [List.drop_zero] at hf
     simp +decide only [↓uR.o, dG.o, ↓ja0 l7]
     rw [← hF, jb0 (l := [.int .i64 (-1)]) (by simp +decide [Tryz.f34, resE, ja1]), hf]
     rfl
   · rw [List.drop_zero] at e4
     simp +decide only [dG.o]
     rw [← hF, jb0 (l := [.int .i64 (findI w wordsL 0)]) (by simp +decide [Tryz.f34, resE, e4])]
     rfl
 obtain ⟨R0, m1, m2⟩ := main
 exact m1.trans m2
noncomputable def litR : Value := match (rgn Tryz.f24 1).toList.head? with
 | some o => (match o.op with | Op.call c => (match c.args.toList with | .const v :: _ => v | _ => undef) | _ => undef)
 | none => undef
theorem yv0 : litR = strV wordsB := by kernel_rfl
theorem ym1 {N : Nat} {hk : Hook} {d : Nat} {H : Heap} (hG : Ext GE H) (w : List UInt8) (hN : 60 < N) (hh : NH hk)
   (hfld : ∀ H, Ext GE H → hk 35 #[strV wordsB] H = some (some (.ret (.slice (some ⟨H.next, 0, none⟩) 50 50), H.alloc 1 wordsV))) :
   ∃ H', Ext H H' ∧ CG N hk (d + 2) 24 #[.string ⟨⟨w⟩⟩] H = some (.ret (.int .i64 (resI w)), H') := by
 refine ⟨H.alloc 1 wordsV, .alloc hG.fresh _ _, ?_⟩
 have hq : (H.alloc 1 wordsV).get H.next = some ⟨wordsV, true, 1, none, false⟩ := by rw [Heap.get_alloc, if_pos rfl]
 have h36 : CG N hk (d + 1) 35 #[strV wordsB] H = some (.ret (.slice (some ⟨H.next, 0, none⟩) 50 50), H.alloc 1 wordsV) := jc1 (hfld H hG)
 rw [← yv0] at h36
 simp only [litR, rgn, oA, codeOf, Tryz.f24, gS, reduceIte, Nat.reduceEqDiff, tA, List.head?_cons] at h36
 have h35 := yc9 (N := N) (hk := hk) (d := d) hq w hN hh
 have hb := j0u w wordsL 0
 rw [jm2] at hb
 refine (jb6 (hh _ _ _ rfl) Tryz.func24 (c := codeOf Tryz.f24) rfl rfl rfl (pr := noPr) rfl).trans ?_
 rw [code24]
 generalize hF : finE PP Tryz.f24 = F
 have lL := lX5 Tryz.f24 0 1 2 3 4
 conv at lL in (occs := *) (rq _ _) => all_goals simp only [rX, oA, Tryz.f24, dL.o, reduceIte, Nat.reduceEqDiff]
 obtain ⟨l0, l1, l2, l3, l4⟩ := lL
 by_cases hf : findI w wordsL 0 ≥ 0
 · have hge : decide (findI w wordsL 0 ≥ 0) = true := decide_eq_true hf
   have wr : IntKind.i64.wrap (30 + findI w wordsL 0) = 30 + findI w wordsL 0 := ja4 (by omega) (by omega)
   simp +decide only [↓uR.o, dG.o, ja1, reduceIte, ↓ja0 l0, ↓ja0 l1, ↓ja0 l2, ↓ja0 l3, ja3 Tryz.func35 rfl rfl h36, ja3 Tryz.func34 rfl rfl h35, hge, wr]
   rw [← hF, jb0 (l := [.int .i64 (30 + findI w wordsL 0)]) (by simp +decide [Tryz.f24, resE, ja1])]
   simp [resI, hf, oneOf]
 · have hge : decide (findI w wordsL 0 ≥ 0) = false := decide_eq_false hf
   simp +decide only [↓uR.o, dG.o, ja1, reduceIte, ↓ja0 l0, ↓ja0 l1, ↓ja0 l2, ↓ja0 l4, ja3 Tryz.func35 rfl rfl h36, ja3 Tryz.func34 rfl rfl h35, hge]
   rw [← hF, jb0 (l := [.int .i64 0]) (by simp +decide [Tryz.f24, resE, ja1])]
   simp [resI, hf, oneOf]
end Go.Am
namespace Go.Am
set_option maxRecDepth 100000
variable {N c b t i d : Nat} {H0 H : Heap} {a : Option Addr} {s : List UInt8} {hk : Hook}
theorem y0e {t j : Nat} {E : Env} {Q : R → Prop} {k : KOE} (x : Ctx H0 a c s b) (h : Curs H0 H b a s.length c i) (e0 : E 0 = .pointer (some ⟨b, 0, none⟩)) (e5 : E 5 = .int .i64 (j : Int)) (hh : NH hk) (hw : isW s i = true) (hi : i = j + 32) (hl : i < s.length) (hx : ∀ E', E' 4 = .bool false → Q (k .ret E' [] H)) :
   Q (execG PP XX (CG N hk (d + 2)) N noPr cSC1 none E [] H k) := by
 have r1 := jf7 (N := N) (hk := hk) (d := d) (h.gg x) (h.row x) h.here 4 hh
 have r2 := jf7 (N := N) (hk := hk) (d := d) (h.gg x) (h.row x) h.here 3 hh
 have hsm := x.row.small
 have w2 : IntKind.i64.wrap ((i : Int) - (j : Int)) = 32 := by rw [ja4 (by omega) (by omega)]; omega
 have heq : ((32 : Int) == 32) = true := rfl
 have lL := lX3 Tryz.f45 2 3 4
 conv at lL in (occs := *) (rq _ _) => all_goals simp only [rX, oA, Tryz.f45, dL.o, reduceIte, Nat.reduceEqDiff]
 obtain ⟨l2, l3, l4⟩ := lL
 cases h4 : isI s i 4 with
 | true =>
   rw [h4] at r1
   simp +decide only [↓uR.o, dG.o, ja1, reduceIte, Bool.not_false, ↓ja0 l2, ↓ja0 l3, ↓ja0 l4, ↓r_no _ 2 false 13 _ jt8, e0, e5, ja3 Tryz.func43 rfl rfl r1, fld1, jb3 h.here, w2, heq]
   exact hx _ (by simp +decide only [ja1, reduceIte])
 | false =>
   have h3 : isI s i 3 = true := by simpa [isW, h4] using hw
   rw [h4] at r1
   rw [h3] at r2
   simp +decide only [↓uR.o, dG.o, ja1, reduceIte, ↓ja0 l2, ↓ja0 l3, ↓ja0 l4, ↓jb8 _ 2 false 13 _ jt8, e0, e5, ja3 Tryz.func43 rfl rfl r1, ja3 Tryz.func43 rfl rfl r2, fld1, jb3 h.here, w2, heq]
   exact hx _ (by simp +decide only [ja1, reduceIte])
theorem yd0 {j : Nat} {Q : R → Prop} {k : KOE} (x : Ctx H0 a c s b) (hh : NH hk) :
   ∀ (n i m : Nat) (_ : j ≤ i) (_ : i ≤ j + 32) (_ : i + n = s.length) (_ : n < m) (_ : j + 32 < runTo s n i) {H : Heap} {E : Env} (_ : Curs H0 H b a s.length c i) (_ : E 0 = .pointer (some ⟨b, 0, none⟩) ∧ E 1 = .pointer (some ⟨t, 0, none⟩) ∧ E 5 = .int .i64 (j : Int)) (_ : ∀ E' H', E' 4 = .bool false → Curs H0 H' b a s.length c (j + 32) → Q (k .ret E' [] H')),
     Q (loopE (execG PP XX (CG N hk (d + 2)) N noPr cSC1 none) m E [] H k)
 | 0, i, m + 1, hj, hj2, hn, hm, hr, H, E, h, ⟨e0, e1, e5⟩, hx => by
   have : runTo s 0 i = i := rfl
   omega
 | n + 1, i, m + 1, hj, hj2, hn, hm, hr, H, E, h, ⟨e0, e1, e5⟩, hx => by
   rw [ja5]
   by_cases hw : isW s i = true
   · by_cases hf : i = j + 32
     · refine y0e (t := t) x h e0 e5 hh hw hf (by omega) fun E' e' => ?_
       rw [jl6]
       exact hx E' H e' (by rw [← hf]; exact h)
     · have e : runTo s (n + 1) i = runTo s n (i + 1) := by rw [runTo, if_pos hw]
       rw [e] at hr
       refine yq0 x h e0 e1 e5 hh hw hj (by omega) (by omega) fun E' e' => ?_
       rw [jc9]
       exact yd0 x hh n (i + 1) m (by omega) (by omega) (by omega) (by omega) hr (h.set (i + 1)) e' hx
   · have e : runTo s (n + 1) i = i := by rw [runTo, if_neg hw]
     omega
theorem Lexd.ext {A B C : Heap} {x y : Blk} (h : Lexd A B b x t y) (k : Ext B C) : Lexd A C b x t y :=
 ⟨Nat.le_trans h.next k.next, k.keep _ _ h.one, k.keep _ _ h.two, fun z w h1 h2 hz => k.keep _ _ (h.there z w h1 h2 hz), k.fresh⟩
theorem yd1 (x : Ctx H0 a c s b) (h : Curs H0 H b a s.length c i)
   (hh : NH hk) (hi : i < s.length) (hN : s.length < N) (he2 : i + 32 < runTo s (s.length - i) i) :
   ∃ H', Curs H0 H' b a s.length c (i + 32) ∧ CG N hk (d + 3) 45 #[.pointer (some ⟨b, 0, none⟩), .pointer (some ⟨t, 0, none⟩)] H = some (.ret (.bool false), H') := by
 have main : ∃ R0 : R, CG N hk (d + 3) 45 #[.pointer (some ⟨b, 0, none⟩), .pointer (some ⟨t, 0, none⟩)] H = R0 ∧ ∃ H', Curs H0 H' b a s.length c (i + 32) ∧ R0 = some (.ret (.bool false), H') := by
   refine ⟨_, jb6 (hh _ _ _ rfl) Tryz.func45 (c := codeOf Tryz.f45) rfl rfl rfl (pr := noPr) rfl, ?_⟩
   rw [code45]
   generalize hF : finE PP Tryz.f45 = F
   have lL := lX2 Tryz.f45 0 1
   conv at lL in (occs := *) (rq _ _) => all_goals simp only [rX, oA, Tryz.f45, dL.o, reduceIte, Nat.reduceEqDiff]
   obtain ⟨l0, l1⟩ := lL
   simp +decide only [↓uR.o, dG.o, ja1, reduceIte, ↓ja0 l0, ↓ja0 l1, ↓jb4, fld1, jb3 h.here]
   refine yd0 (Q := fun r => ∃ H', Curs H0 H' b a s.length c (i + 32) ∧ r = some (.ret (.bool false), H')) (j := i) (t := t) x hh (s.length - i) i N (Nat.le_refl _) (by omega) (by omega) (by omega) he2 h ?_ fun E' H' e' h' => ?_
   · exact ⟨by simp +decide only [ja1, reduceIte, jc7], by simp +decide only [ja1, reduceIte, je4], rfl⟩
   refine ⟨H', h', ?_⟩
   simp +decide only [dG.o]
   rw [← hF, jb0 (l := [.bool false]) (by simp +decide [Tryz.f45, resE, e'])]
   rfl
 obtain ⟨R0, m1, H', m2, m3⟩ := main
 exact ⟨H', m2, m1.trans m3⟩
def wordKT (w : List UInt8) : Int × List UInt8 := if resI w = 0 then (1, w) else (resI w, [])
theorem j9b {e : Nat} {f0 t0 n0 : Int} (x : Ctx H0 a c s b) (h : Curs H0 H b a s.length c i) (hbt : t ≠ b) (htl : t < H0.next) (ht : H0.get t = some (tok 0 n0 .empty f0 t0))
   (hh : NH hk) (hi : i < s.length) (hc : s.length ≤ c) (hN : s.length < N) (hN2 : 60 < N) (he : e = runTo s (s.length - i) i) (he2 : e ≤ i + 32) (w : List UInt8) (hw : w = (s.drop i).take (e - i))
   (hfld : ∀ H, Ext GE H → hk 35 #[strV wordsB] H = some (some (.ret (.slice (some ⟨H.next, 0, none⟩) 50 50), H.alloc 1 wordsV))) :
   ∃ H', Lexd H0 H' b (cur a s.length c e) t (tok (wordKT w).1 n0 ⟨⟨(wordKT w).2⟩⟩ f0 t0) ∧ CG N hk (d + 3) 45 #[.pointer (some ⟨b, 0, none⟩), .pointer (some ⟨t, 0, none⟩)] H = some (.ret (.bool true), H') := by
 have main : ∃ R0 : R, CG N hk (d + 3) 45 #[.pointer (some ⟨b, 0, none⟩), .pointer (some ⟨t, 0, none⟩)] H = R0 ∧ ∃ H', Lexd H0 H' b (cur a s.length c e) t (tok (wordKT w).1 n0 ⟨⟨(wordKT w).2⟩⟩ f0 t0) ∧ R0 = some (.ret (.bool true), H') := by
   refine ⟨_, jb6 (hh _ _ _ rfl) Tryz.func45 (c := codeOf Tryz.f45) rfl rfl rfl (pr := noPr) rfl, ?_⟩
   rw [code45]
   generalize hF : finE PP Tryz.f45 = F
   have lL := lX7 Tryz.f45 0 1 6 7 8 9 10
   conv at lL in (occs := *) (rq _ _) => all_goals simp only [rX, oA, Tryz.f45, dL.o, reduceIte, Nat.reduceEqDiff]
   obtain ⟨l0, l1, l6, l7, l8, l9, l10⟩ := lL
   simp +decide only [↓uR.o, dG.o, ja1, reduceIte, ↓ja0 l0, ↓ja0 l1, ↓jb4, fld1, jb3 h.here]
   refine yq1 (Q := fun r => ∃ H', Lexd H0 H' b (cur a s.length c e) t (tok (wordKT w).1 n0 ⟨⟨(wordKT w).2⟩⟩ f0 t0) ∧ r = some (.ret (.bool true), H')) (j := i) (t := t) x hh (s.length - i) i N (Nat.le_refl _) (by omega) (by omega) (by rw [← he]; exact he2) h ?_ fun E' H' e' h' => ?_
   · exact ⟨by simp +decide only [ja1, reduceIte, jc7], by simp +decide only [ja1, reduceIte, je4], rfl⟩
   rw [← he] at h'
   obtain ⟨e0, e1, e5⟩ := e'
   have hle := jk7 s (s.length - i) i
   rw [← he] at hle
   have hel : e ≤ s.length := by omega
   have two := h'.two hbt ht
   have row := h'.row x
   obtain ⟨y, rfl⟩ : ∃ y, a = some y := by
     cases a with
     | none => exact absurd (row.nil rfl) (by intro e; rw [e] at hi; simp at hi)
     | some y => exact ⟨y, rfl⟩
   obtain ⟨q, hsl⟩ := yc0 row hle.1 hel hc
   have hcv := yl6 (q := q) (row.mid hle.1 hel)
   have hlen : ((s.drop i).take (e - i)).length = e - i := by simp; omega
   rw [hlen, ← hw] at hcv
   have hcv : convertA PP 22 9 (.slice (some (y.add i)) (e - i) q) H' = some (.string ⟨⟨w⟩⟩, H') := hcv
   obtain ⟨H2, x2, hcall⟩ := ym1 (N := N) (hk := hk) (d := d) (h'.gg x) w hN2 hh hfld
   have lx := (two.lexd x.gg.fresh x.lt htl).ext x2
   have l2 : t < H2.next := Nat.lt_of_lt_of_le htl lx.next
   have lx1 := lx.set2 hbt l2 (tok (resI w) n0 .empty f0 t0)
   by_cases hr : resI w = 0
   · have z0 : ((resI w) == 0) = true := by simp [hr]
     have lx2 := lx1.set2 hbt (by exact l2) (tok 1 n0 .empty f0 t0)
     have lx3 := lx2.set2 hbt (by exact l2) (tok 1 n0 ⟨⟨w⟩⟩ f0 t0)
     have ek : wordKT w = (1, w) := by rw [wordKT, if_pos hr]
     rw [ek]
     refine ⟨_, lx3, ?_⟩
     simp +decide only [↓uR.o, dG.o, ja1, jb1, reduceIte, ↓ja0 l6, ↓ja0 l7, ↓ja0 l8, ↓ja0 l9, ↓ja0 l10, e0, e1, e5, fld0, fld1, tf0, tf2, jc0 h'.here, jb3 h'.here, Option.map_some, Option.map_none, hsl, hcv, ja3 Tryz.func24 rfl rfl hcall, jd0 lx.two, ji5 lx1.two, z0, jd0 lx1.two, jj2 lx2.two]
     rw [← hF, jb0 (l := [.bool true]) (by simp +decide [Tryz.f45, resE, ja1])]
     rfl
   · have z0 : ((resI w) == 0) = false := by simp [hr]
     have ek : wordKT w = (resI w, []) := by rw [wordKT, if_neg hr]
     rw [ek]
     refine ⟨_, lx1, ?_⟩
     simp +decide only [↓uR.o, dG.o, ja1, jb1, reduceIte, ↓ja0 l6, ↓ja0 l7, ↓ja0 l8, ↓ja0 l10, e0, e1, e5, fld0, fld1, tf0, jc0 h'.here, jb3 h'.here, Option.map_some, Option.map_none, hsl, hcv, ja3 Tryz.func24 rfl rfl hcall, jd0 lx.two, ji5 lx1.two, z0]
     rw [← hF, jb0 (l := [.bool true]) (by simp +decide [Tryz.f45, resE, ja1])]
     rfl
 obtain ⟨R0, m1, H', m2, m3⟩ := main
 exact ⟨H', m2, m1.trans m3⟩
end Go.Am
namespace Go.Proofs
open Go.Shelf
def Tryz.lays264_ren : Go.Shelf.Ren := ⟨fun | 264 => 83 | n => n, fun | 53 => 40 | 46 => 68 | n => n, fun | n => n⟩
theorem Tryz.lays264 : Go.Proofs.Lays.n264 Tryz.prog Tryz.lays264_ren := {
 mixed := by kernel_rfl
 f264 := Tryz.func83.trans (congrArg some (by kernel_rfl))
 t46 := Tryz.underlying68
 a46 := Tryz.isAgg68
 z46 := Tryz.sizeOf68
 v46 := Tryz.zeroValue68
 t53 := Tryz.underlying40
 a53 := Tryz.isAgg40
 z53 := Tryz.sizeOf40
 v53 := Tryz.zeroValue40 }
theorem Tryz.bits_Mul64 (x y : Nat) (hx : x < 18446744073709551616) (hy : y < 18446744073709551616) (w : World) :
   Calls Tryz.prog 83 #[.int .u64 x, .int .u64 y] w fun e w' => e = .returned (.tuple #[.int .u64 ((x * y / 18446744073709551616 : Nat) : Int), .int .u64 ((x * y % 18446744073709551616 : Nat) : Int)]) ∧ w' = w := Any.bits_Mul64 Tryz.lays264 x y hx hy w
end Go.Proofs
namespace Go.Am
def mulV (x y : Nat) : Value := .tuple #[.int .u64 ((x * y / 18446744073709551616 : Nat) : Int), .int .u64 ((x * y % 18446744073709551616 : Nat) : Int)]
def hookM : Hook := fun f args H =>
 cond (Nat.beq f 83) (match args.toList with
   | [.int .u64 x, .int .u64 y] => cond (decide (0 ≤ x) && decide (x < 18446744073709551616) && (decide (0 ≤ y) && decide (y < 18446744073709551616))) (some (some (.ret (mulV x.toNat y.toNat), H))) none
   | _ => none) none
theorem j59 : HookSnd PP hookM := by
 intro f args H r H' he m w args' hrel hgl hargs
 unfold hookM at he
 cases hf : Nat.beq f 83 with
 | false => rw [hf] at he; simp at he
 | true =>
 rw [hf] at he
 obtain rfl := Nat.eq_of_beq_eq_true hf
 simp only [cond_true] at he
 split at he
 · rename_i x y hs
   cases h1 : (decide (0 ≤ x) && decide (x < 18446744073709551616) && (decide (0 ≤ y) && decide (y < 18446744073709551616))) with
   | false => rw [h1] at he; simp at he
   | true =>
   rw [h1] at he
   simp only [cond_true, Option.some.injEq, Prod.mk.injEq] at he
   obtain ⟨rfl, rfl⟩ := he
   simp only [Bool.and_eq_true, decide_eq_true_eq] at h1
   have e := hargs.eq_of_atomic (by rw [hs]; rfl)
   subst e
   have ea : args' = #[.int .u64 x, .int .u64 y] := by cases args'; simp_all
   subst ea
   have ex : ((x.toNat : Nat) : Int) = x := by omega
   have ey : ((y.toNat : Nat) : Int) = y := by omega
   have hc := Go.Proofs.Tryz.bits_Mul64 x.toNat y.toNat (by omega) (by omega) w
   rw [ex, ey] at hc
   refine hc.mono fun e w' ⟨he, hw⟩ => ?_
   subst he
   subst hw
   refine ⟨m, ?_, Step.still hrel rfl rfl rfl (Nat.le_refl _) (fun _ _ => rfl)⟩
   refine .tuple _ _ rfl fun i a b => ?_
   have : i = 0 ∨ i = 1 := by simp at a; omega
   rcases this with rfl | rfl <;> exact .atom _ rfl
 · simp at he
set_option maxRecDepth 100000
def m64 : Nat := 18446744073709551616
theorem yv1 (x y : Nat) (H : Heap) : XX 84 #[.int .u64 (x : Int), .int .u64 (y : Int), .int .u64 0] H = some (.tuple #[.int .u64 (((x + y) % m64 : Nat) : Int), .int .u64 (((x + y) / m64 : Nat) : Int)], H) := by
 have h : XX 84 #[.int .u64 (x : Int), .int .u64 (y : Int), .int .u64 0] H = some (.tuple #[.int .u64 (Int.ofNat (((x : Int).toNat + (y : Int).toNat + (0 : Int).toNat) % 18446744073709551616)), .int .u64 (Int.ofNat (((x : Int).toNat + (y : Int).toNat + (0 : Int).toNat) / 18446744073709551616))], H) := by kernel_rfl
 rw [h]
 simp [m64]
theorem code63 : codeOf Tryz.f63 = .seq (rF Tryz.f63 0) (.seq (rF Tryz.f63 1) (.seq (rF Tryz.f63 2) (.seq (rF Tryz.f63 3) .ret))) := by kernel_rfl
theorem j67 : ((rgn Tryz.f63 3)[3]?).bind (·.dst) = some 27 := by kernel_rfl
theorem j4i {N : Nat} {hk : Hook} {d : Nat} {H : Heap} (n f g : Nat) (hn : n < m64) (hf : f < m64) (hg : g < m64) (hh : NH hk)
   (hm : ∀ x y H, x < m64 → y < m64 → hk 83 #[.int .u64 ((x : Nat) : Int), .int .u64 ((y : Nat) : Int)] H = some (some (.ret (mulV x y), H))) :
   CG N hk (d + 2) 63 #[.int .u64 (n : Int), .int .u64 (f : Int), .int .u64 (g : Int)] H = some (.ret (.tuple #[.int .u64 (((n * f + g) % m64 : Nat) : Int), .bool (decide (n * f + g < m64))]), H) := by
 have hmul : CG N hk (d + 1) 83 #[.int .u64 (n : Int), .int .u64 (f : Int)] H = some (.ret (mulV n f), H) := jc1 (hm n f H hn hf)
 unfold mulV at hmul
 have hadd := yv1 (n * f % 18446744073709551616) g H
 have e0 : ∀ (u v : Value), extractA (.tuple #[u, v]) 0 = some u := fun _ _ => rfl
 have e1 : ∀ (u v : Value), extractA (.tuple #[u, v]) 1 = some v := fun _ _ => rfl
 refine (jb6 (hh _ _ _ rfl) Tryz.func63 (c := codeOf Tryz.f63) rfl rfl rfl (pr := noPr) rfl).trans ?_
 rw [code63]
 generalize hF : finE PP Tryz.f63 = F
 have hs : (n * f % 18446744073709551616 + g) % m64 = (n * f + g) % m64 := by unfold m64; omega
 have z : ∀ q : Nat, (((q : Nat) : Int) == 0) = decide (q = 0) := fun q => by
   rw [Bool.eq_iff_iff, beq_iff_eq, decide_eq_true_eq]; omega
 unfold m64 at hn hf hg
 have lL := lX4 Tryz.f63 0 1 2 3
 conv at lL in (occs := *) (rq _ _) => all_goals simp only [rX, oA, Tryz.f63, dL.o, reduceIte, Nat.reduceEqDiff]
 obtain ⟨l0, l1, l2, l3⟩ := lL
 by_cases h1 : n * f / 18446744073709551616 = 0
 · have z1 := z (n * f / 18446744073709551616)
   rw [decide_eq_true h1] at z1
   have z2 := z ((n * f % 18446744073709551616 + g) / m64)
   simp +decide only [↓uR.o, dG.o, ja1, reduceIte, ↓ja0 l0, ↓ja0 l1, ↓ja0 l2, ↓ja0 l3, ↓jb8 _ 3 true 27 _ j67, ja3 Tryz.func83 rfl rfl hmul, e0, e1, j4a Tryz.func84 rfl rfl hadd, z1, z2, hs]
   rw [← hF, jb0 (l := [.int .u64 (((n * f + g) % m64 : Nat) : Int), .bool (decide ((n * f % 18446744073709551616 + g) / m64 = 0))]) (by simp +decide [Tryz.f63, resE, ja1])]
   have e : decide ((n * f % 18446744073709551616 + g) / m64 = 0) = decide (n * f + g < m64) := by
     unfold m64
     by_cases q : n * f + g < 18446744073709551616
     · rw [decide_eq_true q]; exact decide_eq_true (by omega)
     · rw [decide_eq_false q]; exact decide_eq_false (by omega)
   rw [e]; rfl
 · have z1 := z (n * f / 18446744073709551616)
   rw [decide_eq_false h1] at z1
   simp +decide only [↓uR.o, dG.o, ja1, reduceIte, Bool.not_true, ↓ja0 l0, ↓ja0 l1, ↓ja0 l2, ↓ja0 l3, ↓r_no _ 3 true 27 _ j67, ja3 Tryz.func83 rfl rfl hmul, e0, e1, j4a Tryz.func84 rfl rfl hadd, z1, hs]
   rw [← hF, jb0 (l := [.int .u64 (((n * f + g) % m64 : Nat) : Int), .bool false]) (by simp +decide [Tryz.f63, resE, ja1])]
   have e : decide (n * f + g < m64) = false := decide_eq_false (by unfold m64; omega)
   rw [e]; rfl
def scopeK (c : Code) (body : Option Nat → Env → List Deferred → Heap → KOE → R) (n : Nat) (k : KOE) : KOE := fun o E ds H => match o with | .goto l => cond (hasLabel l c) (scopeE c body n (some l) E ds H k) (k (.goto l) E ds H) | o => k o E ds H
theorem je6 (c : Code) (body : Option Nat → Env → List Deferred → Heap → KOE → R) (n : Nat) (s : Option Nat) (E : Env) (ds : List Deferred) (H : Heap) (k : KOE) : scopeE c body (n + 1) s E ds H k = body s E ds H (scopeK c body n k) := id rfl
theorem je1 (c : Code) (body : Option Nat → Env → List Deferred → Heap → KOE → R) (n : Nat) (k : KOE) (E : Env) (ds : List Deferred) (H : Heap) : scopeK c body n k .ret E ds H = k .ret E ds H := id rfl
theorem jh1 {c : Code} {l : Nat} (h : hasLabel l c = true) (body : Option Nat → Env → List Deferred → Heap → KOE → R) (n : Nat) (k : KOE) (E : Env) (ds : List Deferred) (H : Heap) : scopeK c body n k (.goto l) E ds H = scopeE c body n (some l) E ds H k := by simp only [scopeK, h, cond_true]
section
variable {P : Program} {X : Xf} {K : Kf} {N : Nat} {pr : Nat → List (Nat × Nat)}
theorem jk0 (b : Code) (E : Env) (ds : List Deferred) (H : Heap) (k : KOE) : execG P X K N pr (.scope b) none E ds H k = scopeE b (execG P X K N pr b) N none E ds H k := by rw [execG]
theorem jf1 (l : Nat) (E : Env) (ds : List Deferred) (H : Heap) (k : KOE) : execG P X K N pr (.goto l) none E ds H k = k (.goto l) E ds H := by rw [execG]
theorem jh7 (l : Nat) (E : Env) (ds : List Deferred) (H : Heap) (k : KOE) : execG P X K N pr (.label l) none E ds H k = k .norm E ds H := by rw [execG]
theorem j4j (l : Nat) (E : Env) (ds : List Deferred) (H : Heap) (k : KOE) : execG P X K N pr (.label l) (some l) E ds H k = k .norm E ds H := by rw [execG]; simp
theorem j4k (l : Nat) (x y : Code) (E : Env) (ds : List Deferred) (H : Heap) (k : KOE) (h : hasLabel l x = true) : execG P X K N pr (.seq x y) (some l) E ds H k = execG P X K N pr x (some l) E ds H (thenE (execG P X K N pr y none) k) := by rw [execG, h]; rfl
theorem jd8 (l : Nat) (x y : Code) (E : Env) (ds : List Deferred) (H : Heap) (k : KOE) (h : hasLabel l x = false) : execG P X K N pr (.seq x y) (some l) E ds H k = execG P X K N pr y (some l) E ds H k := by rw [execG, h]; rfl
end
theorem jh8 (b2 : Env → List Deferred → Heap → KOE → R) (k : KOE) (l : Nat) (E : Env) (ds : List Deferred) (H : Heap) : thenE b2 k (.goto l) E ds H = k (.goto l) E ds H := id rfl
theorem j6a (i : Nat) (k : KOE) (l : Nat) (E : Env) (ds : List Deferred) (H : Heap) : leaveB i k (.goto l) E ds H = k (.goto l) E ds H := id rfl
noncomputable abbrev cST37 : Code := .seq (rF Tryz.f44 8) (.cond (.tmp 82) (.seq (rF Tryz.f44 9) .ret) .skip)
noncomputable abbrev cST36 : Code := .seq (rF Tryz.f44 27) (.cond (.tmp 172) (.seq (rF Tryz.f44 28) .ret) .skip)
noncomputable abbrev cST35 : Code := .seq (rF Tryz.f44 16) (.cond (.tmp 144) (.seq (rF Tryz.f44 17) .ret) .skip)
noncomputable abbrev cST34 : Code := .seq (rF Tryz.f44 13) (.cond (.tmp 131) (.seq (rF Tryz.f44 14) .ret) .skip)
noncomputable abbrev cST33 : Code := .seq (rT Tryz.f44 7) cST37
noncomputable abbrev cST32 : Code := .seq (rF Tryz.f44 26) cST36
noncomputable abbrev cST31 : Code := .seq (rT Tryz.f44 12) cST34
noncomputable abbrev cST30 : Code := .seq (rT Tryz.f44 3) (.cond (.tmp 50) (.seq (rF Tryz.f44 4) (.seq (rF Tryz.f44 5) (.goto 0))) .skip)
noncomputable abbrev cST29 : Code := .seq (.seq (rF Tryz.f44 21) (.cond (.tmp 157) (.exit 1) .skip)) (.seq (rF Tryz.f44 22) (.cond (.tmp 159) (.exit 2) .skip))
noncomputable abbrev cST28 : Code := .seq cST32 (rF Tryz.f44 29)
noncomputable abbrev cST27 : Code := .seq cST33 (.seq (rF Tryz.f44 10) (.goto 1))
noncomputable abbrev cST26 : Code := .seq cST29 (.exit 3)
noncomputable abbrev cST25 : Code := .seq cST31 (.seq (rF Tryz.f44 15) (.goto 0))
noncomputable abbrev cST24 : Code := .block 1 cST26
noncomputable abbrev cST23 : Code := .seq cST24 (rF Tryz.f44 23)
noncomputable abbrev cST22 : Code := .seq (rF Tryz.f44 6) (.cond (.tmp 63) cST27 .skip)
noncomputable abbrev cST21 : Code := .block 2 cST23
noncomputable abbrev cST20 : Code := .seq (rT Tryz.f44 11) (.cond (.tmp 113) cST25 .skip)
noncomputable abbrev cST19 : Code := .seq cST21 (.seq (rF Tryz.f44 24) (.exit 0))
noncomputable abbrev cST18 : Code := .block 3 cST19
noncomputable abbrev cST17 : Code := .seq cST18 (.seq (.seq (rF Tryz.f44 25) .ret) (.exit 0))
noncomputable abbrev cST16 : Code := .block 0 cST17
noncomputable abbrev cST15 : Code := .seq (rT Tryz.f44 20) cST16
noncomputable abbrev cST14 : Code := .seq cST15 cST28
noncomputable abbrev cST13 : Code := .seq (rF Tryz.f44 19) cST14
noncomputable abbrev cST12 : Code := .seq (rF Tryz.f44 18) (.cond (.tmp 146) cST13 .skip)
noncomputable abbrev cST11 : Code := .seq cST12 (.seq (rF Tryz.f44 30) (.seq (rF Tryz.f44 31) .ret))
noncomputable abbrev cST10 : Code := .seq (.label 2) cST11
noncomputable abbrev cST9 : Code := .seq cST35 cST10
noncomputable abbrev cST8 : Code := .seq cST20 cST9
noncomputable abbrev cST7 : Code := .seq (.label 0) cST8
noncomputable abbrev cST6 : Code := .seq (.goto 2) cST7
noncomputable abbrev cST5 : Code := .seq cST22 cST6
noncomputable abbrev cST4 : Code := .seq (.label 1) cST5
noncomputable abbrev cST3 : Code := .seq cST30 cST4
noncomputable abbrev cST2 : Code := .seq (rF Tryz.f44 2) cST3
noncomputable abbrev cST1 : Code := .seq (rT Tryz.f44 1) cST2
inductive IR where
 | bad (e : Nat)
 | good (n e : Nat)
def endI (s : List UInt8) (i n : Nat) : IR := if isW s i then .bad i else .good n i
def mulI (s : List UInt8) (i n f : Nat) : IR := if n * f < m64 then endI s (i + 1) (n * f) else .bad i
theorem yd2 {s : List UInt8} {i n f : Nat} (h : n * f < m64) : mulI s i n f = endI s (i + 1) (n * f) := by unfold mulI; exact if_pos h
theorem yd3 {s : List UInt8} {i n f : Nat} (h : ¬ n * f < m64) : mulI s i n f = .bad i := by unfold mulI; exact if_neg h
def sufI (s : List UInt8) (i n : Nat) : IR := if isI s i 4 then (if s.getD i 0 = 77 then mulI s i n 1048576 else if s.getD i 0 = 75 then mulI s i n 1024 else .bad i) else endI s i n
def Fin (H0 : Heap) (a : Option Addr) (l c b t : Nat) (kd : Int) (w : ByteArray) (f0 t0 : Int) (r : IR) (E' : Env) (H' : Heap) : Prop :=
 match r with
 | .bad e => E' 4 = .bool false ∧ ∃ y, Two H0 H' b (cur a l c e) t y
 | .good n e => E' 4 = .bool true ∧ Two H0 H' b (cur a l c e) t (tok kd (n : Int) w f0 t0)
theorem tf1 (b : Nat) : fieldAddrA PP 42 (.pointer (some ⟨b, 0, none⟩)) 1 = some (.pointer (some ⟨b, 1, none⟩)) := by kernel_rfl
theorem size27 : sizeT PP 40 = some 1 := by decide +kernel
theorem j0v {H : Heap} {b : Nat} {k n f e : Int} {w : ByteArray} (h : H.get b = some (tok k n w f e)) (n' : Int) : storeA PP 40 (.pointer (some ⟨b, 1, none⟩)) (.int .u64 n') H = some (undef, H.set b (tok k n' w f e)) := by
 simp only [storeA, size27, stV]
 simp [Value.cells, st, look, h, tok, over, Value.oneCell']
theorem shl1 (x y : Operand) : binA PP .shl 40 x y (.int .u64 1) (.int .u64 10) = some (.int .u64 1024) := by kernel_rfl
theorem shl2 (x y : Operand) : binA PP .shl 40 x y (.int .u64 1024) (.int .u64 10) = some (.int .u64 1048576) := by kernel_rfl
theorem Two.row {H0 H : Heap} {b t : Nat} {x y : Blk} {a : Option Addr} {c : Nat} {s : List UInt8} (h : Two H0 H b x t y) (k : Ctx H0 a c s b) (ht : ∀ q, a = some q → q.block ≠ t) : Brow H a s := by
 refine ⟨fun q hq => ?_, k.row.nil, k.row.small⟩
 obtain ⟨z, h1, h2⟩ := k.row.row q hq
 refine ⟨z, ?_, h2⟩
 have hn := h.there q.block (k.ne q hq) (ht q hq)
 unfold look at h1 ⊢
 rw [hn]; exact h1
theorem Two.gg {H0 H : Heap} {b t : Nat} {x y : Blk} {a : Option Addr} {c : Nat} {s : List UInt8} (h : Two H0 H b x t y) (k : Ctx H0 a c s b) (htl : t < H0.next) (ht : GE.next ≤ t) : Ext GE H :=
 (h.lexd k.gg.fresh k.lt htl).gg k ht
theorem j24 {N : Nat} {hk : Hook} {d : Nat} {H : Heap} (n f g r : Nat) (fi gi : Int) (hfi : (f : Int) = fi) (hgi : (g : Int) = gi) (hn : n < m64) (hf : f < m64) (hg : g < m64) (hr : r = n * f + g) (ov : r < m64) (hh : NH hk)
   (hm : ∀ x y H, x < m64 → y < m64 → hk 83 #[.int .u64 ((x : Nat) : Int), .int .u64 ((y : Nat) : Int)] H = some (some (.ret (mulV x y), H))) :
   CG N hk (d + 2) 63 #[.int .u64 (n : Int), .int .u64 fi, .int .u64 gi] H = some (.ret (.tuple #[.int .u64 (r : Int), .bool true]), H) := by
 subst hfi hgi hr
 have := j4i (N := N) (hk := hk) (d := d) (H := H) n f g hn hf hg hh hm
 rw [decide_eq_true ov, Nat.mod_eq_of_lt ov] at this
 exact this
theorem j25 {N : Nat} {hk : Hook} {d : Nat} {H : Heap} (n f g r : Nat) (fi gi : Int) (hfi : (f : Int) = fi) (hgi : (g : Int) = gi) (hn : n < m64) (hf : f < m64) (hg : g < m64) (hr : r = n * f + g) (ov : ¬ r < m64) (hh : NH hk)
   (hm : ∀ x y H, x < m64 → y < m64 → hk 83 #[.int .u64 ((x : Nat) : Int), .int .u64 ((y : Nat) : Int)] H = some (some (.ret (mulV x y), H))) :
   ∃ v : Int, CG N hk (d + 2) 63 #[.int .u64 (n : Int), .int .u64 fi, .int .u64 gi] H = some (.ret (.tuple #[.int .u64 v, .bool false]), H) := by
 subst hfi hgi hr
 have := j4i (N := N) (hk := hk) (d := d) (H := H) n f g hn hf hg hh hm
 rw [decide_eq_false ov] at this
 exact ⟨_, this⟩
theorem code44 : codeOf Tryz.f44 = .seq (rF Tryz.f44 0) (.scope cST1) := by kernel_rfl
theorem ju1 : ((rgn Tryz.f44 3)[11]?).bind (·.dst) = some 24 := by kernel_rfl
theorem ju2 : ((rgn Tryz.f44 3)[24]?).bind (·.dst) = some 37 := by kernel_rfl
theorem jj3 : ((rgn Tryz.f44 11)[10]?).bind (·.dst) = some 100 := by kernel_rfl
theorem j0w : ((rgn Tryz.f44 31)[3]?).bind (·.dst) = some 187 := by kernel_rfl
section
theorem yv2 {N : Nat} {H0 H : Heap} {a : Option Addr} {c : Nat} {s : List UInt8} {b t i n : Nat} {E : Env} {Q : R → Prop} {k : KOE} {hk : Hook} {d : Nat} {kd f0 t0 : Int} {w : ByteArray} {n0 : Int} (x : Ctx H0 a c s b) (h : Curs H0 H b a s.length c i) (hbt : t ≠ b) (ht : H0.get t = some (tok kd n0 w f0 t0)) (hh : NH hk) (htl : t < H0.next) (htg : GE.next ≤ t) (hrt : ∀ q, a = some q → q.block ≠ t) (e0 : E 0 = .pointer (some ⟨b, 0, none⟩)) (e1 : E 1 = .pointer (some ⟨t, 0, none⟩)) (e7 : E 7 = .int .u64 (n : Int))
   (hx : ∀ E' H', Fin H0 a s.length c b t kd w f0 t0 (endI s i n) E' H' → Q (k .ret E' [] H')) :
   Q (execG PP XX (CG N hk (d + 2)) N noPr (.seq (rF Tryz.f44 30) (.seq (rF Tryz.f44 31) .ret)) none E [] H k) := by
 have two := h.two hbt ht
 have two1 := two.set hbt (tok kd (n : Int) w f0 t0)
 have r1 := jf7 (N := N) (hk := hk) (d := d) (two1.gg x htl htg) (two1.row x hrt) two1.one 4 hh
 have r2 := jf7 (N := N) (hk := hk) (d := d) (two1.gg x htl htg) (two1.row x hrt) two1.one 3 hh
 have lL := lX2 Tryz.f44 30 31
 conv at lL in (occs := *) (rq _ _) => all_goals simp only [rX, oA, Tryz.f44, dL.o, reduceIte, Nat.reduceEqDiff]
 obtain ⟨l30, l31⟩ := lL
 cases h4 : isI s i 4 with
 | true =>
   rw [h4] at r1
   simp +decide only [↓uR.o, dG.o, ja1, jb1, reduceIte, Bool.not_true, ↓ja0 l30, ↓ja0 l31, ↓r_no _ 3 true 187 _ j0w, e0, e1, e7, tf1, j0v two.two, ja3 Tryz.func43 rfl rfl r1, jq8]
   refine hx _ _ ?_
   rw [endI, if_pos (by simp [isW, h4])]
   exact ⟨rfl, _, two1⟩
 | false =>
   rw [h4] at r1
   cases h3 : isI s i 3 with
   | true =>
     rw [h3] at r2
     simp +decide only [↓uR.o, dG.o, ja1, jb1, reduceIte, ↓ja0 l30, ↓ja0 l31, ↓jb8 _ 3 true 187 _ j0w, e0, e1, e7, tf1, j0v two.two, ja3 Tryz.func43 rfl rfl r1, ja3 Tryz.func43 rfl rfl r2, jq8, j23]
     refine hx _ _ ?_
     rw [endI, if_pos (by simp [isW, h3])]
     exact ⟨rfl, _, two1⟩
   | false =>
     rw [h3] at r2
     simp +decide only [↓uR.o, dG.o, ja1, jb1, reduceIte, ↓ja0 l30, ↓ja0 l31, ↓jb8 _ 3 true 187 _ j0w, e0, e1, e7, tf1, j0v two.two, ja3 Tryz.func43 rfl rfl r1, ja3 Tryz.func43 rfl rfl r2, j23]
     refine hx _ _ ?_
     rw [endI, if_neg (by simp [isW, h3, h4])]
     exact ⟨rfl, two1⟩
theorem y1n {N : Nat} {H0 H : Heap} {a : Option Addr} {c : Nat} {s : List UInt8} {b t i n : Nat} {E : Env} {Q : R → Prop} {k : KOE} {hk : Hook} {d : Nat} {kd f0 t0 : Int} {w : ByteArray} {n0 : Int} (x : Ctx H0 a c s b) (h : Curs H0 H b a s.length c i) (hbt : t ≠ b) (ht : H0.get t = some (tok kd n0 w f0 t0)) (hh : NH hk) (htl : t < H0.next) (htg : GE.next ≤ t) (hrt : ∀ q, a = some q → q.block ≠ t) (hm : ∀ x y H, x < m64 → y < m64 → hk 83 #[.int .u64 ((x : Nat) : Int), .int .u64 ((y : Nat) : Int)] H = some (some (.ret (mulV x y), H))) (hn : n < m64) (e0 : E 0 = .pointer (some ⟨b, 0, none⟩)) (e1 : E 1 = .pointer (some ⟨t, 0, none⟩)) (e7 : E 7 = .int .u64 (n : Int))
   (hx : ∀ E' H', Fin H0 a s.length c b t kd w f0 t0 (sufI s i n) E' H' → Q (k .ret E' [] H')) :
   Q (execG PP XX (CG N hk (d + 2)) N noPr cST11 none E [] H k) := by
 have r1 := jf7 (N := N) (hk := hk) (d := d) (h.gg x) (h.row x) h.here 4 hh
 have hsm := x.row.small
 have two := h.two hbt ht
 have m1 : (1024 : Nat) < m64 := by decide
 have m2 : (1048576 : Nat) < m64 := by decide
 have m0 : (0 : Nat) < m64 := by decide
 have q0 : ∀ (u v : Value), extractA (.tuple #[u, v]) 0 = some u := fun _ _ => rfl
 have q1 : ∀ (u v : Value), extractA (.tuple #[u, v]) 1 = some v := fun _ _ => rfl
 have lL : _ ∧ _ := ⟨lX8 Tryz.f44 18 19 20 21 22 23 24 25, lX4 Tryz.f44 26 27 28 29⟩
 conv at lL in (occs := *) (rq _ _) => all_goals simp only [rX, oA, Tryz.f44, dL.o, reduceIte, Nat.reduceEqDiff]
 obtain ⟨⟨l18, l19, l20, l21, l22, l23, l24, l25⟩, ⟨l26, l27, l28, l29⟩⟩ := lL
 cases h4 : isI s i 4 with
 | false =>
   rw [h4] at r1
   have es : sufI s i n = endI s i n := by rw [sufI, h4]; rfl
   rw [es] at hx
   simp +decide only [↓uR.o, dG.o, ja1, reduceIte, ↓ja0 l18, e0, ja3 Tryz.func43 rfl rfl r1]
   refine yv2 x h hbt ht hh htl htg hrt ?_ ?_ ?_ hx
   all_goals simp +decide only [ja1, reduceIte, e0, e1, e7]
 | true =>
   rw [h4] at r1
   have hi : i < s.length := by
     by_cases q : i < s.length
     · exact q
     · simp [isI, q] at h4
   have w1 : IntKind.i64.wrap ((i : Int) + 1) = ((i + 1 : Nat) : Int) := by rw [ja4 (by omega) (by omega)]; omega
   obtain ⟨y, rfl, hl⟩ := (h.row x).bts.cell i hi
   have hix := jc4 (n := s.length) (c := c) (a := y) hi
   have hgd : s.getD i 0 = s[i] := by simp [List.getD, hi]
   have z77 : ((s[i].toNat : Int) == 77) = decide (s[i] = 77) := ja7 s[i] 77
   have z75 : ((s[i].toNat : Int) == 75) = decide (s[i] = 75) := ja7 s[i] 75
   rw [sufI, h4, hgd] at hx
   simp only [if_true] at hx
   by_cases c77 : s[i] = 77
   · rw [decide_eq_true c77] at z77
     rw [if_pos c77] at hx
     by_cases ov : n * 1048576 < m64
     · have hmo := j24 (N := N) (hk := hk) (d := d) (H := H) n 1048576 0 (n * 1048576) 1048576 0 (by omega) (by omega) hn m2 m0 (Nat.add_zero _).symm ov hh hm
       rw [yd2 (s := s) (i := i) (n := n) (f := 1048576) ov] at hx
       simp +decide only [↓uR.o, dG.o, ja1, jb1, reduceIte, ↓ja0 l18, ↓ja0 l19, ↓ja0 l20, ↓ja0 l21, ↓ja0 l23, ↓ja0 l24, ↓ja0 l26, ↓ja0 l27, ↓ja0 l29, Nat.reduceBEq, e0, e7, ja3 Tryz.func43 rfl rfl r1, fld0, fld1, jc0 h.here, jb3 h.here, hix, jb7 hl, z77, shl1, shl2, ja3 Tryz.func63 rfl rfl hmo, q0, q1, jq8, w1, jd1 h.here]
       refine yv2 x (h.set (i + 1)) hbt ht hh htl htg hrt ?_ ?_ ?_ hx
       all_goals simp +decide only [ja1, reduceIte, e0, e1, e7]
     · obtain ⟨vv, hmo⟩ := j25 (N := N) (hk := hk) (d := d) (H := H) n 1048576 0 (n * 1048576) 1048576 0 (by omega) (by omega) hn m2 m0 (Nat.add_zero _).symm ov hh hm
       rw [yd3 (s := s) (i := i) (n := n) (f := 1048576) ov] at hx
       simp +decide only [↓uR.o, dG.o, ja1, reduceIte, ↓ja0 l18, ↓ja0 l19, ↓ja0 l20, ↓ja0 l21, ↓ja0 l23, ↓ja0 l24, ↓ja0 l26, ↓ja0 l27, ↓ja0 l28, Nat.reduceBEq, e0, e7, ja3 Tryz.func43 rfl rfl r1, fld0, fld1, jc0 h.here, jb3 h.here, hix, jb7 hl, z77, shl1, shl2, ja3 Tryz.func63 rfl rfl hmo, q0, q1, j23]
       exact hx _ _ ⟨rfl, _, two⟩
   · rw [decide_eq_false c77] at z77
     rw [if_neg c77] at hx
     by_cases c75 : s[i] = 75
     · rw [decide_eq_true c75] at z75
       rw [if_pos c75] at hx
       by_cases ov : n * 1024 < m64
       · have hmo := j24 (N := N) (hk := hk) (d := d) (H := H) n 1024 0 (n * 1024) 1024 0 (by omega) (by omega) hn m1 m0 (Nat.add_zero _).symm ov hh hm
         rw [yd2 (s := s) (i := i) (n := n) (f := 1024) ov] at hx
         simp +decide only [↓uR.o, dG.o, ja1, jb1, reduceIte, ↓ja0 l18, ↓ja0 l19, ↓ja0 l20, ↓ja0 l21, ↓ja0 l22, ↓ja0 l24, ↓ja0 l26, ↓ja0 l27, ↓ja0 l29, Nat.reduceBEq, e0, e7, ja3 Tryz.func43 rfl rfl r1, fld0, fld1, jc0 h.here, jb3 h.here, hix, jb7 hl, z77, z75, shl1, ja3 Tryz.func63 rfl rfl hmo, q0, q1, jq8, w1, jd1 h.here]
         refine yv2 x (h.set (i + 1)) hbt ht hh htl htg hrt ?_ ?_ ?_ hx
         all_goals simp +decide only [ja1, reduceIte, e0, e1, e7]
       · obtain ⟨vv, hmo⟩ := j25 (N := N) (hk := hk) (d := d) (H := H) n 1024 0 (n * 1024) 1024 0 (by omega) (by omega) hn m1 m0 (Nat.add_zero _).symm ov hh hm
         rw [yd3 (s := s) (i := i) (n := n) (f := 1024) ov] at hx
         simp +decide only [↓uR.o, dG.o, ja1, reduceIte, ↓ja0 l18, ↓ja0 l19, ↓ja0 l20, ↓ja0 l21, ↓ja0 l22, ↓ja0 l24, ↓ja0 l26, ↓ja0 l27, ↓ja0 l28, Nat.reduceBEq, e0, e7, ja3 Tryz.func43 rfl rfl r1, fld0, fld1, jc0 h.here, jb3 h.here, hix, jb7 hl, z77, z75, shl1, ja3 Tryz.func63 rfl rfl hmo, q0, q1, j23]
         exact hx _ _ ⟨rfl, _, two⟩
     · rw [decide_eq_false c75] at z75
       rw [if_neg c75] at hx
       simp +decide only [↓uR.o, dG.o, ja1, reduceIte, ↓ja0 l18, ↓ja0 l19, ↓ja0 l20, ↓ja0 l21, ↓ja0 l22, ↓ja0 l25, Nat.reduceBEq, e0, ja3 Tryz.func43 rfl rfl r1, fld0, fld1, jc0 h.here, jb3 h.here, hix, jb7 hl, z77, z75]
       exact hx _ _ ⟨rfl, _, two⟩
end
theorem cls3 (u : UInt8) (h : clsI u = 3) : 48 ≤ u.toNat ∧ u.toNat ≤ 57 := by
 have hall : (List.range 256).all (fun n => !(decide (clsI (UInt8.ofNat n) = 3)) || (decide (48 ≤ n) && decide (n ≤ 57))) = true := by decide +kernel
 have := List.all_eq_true.mp hall u.toNat (List.mem_range.mpr u.toNat_lt)
 have e : UInt8.ofNat u.toNat = u := by simp
 rw [e, h] at this
 simpa using this
theorem jn1 (u : Nat) : 0 ≤ hexT u := by
 unfold hexT
 repeat' split
 all_goals omega
theorem j6b (u : Nat) : hexT u ≤ 16 := by
 unfold hexT
 repeat' split
 all_goals omega
def dg (u : UInt8) : Nat := u.toNat - 48
def decI (s : List UInt8) : Nat → Nat → Nat → IR
 | 0, i, n => sufI s i n
 | k + 1, i, n => if isI s i 3 then (if n * 10 + dg (s.getD i 0) < m64 then decI s k (i + 1) (n * 10 + dg (s.getD i 0)) else .bad i) else sufI s i n
theorem yq3 {s : List UInt8} {f i n : Nat} {u : UInt8} (h3 : isI s i 3 = true) (hu : s.getD i 0 = u) (ov : n * 10 + dg u < m64) : decI s (f + 1) i n = decI s f (i + 1) (n * 10 + dg u) := by
 subst hu
 unfold decI
 rw [h3, if_pos rfl, if_pos ov]
 cases f <;> rfl
theorem yq4 {s : List UInt8} {f i n : Nat} {u : UInt8} (h3 : isI s i 3 = true) (hu : s.getD i 0 = u) (ov : ¬ n * 10 + dg u < m64) : decI s (f + 1) i n = .bad i := by
 subst hu
 unfold decI
 rw [h3, if_pos rfl, if_neg ov]
def endH (s : List UInt8) (fr i n : Nat) : IR := if i = fr then .bad i else sufI s i n
def hexI (s : List UInt8) (fr : Nat) : Nat → Nat → Nat → IR
 | 0, i, n => endH s fr i n
 | k + 1, i, n => if hexT (s.getD i 0).toNat < 16 then (if n * 16 + (hexT (s.getD i 0).toNat).toNat < m64 then hexI s fr k (i + 1) (n * 16 + (hexT (s.getD i 0).toNat).toNat) else .bad i) else endH s fr i n
theorem jn2 (x : Int) (H : Heap) : convertA PP 5 40 (.int .u8 x) H = some (.int .u64 (IntKind.u64.wrap x), H) := by kernel_rfl
theorem jd9 {x : Int} (h0 : 0 ≤ x) (h1 : x < 18446744073709551616) : IntKind.u64.wrap x = x := by rw [IntKind.wrap_u64]; omega
theorem ju3 {x : Int} (h0 : 0 ≤ x) (h1 : x < 256) : IntKind.u8.wrap x = x := by
 simp only [IntKind.wrap, IntKind.bits, IntKind.signed]
 simp
 omega
section jumps
variable {K : Kf} {N : Nat}
theorem jmp1 (E : Env) (ds : List Deferred) (H : Heap) (k : KOE) : execG PP XX K N noPr cST1 (some 1) E ds H k = execG PP XX K N noPr cST5 none E ds H k := by
 rw [jd8 _ _ _ _ _ _ _ rfl, jd8 _ _ _ _ _ _ _ rfl, jd8 _ _ _ _ _ _ _ rfl, j4k _ _ _ _ _ _ _ rfl, j4j, jc9]
theorem jmp0 (E : Env) (ds : List Deferred) (H : Heap) (k : KOE) : execG PP XX K N noPr cST1 (some 0) E ds H k = execG PP XX K N noPr cST8 none E ds H k := by
 rw [jd8 _ _ _ _ _ _ _ rfl, jd8 _ _ _ _ _ _ _ rfl, jd8 _ _ _ _ _ _ _ rfl, jd8 _ _ _ _ _ _ _ rfl, jd8 _ _ _ _ _ _ _ rfl, jd8 _ _ _ _ _ _ _ rfl, j4k _ _ _ _ _ _ _ rfl, j4j, jc9]
theorem jmp2 (E : Env) (ds : List Deferred) (H : Heap) (k : KOE) : execG PP XX K N noPr cST1 (some 2) E ds H k = execG PP XX K N noPr cST11 none E ds H k := by
 rw [jd8 _ _ _ _ _ _ _ rfl, jd8 _ _ _ _ _ _ _ rfl, jd8 _ _ _ _ _ _ _ rfl, jd8 _ _ _ _ _ _ _ rfl, jd8 _ _ _ _ _ _ _ rfl, jd8 _ _ _ _ _ _ _ rfl, jd8 _ _ _ _ _ _ _ rfl, jd8 _ _ _ _ _ _ _ rfl, jd8 _ _ _ _ _ _ _ rfl, j4k _ _ _ _ _ _ _ rfl, j4j, jc9]
end jumps
theorem lab0 : hasLabel 0 cST1 = true := by rfl
theorem lab1 : hasLabel 1 cST1 = true := by rfl
theorem lab2 : hasLabel 2 cST1 = true := by rfl
theorem j68 {N : Nat} {H0 : Heap} {a : Option Addr} {c : Nat} {s : List UInt8} {b t : Nat} {Q : R → Prop} {k : KOE} {hk : Hook} {d : Nat} {kd f0 t0 : Int} {w : ByteArray} {n0 : Int} (x : Ctx H0 a c s b) (hbt : t ≠ b) (ht : H0.get t = some (tok kd n0 w f0 t0)) (hh : NH hk) (htl : t < H0.next) (htg : GE.next ≤ t) (hrt : ∀ q, a = some q → q.block ≠ t) (hm : ∀ x y H, x < m64 → y < m64 → hk 83 #[.int .u64 ((x : Nat) : Int), .int .u64 ((y : Nat) : Int)] H = some (some (.ret (mulV x y), H))) {H : Heap} {E : Env} {i n m : Nat} (h : Curs H0 H b a s.length c i) (hn : n < m64) (he : (E 0 = .pointer (some ⟨b, 0, none⟩) ∧ E 1 = .pointer (some ⟨t, 0, none⟩) ∧ E 7 = .int .u64 (n : Int)))
   (hx : ∀ E' H', Fin H0 a s.length c b t kd w f0 t0 (sufI s i n) E' H' → Q (k .ret E' [] H')) : Q (execG PP XX (CG N hk (d + 2)) N noPr cST11 none E [] H (scopeK cST1 (execG PP XX (CG N hk (d + 2)) N noPr cST1) m k)) := by
 refine y1n x h hbt ht hh htl htg hrt hm hn he.1 he.2.1 he.2.2 fun E' H' hf => ?_
 rw [je1]
 exact hx E' H' hf
theorem j69 {N : Nat} {H0 : Heap} {a : Option Addr} {c : Nat} {s : List UInt8} {b t : Nat} {Q : R → Prop} {k : KOE} {hk : Hook} {d : Nat} {kd f0 t0 : Int} {w : ByteArray} {n0 : Int} (x : Ctx H0 a c s b) (hbt : t ≠ b) (ht : H0.get t = some (tok kd n0 w f0 t0)) (hh : NH hk) (htl : t < H0.next) (htg : GE.next ≤ t) (hrt : ∀ q, a = some q → q.block ≠ t) (hm : ∀ x y H, x < m64 → y < m64 → hk 83 #[.int .u64 ((x : Nat) : Int), .int .u64 ((y : Nat) : Int)] H = some (some (.ret (mulV x y), H))) :
   ∀ (f i n m : Nat) (_ : i + f = s.length) (_ : f < m) (_ : n < m64) {H : Heap} {E : Env} (_ : Curs H0 H b a s.length c i) (_ : (E 0 = .pointer (some ⟨b, 0, none⟩) ∧ E 1 = .pointer (some ⟨t, 0, none⟩) ∧ E 7 = .int .u64 (n : Int)))
     (_ : ∀ E' H', Fin H0 a s.length c b t kd w f0 t0 (decI s f i n) E' H' → Q (k .ret E' [] H')), Q (execG PP XX (CG N hk (d + 2)) N noPr cST5 none E [] H (scopeK cST1 (execG PP XX (CG N hk (d + 2)) N noPr cST1) m k))
 | 0, i, n, m + 1, hf, hmm, hn, H, E, h, ⟨e0, e1, e7⟩, hx => by
   have r1 := jf7 (N := N) (hk := hk) (d := d) (h.gg x) (h.row x) h.here 3 hh
   have h3 : isI s i 3 = false := by simp [isI]; omega
   rw [h3] at r1
   have l6 := tl (rgn Tryz.f44 6)
   conv at l6 => rhs; simp only [rgn, oA, codeOf, Tryz.f44, gS, gN, reduceIte, Nat.reduceEqDiff, tA]
   simp +decide only [↓uR.o, dG.o, ja1, reduceIte, ↓ja0 l6, ↓jf1, jh8, e0, ja3 Tryz.func43 rfl rfl r1]
   rw [jh1 lab2, je6, jmp2]
   exact j68 x hbt ht hh htl htg hrt hm h hn ⟨by simp +decide only [ja1, reduceIte, e0], by simp +decide only [ja1, reduceIte, e1], by simp +decide only [ja1, reduceIte, e7]⟩ hx
 | f + 1, i, n, m + 1, hf, hmm, hn, H, E, h, ⟨e0, e1, e7⟩, hx => by
   have a1 : i + 1 + f = s.length := by omega
   have a2 : f < m := by omega
   have r1 := jf7 (N := N) (hk := hk) (d := d) (h.gg x) (h.row x) h.here 3 hh
   have hsm := x.row.small
   have lL := lX5 Tryz.f44 6 7 8 9 10
   conv at lL in (occs := *) (rq _ _) => all_goals simp only [rX, oA, Tryz.f44, dL.o, reduceIte, Nat.reduceEqDiff]
   obtain ⟨l6, l7, l8, l9, l10⟩ := lL
   cases h3 : isI s i 3 with
   | false =>
     rw [h3] at r1
     have es : decI s (f + 1) i n = sufI s i n := by unfold decI; rw [h3]; rfl
     rw [es] at hx
     simp +decide only [↓uR.o, dG.o, ja1, reduceIte, ↓ja0 l6, ↓jf1, jh8, e0, ja3 Tryz.func43 rfl rfl r1]
     rw [jh1 lab2, je6, jmp2]
     exact j68 x hbt ht hh htl htg hrt hm h hn ⟨by simp +decide only [ja1, reduceIte, e0], by simp +decide only [ja1, reduceIte, e1], by simp +decide only [ja1, reduceIte, e7]⟩ hx
   | true =>
     rw [h3] at r1
     have hi : i < s.length := by omega
     have hgd : s.getD i 0 = s[i] := by simp [List.getD, hi]
     have hc3 : clsI s[i] = 3 := by
       have := h3
       simp only [isI, Bool.and_eq_true, hgd] at this
       simpa using this.2
     obtain ⟨b1, b2⟩ := cls3 _ hc3
     obtain ⟨y, rfl, hl⟩ := (h.row x).bts.cell i hi
     have hix := jc4 (n := s.length) (c := c) (a := y) hi
     have w1 : IntKind.i64.wrap ((i : Int) + 1) = ((i + 1 : Nat) : Int) := by rw [ja4 (by omega) (by omega)]; omega
     have w2 : IntKind.u8.wrap ((s[i].toNat : Int) - 48) = (dg s[i] : Int) := by rw [ju3 (by omega) (by omega)]; unfold dg; omega
     have w3 : IntKind.u64.wrap (dg s[i] : Int) = (dg s[i] : Int) := jd9 (by omega) (by unfold dg; omega)
     have hd : dg s[i] < m64 := by unfold dg m64; omega
     have m10 : (10 : Nat) < m64 := by decide
     have q0 : ∀ (u v : Value), extractA (.tuple #[u, v]) 0 = some u := fun _ _ => rfl
     have q1 : ∀ (u v : Value), extractA (.tuple #[u, v]) 1 = some v := fun _ _ => rfl
     by_cases ov : n * 10 + dg s[i] < m64
     · have hmo := j24 (N := N) (hk := hk) (d := d) (H := H) n 10 (dg s[i]) (n * 10 + dg s[i]) 10 (dg s[i] : Int) (by omega) rfl hn m10 hd rfl ov hh hm
       have es : decI s (f + 1) i n = decI s f (i + 1) (n * 10 + dg s[i]) := by exact yq3 h3 hgd ov
       rw [es] at hx
       simp +decide only [↓uR.o, dG.o, ja1, jb1, reduceIte, ↓ja0 l6, ↓ja0 l7, ↓ja0 l8, ↓ja0 l10, ↓jf1, jh8, e0, e7, ja3 Tryz.func43 rfl rfl r1, fld0, fld1, jc0 h.here, jb3 h.here, hix, jb7 hl, w2, jn2, w3, ja3 Tryz.func63 rfl rfl hmo, q0, q1, jq8, w1, jd1 h.here]
       clear w1 w2 w3 hmo
       rw [jh1 lab1]
       rw [je6, jmp1]
       exact j69 x hbt ht hh htl htg hrt hm f (i + 1) (n * 10 + dg s[i]) m a1 a2 ov (h.set (i + 1)) ⟨by simp +decide only [ja1, reduceIte, e0], by simp +decide only [ja1, reduceIte, e1], by simp +decide only [ja1, reduceIte, e7]⟩ hx
     · obtain ⟨vv, hmo⟩ := j25 (N := N) (hk := hk) (d := d) (H := H) n 10 (dg s[i]) (n * 10 + dg s[i]) 10 (dg s[i] : Int) (by omega) rfl hn m10 hd rfl ov hh hm
       have es : decI s (f + 1) i n = .bad i := by exact yq4 h3 hgd ov
       rw [es] at hx
       simp +decide only [↓uR.o, dG.o, ja1, reduceIte, ↓ja0 l6, ↓ja0 l7, ↓ja0 l8, ↓ja0 l9, e0, e7, ja3 Tryz.func43 rfl rfl r1, fld0, fld1, jc0 h.here, jb3 h.here, hix, jb7 hl, w2, jn2, w3, ja3 Tryz.func63 rfl rfl hmo, q0, q1, j23, je1]
       exact hx _ _ ⟨by simp +decide only [ja1, reduceIte], _, h.two hbt ht⟩
end Go.Am
