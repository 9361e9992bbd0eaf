/- A word. -/
import Derived.Test.YtmliebodadgpbaaGreatDoorM05
import Derived.Shelf.Bits.Mul64
import Derived.Laws.Externs
open Go.Proofs
namespace Go.Am
variable {H : Heap} {a : Option Addr} {s : List UInt8} {c i : Nat}
set_option maxRecDepth 100000
theorem jh3 : ∀ s : List UInt8, bytesOf (s.map fun u => Value.int .u8 (u.toNat : Int)) = some s
 | [] => rfl
 | u :: s => by simp [bytesOf, jh3 s]
theorem jn4 (h : Brow H a s) {i j c : Nat} (hij : i ≤ j) (hj : j ≤ s.length) (hc : s.length ≤ c) :
   ∃ a' c', sliceOpA PP 34 (.slice a s.length c) (some (.int .i64 (i : Int))) (some (.int .i64 (j : Int))) none H = some (.slice a' ((s.drop i).take (j - i)).length c') ∧ Brow H a' ((s.drop i).take (j - i)) ∧ ((s.drop i).take (j - i)).length ≤ c' := by
 have hl : ((s.drop i).take (j - i)).length = j - i := by simp; omega
 have hz : sizeT PP 5 = some 1 := by decide +kernel
 have hs := h.small
 cases a with
 | none =>
   have := h.nil rfl
   subst this
   refine ⟨none, 0, ?_, ⟨fun _ => by simp, (fun _ e => by cases e), by simp⟩, by simp⟩
   simp only [sliceOpA, Tryz.underlying34, hz, sliceA]
   rw [if_pos ⟨by omega, by omega, by simp at hj; omega⟩]
   simp
 | some y =>
   obtain ⟨cs, r, e, h1, h2, h3⟩ := h.row y rfl
   have ea : y.add i = ⟨y.block, y.off + i, none⟩ := by
     obtain ⟨q, o, p⟩ := y
     cases e
     simp only [Addr.add]; split <;> simp_all
   refine ⟨some (y.add i), c - i, ?_, ⟨(fun e => by cases e), fun z hz => ?_, by omega⟩, by omega⟩
   · rw [hl]
     have hlk : look H y = some ⟨cs, r, 1, none⟩ := by rw [e]; simp [look, h1]
     simp only [sliceOpA, Tryz.underlying34, hz, sliceA, hlk]
     rw [if_pos ⟨by omega, by omega, by omega⟩]
     simp
   · cases hz
     rw [ea]
     refine ⟨cs, r, rfl, h1, by rw [hl]; show y.off + i + _ ≤ _; omega, fun k hk => ?_⟩
     rw [hl] at hk
     have := h3 (i + k) (by omega)
     show cs[y.off + i + k]? = _
     rw [Nat.add_assoc, this]
     simp
theorem jl9 (h : Brow H a s) : convertA PP 34 9 (.slice a s.length c) H = some (strV s, H) := by
 have : strOf H a s.length = some ⟨⟨s⟩⟩ := by
   cases a with
   | none => rw [h.nil rfl]; rfl
   | some y =>
     obtain ⟨cs, r, e, h1, h2, h3⟩ := h.row y rfl
     have hlk : look H y = some ⟨cs, r, 1, none⟩ := by rw [e]; simp [look, h1]
     simp only [strOf, hlk]
     by_cases h0 : s.length = 0
     · rw [if_pos h0, List.length_eq_zero_iff.1 h0]; rfl
     · rw [if_neg h0, if_pos h2]
       have : (cs.drop y.off).take s.length = s.map fun u => Value.int .u8 (u.toNat : Int) := by
         refine List.ext_getElem? fun j => ?_
         rw [List.getElem?_take, List.getElem?_map]
         by_cases hj : j < s.length
         · rw [if_pos hj, List.getElem?_drop, h3 j hj, List.getElem?_eq_getElem hj]; rfl
         · rw [if_neg hj, List.getElem?_eq_none (by omega)]; rfl
       rw [this, jh3]
 simp only [convertA, Tryz.underlying34, Tryz.underlying9, Tryz.underlying5, this]; rfl
theorem Brow.keep {H' : Heap} (h : Brow H a s) (hk : ∀ y, a = some y → H'.get y.block = H.get y.block) : Brow H' a s :=
 ⟨h.nil, fun y hy => by rw [hk y hy]; exact h.row y hy, h.small⟩
abbrev tok (kind n : Int) (w : ByteArray) (from_ to_ : Int) : Blk := ⟨[.int .i64 kind, .int .u64 n, .string w, .int .i64 from_, .int .i64 to_], true, 1, none⟩
structure Tk where
 kind : Int
 n : Int
 w : ByteArray
 from_ : Nat
 to_ : Nat
inductive LR where
 | bad (e : Nat)
 | good (k : Tk)
structure Lx (H : Heap) (a : Option Addr) (c : Nat) (s : List UInt8) (b t i : Nat) : Prop where
 x : Ctx H a s b
 here : H.get b = some (cur a s.length c i)
 lex : H.get t = some (tok 0 0 .empty (i : Int) 0)
 tb : t ≠ b
 low : 12 ≤ t
 ne : ∀ y, a = some y → y.block ≠ t
 cap : s.length ≤ c
def lexK (H : Heap) (a : Option Addr) (c : Nat) (s : List UInt8) (b t : Nat) (r : LR) (k : KV) : Prop :=
 match r with
 | .bad e => ∀ y n, H.next ≤ n → k (.bool false) (((H.set b (cur a s.length c e)).set t y).to n)
 | .good tk => ∀ n, H.next ≤ n → k (.bool true) (((H.set b (cur a s.length c tk.to_)).set t (tok tk.kind tk.n tk.w (tk.from_ : Int) 0)).to n)
def isW (s : List UInt8) (i : Nat) : Bool := isI s i 4 || isI s i 3
def runTo (s : List UInt8) : Nat → Nat → Nat
 | 0, i => i
 | n + 1, i => if isW s i then runTo s n (i + 1) else i
theorem ji3 (s : List UInt8) : ∀ n i, i ≤ runTo s n i ∧ runTo s n i ≤ i + n
 | 0, i => ⟨Nat.le_refl _, Nat.le_refl _⟩
 | n + 1, i => by
   unfold runTo
   split
   · have := ji3 s n (i + 1); omega
   · omega
def wordKT (w : List UInt8) : Int × List UInt8 := if resI w = 0 then (1, w) else (resI w, [])
def wordI (s : List UInt8) (i : Nat) : LR :=
 if runTo s (s.length - i) i ≤ i + 32 then .good ⟨(wordKT ((s.drop i).take (runTo s (s.length - i) i - i))).1, 0, ⟨⟨(wordKT ((s.drop i).take (runTo s (s.length - i) i - i))).2⟩⟩, i, runTo s (s.length - i) i⟩ else .bad (i + 32)
theorem jh0 {k : Int} (h : isI s i k = true) : i < s.length := by simp [isI] at h; exact h.1
theorem Lx.bad {b t e : Nat} {k : KV} (l : Lx H a c s b t i) (h : ∀ y n, H.next ≤ n → k (.bool false) (((H.set b (cur a s.length c e)).set t y).to n)) : k (.bool false) (H.set b (cur a s.length c e)) := by
 have := h (tok 0 0 .empty (i : Int) 0) H.next (Nat.le_refl _)
 rwa [Heap.set_same (H := H.set b _) (by rw [Heap.get_set, if_neg l.tb]; exact l.lex)] at this
theorem yg9 {b t : Nat} (l : Lx H a c s b t i) (hi : i ≤ s.length) {k : KV} {kp : KP} (hk : lexK H a c s b t (wordI s i) k) :
   callW PP 50 #[.pointer (some ⟨b, 0, none⟩), .pointer (some ⟨t, 0, none⟩)] H k kp := by
 refine run 2 rfl Tryz.func50 (pr := noPr) (by decide +kernel) (by kernel_rfl) ?_
 have hs := l.x.row.small
 have tb : (t = b) = False := eq_false l.tb
 simp +decide only [zf50.o, ↓G.o, reduceIte, l.here]
 unfold wordI at hk
 generalize hT : runTo s (s.length - i) i = T at hk
 have hg := ji3 s (s.length - i) i
 refine ja6 (I := fun m E ds H' => ds = [] ∧ (E 0 = .pointer (some ⟨b, 0, none⟩) ∧ E 1 = .pointer (some ⟨t, 0, none⟩) ∧ E 5 = .int .i64 (i : Int)) ∧ ∃ j, i ≤ j ∧ j ≤ s.length ∧ j ≤ i + 32 ∧ H' = H.set b (cur a s.length c j) ∧ s.length - j = m ∧ runTo s m j = T) (i := s.length - i) ?_ ⟨rfl, ⟨?_, ?_, ?_⟩, i, Nat.le_refl _, hi, by omega, (Heap.set_same l.here).symm, rfl, hT⟩
 · rintro Z m E _ _ ⟨rfl, ⟨e0, e1, e5⟩, j, hj1, hj2, hj3, rfl, hm, hT⟩ hZ
   have x' := l.x.set (cur a s.length c j)
   have hb' := Heap.get_self H b (cur a s.length c j)
   have hsub : IntKind.i64.wrap ((j : Int) - (i : Int)) = ((j - i : Nat) : Int) := by rw [ja8 (by omega) (by omega)]; omega
   have h32 : (((j - i : Nat) : Int) == 32) = decide (j = i + 32) := by rw [Bool.eq_iff_iff]; simp; omega
   have full : isW s j = true → ∀ E', E' 0 = .pointer (some ⟨b, 0, none⟩) ∧ E' 1 = .pointer (some ⟨t, 0, none⟩) ∧ E' 5 = .int .i64 (i : Int) → j ≠ i + 32 → Z E' [] (H.set b (cur a s.length c (j + 1))) := fun hw E' he hne => by
     have hl : j < s.length := by simp [isW] at hw; rcases hw with h | h <;> exact jh0 h
     obtain ⟨m', rfl⟩ : ∃ m', m = m' + 1 := ⟨m - 1, by omega⟩
     rw [runTo, if_pos hw] at hT
     exact hZ m' _ _ _ (by omega) ⟨rfl, he, j + 1, by omega, by omega, by omega, rfl, by omega, hT⟩
   have long : isW s j = true → j = i + 32 → k (.bool false) (H.set b (cur a s.length c j)) := fun hw hj => by
     have hl : j < s.length := by simp [isW] at hw; rcases hw with h | h <;> exact jh0 h
     obtain ⟨m', rfl⟩ : ∃ m', m = m' + 1 := ⟨m - 1, by omega⟩
     rw [runTo, if_pos hw] at hT
     have := ji3 s m' (j + 1)
     rw [if_neg (by omega)] at hk
     exact l.bad (hj ▸ hk)
   have hjl : isW s j = true → j < s.length := fun hw => by simp [isW] at hw; rcases hw with h | h <;> exact jh0 h
   have w1 : isW s j = true → IntKind.i64.wrap ((j : Int) + 1) = ((j + 1 : Nat) : Int) := fun hw => ja1 (by have := hjl hw; omega)
   simp +decide only [zf50.o, ↓G.o, reduceIte, e0]
   refine is_w x' hb' _ ?_
   cases h4 : isI s j 4 with
   | true =>
     have hw : isW s j = true := by simp [isW, h4]
     by_cases h : j = i + 32
     · simp +decide only [zf50.o, ↓G.o, reduceIte, e0, e5, hsub, h32, decide_eq_true h]
       exact long hw h
     · simp +decide only [zf50.o, ↓G.o, reduceIte, e0, e5, hsub, h32, decide_eq_false h, w1 hw]
       refine full hw _ ⟨?_, ?_, ?_⟩ h <;> simp +decide only [↓G.o, reduceIte, e0, e1, e5]
   | false =>
     simp +decide only [zf50.o, ↓G.o, reduceIte, e0]
     refine is_w x' hb' _ ?_
     cases h3 : isI s j 3 with
     | true =>
       have hw : isW s j = true := by simp [isW, h3]
       by_cases h : j = i + 32
       · simp +decide only [zf50.o, ↓G.o, reduceIte, e0, e5, hsub, h32, decide_eq_true h]
         exact long hw h
       · simp +decide only [zf50.o, ↓G.o, reduceIte, e0, e5, hsub, h32, decide_eq_false h, w1 hw]
         refine full hw _ ⟨?_, ?_, ?_⟩ h <;> simp +decide only [↓G.o, reduceIte, e0, e1, e5]
     | false =>
       have hw : isW s j = false := by simp [isW, h3, h4]
       have : j = T := by cases m <;> simpa [runTo, hw] using hT
       subst this
       rw [if_pos hj3] at hk
       obtain ⟨a', c', q1, q2, q3⟩ := jn4 x'.row hj1 hj2 l.cap
       simp +decide only [zf50.o, ↓G.o, reduceIte, e0, e1, e5, Option.map_some, Option.map_none, q1, jl9 q2]
       refine j9t x'.tabs _ ?_
       unfold wordKT at hk
       generalize (s.drop i).take (j - i) = w at hk ⊢
       by_cases h : resI w = 0
       · rw [if_pos h] at hk
         have h' : (resI w == 0) = true := by simpa using h
         simp +decide only [zf50.o, ↓G.o, reduceIte, e1, tb, Heap.get_set, l.lex, h', strV]
         exact hk (H.next + 1) (Nat.le_succ _)
       · rw [if_neg h] at hk
         have h' : (resI w == 0) = false := by simpa using h
         simp +decide only [zf50.o, ↓G.o, reduceIte, e1, tb, Heap.get_set, l.lex, h']
         exact hk (H.next + 1) (Nat.le_succ _)
 all_goals simp +decide only [↓G.o, reduceIte]
end Go.Am
namespace Go.Am
variable {H : Heap} {b t : Nat}
set_option maxRecDepth 100000
theorem Ans.ext {P : Program} {f : FuncId} {fn : Func} {e : Array Value → Sem Value} (hf : P.funcs[f]? = some fn) (hn : (fn.name == "runtime.NumGoroutine") = false) (hb : fn.body = none) (h1 : Extern.findNext fn = none) (h2 : Extern.find fn = some e)
   {args : Array Value} (ha : args.toList.all atomic = true) {v : Value} (hv : ∀ m, VR m v v) (hr : ∀ w, (e args).run P w = .ok v w) (H : Heap) : Ans P f args H (.ret v) H := fun m w args' hrel _ hargs => by
 obtain rfl := hargs.eq_of_atomic ha
 refine .inl ⟨v, w, ?_, m, hv m, .refl hrel⟩
 have hn' : ¬ fn.name = "runtime.NumGoroutine" := by simpa using hn
 simp [callFunc, hf, hn', hb, h1, h2, hr]
def singleT (u : Nat) : Int :=
 match u with
 | 124 => 20 | 94 => 21 | 38 => 22 | 43 => 25 | 45 => 26 | 42 => 27 | 47 => 28 | 37 => 29
 | 123 => 4 | 125 => 5 | 91 => 6 | 93 => 7 | 40 => 8 | 41 => 9 | 59 => 10 | 44 => 11
 | _ => 3
def idxL (l : List UInt8) (u : UInt8) : Int := match (List.range l.length).find? fun i => (⟨⟨l⟩⟩ : ByteArray)[i]! == u with | some i => (i : Int) | none => -1
theorem yq6 (l : List UInt8) (u : UInt8) {H : Heap} {k : KV} {kp : KP} (hk : k (.int .i64 (idxL l u)) H) : callW PP 126 #[strV l, .int .u8 (u.toNat : Int)] H k kp := by
 refine (Ans.ext Tryz.func126 (by decide +kernel) rfl (by kernel_rfl) (e := Extern.BytealgIndexByte.indexByte) (by kernel_rfl) rfl (v := .int .i64 (idxL l u)) (fun _ => .atom _ rfl) (fun w => ?_) H).ret hk
 have e0 : Extern.BytealgIndexByte.indexByte #[strV l, .int .u8 (u.toNat : Int)] = (do
   let b ← Extern.Bytes.bytesOf (strV l)
   let d ← Extern.Bytes.asByte (.int .u8 (u.toNat : Int))
   match (List.range b.size).find? fun i => b[i]! == d with
   | some i => Pure.pure (goInt i)
   | none => Pure.pure (goInt (-1))) := rfl
 rw [e0]
 simp only [strV, Extern.Bytes.bytesOf, Extern.Bytes.asByte, Sem.run_bind, Sem.run_pure, Result.andThen_ok]
 have : (u.toNat : Int).toNat.toUInt8 = u := by simp
 rw [this]
 show ((match (List.range l.length).find? fun i => (⟨⟨l⟩⟩ : ByteArray)[i]! == u with | some i => Pure.pure (goInt i) | none => Pure.pure (goInt (-1)) : Sem Value)).run PP w = _
 unfold idxL
 split <;> rfl
def opsL : List UInt8 := [124, 94, 38, 43, 45, 42, 47, 37]
def brL : List UInt8 := [123, 125, 91, 93, 40, 41, 59, 44]
theorem jc2 {p : UInt8 → Bool} (h : (List.range 256).all (fun n => p (UInt8.ofNat n)) = true) (u : UInt8) : p u = true := by
 have := List.all_eq_true.1 h u.toNat (List.mem_range.2 u.toNat_lt)
 rwa [UInt8.ofNat_toNat] at this
theorem j6q (u : UInt8) {H : Heap} {k : KV} {kp : KP} (hk : k (.int .i64 (singleT u.toNat)) H) : callW PP 72 #[.int .u8 (u.toNat : Int)] H k kp := by
 refine run 1 rfl Tryz.func72 (pr := noPr) (by decide +kernel) (by kernel_rfl) ?_
 by_cases h : u ∈ opsL
 · simp only [opsL, List.mem_cons, List.not_mem_nil, or_false] at h
   rcases h with rfl | rfl | rfl | rfl | rfl | rfl | rfl | rfl <;> (simp +decide only [zf72.o, ↓G.o, reduceIte]; exact hk)
 · have hb : ∀ z ∈ opsL, ∀ n : Int, (z.toNat : Int) = n → ((u.toNat : Int) == n) = false := fun z hz n hn => by
     rw [jb7 u z hn]; exact decide_eq_false fun e => h (e ▸ hz)
   have hi := jc2 (p := fun u => opsL.contains u || (singleT u.toNat == 4 + idxL brL u && decide (-1 ≤ idxL brL u) && decide (idxL brL u < 9))) (by decide +kernel) u
   have hc : opsL.contains u = false := by simpa using h
   simp only [hc, Bool.false_or, Bool.and_eq_true, beq_iff_eq, decide_eq_true_eq] at hi
   rw [hi.1.1] at hk
   have hw : IntKind.i64.wrap (4 + idxL brL u) = 4 + idxL brL u := ja8 (by omega) (by omega)
   simp +decide only [zf72.o, ↓G.o, reduceIte, hb 124 (by decide) 124 rfl, hb 94 (by decide) 94 rfl, hb 38 (by decide) 38 rfl, hb 43 (by decide) 43 rfl, hb 45 (by decide) 45 rfl, hb 42 (by decide) 42 rfl, hb 47 (by decide) 47 rfl, hb 37 (by decide) 37 rfl]
   refine run 2 rfl Tryz.func97 (pr := noPr) (by decide +kernel) (by kernel_rfl) ?_
   simp +decide only [fx Tryz.f97.eq_1, ↓G.o, reduceIte]
   refine run 2 rfl Tryz.func113 (pr := noPr) (by decide +kernel) (by kernel_rfl) ?_
   simp +decide only [fx Tryz.f113.eq_1, ↓G.o, reduceIte]
   refine yq6 brL u ?_
   simp +decide only [fx Tryz.f113.eq_1, fx Tryz.f97.eq_1, zf72.o, ↓G.o, reduceIte, hw]
   exact hk
def signR (u v : Int) : Int × Nat :=
 if u = 46 then (if v = 46 then (12, 2) else (0, 1))
 else if u = 33 then (if v = 61 then (15, 2) else (0, 1))
 else if u = 61 then (if v = 61 then (14, 2) else (13, 1))
 else if u = 60 then (if v = 60 then (23, 2) else if v = 61 then (17, 2) else (16, 1))
 else if u = 62 then (if v = 62 then (24, 2) else if v = 61 then (19, 2) else (18, 1))
 else (singleT u.toNat, 1)
def nextB (s : List UInt8) (i : Nat) : Int := if i + 1 < s.length then ((s.getD (i + 1) 0).toNat : Int) else 0
def signI (s : List UInt8) (i : Nat) : LR :=
 if (signR ((s.getD i 0).toNat : Int) (nextB s i)).1 = 0 then .bad (i + (signR ((s.getD i 0).toNat : Int) (nextB s i)).2) else .good ⟨(signR ((s.getD i 0).toNat : Int) (nextB s i)).1, 0, .empty, i, i + (signR ((s.getD i 0).toNat : Int) (nextB s i)).2⟩
def prSign : Nat → List (Nat × Nat) := fun i => if i = 1 then [(0, 10), (3, 10), (4, 10), (7, 10), (9, 10)] else if i = 21 then [(0, 2)] else []
theorem join {P : Program} {pr : Nat → List (Nat × Nat)} {f : Func} {c : Code} {s : Option Nat} {E : Env} {ds : List Deferred} {k : KO} (I : KE) (main : ∀ Z : KO, (∀ E ds H, I E ds H → Z .norm E ds H) → exU P pr f c s E ds H Z) (rest : ∀ E ds H, I E ds H → k .norm E ds H) : exU P pr f c s E ds H k := main k rest
theorem Heap.set3 (h : (b = t) = False) (H : Heap) (x x' y : Blk) : ((H.set b x).set t y).set b x' = (H.set b x').set t y := by
 simp only [Heap.set]; congr 1; funext k
 by_cases e : k = b
 · subst e; simp [h]
 · simp [e]
theorem yq7 {a : Option Addr} {n c j pt pn pb : Nat} {kd nn f0 t0 : Int} {w : ByteArray} {v z d g : Int} (h1 : H.get pt = some ⟨[.pointer (some ⟨t, 0, none⟩)], true, 1, none⟩) (h2 : H.get pn = some ⟨[.int .u8 v], true, 1, none⟩) (h3 : H.get pb = some ⟨[.pointer (some ⟨b, 0, none⟩)], true, 1, none⟩)
   (ht : H.get t = some (tok kd nn w f0 t0)) (hb : H.get b = some (cur a n c j)) (hj : j < 2 ^ 62) (e1 : (pt = t) = False) (e2 : (pn = t) = False) (e3 : (pb = t) = False) (bt : (b = t) = False) (e4 : (pt = b) = False) (e5 : (pb = b) = False) {k : KV} {kp : KP}
   (hk : if v = z then k (.bool (d != 0)) ((H.set t (tok d nn w f0 t0)).set b (cur a n c (j + 1))) else k (.bool (g != 0)) (H.set t (tok g nn w f0 t0))) :
   callW PP 71 #[.int .u8 z, .int .i64 d, .int .i64 g, .pointer (some ⟨pt, 0, none⟩), .pointer (some ⟨pn, 0, none⟩), .pointer (some ⟨pb, 0, none⟩)] H k kp := by
 refine run 6 rfl Tryz.func71 (pr := noPr) (by decide +kernel) (by kernel_rfl) ?_
 have et : (t = b) = False := eq_false (fun e => by rw [e] at bt; simp at bt)
 by_cases h : v = z
 · have hv : (v == z) = true := by simpa using h
   rw [if_pos h] at hk
   simp +decide only [fx Tryz.f71.eq_1, ↓G.o, reduceIte, h1, h2, h3, ht, hb, hv, Heap.get_set, e1, e2, e3, e4, bt, et, ja1 hj]
   exact hk
 · have hv : (v == z) = false := by simpa using h
   rw [if_neg h] at hk
   simp +decide only [fx Tryz.f71.eq_1, ↓G.o, reduceIte, h1, h2, ht, hv, Heap.get_set, e1, e2]
   exact hk
theorem yh0 {a : Option Addr} {c i : Nat} {s : List UInt8} (l : Lx H a c s b t i) (hi : i < s.length) {k : KV} {kp : KP} (hk : lexK H a c s b t (signI s i) k) :
   callW PP 52 #[.pointer (some ⟨b, 0, none⟩), .pointer (some ⟨t, 0, none⟩)] H k kp := by
 refine ja4 (H0 := H.plus []) (.refl _) (run 2 rfl Tryz.func52 (pr := prSign) (by decide +kernel) (by kernel_rfl) ?_)
 obtain ⟨q, o, cs, r, rfl, hq, hc⟩ := l.x.row.at hi
 have hb := l.here
 have ht := l.lex
 have lb := l.x.tabs.lt hb
 have lt := l.x.tabs.lt ht
 have lq := l.x.tabs.lt hq
 have tb : (t = b) = False := eq_false l.tb
 have bt : (b = t) = False := eq_false (Ne.symm l.tb)
 simp +decide only [zf52.o, ↓G.o, reduceIte, prSign, lb, lq, hb, hq, hc, hi, Nat.add_assoc, Nat.reduceAdd]
 generalize hv : nextB s i = v
 unfold signI at hk
 rw [hv, List.getD_eq_getElem?_getD, List.getElem?_eq_getElem hi, Option.getD_some] at hk
 generalize hu : ((s[i].toNat : Nat) : Int) = u at hk ⊢
 refine join (I := fun E ds H' => ds = [] ∧ E 2 = .pointer (some ⟨H.next, 0, none⟩) ∧ E 3 = .pointer (some ⟨H.next + 1, 0, none⟩) ∧ E 5 = .int .u8 u ∧ E 6 = .pointer (some ⟨H.next + 2, 0, none⟩) ∧
   H' = (H.to (H.next + 3)).plus [(H.next + 2, ⟨[.int .u8 v], true, 1, none⟩), (H.next + 1, ⟨[.pointer (some ⟨t, 0, none⟩)], true, 1, none⟩), (H.next, ⟨[.pointer (some ⟨b, 0, none⟩)], true, 1, none⟩)]) (fun Z hZ => ?_) ?_
 · have w1 : IntKind.i64.wrap ((i : Int) + 1) = ((i + 1 : Nat) : Int) := ja1 (by have := l.x.row.small; omega)
   by_cases h : i + 1 < s.length
   · have hc' := (l.x.row.at h)
     obtain ⟨q', o', cs', r', e, hq', hc'⟩ := hc'
     obtain ⟨rfl, rfl⟩ : q = q' ∧ o = o' := by simpa using e
     obtain ⟨rfl, rfl⟩ : cs = cs' ∧ r = r' := by rw [hq] at hq'; simpa using hq'
     have hv' : (s[i + 1].toNat : Int) = v := by simpa [nextB, h, List.getD_eq_getElem?_getD, List.getElem?_eq_getElem h] using hv
     rw [hv'] at hc'
     have h' : ((i + 1 : Nat) : Int) < (s.length : Int) := by omega
     simp +decide only [zf52.o, ↓G.o, reduceIte, prSign, lb, lq, hb, hq, hc', w1, h, decide_true]
     refine hZ _ _ _ ⟨rfl, ?_, ?_, ?_, ?_, rfl⟩ <;> simp +decide only [↓G.o, reduceIte]
   · obtain rfl : v = 0 := by rw [← hv, nextB, if_neg h]
     simp +decide only [↓G.o, reduceIte, w1, h, decide_false]
     refine hZ _ _ _ ⟨rfl, ?_, ?_, ?_, ?_, rfl⟩ <;> simp +decide only [↓G.o, reduceIte]
 · rintro E _ _ ⟨rfl, e2, e3, e5, e6, rfl⟩
   have w1 : IntKind.i64.wrap ((i : Int) + 1) = ((i + 1 : Nat) : Int) := ja1 (by have := l.x.row.small; omega)
   simp +decide only [zf52.o, ↓G.o, reduceIte, lb, hb, e2, e3, e5, e6, w1]
   have fr : ∀ j, H.get (H.next + j) = none := fun j => l.x.tabs.fresh _ (Nat.le_add_right _ _)
   have fin : ∀ d m, signR u v = (d, m) → ∃ H', Ghost ((((H.to (H.next + 3)).set b (cur (some ⟨q, o, none⟩) s.length c (i + m))).set t (tok d 0 .empty (i : Int) 0)).plus [(H.next + 2, ⟨[.int .u8 v], true, 1, none⟩), (H.next + 1, ⟨[.pointer (some ⟨t, 0, none⟩)], true, 1, none⟩), (H.next, ⟨[.pointer (some ⟨b, 0, none⟩)], true, 1, none⟩)]) H' ∧ k (.bool (d != 0)) H' := fun d m e => by
     refine ⟨_, Beside.ghost ?_, ?_⟩
     · have g : ∀ j x y, (((H.to (H.next + 3)).set b x).set t y).get (H.next + j) = none := fun j x y => by
         rw [Heap.get_set, if_neg (by omega), Heap.get_set, if_neg (by omega)]; exact fr j
       exact .cons (.cons (.cons (.nil _) (g 0 _ _) (by show _ < H.next + 3; omega) _) (g 1 _ _) (by show _ < H.next + 3; omega) _) (g 2 _ _) (by show _ < H.next + 3; omega) _
     · rw [e] at hk
       by_cases hd : d = 0
       · subst hd
         rw [if_pos rfl] at hk
         exact hk _ _ (Nat.le_add_right _ 3)
       · rw [if_neg hd] at hk
         rw [show (d != 0) = true by simpa using hd]
         exact hk _ (Nat.le_add_right _ 3)
   have cl : ∀ {z d g : Int} {k' : KV} {kp' : KP}, (v = z → signR u v = (d, 2)) → (v ≠ z → signR u v = (g, 1)) → (∀ d m, signR u v = (d, m) → k' (.bool (d != 0)) ((((H.to (H.next + 3)).set b (cur (some ⟨q, o, none⟩) s.length c (i + m))).set t (tok d 0 .empty (i : Int) 0)).plus [(H.next + 2, ⟨[.int .u8 v], true, 1, none⟩), (H.next + 1, ⟨[.pointer (some ⟨t, 0, none⟩)], true, 1, none⟩), (H.next, ⟨[.pointer (some ⟨b, 0, none⟩)], true, 1, none⟩)])) →
       callW PP 71 #[.int .u8 z, .int .i64 d, .int .i64 g, .pointer (some ⟨H.next + 1, 0, none⟩), .pointer (some ⟨H.next + 2, 0, none⟩), .pointer (some ⟨H.next, 0, none⟩)] (((H.to (H.next + 3)).set b (cur (some ⟨q, o, none⟩) s.length c (i + 1))).plus [(H.next + 2, ⟨[.int .u8 v], true, 1, none⟩), (H.next + 1, ⟨[.pointer (some ⟨t, 0, none⟩)], true, 1, none⟩), (H.next, ⟨[.pointer (some ⟨b, 0, none⟩)], true, 1, none⟩)]) k' kp' := fun {z d g k' kp'} h1 h2 h3 => by
     refine yq7 (b := b) (t := t) (v := v) (j := i + 1) (a := some ⟨q, o, none⟩) (n := s.length) (c := c) (by simp +decide only [↓G.o]) (by simp +decide only [↓G.o]) (by simp +decide only [↓G.o]) (kd := 0) (nn := 0) (f0 := (i : Int)) (t0 := 0) (w := .empty) ?_ (by simp +decide only [↓G.o, lb]) (by have := l.x.row.small; omega) (eq_false (by omega)) (eq_false (by omega)) (eq_false (by omega)) bt (eq_false (by omega)) (eq_false (by omega)) ?_
     · simp +decide only [↓G.o, reduceIte, lt, Heap.get_set, tb, Heap.get_to, ht]
     · by_cases h : v = z
       · rw [if_pos h]
         have := h3 _ _ (h1 h)
         simpa +decide only [↓G.o, reduceIte, lb, lt, Heap.set3 bt, Nat.add_assoc, Nat.reduceAdd] using this
       · rw [if_neg h]
         have := h3 _ _ (h2 h)
         simpa +decide only [↓G.o, reduceIte, lb, lt, Nat.add_assoc, Nat.reduceAdd] using this
   have nb : ∀ {n : Int}, u ≠ n → (u == n) = false := fun h => by simpa using h
   have yb : ∀ {n : Int}, u = n → (u == n) = true := fun h => by simpa using h
   by_cases h46 : u = 46
   · simp +decide only [zf52.o, ↓G.o, reduceIte, yb h46]
     refine cl (fun h => by simp [signR, h46, h]) (fun h => by simp [signR, h46, h]) fun d m e => ?_
     simp +decide only [zf52.o, ↓G.o, reduceIte]
     exact fin d m e
   by_cases h33 : u = 33
   · simp +decide only [zf52.o, ↓G.o, reduceIte, nb h46, yb h33]
     refine cl (fun h => by simp [signR, h33, h]) (fun h => by simp [signR, h33, h]) fun d m e => ?_
     simp +decide only [zf52.o, ↓G.o, reduceIte]
     exact fin d m e
   by_cases h61 : u = 61
   · simp +decide only [zf52.o, ↓G.o, reduceIte, nb h46, nb h33, yb h61]
     refine cl (fun h => by simp [signR, h61, h]) (fun h => by simp [signR, h61, h]) fun d m e => ?_
     simp +decide only [zf52.o, ↓G.o, reduceIte]
     exact fin d m e
   by_cases h60 : u = 60
   · by_cases h : v = 60
     · have h' : (v == 60) = true := by simpa using h
       simp +decide only [zf52.o, ↓G.o, reduceIte, e6, nb h46, nb h33, nb h61, yb h60, h']
       refine cl (fun h => by simp [signR, h60, h]) (fun h' => absurd h h') fun d m e => ?_
       simp +decide only [zf52.o, ↓G.o, reduceIte]
       exact fin d m e
     · have h' : (v == 60) = false := by simpa using h
       simp +decide only [zf52.o, ↓G.o, reduceIte, e6, nb h46, nb h33, nb h61, yb h60, h']
       refine cl (fun h => by simp [signR, h60, h]) (fun h' => by simp [signR, h60, h, h']) fun d m e => ?_
       simp +decide only [zf52.o, ↓G.o, reduceIte]
       exact fin d m e
   by_cases h62 : u = 62
   · by_cases h : v = 62
     · have h' : (v == 62) = true := by simpa using h
       simp +decide only [zf52.o, ↓G.o, reduceIte, e6, nb h46, nb h33, nb h61, nb h60, yb h62, h']
       refine cl (fun h => by simp [signR, h62, h]) (fun h' => absurd h h') fun d m e => ?_
       simp +decide only [zf52.o, ↓G.o, reduceIte]
       exact fin d m e
     · have h' : (v == 62) = false := by simpa using h
       simp +decide only [zf52.o, ↓G.o, reduceIte, e6, nb h46, nb h33, nb h61, nb h60, yb h62, h']
       refine cl (fun h => by simp [signR, h62, h]) (fun h' => by simp [signR, h62, h, h']) fun d m e => ?_
       simp +decide only [zf52.o, ↓G.o, reduceIte]
       exact fin d m e
   simp +decide only [zf52.o, ↓G.o, reduceIte, prSign, e3, e5, nb h46, nb h33, nb h61, nb h60, nb h62]
   have hs := fin (singleT u.toNat) 1 (by simp [signR, h46, h33, h61, h60, h62])
   subst hu
   refine j6q _ ?_
   simp +decide only [zf52.o, ↓G.o, reduceIte, e3, lt, tb, Heap.get_set, ht]
   rw [show (singleT ((s[i].toNat : Nat) : Int).toNat != 0) = true from jc2 (p := fun u => singleT u.toNat != 0) (by decide +kernel) s[i]] at hs
   exact hs
end Go.Am
namespace Go.Am
variable {P : Program} {t : TypeId} {x y : Operand} {i : IntKind} {a : Int}
set_option maxRecDepth 100000
def hexT (u : Nat) : Int :=
 if 48 ≤ u ∧ u ≤ 57 then (u : Int) - 48 else if 97 ≤ u ∧ u ≤ 102 then (u : Int) - 87 else if 65 ≤ u ∧ u ≤ 70 then (u : Int) - 55 else 16
def lowT (u : UInt8) : Int := ((u ||| 32).toNat : Int)
theorem b_or {b : Int} : binA P .or t x y (.int i a) (.int i b) = some (.int i (i.wrap ((BitVec.ofInt i.bits a ||| BitVec.ofInt i.bits b).toNat : Int))) := by simp [binA, ground, atomic, eqGuard, binOp, Op.intBits]; rfl
theorem j6r {j : IntKind} {b : Nat} : binA P .shl t x y (.int i a) (.int j (b : Int)) = some (.int i (i.wrap (a * 2 ^ min b i.bits))) := by simp [binA, ground, atomic, eqGuard, binOp, Op.shift, show ¬ ((b : Int) < 0) by omega]; rfl
theorem j9u {b : Int} : binA P .mul t x y (.int i a) (.int i b) = some (.int i (i.wrap (a * b))) := by simp [binA, ground, atomic, eqGuard, binOp, Op.intArith]; rfl
theorem yh1 (u : UInt8) : IntKind.u8.wrap ((BitVec.ofInt IntKind.u8.bits (u.toNat : Int) ||| BitVec.ofInt IntKind.u8.bits 32).toNat : Int) = lowT u := by
 simpa using jc2 (p := fun u => IntKind.u8.wrap ((BitVec.ofInt IntKind.u8.bits (u.toNat : Int) ||| BitVec.ofInt IntKind.u8.bits 32).toNat : Int) == lowT u) (by decide +kernel) u
theorem jb8 (u : UInt8) {H : Heap} {k : KV} {kp : KP} (hk : k (.int .u8 (lowT u)) H) : callW PP 120 #[.int .u8 (u.toNat : Int)] H k kp := by
 refine run 1 rfl Tryz.func120 (pr := noPr) (by decide +kernel) (by kernel_rfl) ?_
 simp +decide only [fx Tryz.f120.eq_1, ↓G.o, reduceIte, b_or, yh1]
 exact hk
def encL (u : UInt8) : List UInt8 := (Utf8.encode (u.toNat : Int)).data.toList
theorem yh2 (u : UInt8) (H : Heap) : convertA PP 5 9 (.int .u8 (u.toNat : Int)) H = some (strV (encL u), H) := by
 have e : convertA PP 5 9 (.int .u8 (u.toNat : Int)) H = some (.string (Utf8.encode (u.toNat : Int)), H) := by
   simp only [convertA, Tryz.underlying5, Tryz.underlying9]
 rw [e]
 unfold encL strV
 generalize Utf8.encode (u.toNat : Int) = z
 rfl
def prSyn : Nat → List (Nat × Nat) := fun i => if i = 1 then [(3, 2)] else []
theorem lkE : lk PP 119 = 1 := by decide +kernel
theorem esN : esT PP 154 = 1 := by decide +kernel
theorem j9v (s1 s2 : ByteArray) (i : TypeId) (v : Value) : buildA PP 154 #[(0, .string s1), (1, .string s2), (2, .iface i v)] = some (.agg #[.string s1, .string s2, .iface i v]) := by kernel_rfl
theorem jn5 (l : List Value) (H : Heap) : boxA P t (.agg ⟨l⟩) H = some (.pointer (some ⟨H.next, 0, none⟩), H.alloc (esT P t) l) := id rfl
theorem Tabs.one {H : Heap} (t : Tabs H) (y : Blk) : Ghost ((H.to (H.next + 1)).plus [(H.next, y)]) (H.to (H.next + 1)) := Beside.ghost (.cons (H := H.to (H.next + 1)) (.nil _) (show H.get H.next = none from t.fresh _ (Nat.le_refl _)) (show H.next < H.next + 1 from Nat.lt_succ_self _) y)
theorem yq8 (nm : ByteArray) (l : List UInt8) (hl : l.length < 1000) {H : Heap} (t : Tabs H) {k : KV} {kp : KP} (hk : ∀ q n, H.next ≤ n → k (.pointer q) (H.to n)) : callW PP 122 #[.string nm, strV l] H k kp := by
 refine ja4 (H0 := H.plus []) (.refl _) (run 2 rfl Tryz.func122 (pr := prSyn) (by decide +kernel) (by kernel_rfl) ?_)
 have e4 := t.e4
 have l4 : 4 < H.next := t.lt e4
 simp +decide only [fx Tryz.f122.eq_1, ↓G.o, reduceIte, prSyn]
 refine j9s _ (Nat.le_trans (Nat.le_of_lt hl) (by decide)) ?_
 simp +decide only [fx Tryz.f122.eq_1, ↓G.o, reduceIte, e4, lkE, esN, errV, strV, j9v, jn5]
 exact ⟨_, t.one _, hk _ _ (Nat.le_succ _)⟩
theorem jk1 {s d : TypeId} {k : IntKind} {ds : TypeDesc} (h1 : P.underlying s = some ds) (h2 : P.underlying d = some (.int k)) (n : Int) (H : Heap) : convertA P s d (.int i n) H = some (.int k (k.wrap n), H) := by
 simp only [convertA, h1, h2]
def noDig : Value := .iface 137 (.int .i64 2)
theorem yh3 (x y : Operand) : binA PP .eql 119 x y noDig noDig = some (.bool true) := by kernel_rfl
theorem yh4 (x y : Operand) : binA PP .neq 119 x y noDig .nilIface = some (.bool true) := by kernel_rfl
theorem yh5 (x y : Operand) (q : Option Addr) : binA PP .neq 119 x y (.iface 138 (.pointer q)) .nilIface = some (.bool true) := by cases q <;> kernel_rfl
theorem yh6 (i : Nat) : binA PP .neq 119 (.tmp i) (.const .nilIface) .nilIface .nilIface = some (.bool false) := by kernel_rfl
theorem j9w (x y : Operand) (u : UInt8) (r : List UInt8) : binA PP .eql 9 x y (.string ⟨⟨u :: r⟩⟩) (.string ⟨#[]⟩) = some (.bool false) := j6p x y (u :: r) []
def rowB (l : List UInt8) : List Value := l.map fun b => .int .u8 (b.toNat : Int)
theorem yh7 (l : List UInt8) (hl : l.length < 1000) (H : Heap) : convertA PP 9 34 (.string ⟨⟨l⟩⟩) H = some (.slice (some ⟨H.next, 0, none⟩) l.length l.length, H.alloc 1 (rowB l)) := by
 have e : (⟨⟨l⟩⟩ : ByteArray).size ≤ most := Nat.le_trans (Nat.le_of_lt (show l.length < 1000 from hl)) (by decide)
 simp only [convertA, Tryz.underlying34, Tryz.underlying9, Tryz.underlying5, if_pos e, mkRow]
 rfl
theorem j9x (x y : Operand) : binA PP .eql 119 x y noDig (.iface 137 (.int .i64 2)) = some (.bool true) := yh3 x y
theorem yq9 (nm : ByteArray) (l : List UInt8) (hl : l.length < 1000) (x y : Int) {H : Heap} (t : Tabs H) {k : KV} {kp : KP} (hk : ∀ q n, H.next ≤ n → k (.iface 138 (.pointer q)) (H.to n)) : callW PP 112 #[.string nm, strV l, .int .i64 x, .int .i64 y, noDig] H k kp := by
 refine run 5 rfl Tryz.func112 (pr := noPr) (by decide +kernel) (by kernel_rfl) ?_
 simp +decide only [fx Tryz.f112.eq_1, ↓G.o, reduceIte, j9x]
 refine yq8 nm l hl t fun q n hn => ?_
 simp +decide only [fx Tryz.f112.eq_1, ↓G.o, reduceIte]
 exact hk q n hn
theorem c38 : ∀ H n, convertA PP 3 5 (.int .i64 n) H = some (.int .u8 (IntKind.u8.wrap n), H) := fun H n => jk1 Tryz.underlying3 Tryz.underlying5 n H
theorem c364 : ∀ H n, convertA PP 3 35 (.int .i64 n) H = some (.int .u64 (IntKind.u64.wrap n), H) := fun H n => jk1 Tryz.underlying3 Tryz.underlying35 n H
theorem c864 : ∀ H n, convertA PP 5 35 (.int .u8 n) H = some (.int .u64 (IntKind.u64.wrap n), H) := fun H n => jk1 Tryz.underlying5 Tryz.underlying35 n H
theorem c3u : ∀ H n, convertA PP 3 101 (.int .i64 n) H = some (.int .u64 (IntKind.u64.wrap n), H) := fun H n => jk1 Tryz.underlying3 Tryz.underlying101 n H
theorem sh8 (x y : Operand) : binA PP .shl 35 x y (.int .u64 1) (.int .u64 8) = some (.int .u64 256) := j6r (b := 8)
theorem w8 : IntKind.u64.wrap 8 = 8 := by decide +kernel
theorem w255 : IntKind.u64.wrap (256 - 1) = 255 := by decide +kernel
theorem ji4 {x : Int} (h0 : 0 ≤ x) (h1 : x < 256) : IntKind.u8.wrap x = x := by
 simp only [IntKind.wrap, IntKind.bits, IntKind.signed]
 simp
 omega
theorem j33 (u : UInt8) (q : u.toNat < 48 ∨ 57 < u.toNat) : decide ((48 : Int) ≤ (u.toNat : Int)) = false ∨ decide ((48 : Int) ≤ (u.toNat : Int)) = true ∧ decide ((u.toNat : Int) ≤ 57) = false := by
 by_cases h : (48 : Int) ≤ (u.toNat : Int)
 · exact .inr ⟨decide_eq_true h, decide_eq_false (by omega)⟩
 · exact .inl (decide_eq_false h)
theorem j34 (u : UInt8) : (48 ≤ u.toNat ∧ u.toNat ≤ 57 ∧ hexT u.toNat = u.toNat - 48) ∨ ((u.toNat < 48 ∨ 57 < u.toNat) ∧ u.toNat ≠ 95 ∧ 97 ≤ lowT u ∧ lowT u ≤ 122 ∧ min 16 (lowT u - 87) = hexT u.toNat) ∨ ((u.toNat < 48 ∨ 57 < u.toNat) ∧ (lowT u < 97 ∨ 122 < lowT u) ∧ hexT u.toNat = 16) :=
 of_decide_eq_true (jc2 (p := fun u => decide ((48 ≤ u.toNat ∧ u.toNat ≤ 57 ∧ hexT u.toNat = u.toNat - 48) ∨ ((u.toNat < 48 ∨ 57 < u.toNat) ∧ u.toNat ≠ 95 ∧ 97 ≤ lowT u ∧ lowT u ≤ 122 ∧ min 16 (lowT u - 87) = hexT u.toNat) ∨ ((u.toNat < 48 ∨ 57 < u.toNat) ∧ (lowT u < 97 ∨ 122 < lowT u) ∧ hexT u.toNat = 16))) (by decide +kernel) u)
theorem row0 (u : UInt8) (r : List UInt8) : (rowB (u :: r))[0]? = some (.int .u8 (u.toNat : Int)) := rfl
theorem ix0 (q o n c : Nat) (k : IntKind) : indexAddrA PP 34 (.slice (some ⟨q, o, none⟩) (n + 1) c) (.int k 0) = some (.pointer (some ⟨q, o, none⟩)) := by
 have := je4 ixB (Nat.zero_lt_succ n) q o c k
 simpa using this
set_option maxHeartbeats 4000000 in
theorem pu_w (u : UInt8) (r : List UInt8) (hr : r.length < 100) (h : hexT u.toNat < 16 → r = []) {H : Heap} (t : Tabs H) {k : KV} {kp : KP} (hk : ∀ n, H.next ≤ n → k (.tuple (if hexT u.toNat < 16 then #[.int .u64 (hexT u.toNat), .nilIface] else #[.int .u64 0, noDig])) (H.to n)) :
   callW PP 111 #[strV (u :: r), .int .i64 16, .int .i64 8] H k kp := by
 refine ja4 (H0 := H.plus []) (.refl _) (run 3 rfl Tryz.func111 (pr := noPr) (by decide +kernel) (by kernel_rfl) ?_)
 simp +decide only [zf111.o, ↓G.o, reduceIte, strV, c3u, j9w, yh7 _ (show (u :: r).length < 1000 by simp; omega), sh8, w8, w255, Int.reduceBEq]
 have g1 := t.one ⟨rowB (u :: r), true, 1, none⟩
 have bad : 16 ≤ hexT u.toNat → ∃ H', Ghost ((H.to (H.next + 1)).plus [(H.next, ⟨rowB (u :: r), true, 1, none⟩)]) H' ∧ k (.tuple #[.int .u64 0, noDig]) H' := fun hx => by
   have := hk _ (Nat.le_succ H.next)
   rw [if_neg (by omega)] at this
   exact ⟨_, g1, this⟩
 refine ja6 (I := fun m E ds H' => ds = [] ∧ (E 1 = .int .i64 16 ∧ E 8 = .bool false ∧ E 10 = .int .u64 1152921504606846976 ∧ E 11 = .int .u64 255 ∧ E 12 = .bool false ∧ E 99 = .slice (some ⟨H.next, 0, none⟩) (u :: r).length (u :: r).length ∧ E 100 = .int .i64 ((u :: r).length : Int)) ∧ H' = (H.to (H.next + 1)).plus [(H.next, ⟨rowB (u :: r), true, 1, none⟩)] ∧ ((m = 1 ∧ E 101 = .int .i64 0 ∧ E 13 = .int .u64 0) ∨ (m = 0 ∧ r = [] ∧ hexT u.toNat < 16 ∧ E 101 = .int .i64 1 ∧ E 13 = .int .u64 (hexT u.toNat)))) (i := 1) ?_ ⟨rfl, ⟨?_, ?_, ?_, ?_, ?_, ?_, ?_⟩, rfl, .inl ⟨rfl, ?_, ?_⟩⟩
 · rintro Z m E _ _ ⟨rfl, ⟨e1, e8, e10, e11, e12, e99, e100⟩, rfl, ⟨rfl, e101, e13⟩ | ⟨rfl, rfl, hlt, e101, e13⟩⟩ hZ
   · have hl : (0 : Int) < ((r.length + 1 : Nat) : Int) := by omega
     have w1 : IntKind.i64.wrap (0 + 1) = 1 := by decide +kernel
     have w16 : IntKind.u8.wrap 16 = 16 := by decide +kernel
     have v16 : IntKind.u64.wrap 16 = 16 := by decide +kernel
     have v0 : IntKind.u64.wrap (0 * 16) = 0 := by decide +kernel
     have hu := u.toNat_lt
     have go : ∀ d : Int, 0 ≤ d → d < 16 → IntKind.u64.wrap d = d ∧ IntKind.u64.wrap (0 + d) = d := fun d h0 h1 => by simp only [IntKind.wrap_u64]; omega
     simp +decide only [zf111.o, ↓G.o, reduceIte, e99, e100, e101, hl, row0, e8, ix0, List.length_cons]
     rcases j34 u with ⟨q1, q2, q3⟩ | ⟨q1, q2, q3, q4, q5⟩ | ⟨q1, q2, q3⟩
     · have n95 : ((u.toNat : Int) == 95) = false := by simpa using (show (u.toNat : Int) ≠ 95 by omega)
       have a48 : (48 : Int) ≤ (u.toNat : Int) := by omega
       have a57 : (u.toNat : Int) ≤ 57 := by omega
       have w := ji4 (x := (u.toNat : Int) - 48) (by omega) (by omega)
       rw [← q3] at w
       have d16 : hexT u.toNat < 16 := by omega
       have nb : ¬ hexT u.toNat ≥ 16 := by omega
       obtain ⟨g1', g2'⟩ := go (hexT u.toNat) (by omega) (by omega)
       simp +decide only [zf111.o, ↓G.o, reduceIte, n95, a48, a57, decide_true, ← q3, w, e1, c38, w16, nb, decide_false, e10, e11, e13, c364, v16, j9u, v0, c864, g1', g2', show ¬ hexT u.toNat < 0 by omega, show ¬ hexT u.toNat > 255 by omega, e101, w1]
       refine hZ 0 _ _ _ (by omega) ⟨rfl, ⟨?_, ?_, ?_, ?_, ?_, ?_, ?_⟩, rfl, .inr ⟨rfl, h d16, d16, ?_, ?_⟩⟩
       all_goals simp +decide only [↓G.o, reduceIte, e1, e8, e10, e11, e12, e99, e100]
     · have n95 : ((u.toNat : Int) == 95) = false := by simpa using (show (u.toNat : Int) ≠ 95 by omega)
       have lo : IntKind.u8.wrap (IntKind.u8.wrap (lowT u - 97) + 10) = lowT u - 87 := by rw [ji4 (x := lowT u - 97) (by omega) (by omega), ji4 (by omega) (by omega)]; omega
       by_cases d16 : lowT u - 87 < 16
       · have eh : lowT u - 87 = hexT u.toNat := by omega
         rw [eh] at lo d16
         obtain ⟨g1', g2'⟩ := go (hexT u.toNat) (by omega) (by omega)
         rcases j33 u q1 with q1' | ⟨q1', q1''⟩
         · simp +decide only [zf111.o, ↓G.o, reduceIte, n95, q1']
           refine jb8 u ?_
           simp +decide only [zf111.o, ↓G.o, reduceIte, decide_eq_true q3]
           refine jb8 u ?_
           simp +decide only [zf111.o, ↓G.o, reduceIte, decide_eq_true q4]
           refine jb8 u ?_
           simp +decide only [zf111.o, ↓G.o, reduceIte, lo, e1, c38, w16, show ¬ hexT u.toNat ≥ 16 by omega, decide_false, e10, e11, e13, c364, v16, j9u, v0, c864, g1', g2', show ¬ hexT u.toNat < 0 by omega, show ¬ hexT u.toNat > 255 by omega, e101, w1]
           refine hZ 0 _ _ _ (by omega) ⟨rfl, ⟨?_, ?_, ?_, ?_, ?_, ?_, ?_⟩, rfl, .inr ⟨rfl, h d16, d16, ?_, ?_⟩⟩
           all_goals simp +decide only [↓G.o, reduceIte, e1, e8, e10, e11, e12, e99, e100]
         · simp +decide only [zf111.o, ↓G.o, reduceIte, n95, q1', q1'']
           refine jb8 u ?_
           simp +decide only [zf111.o, ↓G.o, reduceIte, decide_eq_true q3]
           refine jb8 u ?_
           simp +decide only [zf111.o, ↓G.o, reduceIte, decide_eq_true q4]
           refine jb8 u ?_
           simp +decide only [zf111.o, ↓G.o, reduceIte, lo, e1, c38, w16, show ¬ hexT u.toNat ≥ 16 by omega, decide_false, e10, e11, e13, c364, v16, j9u, v0, c864, g1', g2', show ¬ hexT u.toNat < 0 by omega, show ¬ hexT u.toNat > 255 by omega, e101, w1]
           refine hZ 0 _ _ _ (by omega) ⟨rfl, ⟨?_, ?_, ?_, ?_, ?_, ?_, ?_⟩, rfl, .inr ⟨rfl, h d16, d16, ?_, ?_⟩⟩
           all_goals simp +decide only [↓G.o, reduceIte, e1, e8, e10, e11, e12, e99, e100]
       · have B := bad (by omega)
         rcases j33 u q1 with q1' | ⟨q1', q1''⟩
         · simp +decide only [zf111.o, ↓G.o, reduceIte, n95, q1']
           refine jb8 u ?_
           simp +decide only [zf111.o, ↓G.o, reduceIte, decide_eq_true q3]
           refine jb8 u ?_
           simp +decide only [zf111.o, ↓G.o, reduceIte, decide_eq_true q4]
           refine jb8 u ?_
           simp +decide only [zf111.o, ↓G.o, reduceIte, lo, e1, c38, w16, show lowT u - 87 ≥ 16 by omega, decide_true]
           exact B
         · simp +decide only [zf111.o, ↓G.o, reduceIte, n95, q1', q1'']
           refine jb8 u ?_
           simp +decide only [zf111.o, ↓G.o, reduceIte, decide_eq_true q3]
           refine jb8 u ?_
           simp +decide only [zf111.o, ↓G.o, reduceIte, decide_eq_true q4]
           refine jb8 u ?_
           simp +decide only [zf111.o, ↓G.o, reduceIte, lo, e1, c38, w16, show lowT u - 87 ≥ 16 by omega, decide_true]
           exact B
     · have B := bad (by omega)
       obtain ⟨b, n95⟩ : ∃ b, ((u.toNat : Int) == 95) = b := ⟨_, rfl⟩
       cases b <;> rcases j33 u q1 with q1' | ⟨q1', q1''⟩ <;> by_cases q2' : 97 ≤ lowT u
       all_goals first
         | (simp +decide only [zf111.o, ↓G.o, reduceIte, n95, q1']
            refine jb8 u ?_
            simp +decide only [zf111.o, ↓G.o, reduceIte, decide_eq_true q2']
            refine jb8 u ?_
            simp +decide only [zf111.o, ↓G.o, reduceIte, decide_eq_false (show ¬ lowT u ≤ 122 by omega)]
            exact B)
         | (simp +decide only [zf111.o, ↓G.o, reduceIte, n95, q1']
            refine jb8 u ?_
            simp +decide only [zf111.o, ↓G.o, reduceIte, decide_eq_false q2']
            exact B)
         | (simp +decide only [zf111.o, ↓G.o, reduceIte, n95, q1', q1'']
            refine jb8 u ?_
            simp +decide only [zf111.o, ↓G.o, reduceIte, decide_eq_true q2']
            refine jb8 u ?_
            simp +decide only [zf111.o, ↓G.o, reduceIte, decide_eq_false (show ¬ lowT u ≤ 122 by omega)]
            exact B)
         | (simp +decide only [zf111.o, ↓G.o, reduceIte, n95, q1', q1'']
            refine jb8 u ?_
            simp +decide only [zf111.o, ↓G.o, reduceIte, decide_eq_false q2']
            exact B)
   · simp +decide only [zf111.o, ↓G.o, reduceIte, e100, e101, e12, e13, List.length_cons, List.length_nil]
     rw [if_pos hlt] at hk
     exact ⟨_, g1, hk _ (Nat.le_succ _)⟩
 all_goals simp +decide only [↓G.o, reduceIte]
end Go.Am
namespace Go.Am
set_option maxRecDepth 100000
theorem j9y (u : UInt8) : ∃ x r, encL u = x :: r ∧ r.length < 100 ∧ hexT x.toNat = hexT u.toNat ∧ (hexT u.toNat < 16 → r = [] ∧ (u.toNat : Int) ≤ 127) := by
 have h := jc2 (p := fun u => match encL u with | x :: r => decide (r.length < 100 ∧ hexT x.toNat = hexT u.toNat ∧ (hexT u.toNat < 16 → r.length = 0 ∧ (u.toNat : Int) ≤ 127)) | [] => false) (by decide +kernel) u
 revert h
 generalize encL u = z
 intro h
 match z, h with
 | x :: r, h =>
   simp only [decide_eq_true_eq, List.length_eq_zero_iff] at h
   exact ⟨x, r, rfl, h⟩
theorem ex_0 (u : Value) (l : List Value) : extractA (.tuple ⟨u :: l⟩) 0 = some u := id rfl
theorem ex_1 (u v : Value) (l : List Value) : extractA (.tuple ⟨u :: v :: l⟩) 1 = some v := id rfl
theorem ex_2 (u v w : Value) (l : List Value) : extractA (.tuple ⟨u :: v :: w :: l⟩) 2 = some w := id rfl
theorem j6s {α β : Type} (f : α → β) (x y z u v : α) : (#[x, y, z, u, v] : Array α).map f = #[f x, f y, f z, f u, f v] := by simp
theorem j2l (u : UInt8) {H : Heap} (t : Tabs H) {k : KV} {kp : KP} (hk : ∀ n, H.next ≤ n → k (.int .u64 (hexT u.toNat)) (H.to n)) : callW PP 70 #[.int .u8 (u.toNat : Int)] H k kp := by
 refine run 1 rfl Tryz.func70 (pr := noPr) (by decide +kernel) (by kernel_rfl) ?_
 obtain ⟨x, r, e1, e2, e3, e4⟩ := j9y u
 simp +decide only [zf70.o, ↓G.o, reduceIte, yh2, e1]
 refine run 3 rfl Tryz.func96 (pr := noPr) (by decide +kernel) (by kernel_rfl) ?_
 simp +decide only [zf96.o, ↓G.o, reduceIte]
 refine pu_w x r e2 (fun h => (e4 (e3 ▸ h)).1) t fun n hn => ?_
 by_cases h : hexT u.toNat < 16
 · rw [e3, if_pos h]
   simp +decide only [zf96.o, zf70.o, ↓G.o, reduceIte, ex_0, ex_1, yh6, decide_eq_false (show ¬ (u.toNat : Int) > 127 from Int.not_lt.2 (e4 h).2)]
   exact hk n hn
 · rw [e3, if_neg h]
   simp +decide only [zf96.o, ↓G.o, reduceIte, ex_0, ex_1, yh4, j6s]
   refine yq9 _ (x :: r) (by simp; omega) _ _ (t.to hn) fun q n' hn' => ?_
   simp +decide only [zf96.o, zf70.o, ↓G.o, reduceIte, ex_0, ex_1, yh5]
   have : hexT u.toNat = 16 := by rcases j34 u with q | q | q <;> omega
   rw [this] at hk
   exact hk n' (Nat.le_trans hn hn')
end Go.Am
namespace Go.Proofs
open Go.Shelf
def Tryz.lays264_ren : Go.Shelf.Ren := ⟨fun | 264 => 94 | n => n, fun | 53 => 35 | 46 => 101 | n => n, fun | n => n⟩
theorem Tryz.lays264 : Go.Proofs.Lays.n264 Tryz.prog Tryz.lays264_ren := {
 mixed := by kernel_rfl
 f264 := Tryz.func94.trans (congrArg some (by kernel_rfl))
 t46 := Tryz.underlying101
 a46 := Tryz.isAgg101
 z46 := Tryz.sizeOf101
 v46 := Tryz.zeroValue101
 t53 := Tryz.underlying35
 a53 := Tryz.isAgg35
 z53 := Tryz.sizeOf35
 v53 := Tryz.zeroValue35 }
theorem Tryz.bits_Mul64 (x y : Nat) (hx : x < 18446744073709551616) (hy : y < 18446744073709551616) (w : World) :
   Calls Tryz.prog 94 #[.int .u64 x, .int .u64 y] w fun e w' => e = .returned (.tuple #[.int .u64 ((x * y / 18446744073709551616 : Nat) : Int), .int .u64 ((x * y % 18446744073709551616 : Nat) : Int)]) ∧ w' = w := Any.bits_Mul64 Tryz.lays264 x y hx hy w
end Go.Proofs
open Go.Proofs
namespace Go.Am
variable {H : Heap}
set_option maxRecDepth 100000
def m64 : Nat := 18446744073709551616
theorem VR.pair {u v : Value} (hu : atomic u = true) (hv : atomic v = true) (m : Mp) : VR m (.tuple #[u, v]) (.tuple #[u, v]) := .tuple _ _ rfl fun i a b => by
 have : i = 0 ∨ i = 1 := by simp at a; omega
 rcases this with rfl | rfl
 · exact .atom _ hu
 · exact .atom _ hv
theorem yr0 (x y : Nat) (hx : x < m64) (hy : y < m64) {k : KV} {kp : KP} (hk : k (.tuple #[.int .u64 ((x * y / m64 : Nat) : Int), .int .u64 ((x * y % m64 : Nat) : Int)]) H) : callW PP 94 #[.int .u64 (x : Int), .int .u64 (y : Int)] H k kp := by
 refine (Ans.of_calls Tryz.func94 (by decide +kernel) fun m w args' hrel hgl hargs => ?_).ret hk
 obtain rfl := hargs.eq_of_atomic rfl
 refine (Tryz.bits_Mul64 x y hx hy w).mono fun e w' ⟨he, hw⟩ => ?_
 subst he; subst hw
 exact ⟨m, .pair rfl rfl m, Step.still hrel rfl rfl rfl (Nat.le_refl _) (fun _ _ => rfl)⟩
theorem yr1 (x y : Nat) {k : KV} {kp : KP} (hk : k (.tuple #[.int .u64 (((x + y) % m64 : Nat) : Int), .int .u64 (((x + y) / m64 : Nat) : Int)]) H) : callW PP 95 #[.int .u64 (x : Int), .int .u64 (y : Int), .int .u64 0] H k kp := by
 refine (Ans.ext Tryz.func95 (by decide +kernel) rfl (by kernel_rfl) (e := Go.add64Entry) (by kernel_rfl) rfl (v := .tuple #[.int .u64 (((x + y) % m64 : Nat) : Int), .int .u64 (((x + y) / m64 : Nat) : Int)]) (VR.pair rfl rfl) (fun w => ?_) H).ret hk
 have := Go.run_add64 (P := PP) (x : Int) (y : Int) 0 (by omega) (by omega) (by omega) (by omega) w
 rw [this]
 simp [m64]
theorem j1m (n f g : Nat) (hn : n < m64) (hf : f < m64) (hg : g < m64) {k : KV} {kp : KP} (hk : k (.tuple #[.int .u64 (((n * f + g) % m64 : Nat) : Int), .bool (decide (n * f + g < m64))]) H) : callW PP 69 #[.int .u64 (n : Int), .int .u64 (f : Int), .int .u64 (g : Int)] H k kp := by
 refine run 3 rfl Tryz.func69 (pr := noPr) (by decide +kernel) (by kernel_rfl) ?_
 simp +decide only [zf69.o, ↓G.o, reduceIte]
 refine yr0 n f hn hf ?_
 simp +decide only [zf69.o, ↓G.o, reduceIte, ex_0, ex_1]
 refine yr1 _ g ?_
 simp +decide only [zf69.o, ↓G.o, reduceIte, ex_0, ex_1]
 have hs : (n * f % m64 + g) % m64 = (n * f + g) % m64 := by unfold m64; omega
 rw [hs]
 by_cases h1 : n * f / m64 = 0
 · have z1 : (((n * f / m64 : Nat) : Int) == 0) = true := by rw [h1]; rfl
   simp +decide only [zf69.o, ↓G.o, reduceIte, z1]
   have : ((((n * f % m64 + g) / m64 : Nat) : Int) == 0) = decide (n * f + g < m64) := by
     rw [Bool.eq_iff_iff, beq_iff_eq, decide_eq_true_eq]; unfold m64 at *; omega
   rw [this]
   exact hk
 · have z1 : (((n * f / m64 : Nat) : Int) == 0) = false := by rw [beq_eq_false_iff_ne]; omega
   simp +decide only [zf69.o, ↓G.o, reduceIte, z1]
   rw [decide_eq_false (by unfold m64 at *; omega)] at hk
   exact hk
end Go.Am
namespace Go.Am
set_option maxRecDepth 100000
section
variable {P : Program} {pr : Nat → List (Nat × Nat)} {f : Func} {E : Env} {ds : List Deferred} {H : Heap} {k : KO}
theorem jx4 (l : Nat) : ∀ c : Code, hasLabel l (un f c) = hasLabel l c
 | .seq a b => by simp only [un, hasLabel, jx4 l a, jx4 l b]
 | .label _ | .skip | .region .. | .cond .. | .block .. | .loop .. | .rangeFunc .. | .exit .. | .scope .. | .goto .. | .ret | .refuse .. => rfl
theorem jc0 (x y : Code) (l : Nat) (h : hasLabel l x = true) : exU P pr f (.seq x y) (some l) E ds H k = exU P pr f x (some l) E ds H (thenU P pr f y k) := by
 show execW P pr (.seq (un f x) (un f y)) (some l) E ds H k = _
 rw [execW, jx4, h]; rfl
theorem jc1 (x y : Code) (l : Nat) (h : hasLabel l x = false) : exU P pr f (.seq x y) (some l) E ds H k = exU P pr f y (some l) E ds H k := by
 show execW P pr (.seq (un f x) (un f y)) (some l) E ds H k = _
 rw [execW, jx4, h]; rfl
def gotoZ (c : Code) (Z : Nat → KE) (k : KO) : KO := fun o E ds H => match o with | .goto l => cond (hasLabel l c) (Z l E ds H) (k (.goto l) E ds H) | o => k o E ds H
variable {c : Code} {Z : Nat → KE}
theorem j0f : gotoZ c Z k .norm E ds H = k .norm E ds H := id rfl
theorem jb9 : gotoZ c Z k .ret E ds H = k .ret E ds H := id rfl
theorem jd9 (l : Nat) (h : hasLabel l c = true) : gotoZ c Z k (.goto l) E ds H = Z l E ds H := by show cond (hasLabel l c) _ _ = _; rw [h]; rfl
theorem j35 {b : Option Nat → BE} (L : List Nat) (hL : L.all (fun l => hasLabel l c) = true) (I : Nat → Option Nat → KE)
   (step : ∀ (Z : Nat → KE) (C : Code), (∀ l ∈ L, hasLabel l C = true) → ∀ i s E ds H, I i s E ds H → (∀ j l E' ds' H', j < i → I j (some l) E' ds' H' → Z l E' ds' H') → b s E ds H (gotoZ C Z k))
   {i : Nat} {s : Option Nat} (h : I i s E ds H) : scopeW c b s E ds H k := by
 have : ∀ m i s E ds H, i < m → I i s E ds H → scopeN c b m s E ds H k := by
   intro m
   induction m with
   | zero => intro i s E ds H hi; omega
   | succ m ih =>
     intro i s E ds H hi hI
     exact step (fun l E ds H => scopeN c b m (some l) E ds H k) c (fun l hl => List.all_eq_true.1 hL l hl) i s E ds H hI fun j l E' ds' H' hj hI' => ih j (some l) E' ds' H' (by omega) hI'
 exact ⟨i + 1, this (i + 1) i s E ds H (Nat.lt_succ_self i) h⟩
theorem jk2 {W : Code} (L : List Nat) (hL : L.all (fun l => hasLabel l W) = true) (I : Nat → Option Nat → KE)
   (step : ∀ (Z : Nat → KE) (C : Code) (B : Option Nat → KE), (∀ s E ds H, B s E ds H = exU P pr f W s E ds H (gotoZ C Z k)) → (∀ l ∈ L, hasLabel l C = true) → ∀ i s E ds H, I i s E ds H → (∀ j l E' ds' H', j < i → I j (some l) E' ds' H' → Z l E' ds' H') → B s E ds H)
   {i : Nat} (h : I i none E ds H) : exU P pr f (.scope W) none E ds H k := by
 rw [j85]
 refine j35 L (List.all_eq_true.2 fun l hl => by rw [jx4]; exact List.all_eq_true.1 hL l hl) I (fun Z C hC i s E ds H hI hZ => ?_) h
 exact step Z C (fun s E ds H => exU P pr f W s E ds H (gotoZ C Z k)) (fun _ _ _ _ => rfl) hC i s E ds H hI hZ
end
def uG2 := Pf.mk (And.intro @jt6 (And.intro @j73 (And.intro @yd4 (And.intro @j74 (And.intro @j75 (And.intro @j3d (And.intro @u_if (And.intro @j76 (And.intro @j0a (And.intro @j77 (And.intro @j78 (And.intro @yd6 (And.intro @j79 (And.intro @j8b (And.intro @j1i (And.intro @j3l (And.intro @j3m (And.intro @j3n (And.intro @ye6 (And.intro @j3o (And.intro @jl2 (And.intro @j8c (And.intro @j3p (And.intro @jr5 (And.intro @j3q (And.intro @j8d (And.intro @jx0 (And.intro @jr6 (And.intro @jm7 (And.intro @j3r (And.intro @jm8 (And.intro @j3s (And.intro @jm9 (And.intro @j3t (And.intro @jx1 (And.intro @jl3 (And.intro @j3u (And.intro @j8e (And.intro @jx2 (And.intro @j3v (And.intro @j3x (And.intro @jg2 (And.intro @ye2 (And.intro @j8a (And.intro @j3i (And.intro @j3j @j3w))))))))))))))))))))))))))))))))))))))))))))))
def G2 := Pf.mk (And.intro uG2.o (And.intro dG.o (And.intro tyK (And.intro tyF (And.intro tyS (And.intro @j1l (And.intro (@jd8 PP _ _ Tryz.underlying34) (And.intro (@jd8 PP _ _ Tryz.underlying22) (And.intro (@jn1 PP _ Tryz.underlying9) (And.intro (@je4 _ _ _ ixB) (And.intro (@je4 _ _ _ ixI) (And.intro esZ (And.intro (je5 zrU) @j8f)))))))))))))
end Go.Am
namespace Go.Am
variable {s : List UInt8} {H : Heap} {a : Option Addr} {b : Nat}
set_option maxRecDepth 100000
inductive IR where
 | bad (e : Nat)
 | good (n e : Nat)
def endI (s : List UInt8) (i n : Nat) : IR := if isW s i then .bad i else .good n i
def mulI (s : List UInt8) (i n f : Nat) : IR := if n * f < m64 then endI s (i + 1) (n * f) else .bad i
def sufI (s : List UInt8) (i n : Nat) : IR := if isI s i 4 then (if s.getD i 0 = 77 then mulI s i n 1048576 else if s.getD i 0 = 75 then mulI s i n 1024 else .bad i) else endI s i n
def dg (u : UInt8) : Nat := u.toNat - 48
def decI (s : List UInt8) : Nat → Nat → Nat → IR
 | 0, i, n => sufI s i n
 | k + 1, i, n => if isI s i 3 then (if n * 10 + dg (s.getD i 0) < m64 then decI s k (i + 1) (n * 10 + dg (s.getD i 0)) else .bad i) else sufI s i n
def endH (s : List UInt8) (fr i n : Nat) : IR := if i = fr then .bad i else sufI s i n
def hexI (s : List UInt8) (fr : Nat) : Nat → Nat → Nat → IR
 | 0, i, n => endH s fr i n
 | k + 1, i, n => if hexT (s.getD i 0).toNat < 16 then (if n * 16 + (hexT (s.getD i 0).toNat).toNat < m64 then hexI s fr k (i + 1) (n * 16 + (hexT (s.getD i 0).toNat).toNat) else .bad i) else endH s fr i n
def intI (s : List UInt8) (i : Nat) : IR := if s.getD i 0 = 48 ∧ i + 1 < s.length ∧ s.getD (i + 1) 0 = 120 then hexI s (i + 2) (s.length - (i + 2)) (i + 2) 0 else decI s (s.length - i) i 0
def intR (i : Nat) : IR → LR
 | .bad e => .bad e
 | .good n e => .good ⟨2, n, .empty, i, e⟩
theorem dig3 {u : UInt8} (h : clsI u = 3) : 48 ≤ u.toNat ∧ u.toNat ≤ 57 := by
 have := jc2 (p := fun u => !(decide (clsI u = 3)) || (decide (48 ≤ u.toNat) && decide (u.toNat ≤ 57))) (by decide +kernel) u
 simpa [h] using this
theorem j36 {j : Nat} {n : Int} (h : isI s j n = true) : clsI (s.getD j 0) = n := by
 simp only [isI, Bool.and_eq_true, beq_iff_eq] at h
 exact h.2
theorem j0g (u : Nat) : 0 ≤ hexT u := by
 unfold hexT
 repeat' split
 all_goals omega
theorem jf2 {P : Program} (v : Bool) : unA P .not (.bool v) = some (.bool !v) := by cases v <;> rfl
theorem Ctx.to (x : Ctx H a s b) {n : Nat} (hn : H.next ≤ n) : Ctx (H.to n) a s b := ⟨x.tabs.to hn, x.row.keep fun _ _ => rfl, x.low, Nat.lt_of_lt_of_le x.lt hn, x.ne⟩
theorem Ctx.seT {t : Nat} (x : Ctx H a s b) (low : 12 ≤ t) (lt : t < H.next) (ne : ∀ y, a = some y → y.block ≠ t) (z : Blk) : Ctx (H.set t z) a s b :=
 ⟨x.tabs.set low lt z, x.row.keep fun y hy => by rw [Heap.get_set, if_neg (ne y hy)], x.low, x.lt, x.ne⟩
theorem sh10 (x y : Operand) : binA PP .shl 35 x y (.int .u64 1) (.int .u64 10) = some (.int .u64 1024) := j6r (b := 10)
theorem sh20 (x y : Operand) : binA PP .shl 35 x y (.int .u64 1024) (.int .u64 10) = some (.int .u64 1048576) := j6r (b := 10)
set_option maxHeartbeats 4000000 in
theorem yr2 {c t i : Nat} (x : Ctx H a s b) (hb : H.get b = some (cur a s.length c i)) (ht : H.get t = some (tok 2 0 .empty (i : Int) 0)) (tb' : t ≠ b) (low : 12 ≤ t) (ne : ∀ y, a = some y → y.block ≠ t) (hi : i < s.length) {k : KV} {kp : KP} (hk : lexK H a c s b t (intR i (intI s i)) k) :
   callW PP 49 #[.pointer (some ⟨b, 0, none⟩), .pointer (some ⟨t, 0, none⟩)] H k kp := by
 refine run 2 rfl Tryz.func49 (pr := noPr) (by decide +kernel) (by kernel_rfl) ?_
 have hs := x.row.small
 have tb : (t = b) = False := eq_false tb'
 simp +decide only [zf49.o, ↓G.o, reduceIte]
 generalize hR : intI s i = R at hk
 have badK : ∀ e q, H.next ≤ q → R = .bad e → k (.bool false) ((H.set b (cur a s.length c e)).to q) := fun e q hq hr => by
   rw [hr] at hk
   have := hk (tok 2 0 .empty (i : Int) 0) q hq
   rwa [Heap.set_same (H := H.set b _) (by rw [Heap.get_set, if_neg tb']; exact ht)] at this
 have lt := x.tabs.lt ht
 have endK : ∀ j n q, H.next ≤ q → endI s j n = R → k (.bool (!isI s j 4 && !isI s j 3)) (((H.set b (cur a s.length c j)).set t (tok 2 (n : Int) .empty (i : Int) 0)).to q) := fun j n q hq hr => by
   unfold endI isW at hr
   cases h4 : isI s j 4 <;> cases h3 : isI s j 3 <;> simp only [h4, h3, Bool.or_self, Bool.or_true, Bool.true_or, Bool.false_eq_true, if_true, if_false] at hr <;> subst hr <;> first | exact hk q hq | exact hk _ q hq
 have x2 : ∀ (j n q : Nat), H.next ≤ q → Ctx (((H.set b (cur a s.length c j)).set t (tok 2 (n : Int) .empty (i : Int) 0)).to q) a s b ∧ (((H.set b (cur a s.length c j)).set t (tok 2 (n : Int) .empty (i : Int) 0)).to q).get b = some (cur a s.length c j) := fun j n q hq =>
   ⟨((x.set _).seT low lt ne _).to hq, by show ((H.set b _).set t _).get b = _; rw [Heap.get_set, if_neg (Ne.symm tb'), Heap.get_self]⟩
 refine jk2 [0, 1, 2] (by decide +kernel) (fun m l E ds H' => ds = [] ∧ (E 0 = .pointer (some ⟨b, 0, none⟩) ∧ E 1 = .pointer (some ⟨t, 0, none⟩)) ∧ match l with
   | none => m = s.length + 5 ∧ H' = H
   | some 0 => ∃ j n q, i + 2 ≤ j ∧ j ≤ s.length ∧ n < m64 ∧ H.next ≤ q ∧ H' = (H.set b (cur a s.length c j)).to q ∧ E 7 = .int .u64 (n : Int) ∧ E 6 = .int .i64 ((i + 2 : Nat) : Int) ∧ hexI s (i + 2) (s.length - j) j n = R ∧ m = s.length - j + 1
   | some 1 => ∃ j n q, i ≤ j ∧ j ≤ s.length ∧ n < m64 ∧ H.next ≤ q ∧ H' = (H.set b (cur a s.length c j)).to q ∧ E 7 = .int .u64 (n : Int) ∧ decI s (s.length - j) j n = R ∧ m = s.length - j + 1
   | some 2 => ∃ j n q, i ≤ j ∧ j ≤ s.length ∧ n < m64 ∧ H.next ≤ q ∧ H' = (H.set b (cur a s.length c j)).to q ∧ E 7 = .int .u64 (n : Int) ∧ sufI s j n = R ∧ m = 0
   | _ => False) (i := s.length + 5) ?_ ⟨rfl, ⟨?_, ?_⟩, rfl, rfl⟩
 · rintro Z C B hB hC m l E ds H' hI hZ
   have h0 := hC 0 (by decide)
   have h1 := hC 1 (by decide)
   have h2 := hC 2 (by decide)
   clear hC
   have S2 : ∀ (E : Env) (j n q : Nat), E 0 = .pointer (some ⟨b, 0, none⟩) → E 1 = .pointer (some ⟨t, 0, none⟩) → i ≤ j → j ≤ s.length → n < m64 → H.next ≤ q → E 7 = .int .u64 (n : Int) → sufI s j n = R → B (some 2) E [] ((H.set b (cur a s.length c j)).to q) := by
     intro E j n q e0 e1 p1 p2 p3 p4 p5 p6
     have x' := (x.set (cur a s.length c j)).to p4
     rw [hB]
     simp +decide only [zf49.o, ↓G.o, reduceIte, jc0, jc1, e0]
     refine is_w x' (Heap.get_self H b _) _ ?_
     unfold sufI at p6
     cases h4 : isI s j 4 with
     | true =>
       rw [h4, if_pos rfl] at p6
       have hj := jh0 h4
       obtain ⟨q0, o, cs, r, rfl, hq, hc⟩ := x.row.at hj
       have qb : (q0 = b) = False := eq_false (x.ne _ rfl)
       rw [List.getD_eq_getElem?_getD, List.getElem?_eq_getElem hj, Option.getD_some] at p6
       have w1 : IntKind.i64.wrap ((j : Int) + 1) = ((j + 1 : Nat) : Int) := ja1 (by omega)
       have n77 := jb7 s[j] 77 (n := 77) rfl
       have n75 := jb7 s[j] 75 (n := 75) rfl
       by_cases h77 : s[j] = 77
       · rw [if_pos h77] at p6
         rw [decide_eq_true h77] at n77
         simp +decide only [zf49.o, ↓G.o, reduceIte, e0, p5, qb, Heap.get_set, hj, hq, hc, n77, sh10, sh20]
         refine j1m n 1048576 0 p3 (by decide) (by decide) ?_
         rw [mulI] at p6
         generalize (1048576 : Nat) = f at p6 ⊢
         by_cases ov : n * f < m64
         · rw [if_pos ov] at p6
           have E1 := endK (j + 1) _ q p4 p6
           obtain ⟨x2, hb2⟩ := x2 (j + 1) (n * f) q p4
           rw [Nat.add_zero]
           simp +decide only [zf49.o, ↓G.o, reduceIte, ex_0, ex_1, decide_eq_true ov, jf2, e0, e1, Nat.mod_eq_of_lt ov, w1, tb, Heap.get_set, ht]
           refine is_w x2 hb2 _ ?_
           cases h4 : isI s (j + 1) 4 <;> rw [h4] at E1 <;> simp +decide only [zf49.o, ↓G.o, reduceIte, e0, jf2, Bool.not_false, jb9]
           · refine is_w x2 hb2 _ ?_
             cases h3 : isI s (j + 1) 3 <;> rw [h3] at E1 <;> simp +decide only [zf49.o, ↓G.o, reduceIte, jf2, Bool.not_false, jb9] <;> exact E1
           · exact E1
         · rw [if_neg ov] at p6
           simp +decide only [zf49.o, ↓G.o, reduceIte, ex_0, ex_1, Nat.add_zero, decide_eq_false ov, jf2, Bool.not_false, jb9]
           exact badK j q p4 p6.symm
       · rw [if_neg h77] at p6
         rw [decide_eq_false h77] at n77
         by_cases h75 : s[j] = 75
         · rw [if_pos h75] at p6
           rw [decide_eq_true h75] at n75
           simp +decide only [zf49.o, ↓G.o, reduceIte, e0, p5, qb, Heap.get_set, hj, hq, hc, n77, n75, sh10, sh20, Nat.reduceBEq]
           refine j1m n 1024 0 p3 (by decide) (by decide) ?_
           rw [mulI] at p6
           generalize (1024 : Nat) = f at p6 ⊢
           by_cases ov : n * f < m64
           · rw [if_pos ov] at p6
             have E1 := endK (j + 1) _ q p4 p6
             obtain ⟨x2, hb2⟩ := x2 (j + 1) (n * f) q p4
             rw [Nat.add_zero]
             simp +decide only [zf49.o, ↓G.o, reduceIte, ex_0, ex_1, decide_eq_true ov, jf2, e0, e1, Nat.mod_eq_of_lt ov, w1, tb, Heap.get_set, ht]
             refine is_w x2 hb2 _ ?_
             cases h4 : isI s (j + 1) 4 <;> rw [h4] at E1 <;> simp +decide only [zf49.o, ↓G.o, reduceIte, e0, jf2, Bool.not_false, jb9]
             · refine is_w x2 hb2 _ ?_
               cases h3 : isI s (j + 1) 3 <;> rw [h3] at E1 <;> simp +decide only [zf49.o, ↓G.o, reduceIte, jf2, Bool.not_false, jb9] <;> exact E1
             · exact E1
           · rw [if_neg ov] at p6
             simp +decide only [zf49.o, ↓G.o, reduceIte, ex_0, ex_1, Nat.add_zero, decide_eq_false ov, jf2, Bool.not_false, jb9]
             exact badK j q p4 p6.symm
         · rw [if_neg h75] at p6
           rw [decide_eq_false h75] at n75
           simp +decide only [zf49.o, ↓G.o, reduceIte, e0, p5, qb, Heap.get_set, hj, hq, hc, n77, n75, Nat.reduceBEq, jb9]
           exact badK j q p4 p6.symm
     | false =>
       rw [h4] at p6
       have E1 := endK j n q p4 p6
       obtain ⟨x2, hb2⟩ := x2 j n q p4
       rw [h4] at E1
       simp +decide only [zf49.o, ↓G.o, reduceIte, e0, e1, p5, tb, Heap.get_set, ht]
       refine is_w x2 hb2 _ ?_
       simp +decide only [zf49.o, ↓G.o, reduceIte, e0, h4, jf2, Bool.not_false]
       refine is_w x2 hb2 _ ?_
       cases h3 : isI s j 3 <;> rw [h3] at E1 <;> simp +decide only [zf49.o, ↓G.o, reduceIte, jf2, Bool.not_false, jb9] <;> exact E1
   have S1 : ∀ (E : Env) (j n q : Nat), E 0 = .pointer (some ⟨b, 0, none⟩) → E 1 = .pointer (some ⟨t, 0, none⟩) → i ≤ j → j ≤ s.length → n < m64 → H.next ≤ q → E 7 = .int .u64 (n : Int) → decI s (s.length - j) j n = R → s.length - j + 1 ≤ m → B (some 1) E [] ((H.set b (cur a s.length c j)).to q) := by
     intro E j n q e0 e1 p1 p2 p3 p4 p5 p6 p7
     have x' := (x.set (cur a s.length c j)).to p4
     rw [hB]
     simp +decide only [zf49.o, ↓G.o, reduceIte, jc0, jc1, e0]
     refine is_w x' (Heap.get_self H b _) _ ?_
     cases h3 : isI s j 3 with
     | true =>
       have hj := jh0 h3
       have hd := dig3 (j36 h3)
       obtain ⟨m', hm⟩ : ∃ m', s.length - j = m' + 1 := ⟨s.length - j - 1, by omega⟩
       rw [hm, decI, if_pos h3] at p6
       rw [List.getD_eq_getElem?_getD, List.getElem?_eq_getElem hj, Option.getD_some] at hd p6
       obtain ⟨q0, o, cs, r, rfl, hq, hc⟩ := x.row.at hj
       have qb : (q0 = b) = False := eq_false (x.ne _ rfl)
       have w : IntKind.u64.wrap (IntKind.u8.wrap ((s[j].toNat : Int) - 48)) = ((dg s[j] : Nat) : Int) := by
         rw [ji4 (by omega) (by omega), IntKind.wrap_u64]; unfold dg; omega
       simp +decide only [zf49.o, ↓G.o, reduceIte, e0, p5, qb, Heap.get_set, hj, hq, hc, c864, w]
       refine j1m n 10 (dg s[j]) p3 (by decide) (by unfold dg m64; omega) ?_
       by_cases ov : n * 10 + dg s[j] < m64
       · rw [if_pos ov] at p6
         have w1 : IntKind.i64.wrap ((j : Int) + 1) = ((j + 1 : Nat) : Int) := ja1 (by omega)
         simp +decide only [zf49.o, ↓G.o, reduceIte, ex_0, ex_1, decide_eq_true ov, jf2, e0, Nat.mod_eq_of_lt ov, w1, jd9, h1]
         refine hZ (m' + 1) 1 _ _ _ (by omega) ⟨rfl, ⟨?_, ?_⟩, j + 1, n * 10 + dg s[j], q, by omega, by omega, ov, p4, rfl, ?_, by rw [show s.length - (j + 1) = m' by omega]; exact p6, by omega⟩
         all_goals simp +decide only [↓G.o, reduceIte, e0, e1]
       · rw [if_neg ov] at p6
         simp +decide only [zf49.o, ↓G.o, reduceIte, ex_0, ex_1, decide_eq_false ov, jf2, Bool.not_false, jb9]
         exact badK j q p4 p6.symm
     | false =>
       simp +decide only [↓G.o, reduceIte, jd9, h2]
       have : decI s (s.length - j) j n = sufI s j n := by cases hm : s.length - j <;> simp [decI, h3]
       rw [this] at p6
       refine hZ 0 2 _ _ _ (by omega) ⟨rfl, ⟨?_, ?_⟩, j, n, q, p1, p2, p3, p4, rfl, ?_, p6, rfl⟩
       all_goals simp +decide only [↓G.o, reduceIte, e0, e1, p5]
   have S3 := S2
   simp only [hB] at S3
   simp +decide only [jc0, jc1, jl1] at S3
   have S0 := S1
   simp only [hB] at S0
   simp +decide only [jc0, jc1, jl1] at S0
   obtain ⟨rfl, ⟨e0, e1⟩, hI⟩ := hI
   split at hI
   · obtain ⟨rfl, hH⟩ := hI
     subst hH
     obtain ⟨q0, o, cs, r, rfl, hq, hc⟩ := x.row.at hi
     have n48 := jb7 s[i] 48 (n := 48) rfl
     have w1 : IntKind.i64.wrap ((i : Int) + 1) = ((i + 1 : Nat) : Int) := ja1 (by omega)
     have w2 : IntKind.i64.wrap ((i : Int) + 2) = ((i + 2 : Nat) : Int) := by rw [ja8 (by omega) (by omega)]; omega
     unfold intI at hR
     rw [List.getD_eq_getElem?_getD (i := i), List.getElem?_eq_getElem hi, Option.getD_some] at hR
     have dec : ∀ E', E' 0 = .pointer (some ⟨b, 0, none⟩) → E' 1 = .pointer (some ⟨t, 0, none⟩) → E' 7 = .int .u64 ((0 : Nat) : Int) → decI s (s.length - i) i 0 = R → B (some 1) E' [] H' := fun E' a1 a2 a3 a4 => by
       have := S1 E' i 0 H'.next a1 a2 (Nat.le_refl _) (Nat.le_of_lt hi) (by decide) (Nat.le_refl _) a3 a4 (by omega)
       rwa [Heap.set_same hb] at this
     simp only [hB] at dec
     simp +decide only [jc0, jc1, jl1] at dec
     rw [hB]
     by_cases h48 : s[i] = 48
     · rw [decide_eq_true h48] at n48
       by_cases hl : i + 1 < s.length
       · obtain ⟨q1, o1, cs1, r1, eq1, hq1, hc1⟩ := x.row.at hl
         obtain ⟨rfl, rfl⟩ : q0 = q1 ∧ o = o1 := by simpa using eq1
         obtain ⟨rfl, rfl⟩ : cs = cs1 ∧ r = r1 := by rw [hq] at hq1; simpa using hq1
         have n120 := jb7 s[i + 1] 120 (n := 120) rfl
         rw [List.getD_eq_getElem?_getD, List.getElem?_eq_getElem hl, Option.getD_some] at hR
         by_cases h120 : s[i + 1] = 120
         · rw [if_pos ⟨h48, hl, h120⟩] at hR
           rw [decide_eq_true h120] at n120
           simp +decide only [zf49.o, ↓G2.o, reduceIte, e0, hb, hi, hq, hc, hc1, n48, n120, w1, w2, hl, decide_true, jd9, h0]
           refine hZ (s.length - (i + 2) + 1) 0 _ _ _ (by omega) ⟨rfl, ⟨?_, ?_⟩, i + 2, 0, H'.next, by omega, by omega, by decide, Nat.le_refl _, rfl, ?_, ?_, hR, rfl⟩
           all_goals simp +decide only [↓G.o, reduceIte, e0, e1] <;> rfl
         · rw [if_neg (fun h => h120 h.2.2)] at hR
           rw [decide_eq_false h120] at n120
           simp +decide only [zf49.o, ↓G2.o, reduceIte, e0, hb, hi, hq, hc, hc1, n48, n120, w1, hl, decide_true]
           rw [jh2]
           refine dec _ ?_ ?_ ?_ hR
           all_goals simp +decide only [↓G.o, reduceIte, e0, e1] <;> rfl
       · rw [if_neg (fun h => hl h.2.1)] at hR
         simp +decide only [zf49.o, ↓G2.o, reduceIte, e0, hb, hi, hq, hc, n48, w1, decide_eq_false hl]
         rw [jh2]
         refine dec _ ?_ ?_ ?_ hR
         all_goals simp +decide only [↓G.o, reduceIte, e0, e1] <;> rfl
     · rw [if_neg (fun h => h48 h.1)] at hR
       rw [decide_eq_false h48] at n48
       simp +decide only [zf49.o, ↓G2.o, reduceIte, e0, hb, hi, hq, hc, n48]
       rw [jh2]
       refine dec _ ?_ ?_ ?_ hR
       all_goals simp +decide only [↓G.o, reduceIte, e0, e1] <;> rfl
   · obtain ⟨j, n, q, p1, p2, p3, p4, rfl, p5, p5', p6, rfl⟩ := hI
     have x' := (x.set (cur a s.length c j)).to p4
     have ej : ((j : Int) == ((i + 2 : Nat) : Int)) = decide (j = i + 2) := by rw [Bool.eq_iff_iff, beq_iff_eq, decide_eq_true_eq]; omega
     rw [hB]
     by_cases hj : j < s.length
     · obtain ⟨m', hm⟩ : ∃ m', s.length - j = m' + 1 := ⟨s.length - j - 1, by omega⟩
       rw [hm, hexI, List.getD_eq_getElem?_getD, List.getElem?_eq_getElem hj, Option.getD_some] at p6
       obtain ⟨q0, o, cs, r, rfl, hq, hc⟩ := x.row.at hj
       have qb : (q0 = b) = False := eq_false (x.ne _ rfl)
       simp +decide only [zf49.o, ↓G2.o, reduceIte, jc0, jc1, jl1, e0, qb, Heap.get_set, hj, decide_true, hq, hc]
       refine j2l s[j] x'.tabs fun n1 hn1 => ?_
       by_cases h16 : hexT s[j].toNat < 16
       · rw [if_pos h16] at p6
         have hg : hexT s[j].toNat = (((hexT s[j].toNat).toNat : Nat) : Int) := by have := j0g s[j].toNat; omega
         generalize hgg : (hexT s[j].toNat).toNat = g at p6 hg
         have hg16 : g < 16 := by omega
         simp +decide only [zf49.o, ↓G2.o, reduceIte, decide_eq_true h16, e0, p5, qb, Heap.get_set, hj, hq, hc]
         refine j2l s[j] (x'.to hn1).tabs fun n2 hn2 => ?_
         rw [hg]
         simp +decide only [↓G2.o, reduceIte]
         refine j1m n 16 g p3 (by decide) (by unfold m64; omega) ?_
         by_cases ov : n * 16 + g < m64
         · rw [if_pos ov] at p6
           have w1 : IntKind.i64.wrap ((j : Int) + 1) = ((j + 1 : Nat) : Int) := ja1 (by omega)
           simp +decide only [zf49.o, ↓G2.o, reduceIte, ex_0, ex_1, decide_eq_true ov, jf2, e0, Nat.mod_eq_of_lt ov, w1, jd9, h0]
           refine hZ (m' + 1) 0 _ _ _ (by omega) ⟨rfl, ⟨?_, ?_⟩, j + 1, n * 16 + g, n2, by omega, by omega, ov, Nat.le_trans p4 (Nat.le_trans hn1 hn2), rfl, ?_, ?_, by rw [show s.length - (j + 1) = m' by omega]; exact p6, by omega⟩
           all_goals simp +decide only [↓G.o, reduceIte, e0, e1, p5']
         · rw [if_neg ov] at p6
           simp +decide only [zf49.o, ↓G2.o, reduceIte, ex_0, ex_1, decide_eq_false ov, jf2, Bool.not_false, jb9]
           exact badK j n2 (Nat.le_trans p4 (Nat.le_trans hn1 hn2)) p6.symm
       · rw [if_neg h16, endH] at p6
         by_cases hji : j = i + 2
         · rw [if_pos hji] at p6
           simp +decide only [zf49.o, ↓G2.o, reduceIte, decide_eq_false h16, e0, p5', ej, decide_eq_true hji, jb9]
           exact badK j n1 (Nat.le_trans p4 hn1) p6.symm
         · rw [if_neg hji] at p6
           simp +decide only [zf49.o, ↓G2.o, reduceIte, decide_eq_false h16, e0, p5', ej, decide_eq_false hji]
           rw [jh2]
           refine S3 _ j n n1 ?_ ?_ (by omega) p2 p3 (Nat.le_trans p4 hn1) ?_ p6
           all_goals simp +decide only [↓G.o, reduceIte, e0, e1, p5]
     · rw [show s.length - j = 0 by omega, hexI, endH] at p6
       have hj' : ¬ j < s.length := hj
       by_cases hji : j = i + 2
       · rw [if_pos hji] at p6
         simp +decide only [zf49.o, ↓G2.o, reduceIte, jc0, jc1, jl1, decide_eq_false hj', e0, p5', ej, decide_eq_true hji, jb9]
         exact badK j q p4 p6.symm
       · rw [if_neg hji] at p6
         simp +decide only [zf49.o, ↓G2.o, reduceIte, jc0, jc1, jl1, decide_eq_false hj', e0, p5', ej, decide_eq_false hji]
         rw [jh2]
         refine S3 _ j n q ?_ ?_ (by omega) p2 p3 p4 ?_ p6
         all_goals simp +decide only [↓G.o, reduceIte, e0, e1, p5]
   · obtain ⟨j, n, q, p1, p2, p3, p4, rfl, p5, p6, rfl⟩ := hI
     exact S1 E j n q e0 e1 p1 p2 p3 p4 p5 p6 (Nat.le_refl _)
   · obtain ⟨j, n, q, p1, p2, p3, p4, rfl, p5, p6, rfl⟩ := hI
     exact S2 E j n q e0 e1 p1 p2 p3 p4 p5 p6
   · exact hI.elim
 all_goals simp +decide only [↓G.o, reduceIte]
end Go.Am
namespace Go.Am
set_option maxRecDepth 100000
structure Near (H0 : Heap) (b : Nat) (x : Blk) (H : Heap) : Prop where
 next : H0.next ≤ H.next
 old : ∀ k, k < H0.next → k ≠ b → H.get k = H0.get k
 here : H.get b = some x
 fresh : ∀ k, H.next ≤ k → H.get k = none
section
variable {H0 H : Heap} {b : Nat} {x : Blk}
theorem Near.start (t : Tabs H0) (h : H0.get b = some x) : Near H0 b x H0 := ⟨Nat.le_refl _, fun _ _ _ => rfl, h, t.fresh⟩
theorem Near.set (h : Near H0 b x H) (y : Blk) : Near H0 b y (H.set b y) := ⟨h.next, fun k hk hb => by rw [Heap.get_set, if_neg hb]; exact h.old k hk hb, Heap.get_self H b y, fun k hk => by
 rw [Heap.get_set, if_neg]
 · exact h.fresh k hk
 · rintro rfl; have := h.fresh k hk; rw [h.here] at this; cases this⟩
theorem Near.to (h : Near H0 b x H) {n : Nat} (hn : H.next ≤ n) : Near H0 b x (H.to n) := ⟨Nat.le_trans h.next hn, h.old, h.here, fun k hk => h.fresh k (Nat.le_trans hn hk)⟩
theorem Near.lt (h : Near H0 b x H) : b < H.next := Nat.lt_of_not_le fun g => by have := h.fresh b g; rw [h.here] at this; cases this
theorem Near.alloc (h : Near H0 b x H) (es : Nat) (cells : List Value) : Near H0 b x (H.alloc es cells) := ⟨Nat.le_succ_of_le h.next, fun k hk hb => by rw [Heap.get_alloc, if_neg (by have := h.next; omega)]; exact h.old k hk hb, by rw [Heap.get_alloc, if_neg (by have := h.lt; omega)]; exact h.here, fun k hk => by
 have hk' : H.next + 1 ≤ k := hk
 rw [Heap.get_alloc, if_neg (by omega)]; exact h.fresh k (by omega)⟩
theorem Near.drop (h : Near H0 b x H) {q : Nat} (hq : H0.next ≤ q) (hb : q ≠ b) : Near H0 b x (H.drop q) := ⟨h.next, fun k hk hb => by rw [Heap.get_drop, if_neg (by omega)]; exact h.old k hk hb, by rw [Heap.get_drop, if_neg (Ne.symm hb)]; exact h.here, fun k hk => by rw [Heap.get_drop]; split; rfl; exact h.fresh k hk⟩
theorem Near.ghost (h : Near H0 b x H) (t : Tabs H0) : Ghost H ((H0.set b x).to H.next) := ⟨rfl, fun k y e => by
 have e' : (if k = b then some x else H0.get k) = some y := e
 by_cases hk : k = b
 · subst hk; rw [if_pos rfl] at e'; cases e'; exact ⟨x, h.here, rfl, id⟩
 · rw [if_neg hk] at e'
   exact ⟨y, by rw [h.old k (t.lt e') hk]; exact e', rfl, id⟩⟩
theorem Near.ctx {a : Option Addr} {s : List UInt8} (h : Near H0 b x H) (c : Ctx H0 a s b) : Ctx H a s b := by
 have lo : ∀ k, k < 12 → H.get k = H0.get k := fun k hk => h.old k (by have := c.tabs.next; omega) (by have := c.low; omega)
 exact ⟨⟨(lo 1 (by omega)).trans c.tabs.cls, (lo 2 (by omega)).trans c.tabs.asc, (lo 4 (by omega)).trans c.tabs.e4, (lo 5 (by omega)).trans c.tabs.e5, Nat.le_trans c.tabs.next h.next, h.fresh⟩,
   c.row.keep fun y hy => by
     obtain ⟨cs, r, _, h2, _⟩ := c.row.row y hy
     exact h.old _ (c.tabs.lt h2) (c.ne y hy), c.low, h.lt, c.ne⟩
end
def Own (H0 H : Heap) (es : Nat) (v : Value) (n : Nat) (cells : List Value) : Prop :=
 cells.length = n * es ∧ ((v = .slice none 0 0 ∧ n = 0) ∨ ∃ q, v = .slice (some ⟨q, 0, none⟩) n n ∧ H0.next ≤ q ∧ q < H.next ∧ H.get q = some ⟨cells, true, es, none⟩)
theorem Own.nil (H0 H : Heap) (es : Nat) : Own H0 H es (.slice none 0 0) 0 [] := ⟨by simp, .inl ⟨rfl, rfl⟩⟩
theorem Own.keep {H0 H H' : Heap} {es n : Nat} {v : Value} {cells : List Value} (o : Own H0 H es v n cells) (hn : H.next ≤ H'.next) (h : ∀ q, H0.next ≤ q → q < H.next → H'.get q = H.get q) : Own H0 H' es v n cells := by
 obtain ⟨o1, o2 | ⟨q, o2, o3, o4, o5⟩⟩ := o
 · exact ⟨o1, .inl o2⟩
 · exact ⟨o1, .inr ⟨q, o2, o3, Nat.lt_of_lt_of_le o4 hn, by rw [h q o3 o4]; exact o5⟩⟩
theorem Own.app {H0 H : Heap} {es n bytes b : Nat} {x : Blk} {v : Value} {cells news : List Value} (o : Own H0 H es v n cells) (h : Near H0 b x H) (hb : b < H0.next) (hl : news.length = es) (hc : news.all Value.oneCell' = true) (hm : (n + 1) * bytes ≤ most) (hm' : n + 1 ≤ most) :
   ∃ v' H', app H es bytes v 1 news = some (v', H') ∧ Near H0 b x H' ∧ Own H0 H' es v' (n + 1) (cells ++ news) ∧ H.next ≤ H'.next := by
 obtain ⟨o1, ⟨rfl, rfl⟩ | ⟨q, rfl, o3, o4, o5⟩⟩ := o
 · obtain rfl : cells = [] := by simpa using o1
   refine ⟨_, H.alloc es news, by simp only [Go.Am.app, mkRow]; rw [if_neg (by omega), if_pos ⟨by omega, by omega⟩], h.alloc es news, ⟨by simp [hl], .inr ⟨H.next, rfl, h.next, Nat.lt_succ_self _, by rw [Heap.get_alloc, if_pos rfl]; rfl⟩⟩, Nat.le_succ _⟩
 · refine ⟨_, (H.drop q).alloc es (cells ++ news), ?_, (h.drop o3 (by omega)).alloc es _, ⟨by simp [o1, hl, Nat.add_mul], .inr ⟨H.next, rfl, h.next, Nat.lt_succ_self _, by rw [Heap.get_alloc, if_pos (show H.next = (H.drop q).next from rfl)]⟩⟩, Nat.le_succ _⟩
   have e : look H ⟨q, 0, none⟩ = some ⟨cells, true, es, none⟩ := by simp [look, o5]
   simp only [Go.Am.app, e, Nat.zero_add]
   rw [if_pos ⟨trivial, trivial, by omega, hc, hm, hm'⟩, if_neg (by omega), mkRow, List.drop_zero, List.take_of_length_le (by omega)]
   rfl
theorem je8 {P : Program} {t te : TypeId} {es bytes : Nat} {z : List Value} (h1 : P.underlying t = some (.slice te)) (h2 : (P.info? te).map (fun i => (i.size, i.bytes)) = some (es, bytes)) (h3 : zeroT P te = some z) (hz : z.length = es) (h0 : 0 < es) {H : Heap} {q : Nat} {xs : List Value} (hq : H.get q = some ⟨xs, true, es, none⟩) (hx : xs.length = es) (v : Value) :
   appendA P #[t, t] v (.slice (some ⟨q, 0, none⟩) 1 1) H = app H es bytes v 1 xs := by
 cases hi : P.info? te with
 | none => rw [hi] at h2; cases h2
 | some i =>
   rw [hi] at h2
   simp only [Option.map_some, Option.some.injEq, Prod.mk.injEq] at h2
   obtain ⟨rfl, rfl⟩ := h2
   have src : srcCells H i.size (.slice (some ⟨q, 0, none⟩) 1 1) = some (1, xs) := by simp [srcCells, look, hq, hx, List.take_of_length_le (Nat.le_of_eq hx)]
   simp only [appendA]
   simp [h1, hi, h3, hz, h0, src]
theorem jq6 {P : Program} (t u : TypeId) (s x : Value) (H : Heap) : builtinA P .append #[t, u] #[s, x] H = appendA P #[t, u] s x H := by simp [builtinA]
theorem infoB : (PP.info? 5).map (fun i => (i.size, i.bytes)) = some (1, 1) := by kernel_rfl
theorem bs_b (H : Heap) (n : Int) : buildSliceA PP 34 1 #[(0, .int .u8 n)] H = some (.slice (some ⟨H.next, 0, none⟩) 1 1, H.alloc 1 [.int .u8 n]) := by kernel_rfl
theorem j37 {H0 H : Heap} {b : Nat} {x : Blk} {v : Value} {l : List UInt8} (o : Own H0 H 1 v l.length (rowB l)) (h : Near H0 b x H) (hb : b < H0.next) (hl : l.length < 2 ^ 47) (u : UInt8) :
   ∃ v' H', appendA PP #[34, 34] v (.slice (some ⟨H.next, 0, none⟩) 1 1) (H.alloc 1 [.int .u8 (u.toNat : Int)]) = some (v', H') ∧ Near H0 b x H' ∧ Own H0 H' 1 v' (l ++ [u]).length (rowB (l ++ [u])) ∧ H.next ≤ H'.next := by
 have h1 := h.alloc 1 [.int .u8 (u.toNat : Int)]
 have o1 : Own H0 (H.alloc 1 [.int .u8 (u.toNat : Int)]) 1 v l.length (rowB l) := o.keep (Nat.le_succ _) fun q _ hq => by rw [Heap.get_alloc, if_neg (by omega)]
 obtain ⟨v', H', e1, e2, e3, e4⟩ := o1.app (bytes := 1) (news := [.int .u8 (u.toNat : Int)]) h1 hb rfl rfl (by unfold most; omega) (by unfold most; omega)
 refine ⟨v', H', ?_, e2, by simpa [rowB] using e3, Nat.le_trans (Nat.le_succ _) e4⟩
 rw [← e1]
 exact je8 Tryz.underlying34 infoB zrU rfl (by decide) (by rw [Heap.get_alloc, if_pos rfl]) rfl v
theorem Own.conv {H0 H : Heap} {v : Value} {l : List UInt8} (o : Own H0 H 1 v l.length (rowB l)) (hl : l.length < 2 ^ 47) : convertA PP 34 9 v H = some (strV l, H) := by
 obtain ⟨o1, ⟨rfl, o3⟩ | ⟨q, rfl, o3, o4, o5⟩⟩ := o
 · obtain rfl : l = [] := by simpa using o3
   exact jl9 (H := H) (a := none) (s := []) ⟨fun _ => rfl, fun _ e => (by cases e), by decide⟩
 · refine jl9 (s := l) ⟨fun e => (by cases e), fun y e => ?_, by omega⟩
   cases e
   exact ⟨rowB l, true, rfl, o5, by simp [rowB], fun j hj => by simp [rowB, hj]⟩
theorem Ghost.set {H1 H2 : Heap} (g : Ghost H1 H2) (t : Nat) (y : Blk) : Ghost (H1.set t y) (H2.set t y) := ⟨g.1, fun k z e => by
 rw [Heap.get_set] at e ⊢
 by_cases hk : k = t
 · rw [if_pos hk] at e ⊢; cases e; exact ⟨_, rfl, rfl, id⟩
 · rw [if_neg hk] at e ⊢; exact g.2 k z e⟩
inductive TR where
 | bad (e : Nat)
 | good (w : List UInt8) (e : Nat)
def hexN (u : UInt8) : Nat := (hexT u.toNat).toNat
def textI (s : List UInt8) : Nat → Nat → List UInt8 → TR
 | 0, i, _ => .bad i
 | k + 1, i, o =>
   if i + 1 = s.length then .bad (i + 1)
   else if s.getD (i + 1) 0 = 34 then .good o (i + 2)
   else if s.getD (i + 1) 0 = 92 then
     (if i + 2 = s.length then .bad (i + 2)
      else if s.getD (i + 2) 0 = 110 then textI s k (i + 2) (o ++ [10])
      else if s.getD (i + 2) 0 = 116 then textI s k (i + 2) (o ++ [9])
      else if s.getD (i + 2) 0 = 34 then textI s k (i + 2) (o ++ [34])
      else if s.getD (i + 2) 0 = 92 then textI s k (i + 2) (o ++ [92])
      else if s.getD (i + 2) 0 = 120 then
        (if i + 3 = s.length ∨ hexT (s.getD (i + 3) 0).toNat = 16 then .bad (i + 3)
         else if i + 4 = s.length ∨ hexT (s.getD (i + 4) 0).toNat = 16 then .bad (i + 4)
         else textI s k (i + 4) (o ++ [UInt8.ofNat (hexN (s.getD (i + 3) 0) * 16 + hexN (s.getD (i + 4) 0))]))
      else .bad (i + 2))
   else if (s.getD (i + 1) 0).toNat < 32 ∨ 126 < (s.getD (i + 1) 0).toNat then .bad (i + 1)
   else textI s k (i + 1) (o ++ [s.getD (i + 1) 0])
def textR (i : Nat) : TR → LR
 | .bad e => .bad e
 | .good w e => .good ⟨3, 0, ⟨⟨w⟩⟩, i, e⟩
end Go.Am
