/- Externs that read a row of bytes. -/
import Derived.Test.YtmliebodadgpbaaGreatDoorM04
import Derived.Test.YtmliebodadgpbaaGreatDoorProg
import Derived.Shelf.Strings.Fields
import Derived.Shelf.Strconv.Clone
namespace Go.Am
theorem j5u {P : Program} {w : World} : ∀ (ns : List Int) (a : Addr) (acc : ByteArray), (∀ j x, ns[j]? = some x → w.cell? (a.add j) = some (.int .u8 x)) →
   (Extern.Bytes.loadBytes a ns.length acc).run P w = .ok ⟨acc.data ++ (ns.map fun n => UInt8.ofNat n.toNat).toArray⟩ w
 | [], a, acc, _ => by simp [Extern.Bytes.loadBytes]
 | x :: l, a, acc, h => by
   have h0 : w.cell? a = some (.int .u8 x) := by
     have := h 0 x rfl
     simpa [Addr.add] using this
   have ih := j5u (P := P) l (a.add 1) (acc.push x.toNat.toUInt8) (fun j y hy => by
     have := h (j + 1) y (by simpa using hy)
     have e : (a.add 1).add j = a.add (j + 1) := by
       unfold Addr.add
       by_cases hj : j = 0
       · subst hj; simp
       · simp [hj]; omega
     rw [e]; exact this)
   simp only [List.length_cons, Extern.Bytes.loadBytes, Sem.run_bind, run_load, h0, Result.andThen]
   rw [ih]
   congr 1
   apply ByteArray.ext
   simp [ByteArray.push]
theorem j7i {P : Program} {m : Mp} {H : Heap} {w : World} (h : Rel m H w) {a : Option Addr} {n c : Nat} {x' : Value} {s : ByteArray} (hx : VR m (.slice a n c) x') (he : strOf H a n = some s) :
   (Extern.Bytes.bytesOf x').run P w = .ok s w := by
 unfold strOf at he
 split at he
 · simp only [Option.some.injEq] at he; subst he
   cases hx with
   | atom _ h => simp [Extern.Bytes.bytesOf]
 · rename_i a
   obtain ⟨L, a', c', hsp, hm, hl, hc, hb', hs', ha, rfl⟩ := hx.slice_inv
   by_cases h0 : n = 0
   · rw [if_pos h0] at he
     simp only [Option.some.injEq] at he; subst he; subst h0
     simp [Extern.Bytes.bytesOf, Extern.Bytes.loadBytes]
   · rw [if_neg h0] at he
     cases hlk : look H a with
     | none => simp [hlk] at he
     | some y =>
       simp only [hlk] at he
       by_cases hin : a.off + n ≤ y.cells.length
       · rw [if_pos hin] at he
         split at he
         · rename_i l hl'
           simp only [Option.some.injEq] at he; subst he
           obtain ⟨_, hg, ho, hes, hfit, cs, elem, fz, h1, h2, h3, h4⟩ := h.look' hm hlk
           have ha' := jh6 hb' hs' ha (by omega)
           subst ha'
           obtain ⟨ys, k1, k2, k3⟩ := ju7 h1 h2 hfit h3 a.off n hin
           obtain ⟨ns, b1, b2⟩ := jp6 hl'
           rw [b1] at k2
           have := k2.ints; subst this
           have hlen : ns.length = n := by simpa using k1
           have hr := j5u (P := P) (w := w) ns ⟨L.c, L.base + a.off, none⟩ .empty (fun j x hj => k3 j _ (by simp [hj]))
           rw [hlen] at hr
           simp only [Extern.Bytes.bytesOf]
           rw [hr, b2]
           congr 1
           apply ByteArray.ext
           simp
         · simp at he
       · rw [if_neg hin] at he; simp at he
def ByteRow (P : Program) (f : FuncId) (e : Array Value → Sem Value) : Prop := ∀ (args : Array Value) (w : World) (v : Value), (e args).run P w = .ok v w → (callFunc f args).run P w = .ok (.value v) w
def countV (s : ByteArray) (c : Int) : Value := goInt (s.foldl (fun n x => if x == c.toNat.toUInt8 then n + 1 else n) (0 : Nat))
def indexV (s : ByteArray) (c : Int) : Value := match (List.range s.size).find? fun i => s[i]! == c.toNat.toUInt8 with | some i => goInt i | none => goInt (-1)
def byteX (P : Program) (fc fi : FuncId) : Xf := fun f args H =>
 match args.toList with
 | [.slice a n _, .int .u8 c] =>
   match strOf H a n with
   | some s => cond (Nat.beq f fc) (some (countV s c, H)) (cond (Nat.beq f fi) (some (indexV s c, H)) none)
   | none => none
 | _ => extX P f args H
theorem j7j {P : Program} {fc fi : FuncId} (hc : ByteRow P fc Extern.BytealgCount.count) (hi : ByteRow P fi Extern.BytealgIndexByte.indexByte) : XSnd P (byteX P fc fi) := by
 intro f args H v H' he m w args' h hg ha
 unfold byteX at he
 split at he
 · rename_i a n cp c hl
   split at he
   · rename_i s hs
     have hal := ha.toList
     rw [hl] at hal
     obtain ⟨x', y', e'⟩ : ∃ x' y', args' = #[x', y'] := by
       have hz := hal.1
       obtain ⟨l⟩ := args'
       match l, hz with
       | [x, y], _ => exact ⟨x, y, rfl⟩
     subst e'
     have hx : VR m (.slice a n cp) x' := hal.head
     have hy : VR m (.int .u8 c) y' := hal.tail.head
     have ey := hy.eq_of_atomic rfl
     subst ey
     have hb := j7i (P := P) h hx hs
     cases hfc : Nat.beq f fc with
     | true =>
       rw [hfc] at he
       simp only [cond_true, Option.some.injEq, Prod.mk.injEq] at he
       obtain ⟨rfl, rfl⟩ := he
       obtain rfl := Nat.eq_of_beq_eq_true hfc
       refine ⟨m, _, w, hc _ w (countV s c) ?_, .atom _ rfl, .refl h⟩
       have e0 : Extern.BytealgCount.count #[x', .int .u8 c] = (do
         let b ← Extern.Bytes.bytesOf x'
         let d ← Extern.Bytes.asByte (.int .u8 c)
         Pure.pure (goInt (b.foldl (fun n x => if x == d then n + 1 else n) (0 : Nat)))) := rfl
       rw [e0]
       simp [hb, Extern.Bytes.asByte, countV]
     | false =>
       rw [hfc] at he
       simp only [cond_false] at he
       cases hfi : Nat.beq f fi with
       | false => rw [hfi] at he; simp at he
       | true =>
         rw [hfi] at he
         simp only [cond_true, Option.some.injEq, Prod.mk.injEq] at he
         obtain ⟨rfl, rfl⟩ := he
         obtain rfl := Nat.eq_of_beq_eq_true hfi
         have hat : atomic (indexV s c) = true := by unfold indexV; split <;> rfl
         refine ⟨m, _, w, hi _ w (indexV s c) ?_, .atom _ hat, .refl h⟩
         have e0 : Extern.BytealgIndexByte.indexByte #[x', .int .u8 c] = (do
           let b ← Extern.Bytes.bytesOf x'
           let d ← Extern.Bytes.asByte (.int .u8 c)
           match (List.range b.size).find? fun i => b[i]! == d with
           | some i => Pure.pure (goInt i)
           | none => Pure.pure (goInt (-1))) := rfl
         rw [e0]
         simp only [Sem.run_bind, hb, Result.andThen_ok, Extern.Bytes.asByte, Sem.run_pure]
         unfold indexV
         split <;> simp_all
   · simp at he
 · exact ye0 P f args H v H' he m w args' h hg ha
theorem j29 {P : Program} {f : FuncId} {fn : Func} {e : Array Value → Sem Value} (hf : P.funcs[f]? = some fn) (hn : fn.name ≠ "runtime.NumGoroutine") (hb : fn.body = none) (h1 : Extern.findNext fn = none) (h2 : Extern.find fn = some e) : ByteRow P f e := by
 intro args w v hr
 simp [callFunc, hf, hn, hb, h1, h2, hr]
structure PureRow where
 f : FuncId
 args : List Value
 v : Value
def chkPure (r : R) (v : Value) : Bool := match r with | some (.ret v', _) => veq0 v' v | _ => false
def hookP (G : Heap) (gs : List Nat) (tab : List PureRow) : Hook := fun f args H =>
 match tab.find? (fun e => Nat.beq e.f f && veqs args.toList e.args) with
 | some e => cond (overB G gs H) (some (some (.ret e.v, H))) none
 | none => none
def hookOr (a b : Hook) : Hook := fun f args H => match a f args H with | some r => some r | none => b f args H
theorem jh0 {P : Program} {a b : Hook} (ha : HookSnd P a) (hb : HookSnd P b) : HookSnd P (hookOr a b) := by
 intro f args H r H' he
 unfold hookOr at he
 split at he
 · rename_i q hq
   rw [Option.some.injEq] at he
   subst he
   exact ha f args H r H' hq
 · exact hb f args H r H' he
theorem j7k {r : R} {v : Value} (h : chkPure r v = true) : ∃ Hs, r = some (.ret v, Hs) := by
 unfold chkPure at h
 split at h
 · rename_i v' Hs
   rw [j36 h]
   exact ⟨Hs, rfl⟩
 · simp at h
theorem j1k {P : Program} {K : Kf} (hK : KSnd P K) {G : Heap} (ht : Tabs P G) {gs : List Nat} (hd : ∀ b x, G.get b = some x → b ∈ gs) {tab : List PureRow}
   (hall : ∀ e ∈ tab, (e.args.all atomic && atomic e.v) = true ∧ chkPure (K e.f e.args.toArray G) e.v = true) : HookSnd P (hookP G gs tab) := by
 intro f args H r H' he m w args' h hg hargs
 unfold hookP at he
 split at he
 · rename_i e hf
   cases ho : overB G gs H with
   | false => rw [ho] at he; simp at he
   | true =>
   rw [ho] at he
   simp only [cond_true, Option.some.injEq, Prod.mk.injEq] at he
   obtain ⟨rfl, rfl⟩ := he
   have hp := List.find?_some hf
   simp only [Bool.and_eq_true] at hp
   obtain rfl := Nat.eq_of_beq_eq_true hp.1
   have ha := jy6 hp.2
   obtain ⟨h1, h2⟩ := hall e (List.mem_of_find?_eq_some hf)
   simp only [Bool.and_eq_true] at h1
   obtain ⟨Hs, hr⟩ := j7k h2
   have ea : e.args.toArray = args := by rw [← ha]
   rw [ea] at hr
   exact ye1 hK ht hr (by rw [ha]; exact h1.1) h1.2 (ye2 hd ho) h hg hargs
 · simp at he
noncomputable abbrev PP := Go.Proofs.Tryz.prog
def wordsL : List (List UInt8) := [[115, 121, 115, 116, 101, 109], [99, 111, 110, 115, 116], [101, 97, 99, 104], [105, 110], [105, 102], [101, 108, 115, 101], [97, 115, 115, 101, 114, 116], [103, 114, 111, 117, 112], [117, 115, 101], [114, 97, 109], [115, 105, 122, 101], [100, 101, 118, 105, 99, 101], [97, 116], [100, 109, 97], [114, 101, 103, 105, 111, 110], [98, 105, 103], [119, 120], [102, 105, 108, 108], [115, 117, 98, 106, 101, 99, 116], [99, 112, 117], [115, 116, 111, 112, 112, 101, 100], [109, 97, 112], [119, 114, 105, 116, 101], [101, 120, 101, 99], [102, 97, 117, 108, 116], [115, 116, 111, 112], [114, 101, 115, 101, 116], [116, 101, 108, 108], [118, 101, 99, 116, 111, 114], [99, 104, 97, 110, 110, 101, 108], [102, 114, 111, 109], [116, 111], [111, 118, 101, 114], [115, 116, 97, 114, 116], [105, 114, 113], [109, 97, 115, 107, 101, 100], [112, 108, 97, 110], [109, 97, 106, 111, 114], [114, 117, 110], [105, 100, 108, 101], [110, 101, 101, 100, 115], [110, 101, 101, 100], [101, 118, 101, 114, 121], [109, 97, 115, 116, 101, 114], [113, 117, 101, 117, 101], [115, 97, 109, 112, 108, 101], [100, 101, 112, 116, 104], [112, 117, 115, 104], [109, 111, 110, 105, 116, 111, 114], [102, 111, 114, 98, 105, 100]]
def classesL : List Int := [0, 0, 0, 0, 0, 0, 0, 0, 0, 1, 1, 0, 0, 1, 0, 0, 0, 0, 0, 0, 0, 0, 0, 0, 0, 0, 0, 0, 0, 0, 0, 0, 1, 6, 5, 2, 0, 6, 6, 0, 6, 6, 6, 6, 6, 6, 6, 6, 3, 3, 3, 3, 3, 3, 3, 3, 3, 3, 0, 6, 6, 6, 6, 0, 0, 4, 4, 4, 4, 4, 4, 4, 4, 4, 4, 4, 4, 4, 4, 4, 4, 4, 4, 4, 4, 4, 4, 4, 4, 4, 4, 6, 0, 6, 6, 4, 0, 4, 4, 4, 4, 4, 4, 4, 4, 4, 4, 4, 4, 4, 4, 4, 4, 4, 4, 4, 4, 4, 4, 4, 4, 4, 4, 6, 6, 6, 0, 0]
def asciiL : List Int := [0, 0, 0, 0, 0, 0, 0, 0, 0, 1, 1, 1, 1, 1, 0, 0, 0, 0, 0, 0, 0, 0, 0, 0, 0, 0, 0, 0, 0, 0, 0, 0, 1, 0, 0, 0, 0, 0, 0, 0, 0, 0, 0, 0, 0, 0, 0, 0, 0, 0, 0, 0, 0, 0, 0, 0, 0, 0, 0, 0, 0, 0, 0, 0, 0, 0, 0, 0, 0, 0, 0, 0, 0, 0, 0, 0, 0, 0, 0, 0, 0, 0, 0, 0, 0, 0, 0, 0, 0, 0, 0, 0, 0, 0, 0, 0, 0, 0, 0, 0, 0, 0, 0, 0, 0, 0, 0, 0, 0, 0, 0, 0, 0, 0, 0, 0, 0, 0, 0, 0, 0, 0, 0, 0, 0, 0, 0, 0, 0, 0, 0, 0, 0, 0, 0, 0, 0, 0, 0, 0, 0, 0, 0, 0, 0, 0, 0, 0, 0, 0, 0, 0, 0, 0, 0, 0, 0, 0, 0, 0, 0, 0, 0, 0, 0, 0, 0, 0, 0, 0, 0, 0, 0, 0, 0, 0, 0, 0, 0, 0, 0, 0, 0, 0, 0, 0, 0, 0, 0, 0, 0, 0, 0, 0, 0, 0, 0, 0, 0, 0, 0, 0, 0, 0, 0, 0, 0, 0, 0, 0, 0, 0, 0, 0, 0, 0, 0, 0, 0, 0, 0, 0, 0, 0, 0, 0, 0, 0, 0, 0, 0, 0, 0, 0, 0, 0, 0, 0, 0, 0, 0, 0, 0, 0, 0, 0, 0, 0, 0, 0, 0, 0, 0, 0, 0, 0]
def joinL : List (List UInt8) → List UInt8
 | [] => []
 | [w] => w
 | w :: r => w ++ 32 :: joinL r
def wordsB : List UInt8 := joinL wordsL
def strV (l : List UInt8) : Value := .string ⟨⟨l⟩⟩
def GG : Heap := (⟨.nil, 10⟩ : Heap).set 1 ⟨classesL.map fun z => .int .u8 z, false, 1, none⟩ |>.set 2 ⟨asciiL.map fun z => .int .u8 z, false, 1, none⟩
theorem jl4 : PP.globals.size = 10 := by decide +kernel
end Go.Am
namespace Go.Proofs
open Go.Shelf
def Tryz.lays157_ren : Go.Shelf.Ren := ⟨fun | 157 => 90 | 229 => 109 | 199 => 110 | 261 => 119 | 311 => 129 | 312 => 130 | n => n, fun | 9 => 9 | 31 => 47 | 3 => 3 | 5 => 5 | 4 => 4 | 119 => 127 | 0 => 0 | 40 => 109 | 152 => 132 | 21 => 21 | 154 => 134 | 51 => 112 | 141 => 136 | 196 => 144 | 193 => 141 | 198 => 147 | 49 => 145 | 194 => 142 | 201 => 150 | 226 => 156 | 46 => 101 | 227 => 157 | n => n, fun | 0 => 2 | 6 => 3 | n => n⟩
theorem Tryz.lays157 : Go.Proofs.Lays.n157 Tryz.prog Tryz.lays157_ren := {
 mixed := by kernel_rfl
 f157 := Tryz.func90.trans (congrArg some (by kernel_rfl))
 f199 := Tryz.func110.trans (congrArg some (by kernel_rfl))
 f229 := Tryz.func109.trans (congrArg some (by kernel_rfl))
 f261 := Tryz.func119.trans (congrArg some (by kernel_rfl))
 f311 := Tryz.func129.trans (congrArg some (by kernel_rfl))
 f312 := Tryz.func130.trans (congrArg some (by kernel_rfl))
 t0 := Tryz.underlying0
 a0 := Tryz.isAgg0
 z0 := Tryz.sizeOf0
 v0 := Tryz.zeroValue0
 t3 := Tryz.underlying3
 a3 := Tryz.isAgg3
 z3 := Tryz.sizeOf3
 v3 := Tryz.zeroValue3
 t4 := Tryz.underlying4
 a4 := Tryz.isAgg4
 z4 := Tryz.sizeOf4
 v4 := Tryz.zeroValue4
 t5 := Tryz.underlying5
 a5 := Tryz.isAgg5
 z5 := Tryz.sizeOf5
 v5 := Tryz.zeroValue5
 t9 := Tryz.underlying9
 a9 := Tryz.isAgg9
 z9 := Tryz.sizeOf9
 v9 := Tryz.zeroValue9
 t21 := Tryz.underlying21
 a21 := Tryz.isAgg21
 z21 := Tryz.sizeOf21
 v21 := Tryz.zeroValue21
 t31 := Tryz.underlying47
 a31 := Tryz.isAgg47
 z31 := Tryz.sizeOf47
 v31 := Tryz.zeroValue47
 t40 := Tryz.underlying109
 a40 := Tryz.isAgg109
 z40 := Tryz.sizeOf109
 v40 := Tryz.zeroValue109
 t46 := Tryz.underlying101
 a46 := Tryz.isAgg101
 z46 := Tryz.sizeOf101
 v46 := Tryz.zeroValue101
 t49 := Tryz.underlying145
 a49 := Tryz.isAgg145
 z49 := Tryz.sizeOf145
 v49 := Tryz.zeroValue145
 t51 := Tryz.underlying112
 a51 := Tryz.isAgg112
 z51 := Tryz.sizeOf112
 v51 := Tryz.zeroValue112
 t119 := Tryz.underlying127
 a119 := Tryz.isAgg127
 z119 := Tryz.sizeOf127
 t141 := Tryz.underlying136
 a141 := Tryz.isAgg136
 z141 := Tryz.sizeOf136
 v141 := Tryz.zeroValue136
 t152 := Tryz.underlying132
 a152 := Tryz.isAgg132
 z152 := Tryz.sizeOf132
 v152 := Tryz.zeroValue132
 t154 := Tryz.underlying134
 a154 := Tryz.isAgg134
 z154 := Tryz.sizeOf134
 v154 := Tryz.zeroValue134
 t193 := Tryz.underlying141
 a193 := Tryz.isAgg141
 z193 := Tryz.sizeOf141
 v193 := Tryz.zeroValue141
 t194 := Tryz.underlying142
 a194 := Tryz.isAgg142
 z194 := Tryz.sizeOf142
 v194 := Tryz.zeroValue142
 t196 := Tryz.underlying144
 a196 := Tryz.isAgg144
 z196 := Tryz.sizeOf144
 v196 := Tryz.zeroValue144
 t198 := Tryz.underlying147
 a198 := Tryz.isAgg147
 z198 := Tryz.sizeOf147
 v198 := Tryz.zeroValue147
 t201 := Tryz.underlying150
 a201 := Tryz.isAgg150
 z201 := Tryz.sizeOf150
 v201 := Tryz.zeroValue150
 t226 := Tryz.underlying156
 a226 := Tryz.isAgg156
 z226 := Tryz.sizeOf156
 v226 := Tryz.zeroValue156
 t227 := Tryz.underlying157
 a227 := Tryz.isAgg157
 z227 := Tryz.sizeOf157
 v227 := Tryz.zeroValue157
 g0 := by kernel_rfl
 g6 := by kernel_rfl }
theorem Tryz.fieldsCore (s : ByteArray) (w : World) (hs : s.size < 4294967281) (hascii : ∀ (j : Nat) b, s.data.toList[j]? = some b → b.toNat < 128) (hT : ∀ c : Nat, c < 256 → w.cell? ⟨2, c, none⟩ = some (.int .u8 (if Lib.isSp (UInt8.ofNat c) then 1 else 0))) :
   Calls Tryz.prog 90 #[.string s] w fun e w' =>
     e = .returned (.slice (some ⟨w.heap.size, 0, none⟩) (Lib.fields s.data.toList).length (Lib.fields s.data.toList).length) ∧ w' = w.alloc (.cells ((Lib.fields s.data.toList).map fun l => Value.string ⟨l.toArray⟩).toArray 9) := Any.strings_Fields_core Tryz.lays157 (by kernel_rfl) s w hs hascii hT
def Tryz.laysM316_ren : Go.Shelf.Ren := ⟨fun | 316 => 131 | n => n, fun | 9 => 9 | 3 => 3 | 4 => 4 | 37 => 34 | 0 => 0 | 127 => 158 | 5 => 5 | n => n, fun | n => n⟩
theorem Tryz.laysM316 : Go.Proofs.LaysM.n316 Tryz.prog Tryz.laysM316_ren := {
 mixed := by kernel_rfl
 f316 := Tryz.func131.trans (congrArg some (by kernel_rfl))
 t0 := Tryz.underlying0
 a0 := Tryz.isAgg0
 z0 := Tryz.sizeOf0
 v0 := Tryz.zeroValue0
 t3 := Tryz.underlying3
 a3 := Tryz.isAgg3
 z3 := Tryz.sizeOf3
 v3 := Tryz.zeroValue3
 t4 := Tryz.underlying4
 a4 := Tryz.isAgg4
 z4 := Tryz.sizeOf4
 v4 := Tryz.zeroValue4
 t9 := Tryz.underlying9
 a9 := Tryz.isAgg9
 z9 := Tryz.sizeOf9
 v9 := Tryz.zeroValue9
 t37 := Tryz.underlying34
 a37 := Tryz.isAgg34
 z37 := Tryz.sizeOf34
 v37 := Tryz.zeroValue34
 t127 := Tryz.underlying158
 a127 := Tryz.isAgg158
 z127 := Tryz.sizeOf158
 v127 := Tryz.zeroValue158
 t5 := Tryz.underlying5
 a5 := Tryz.isAgg5
 z5 := Tryz.sizeOf5
 v5 := Tryz.zeroValue5
 i0 := by kernel_rfl
 i3 := by kernel_rfl
 i4 := by kernel_rfl
 i5 := by kernel_rfl
 i9 := by kernel_rfl
 i37 := by kernel_rfl
 i127 := by kernel_rfl }
open Go.RowKit in
theorem Tryz.stringslite_Clone (s : ByteArray) (w : World) (hlim : s.size ≤ 281474976710656) :
   Calls Tryz.prog 131 #[.string s] w fun e w' => e = .returned (.string s) ∧ Below w.heap.size w w' := Any.stringslite_Clone Tryz.laysM316 s w hlim
end Go.Proofs
namespace Go.Am
def asciiV : List Value := asciiL.map fun z => .int .u8 z
def asciiOk (H : Heap) : Bool := match H.get 2 with | some y => veqs y.cells asciiV && y.o.isNone | none => false
def signsL : List (List UInt8) := [[123], [125], [91], [93], [40], [41], [59], [44], [46, 46], [61], [61, 61], [33, 61], [60], [60, 61], [62], [62, 61], [124], [94], [38], [60, 60], [62, 62], [43], [45], [42], [47], [37]]
def signsB : List UInt8 := joinL signsL
def cutV (L : List (List UInt8)) : List Value := L.map strV
def cutRow (B : List UInt8) (L : List (List UInt8)) : Hook := fun f args H =>
 cond (Nat.beq f 90) (match args.toList with
   | [.string s] => cond (decide (s.data.toList = B)) (cond (asciiOk H) (some (some (.ret (.slice (some ⟨H.next, 0, none⟩) L.length L.length), H.alloc 1 (cutV L)))) none) none
   | _ => none) none
theorem yj6 : ∀ c : Nat, c < 256 → asciiV[c]? = some (.int .u8 (if Lib.isSp (UInt8.ofNat c) then 1 else 0)) := by
 have h : (List.range 256).all (fun c => match asciiV[c]? with | some (.int .u8 n) => decide (n = if Lib.isSp (UInt8.ofNat c) then 1 else 0) | _ => false) = true := by decide +kernel
 intro c hc
 have := List.all_eq_true.mp h c (List.mem_range.mpr hc)
 revert this
 generalize asciiV[c]? = z
 intro hz
 split at hz
 · simp only [decide_eq_true_eq] at hz; rw [hz]
 · simp at hz
structure CutOk (B : List UInt8) (L : List (List UInt8)) : Prop where
 low : B.all (fun b => decide (b.toNat < 128)) = true
 cut : Lib.fields B = L
 short : B.length < 4294967281
 plain : (cutV L).all atomic = true
theorem CutOk.ascii {B : List UInt8} {L : List (List UInt8)} (h : CutOk B L) : ∀ (j : Nat) b, B[j]? = some b → b.toNat < 128 := by
 intro j b hb
 simpa using List.all_eq_true.mp h.low b (List.mem_of_getElem? hb)
theorem yz2 : CutOk wordsB wordsL := ⟨by decide +kernel, by decide +kernel, by decide +kernel, by decide +kernel⟩
theorem yz3 : CutOk signsB signsL := ⟨by decide +kernel, by decide +kernel, by decide +kernel, by decide +kernel⟩
theorem yz4 {m : Mp} {H : Heap} {w : World} (h : Rel m H w) (hg : Gl PP m) {g : Nat} (hgl : g < PP.globals.size) {y : Blk} (hy : H.get g = some y) (ho : y.o = none) {c : Nat} {v : Value} (hc : y.cells[c]? = some v) (hv : atomic v = true) :
   w.cell? ⟨g, c, none⟩ = some v := by
 obtain ⟨L, k1, k2⟩ := h.blk g y hy
 obtain ⟨L', q1, q2, q3⟩ := hg g hgl
 rw [k1] at q1
 obtain rfl := Option.some.inj q1
 obtain ⟨cs, elem, fz, p1, p2, p3, _⟩ := k2.ex ho
 obtain ⟨hlt, he⟩ := List.getElem?_eq_some_iff.mp hc
 have hfit := k2.fits
 have hlt' : L.base + c < cs.size := by omega
 have := p3 c hlt hlt'
 rw [he] at this
 have e := this.eq_of_atomic hv
 simp only [q3, Nat.zero_add] at e hlt'
 rw [q2] at p1
 simp [World.cell?, p1, hlt', e]
theorem j0k {B : List UInt8} {L : List (List UInt8)} (ok : CutOk B L) : HookSnd PP (cutRow B L) := by
 intro f args H r H' he m w args' hrel hgl hargs
 unfold cutRow at he
 cases hf : Nat.beq f 90 with
 | false => rw [hf] at he; simp at he
 | true =>
 rw [hf] at he
 obtain rfl := Nat.eq_of_beq_eq_true hf
 simp only [cond_true] at he
 split at he
 · rename_i s hs
   cases h1 : decide (s.data.toList = B) with
   | false => rw [h1] at he; simp at he
   | true =>
   cases h2 : asciiOk H with
   | false => rw [h1, h2] at he; simp at he
   | true =>
   rw [h1, h2] at he
   simp only [cond_true, Option.some.injEq, Prod.mk.injEq] at he
   obtain ⟨rfl, rfl⟩ := he
   simp only [decide_eq_true_eq] at h1
   have hat : args.toList.all atomic = true := by rw [hs]; rfl
   have e := hargs.eq_of_atomic hat
   subst e
   have ea : args' = #[.string s] := by cases args'; simp_all
   subst ea
   unfold asciiOk at h2
   split at h2
   · rename_i y hy
     simp only [Bool.and_eq_true, Option.isNone_iff_eq_none] at h2
     have hcells := jy6 h2.1
     have hT : ∀ c : Nat, c < 256 → w.cell? ⟨2, c, none⟩ = some (.int .u8 (if Lib.isSp (UInt8.ofNat c) then 1 else 0)) := fun c hc =>
       yz4 hrel hgl (by rw [jl4]; decide) hy h2.2 (by rw [hcells]; exact yj6 c hc) rfl
     have hsz : s.size < 4294967281 := by
       have : s.size = B.length := by rw [← h1]; rfl
       rw [this]; exact ok.short
     refine (Go.Proofs.Tryz.fieldsCore s w hsz (by rw [h1]; exact ok.ascii) hT).mono fun e w' ⟨he, hw⟩ => ?_
     rw [h1, ok.cut] at he hw
     subst he
     have hcells : ((L.map fun l => Value.string ⟨l.toArray⟩).toArray) = (cutV L).toArray := rfl
     rw [hcells] at hw
     have hst := Step.alloc (w' := w') hrel 1 (cutV L) (cutV L).toArray 9 (by simp) (fun i a b => by
       have hati : atomic (cutV L)[i] = true := List.all_eq_true.mp ok.plain _ (List.getElem_mem a)
       simpa using VR.atom (m := m) _ hati) (by rw [hw]; rfl) (by rw [hw]; rfl) (by rw [hw]; rfl) (by rw [hw]; rfl)
     refine ⟨_, ?_, hst⟩
     refine VR.slice H.next 0 ⟨w.heap.size, 0, 1, (cutV L).toArray.size⟩ _ L.length L.length L.length (by simp [Mp.add]) (Nat.le_refl _) (Nat.le_refl _) rfl rfl (.inr ⟨rfl, ?_⟩)
     show 0 + L.length * 1 ≤ (cutV L).toArray.size
     simp [cutV]
   · simp at h2
 · simp at he
def hookF : Hook := hookOr (cutRow wordsB wordsL) (cutRow signsB signsL)
theorem j1l : HookSnd PP hookF := jh0 (j0k yz2) (j0k yz3)
def hookC : Hook := fun f args H =>
 cond (Nat.beq f 131) (match args.toList with
   | [.string s] => cond (decide (s.size ≤ 281474976710656)) (some (some (.ret (.string s), H))) none
   | _ => none) none
theorem j7l : HookSnd PP hookC := by
 intro f args H r H' he m w args' hrel hgl hargs
 unfold hookC at he
 cases hf : Nat.beq f 131 with
 | false => rw [hf] at he; simp at he
 | true =>
 rw [hf] at he
 obtain rfl := Nat.eq_of_beq_eq_true hf
 simp only [cond_true] at he
 split at he
 · rename_i s hs
   cases h1 : decide (s.size ≤ 281474976710656) with
   | false => rw [h1] at he; simp at he
   | true =>
   rw [h1] at he
   simp only [cond_true, Option.some.injEq, Prod.mk.injEq] at he
   obtain ⟨rfl, rfl⟩ := he
   simp only [decide_eq_true_eq] at h1
   have e := hargs.eq_of_atomic (by rw [hs]; rfl)
   subst e
   have ea : args' = #[.string s] := by cases args'; simp_all
   subst ea
   refine (Go.Proofs.Tryz.stringslite_Clone s w h1).mono fun e w' ⟨he, hw⟩ => ?_
   subst he
   exact ⟨m, VR.atom _ rfl, Step.still hrel hw.os hw.tape hw.output hw.size hw.block⟩
 · simp at he
theorem mixed : PP.follows .mixedOrders = true := by kernel_rfl
theorem row44 : ByteRow PP 44 Extern.BytealgCount.count := j29 Go.Proofs.Tryz.func44 (by decide) (by kernel_rfl) (by kernel_rfl) (by kernel_rfl)
theorem row92 : ByteRow PP 92 Extern.BytealgIndexByte.indexByte := j29 Go.Proofs.Tryz.func92 (by decide) (by kernel_rfl) (by kernel_rfl) (by kernel_rfl)
noncomputable def XX : Xf := byteX PP 44 92
theorem j9c : XSnd PP XX := j7j row44 row92
noncomputable def run (h : Hook) : Kf := callR PP XX 100000 h 60
noncomputable def okRow (K : Kf) (G : Heap) (e : PureRow) : Bool := (e.args.all atomic && atomic e.v) && chkPure (K e.f e.args.toArray G) e.v
def hook0 : Hook := hookOr hookC hookF
theorem jt2 : HookSnd PP hook0 := jh0 j7l j1l
def rS : PureRow := ⟨60, [strV [115]], .int .i64 0⟩
def rA : PureRow := ⟨60, [strV [97]], .int .i64 0⟩
def rB : PureRow := ⟨60, [strV [98]], .int .i64 0⟩
abbrev T := Tr Value
noncomputable def rdP (p : List Bool) : T → Option Value :=
 List.rec (motive := fun _ => T → Option Value) (fun t => Tr.rec (motive := fun _ => Option Value) none (fun v _ _ _ _ => v) t)
   (fun b _ ih t => Tr.rec (motive := fun _ => Option Value) none (fun _ l r _ _ => Bool.rec (motive := fun _ => Option Value) (ih r) (ih l) b) t) p
noncomputable def setP (v : Value) (p : List Bool) : T → (T → R) → R :=
 List.rec (motive := fun _ => T → (T → R) → R) (fun t => Tr.rec (motive := fun _ => (T → R) → R) (fun _ => none) (fun o l r _ _ => Option.rec (motive := fun _ => (T → R) → R) (fun _ => none) (fun _ k => k (.node (some v) l r)) o) t)
   (fun b _ ih t => Tr.rec (motive := fun _ => (T → R) → R) (fun _ => none) (fun o l r _ _ => Bool.rec (motive := fun _ => (T → R) → R) (fun k => ih r fun r' => k (.node o l r')) (fun k => ih l fun l' => k (.node o l' r)) b) t) p
def pathF : Nat → Nat → List Bool
 | 0, _ => []
 | f + 1, n => if n = 0 then [] else if n % 2 = 1 then true :: pathF f (n / 2) else false :: pathF f (n / 2 - 1)
def path (n : Nat) : List Bool := pathF (n + 1) n
def dec : List Bool → Nat
 | [] => 0
 | true :: p => 2 * dec p + 1
 | false :: p => 2 * dec p + 2
theorem j1m : ∀ f n, n < f → dec (pathF f n) = n
 | 0, _, h => absurd h (Nat.not_lt_zero _)
 | f + 1, n, h => by
   unfold pathF
   split
   · rename_i e; simp [dec, e]
   · split
     · rw [dec, j1m f _ (by omega)]; omega
     · rw [dec, j1m f _ (by omega)]; omega
theorem j38 (n : Nat) : dec (path n) = n := j1m (n + 1) n (Nat.lt_succ_self n)
theorem jt3 (v : Option Value) (l r : T) (d : Nat) : (Tr.node v l r).get (2 * d + 1) = l.get d := by
 have h1 : (2 * d + 1) % 2 = 1 := by omega
 have h2 : (2 * d + 1) / 2 = d := by omega
 simp [Tr.get, h1, h2]
theorem jn9 (v : Option Value) (l r : T) (d : Nat) : (Tr.node v l r).get (2 * d + 2) = r.get d := by
 simp [Tr.get]
theorem j7m : ∀ (p : List Bool) (t : T), rdP p t = t.get (dec p)
 | [], .nil => rfl
 | [], .node v l r => by simp [dec, Tr.get]; rfl
 | _ :: _, .nil => rfl
 | true :: p, .node v l r => by rw [dec, jt3]; exact j7m p l
 | false :: p, .node v l r => by rw [dec, jn9]; exact j7m p r
theorem jy9 (i : Nat) (t : T) : rdP (path i) t = t.get i := by rw [j7m, j38]
theorem jv5 {v : Value} {r : End × Heap} : ∀ (p : List Bool) (t : T) (k : T → R), setP v p t k = some r →
   ∃ t', k t' = some r ∧ (∃ o, t.get (dec p) = some o) ∧ ∀ i, t'.get i = if i = dec p then some v else t.get i
 | [], .nil, k, h => by cases h
 | _ :: _, .nil, k, h => by cases h
 | [], .node none l r, k, h => by cases h
 | [], .node (some x) l r, k, h => by
   refine ⟨_, h, ⟨x, by simp [dec, Tr.get]⟩, fun i => ?_⟩
   by_cases e : i = 0
   · subst e; simp [dec, Tr.get]
   · simp [dec, Tr.get, e]
 | true :: p, .node o l r, k, h => by
   obtain ⟨l', h1, h2, h3⟩ := jv5 p l (fun l' => k (.node o l' r)) h
   refine ⟨_, h1, by rw [dec, jt3]; exact h2, fun i => ?_⟩
   by_cases e : i = 0
   · subst e; simp [dec, Tr.get]
   · by_cases q : i % 2 = 1
     · obtain ⟨j, rfl⟩ : ∃ j, i = 2 * j + 1 := ⟨i / 2, by omega⟩
       rw [jt3, jt3, h3, dec]
       by_cases e2 : j = dec p
       · subst e2; simp
       · have : ¬ 2 * j + 1 = 2 * dec p + 1 := by omega
         rw [if_neg e2, if_neg this]
     · obtain ⟨j, rfl⟩ : ∃ j, i = 2 * j + 2 := ⟨i / 2 - 1, by omega⟩
       have : ¬ 2 * j + 2 = dec (true :: p) := by rw [dec]; omega
       rw [if_neg this, jn9, jn9]
 | false :: p, .node o l r, k, h => by
   obtain ⟨l', h1, h2, h3⟩ := jv5 p r (fun r' => k (.node o l r')) h
   refine ⟨_, h1, by rw [dec, jn9]; exact h2, fun i => ?_⟩
   by_cases e : i = 0
   · subst e; simp [dec, Tr.get]
   · by_cases q : i % 2 = 1
     · obtain ⟨j, rfl⟩ : ∃ j, i = 2 * j + 1 := ⟨i / 2, by omega⟩
       have : ¬ 2 * j + 1 = dec (false :: p) := by rw [dec]; omega
       rw [if_neg this, jt3, jt3]
     · obtain ⟨j, rfl⟩ : ∃ j, i = 2 * j + 2 := ⟨i / 2 - 1, by omega⟩
       rw [jn9, jn9, h3, dec]
       by_cases e2 : j = dec p
       · subst e2; simp
       · have : ¬ 2 * j + 2 = 2 * dec p + 2 := by omega
         rw [if_neg e2, if_neg this]
def Rep (t : T) (ts : Array Value) : Prop := ∀ i : Nat, t.get i = ts[i]?
theorem Rep.set {t t' : T} {ts : Array Value} (h : Rep t ts) {i : Nat} {v : Value} (h2 : ∃ o, t.get (dec (path i)) = some o) (h3 : ∀ j, t'.get j = if j = dec (path i) then some v else t.get j) : Rep t' (ts.setIfInBounds i v) := by
 rw [j38] at h2 h3
 intro j
 rw [h3]
 obtain ⟨o, ho⟩ := h2
 rw [h i] at ho
 have hlt : i < ts.size := by
   rcases Nat.lt_or_ge i ts.size with h | h
   · exact h
   · rw [Array.getElem?_eq_none h] at ho; cases ho
 by_cases e : j = i
 · subst e; simp [hlt]
 · rw [if_neg e, h j, Array.getElem?_setIfInBounds]
   simp [Ne.symm e]
noncomputable def putT (d : Option Tmp) (t : T) (v : Value) (k : T → R) : R := match d with | none => k t | some i => setP v (path i) t k
theorem jp7 {d : Option Tmp} {t : T} {v : Value} {k : T → R} {r : End × Heap} (he : putT d t v k = some r) {a : Act} (h : Rep t a.tmps) : ∃ t', k t' = some r ∧ Rep t' (a.put d v).tmps ∧ (a.put d v).defers = a.defers := by
 unfold putT at he
 cases d with
 | none => exact ⟨t, he, h, rfl⟩
 | some i =>
   obtain ⟨t', h1, h2, h3⟩ := jv5 _ _ _ he
   exact ⟨t', h1, h.set h2 h3, rfl⟩
def forceV (v : Value) (k : Value → R) : R :=
 match v with
 | .iface t (.pointer p) => k (.iface t (.pointer p))
 | .iface t (.agg p) => k (.iface t (.agg p))
 | .iface t (.int i p) => k (.iface t (.int i p))
 | .iface t (.string p) => k (.iface t (.string p))
 | .nilIface => k .nilIface
 | .tuple xs => k (.tuple xs)
 | .func f xs ys => k (.func f xs ys)
 | .nilFunc => k .nilFunc
 | .map m => k (.map m)
 | .int i n => k (.int i n)
 | .bool b => k (.bool b)
 | .pointer p => k (.pointer p)
 | .slice a n c => k (.slice a n c)
 | .agg xs => k (.agg xs)
 | v => k v
theorem yj7 (v : Value) (k : Value → R) : forceV v k = k v := by unfold forceV; split <;> rfl
noncomputable def evalT (t : T) : Operand → Value
 | .tmp i => (rdP (path i) t).getD undef
 | .const v => v
 | .global g => .pointer (some ⟨g, 0, none⟩)
 | .func f => .func (.func f) #[] #[]
theorem jl5 {t : T} {a : Act} (h : Rep t a.tmps) : evalT t = a.eval := by
 funext x
 cases x with
 | tmp i => simp only [evalT, Act.eval]; rw [jy9, h i]; simp
 | _ => rfl
def blankF : Nat → Nat → T
 | 0, _ => .nil
 | f + 1, n => match n with
   | 0 => .nil
   | j + 1 => .node (some undef) (blankF f ((j + 1) / 2)) (blankF f (j / 2))
theorem jv6 : ∀ f n i, n ≤ f → (blankF f n).get i = if i < n then some undef else none
 | 0, n, i, h => by
   have : n = 0 := by omega
   subst this; rfl
 | f + 1, 0, i, h => rfl
 | f + 1, j + 1, i, h => by
   unfold blankF
   by_cases e : i = 0
   · subst e; simp [Tr.get]
   · by_cases q : i % 2 = 1
     · obtain ⟨d, rfl⟩ : ∃ d, i = 2 * d + 1 := ⟨i / 2, by omega⟩
       rw [jt3, jv6 f _ _ (by omega)]
       by_cases c : 2 * d + 1 < j + 1
       · rw [if_pos c, if_pos (by omega)]
       · rw [if_neg c, if_neg (by omega)]
     · obtain ⟨d, rfl⟩ : ∃ d, i = 2 * d + 2 := ⟨i / 2 - 1, by omega⟩
       rw [jn9, jv6 f _ _ (by omega)]
       by_cases c : 2 * d + 2 < j + 1
       · rw [if_pos c, if_pos (by omega)]
       · rw [if_neg c, if_neg (by omega)]
noncomputable def layT : List Value → Nat → T → (T → R) → R
 | [], _, t, k => k t
 | v :: l, i, t, k => setP v (path i) t fun t => layT l (i + 1) t k
theorem j5v {r : End × Heap} : ∀ (l : List Value) (i : Nat) (t : T) (k : T → R), layT l i t k = some r →
   ∃ t', k t' = some r ∧ (∀ j, t'.get j = if i ≤ j ∧ j < i + l.length then l[j - i]? else t.get j) ∧ (∀ j, i ≤ j → j < i + l.length → ∃ o, t.get j = some o)
 | [], i, t, k, h => ⟨t, h, fun j => by rw [if_neg (by simp only [List.length_nil]; omega)], fun j h1 h2 => by simp only [List.length_nil] at h2; omega⟩
 | v :: l, i, t, k, h => by
   obtain ⟨t1, h1, h2, h3⟩ := jv5 _ _ _ h
   rw [j38] at h2 h3
   obtain ⟨t2, k1, k2, k3⟩ := j5v l (i + 1) t1 k h1
   refine ⟨t2, k1, fun j => ?_, fun j a b => ?_⟩
   · rw [k2]
     simp only [List.length_cons]
     by_cases c : i + 1 ≤ j ∧ j < i + 1 + l.length
     · rw [if_pos c, if_pos (by omega)]
       obtain ⟨d, hd⟩ : ∃ d, j - i = d + 1 := ⟨j - i - 1, by omega⟩
       have : j - (i + 1) = d := by omega
       rw [hd, this]; simp
     · rw [if_neg c, h3]
       by_cases e : j = i
       · subst e; simp
       · rw [if_neg e, if_neg (by omega)]
   · simp only [List.length_cons] at b
     by_cases e : j = i
     · subst e; exact h2
     · obtain ⟨o, ho⟩ := k3 j (by omega) (by omega)
       rw [h3, if_neg e] at ho
       exact ⟨o, ho⟩
noncomputable def startT (n : Nat) (args : Array Value) (k : T → R) : R := layT args.toList 0 (blankF n n) k
theorem j1n {fn : Func} {args : Array Value} {k : T → R} {r : End × Heap} (he : startT fn.ntmps args k = some r) : ∃ t, k t = some r ∧ Rep t (act0 fn args).tmps := by
 obtain ⟨t, h1, h2, h3⟩ := j5v _ _ _ _ he
 refine ⟨t, h1, fun j => ?_⟩
 rw [h2, jv6 _ _ _ (Nat.le_refl _)]
 simp only [act0, Nat.zero_le, true_and, Nat.zero_add, Nat.sub_zero, Array.length_toList]
 have hle : args.size ≤ fn.ntmps := by
   rcases Nat.eq_zero_or_pos args.size with e | e
   · omega
   · obtain ⟨o, ho⟩ := h3 (args.size - 1) (Nat.zero_le _) (by simp; omega)
     rw [jv6 _ _ _ (Nat.le_refl _)] at ho
     split at ho
     · omega
     · cases ho
 by_cases c : j < args.size
 · rw [if_pos c, Array.getElem?_append_left c]; simp
 · rw [if_neg c, Array.getElem?_append_right (by omega), Array.getElem?_replicate]
   by_cases c2 : j < fn.ntmps
   · rw [if_pos c2, if_pos (by omega)]
   · rw [if_neg c2, if_neg (by omega)]
theorem jj8 {x : VH} {k k' : Value → Heap → R} {r : End × Heap} (hk : ∀ v H, k v H = some r → k' v H = some r) (h : bindV x k = some r) : bindV x k' = some r := by
 obtain ⟨v, H, e, h1⟩ := jd7 h
 rw [e]; exact hk v H h1
theorem jm8 {x : Option Value} {k k' : Value → R} {r : End × Heap} (hk : ∀ v, k v = some r → k' v = some r) (h : bindO x k = some r) : bindO x k' = some r := by
 obtain ⟨v, e, h1⟩ := jd9 h
 rw [e]; exact hk v h1
theorem j0l {v : Value} {k k' : R} {r : End × Heap} (hk : k = some r → k' = some r) (h : groundK v k = some r) : groundK v k' = some r := by
 unfold groundK at h ⊢
 split at h
 · rename_i e; rw [if_pos e]; exact hk h
 · cases h
def KLe (K K' : Kf) : Prop := ∀ f args H r, K f args H = some r → K' f args H = some r
theorem ye3 {x x' : R} {k k' : Value → Heap → R} {kp kp' : List PanicEntry → Heap → R} {r : End × Heap} (hx : ∀ q, x = some q → x' = some q) (hk : ∀ v H, k v H = some r → k' v H = some r) (hp : ∀ c H, kp c H = some r → kp' c H = some r)
   (h : bindR x k kp = some r) : bindR x' k' kp' = some r := by
 unfold bindR at h
 split at h
 · rw [hx _ rfl]; exact hk _ _ h
 · rw [hx _ rfl]; exact hp _ _ h
 · cases h
theorem ye4 {P : Program} {X : Xf} {K K' : Kf} (hK : KLe K K') {f : FuncId} {args : Array Value} {H : Heap} {k k' : Value → Heap → R} {kp kp' : List PanicEntry → Heap → R} {r : End × Heap}
   (hk : ∀ v H, k v H = some r → k' v H = some r) (hp : ∀ c H, kp c H = some r → kp' c H = some r) (h : callK P X K f args H k kp = some r) : callK P X K' f args H k' kp' = some r := by
 unfold callK at h ⊢
 split at h
 · split at h
   · cases h
   · rename_i hn
     simp only [hn]
     split at h
     · rename_i hb; simp only [hb, if_true]; exact jj8 hk h
     · rename_i hb; simp only [hb]; exact ye3 (fun q => hK _ _ _ q) hk hp h
 · cases h
theorem j39 {P : Program} {b : Builtin} {ts : Array TypeId} {args : Array Value} {H : Heap} {k k' : Value → Heap → R} {r : End × Heap}
   (hk : ∀ v H, k v H = some r → k' v H = some r) (h : builtinK P b ts args H k = some r) : builtinK P b ts args H k' = some r := by
 unfold builtinK at h ⊢
 split at h
 · split at h
   · exact jm8 (fun v => hk v H) h
   · cases h
 · split at h
   · rename_i e; rw [if_pos e]; exact jj8 hk h
   · cases h
 · exact jj8 hk h
 · split at h
   · rename_i e; rw [if_pos e]; exact hk _ _ h
   · cases h
 · split at h
   · rename_i e; rw [if_pos e]; exact hk _ _ h
   · cases h
 · cases h
theorem yj8 {P : Program} {ρ : Operand → Value} {o : Op} {H : Heap} {k k' : Value → Heap → R} {r : End × Heap} (hk : ∀ v H, k v H = some r → k' v H = some r) (h : mapK P ρ o H k = some r) : mapK P ρ o H k' = some r := by
 unfold mapK at h ⊢
 split at h
 · exact jj8 hk h
 · exact jm8 (fun v => hk v _) h
 · exact jj8 hk h
 · cases h
theorem j4a {P : Program} {X : Xf} {K K' : Kf} (hK : KLe K K') {ρ : Operand → Value} {o : Oper} {H : Heap} {k k' : Value → Heap → R} {kp kp' : List PanicEntry → Heap → R} {r : End × Heap}
   (hk : ∀ v H, k v H = some r → k' v H = some r) (hp : ∀ c H, kp c H = some r → kp' c H = some r) (h : opK P X K ρ o H k kp = some r) : opK P X K' ρ o H k' kp' = some r := by
 unfold opK at h ⊢
 split at h
 all_goals first
   | exact hk _ _ h
   | exact jj8 hk h
   | exact yj8 hk h
   | exact jm8 (fun v => hk v H) h
   | exact jm8 (fun v => j0l (hk v H)) h
   | (split at h
      all_goals first
        | exact hk _ _ h
        | exact hp _ _ h
        | exact j39 hk h
        | (cases h; done)
        | (split at h
           all_goals first
             | exact ye4 hK hk hp h
             | (cases h; done)))
   | (cases h; done)
   | skip
def typedF (d : Option TypeDesc) (v : Value) (k : Value → R) : R :=
 match d with
 | some (.int K) => match v with | .int K' n => cond (K' == K) (k (.int K n)) none | _ => none
 | some .bool => match v with | .bool b => k (.bool b) | _ => none
 | some .string => match v with | .string s => k (.string s) | _ => none
 | some (.slice _) => match v with | .slice a l c => k (.slice a l c) | _ => none
 | some (.pointer _) => match v with | .pointer a => k (.pointer a) | _ => none
 | some (.struct _) => match v with | .agg cs => k (.agg cs) | _ => none
 | some (.array _ _) => match v with | .agg cs => k (.agg cs) | _ => none
 | _ => k v
theorem j7n {d : Option TypeDesc} {v : Value} {k : Value → R} {r : End × Heap} (h : typedF d v k = some r) : k v = some r := by
 unfold typedF at h
 split at h
 · split at h
   · rename_i K' n
     cases e : (K' == _) with
     | false => rw [e] at h; simp at h
     | true => rw [e] at h; have := eq_of_beq e; subst this; exact h
   · simp at h
 all_goals first
   | (split at h; exact h; simp at h)
   | exact h
noncomputable def forceN (n : Nat) (k : Nat → R) : R := Nat.rec (motive := fun _ => R) (k 0) (fun j _ => k (Nat.succ j)) n
theorem j5w (n : Nat) (k : Nat → R) : forceN n k = k n := by cases n <;> rfl
def tagK : IntKind → Nat
 | .i8 => 0 | .i16 => 1 | .i32 => 2 | .i64 => 3 | .u8 => 4 | .u16 => 5 | .u32 => 6 | .u64 => 7
theorem yz5 : ∀ {k k' : IntKind}, tagK k = tagK k' → k = k' := by
 intro k k'; cases k <;> cases k' <;> simp [tagK]
def limK : IntKind → Nat
 | .i8 | .u8 => 128
 | .i16 | .u16 => 32768
 | .i32 | .u32 => 2147483648
 | .i64 | .u64 => 9223372036854775808
theorem j9d {k : IntKind} {n : Nat} (h : n < limK k) : k.wrap (.ofNat n) = .ofNat n := by
 cases k <;> simp only [limK] at h <;> simp only [IntKind.wrap, IntKind.bits, IntKind.signed] <;> simp <;> omega
noncomputable def fastI (op : BinOp) (k : IntKind) (a b : Nat) (kv : Value → R) (gen : R) : R :=
 match op with
 | .eql => cond (Nat.beq a b) (kv (.bool true)) (kv (.bool false))
 | .neq => cond (Nat.beq a b) (kv (.bool false)) (kv (.bool true))
 | .lss => cond (Nat.ble b a) (kv (.bool false)) (kv (.bool true))
 | .leq => cond (Nat.ble a b) (kv (.bool true)) (kv (.bool false))
 | .gtr => cond (Nat.ble a b) (kv (.bool false)) (kv (.bool true))
 | .geq => cond (Nat.ble b a) (kv (.bool true)) (kv (.bool false))
 | .add => cond (Nat.ble (limK k) (a + b)) gen (forceN (a + b) fun n => kv (.int k (.ofNat n)))
 | .sub => cond (Nat.ble b a) (cond (Nat.ble (limK k) a) gen (forceN (a - b) fun n => kv (.int k (.ofNat n)))) gen
 | _ => gen
theorem jg5 {P : Program} {op : BinOp} {t : TypeId} {x y : Operand} {k : IntKind} {a b : Int} {v : Value} (h1 : (op matches .eql | .neq | .lss | .leq | .gtr | .geq) = true) (h2 : Op.intCmp op a b = .pure v) :
   binA P op t x y (.int k a) (.int k b) = some v := by
 unfold binA
 cases op <;> simp at h1 <;> simp [ground, atomic, eqGuard, binOp, h2] <;> rfl
theorem ye5 {P : Program} {op : BinOp} {t : TypeId} {x y : Operand} {k : IntKind} {a b : Nat} {kv : Value → R} {gen : R} {r : End × Heap} (h : fastI op k a b kv gen = some r)
   (hg : gen = some r → bindO (binA P op t x y (.int k (.ofNat a)) (.int k (.ofNat b))) (fun v => groundK v (kv v)) = some r) :
   bindO (binA P op t x y (.int k (.ofNat a)) (.int k (.ofNat b))) (fun v => groundK v (kv v)) = some r := by
 have fin : ∀ v, binA P op t x y (.int k (.ofNat a)) (.int k (.ofNat b)) = some v → ground v = true → kv v = some r → bindO (binA P op t x y (.int k (.ofNat a)) (.int k (.ofNat b))) (fun v => groundK v (kv v)) = some r := by
   intro v h1 h2 h3
   rw [h1]
   simp [bindO, groundK, h2, h3]
 unfold fastI at h
 split at h
 · cases e : Nat.beq a b with
   | true => rw [e] at h; exact fin _ (jg5 rfl (by simp [Op.intCmp, Nat.eq_of_beq_eq_true e]; rfl)) rfl h
   | false => rw [e] at h; exact fin _ (jg5 rfl (by have := Nat.ne_of_beq_eq_false e; simp [Op.intCmp]; rw [show ((a : Int) == (b : Int)) = false by simp; omega]; rfl)) rfl h
 · cases e : Nat.beq a b with
   | true => rw [e] at h; exact fin _ (jg5 rfl (by simp [Op.intCmp, Nat.eq_of_beq_eq_true e]; rfl)) rfl h
   | false => rw [e] at h; exact fin _ (jg5 rfl (by have := Nat.ne_of_beq_eq_false e; simp [Op.intCmp, bne]; rw [show ((a : Int) == (b : Int)) = false by simp; omega]; rfl)) rfl h
 · cases e : Nat.ble b a with
   | true => rw [e] at h; have := Nat.le_of_ble_eq_true e; exact fin _ (jg5 rfl (by simp [Op.intCmp]; rw [decide_eq_false (by omega)]; rfl)) rfl h
   | false => rw [e] at h; have : ¬ b ≤ a := fun c => by rw [Nat.ble_eq_true_of_le c] at e; cases e
              exact fin _ (jg5 rfl (by simp [Op.intCmp]; rw [decide_eq_true (by omega)]; rfl)) rfl h
 · cases e : Nat.ble a b with
   | true => rw [e] at h; have := Nat.le_of_ble_eq_true e; exact fin _ (jg5 rfl (by simp [Op.intCmp]; rw [decide_eq_true (by omega)]; rfl)) rfl h
   | false => rw [e] at h; have : ¬ a ≤ b := fun c => by rw [Nat.ble_eq_true_of_le c] at e; cases e
              exact fin _ (jg5 rfl (by simp [Op.intCmp]; rw [decide_eq_false (by omega)]; rfl)) rfl h
 · cases e : Nat.ble a b with
   | true => rw [e] at h; have := Nat.le_of_ble_eq_true e; exact fin _ (jg5 rfl (by simp [Op.intCmp]; rw [decide_eq_false (by omega)]; rfl)) rfl h
   | false => rw [e] at h; have : ¬ a ≤ b := fun c => by rw [Nat.ble_eq_true_of_le c] at e; cases e
              exact fin _ (jg5 rfl (by simp [Op.intCmp]; rw [decide_eq_true (by omega)]; rfl)) rfl h
 · cases e : Nat.ble b a with
   | true => rw [e] at h; have := Nat.le_of_ble_eq_true e; exact fin _ (jg5 rfl (by simp [Op.intCmp]; rw [decide_eq_true (by omega)]; rfl)) rfl h
   | false => rw [e] at h; have : ¬ b ≤ a := fun c => by rw [Nat.ble_eq_true_of_le c] at e; cases e
              exact fin _ (jg5 rfl (by simp [Op.intCmp]; rw [decide_eq_false (by omega)]; rfl)) rfl h
 · cases e : Nat.ble (limK k) (a + b) with
   | true => rw [e] at h; exact hg h
   | false =>
     rw [e] at h
     simp only [cond_false, j5w] at h
     have : ¬ limK k ≤ a + b := fun c => by rw [Nat.ble_eq_true_of_le c] at e; cases e
     refine fin _ ?_ rfl h
     have w := j9d (k := k) (n := a + b) (by omega)
     have e2 : (Int.ofNat a + Int.ofNat b) = Int.ofNat (a + b) := rfl
     unfold binA
     simp only [ground, atomic, Bool.and_self, if_true, eqGuard, binOp, Op.intArith]
     rw [e2, w]
     simp
     rfl
 · cases e : Nat.ble b a with
   | false => rw [e] at h; exact hg h
   | true =>
     rw [e] at h
     simp only [cond_true] at h
     have l1 := Nat.le_of_ble_eq_true e
     cases e1 : Nat.ble (limK k) a with
     | true => rw [e1] at h; exact hg h
     | false =>
       rw [e1] at h
       simp only [cond_false, j5w] at h
       have : ¬ limK k ≤ a := fun c => by rw [Nat.ble_eq_true_of_le c] at e1; cases e1
       refine fin _ ?_ rfl h
       have w := j9d (k := k) (n := a - b) (by omega)
       have e2 : (Int.ofNat a - Int.ofNat b) = Int.ofNat (a - b) := by show (a : Int) - b = ((a - b : Nat) : Int); omega
       unfold binA
       simp only [ground, atomic, Bool.and_self, if_true, eqGuard, binOp, Op.intArith]
       rw [e2, w]
       simp
       rfl
 · exact hg h
structure Sim (t : T) (ds : List Deferred) (a : Act) : Prop where
 tree : Rep t a.tmps
 ds : a.defers = ds
abbrev KT := T → List Deferred → Heap → R
def KS (r : End × Heap) (k : KT) (k' : Act → Heap → R) : Prop := ∀ t ds a H, Sim t ds a → k t ds H = some r → k' a H = some r
def binOf (o : Oper) : Option (BinOp × Operand × Operand) := match o.op with | .binOp op _ x y _ => some (op, x, y) | _ => none
def movOf (o : Oper) : Option Operand := match o.op with | .move x | .assign x => some x | _ => none
def callOf (o : Oper) : Option Call := match o.op with | .defer c => some c | _ => none
noncomputable def stT (P : Program) (o : Oper) (t : T) (ds : List Deferred) (k : KT) (v : Value) (H : Heap) : R :=
 typedF (P.underlying o.type) v fun v => forceV v fun v => putT o.dst t v fun t => k t ds H
def asNat (v : Value) (f : IntKind → Nat → R) (g : R) : R := match v with | .int k (.ofNat n) => f k n | _ => g
noncomputable def binT (op : BinOp) (x y : Value) (kv : Value → R) (gen : R) : R :=
 asNat x (fun ka a => asNat y (fun kb b => cond (Nat.beq (tagK ka) (tagK kb)) (fastI op ka a b kv gen) gen) gen) gen
noncomputable def opT (P : Program) (X : Xf) (K : Kf) (o : Oper) (t : T) (ds : List Deferred) (H : Heap) (k : KT) (kp : List PanicEntry → KT) : R :=
 match movOf o with
   | some x => stT P o t ds k (evalT t x) H
   | none => match binOf o with
     | some (op, x, y) => binT op (evalT t x) (evalT t y) (fun v => stT P o t ds k v H) (opK P X K (evalT t) o H (stT P o t ds k) fun c H => kp c t ds H)
     | none => match callOf o with
       | some c => (match deferOf (evalT t) c with | some d => putT o.dst t undef fun t => k t (d :: ds) H | none => none)
       | none => opK P X K (evalT t) o H (stT P o t ds k) fun c H => kp c t ds H
theorem j4b {P : Program} {o : Oper} {t : T} {ds : List Deferred} {a : Act} {r : End × Heap} {k : KT} {k' : Act → Heap → R} (hs : Sim t ds a) (hk : KS r k k') {v : Value} {H : Heap} (h : stT P o t ds k v H = some r) :
   typed (P.underlying o.type) v (fun v => k' (a.put o.dst v) H) = some r := by
 have h := j7n h
 rw [yj7] at h
 obtain ⟨t', h1, h2, h3⟩ := jp7 h hs.tree
 exact hk _ _ _ _ ⟨h2, h3.trans hs.ds⟩ h1
theorem j3a {v : Value} {f : IntKind → Nat → R} {g : R} {r : End × Heap} (h : asNat v f g = some r) : (∃ k n, v = .int k (.ofNat n) ∧ f k n = some r) ∨ g = some r := by
 unfold asNat at h
 split at h
 · exact .inl ⟨_, _, rfl, h⟩
 · exact .inr h
theorem yj9 {P : Program} {X : Xf} {K K' : Kf} (hK : KLe K K') {o : Oper} {t : T} {ds : List Deferred} {a : Act} {H : Heap} {r : End × Heap} {k : KT} {k' : Act → Heap → R} {kp : List PanicEntry → KT} {kp' : List PanicEntry → Act → Heap → R}
   (hok : opOk P o = true) (hs : Sim t ds a) (hk : KS r k k') (hp : ∀ c, KS r (kp c) (kp' c)) (h : opT P X K o t ds H k kp = some r) : execOp1 P X K' o a H k' kp' = some r := by
 unfold opT at h
 unfold execOp1
 rw [hok]
 simp only [cond_true]
 have gen : opK P X K (evalT t) o H (stT P o t ds k) (fun c H => kp c t ds H) = some r →
     opK P X K' a.eval o H (fun v H => typed (P.underlying o.type) v fun v => k' (a.put o.dst v) H) (fun c H => kp' c a H) = some r := by
   rw [jl5 hs.tree]
   exact j4a hK (fun v H => j4b hs hk) (fun c H => hp c _ _ _ _ hs)
 split at h
 · rename_i x hm
   unfold movOf at hm
   split at hm
   · rename_i y e
     obtain rfl := Option.some.inj hm
     rw [e]
     simp only [opK, e]
     rw [← jl5 hs.tree]
     exact j4b hs hk h
   · rename_i y e
     obtain rfl := Option.some.inj hm
     rw [e]
     simp only [opK, e]
     rw [← jl5 hs.tree]
     exact j4b hs hk h
   · cases hm
 · split at h
   · rename_i op x y hb
     unfold binOf at hb
     split at hb
     · rename_i op' ty x' y' q e
       obtain ⟨rfl, rfl, rfl⟩ : op' = op ∧ x' = x ∧ y' = y := by
         have := Option.some.inj hb
         simp only [Prod.mk.injEq] at this
         exact this
       have gen' := gen
       rw [e]
       simp only [opK, e] at gen' ⊢
       rcases j3a h with ⟨ka, m, e1, h⟩ | h
       · rcases j3a h with ⟨kb, n, e2, h⟩ | h
         · cases et : Nat.beq (tagK ka) (tagK kb) with
           | false => rw [et] at h; exact gen' (by simpa only [opK, e, cond_false] using h)
           | true =>
             rw [et] at h
             obtain rfl := yz5 (Nat.eq_of_beq_eq_true et)
             rw [jl5 hs.tree] at e1 e2
             simp only [cond_true] at h
             have big : fastI op' ka m n (fun v => stT P o t ds k v H) (opK P X K (evalT t) o H (stT P o t ds k) (fun c H => kp c t ds H)) = some r → _ :=
               fun h => ye5 (P := P) (t := ty) (x := x') (y := y') h (fun h => by
                 rw [jl5 hs.tree] at h
                 simp only [opK, e, e1, e2] at h
                 exact h)
             have h2 := big h
             rw [e1, e2]
             exact jm8 (fun v => j0l (j4b hs hk)) h2
         · exact gen' (by simpa only [opK, e] using h)
       · exact gen' (by simpa only [opK, e] using h)
     · cases hb
   · split at h
     · rename_i c hc
       unfold callOf at hc
       split at hc
       · rename_i c' e
         obtain rfl := Option.some.inj hc
         rw [e]
         simp only
         rw [jl5 hs.tree] at h
         split at h
         · rename_i d hd
           rw [hd]
           simp only
           obtain ⟨t', h1, h2, h3⟩ := jp7 (a := { a with defers := d :: a.defers }) h hs.tree
           exact hk _ _ _ _ ⟨h2, h3.trans (by simp [hs.ds])⟩ h1
         · cases h
       · cases hc
     · rename_i hc
       have := gen h
       split
       · rename_i c e
         simp [callOf, e] at hc
       · exact this
noncomputable def guardT (ops : Array Oper) (o : Oper) (t : T) (run skip : R) : R :=
 match o.guard with
 | none => run
 | some (j, want) =>
   match (ops[j]?).bind (·.dst) with
   | none => skip
   | some d => match rdP (path d) t with
     | some (.bool b) => cond b (cond want run skip) (cond want skip run)
     | some (.tuple _) => skip
     | _ => none
theorem j3b {ops : Array Oper} {o : Oper} {t : T} {ds : List Deferred} {a : Act} {r : End × Heap} {run skip : R} {run' skip' : Act → R} (hs : Sim t ds a)
   (hr : ∀ a, Sim t ds a → run = some r → run' a = some r) (hk : ∀ a, Sim t ds a → skip = some r → skip' a = some r) (h : guardT ops o t run skip = some r) : guardK ops o a run' skip' = some r := by
 unfold guardT at h
 unfold guardK
 split at h
 · rename_i e; simp only [e]; exact hr a hs h
 · rename_i j want e
   simp only [e]
   split at h
   · rename_i e2; simp only [e2]; exact hk a hs h
   · rename_i d e2
     simp only [e2]
     rw [jy9, hs.tree d] at h
     split at h
     · rename_i b e3
       simp only [e3, jv1]
       have hs' : Sim t ds { a with tmps := a.tmps.setIfInBounds d (.bool b) } := by
         refine ⟨fun i => ?_, hs.ds⟩
         rw [hs.tree i, Array.getElem?_setIfInBounds]
         by_cases c : d = i
         · subst c
           have := (Array.getElem?_eq_some_iff.mp e3).1
           have e4 := (Array.getElem?_eq_some_iff.mp e3).2
           simp [this, e4]
         · simp [c]
       cases b <;> cases want <;> simp only [cond_true, cond_false] at h <;> first
         | exact hr _ hs' h
         | exact hk _ hs' h
     · rename_i e3; simp only [e3]; exact hk a hs h
     · cases h
noncomputable def execOpsT (P : Program) (X : Xf) (K : Kf) (ops : Array Oper) (l : List Oper) : T → List Deferred → Heap → KT → (List PanicEntry → KT) → R :=
 List.rec (motive := fun _ => T → List Deferred → Heap → KT → (List PanicEntry → KT) → R) (fun t ds H k _ => k t ds H)
   (fun o _ ih t ds H k kp => guardT ops o t (opT P X K o t ds H (fun t ds H => ih t ds H k kp) kp) (putT o.dst t undef fun t => ih t ds H k kp)) l
theorem jl6 {P : Program} {X : Xf} {K K' : Kf} (hK : KLe K K') {ops : Array Oper} {r : End × Heap} {k : KT} {k' : Act → Heap → R} {kp : List PanicEntry → KT} {kp' : List PanicEntry → Act → Heap → R}
   (hk : KS r k k') (hp : ∀ c, KS r (kp c) (kp' c)) : ∀ (l : List Oper) (_ : ∀ o ∈ l, opOk P o = true) (t : T) (ds : List Deferred) (a : Act) (H : Heap), Sim t ds a → execOpsT P X K ops l t ds H k kp = some r → execOps P X K' ops l a H k' kp' = some r
 | [], _, t, ds, a, H, hs, h => hk _ _ _ _ hs h
 | o :: rest, hall, t, ds, a, H, hs, h => by
   have ho := hall o (List.mem_cons_self ..)
   have hr := fun o h => hall o (List.mem_cons_of_mem _ h)
   have h' : guardT ops o t (opT P X K o t ds H (fun t ds H => execOpsT P X K ops rest t ds H k kp) kp) (putT o.dst t undef fun t => execOpsT P X K ops rest t ds H k kp) = some r := h
   show guardK ops o a _ _ = some r
   refine j3b hs (fun a hs h => ?_) (fun a hs h => ?_) h'
   · exact yj9 hK ho hs (fun t ds a H hs h => jl6 hK hk hp rest hr t ds a H hs h) hp h
   · obtain ⟨t', h1, h2, h3⟩ := jp7 h hs.tree
     exact jl6 hK hk hp rest hr _ _ _ _ ⟨h2, h3.trans hs.ds⟩ h1
def TrR (l : List (T × Heap)) (l' : List (Act × Heap)) : Prop := l.length = l'.length ∧ ∀ (i : Nat) x y, l[i]? = some x → l'[i]? = some y → Rep x.1 y.1.tmps ∧ x.2 = y.2
theorem TrR.push {l : List (T × Heap)} {l' : List (Act × Heap)} (h : TrR l l') {t : T} {a : Act} (ha : Rep t a.tmps) (H : Heap) : TrR (l ++ [(t, H)]) (l' ++ [(a, H)]) := by
 refine ⟨by simp [h.1], fun i x y hx hy => ?_⟩
 by_cases c : i < l.length
 · have c' : i < l'.length := h.1 ▸ c
   rw [List.getElem?_append_left c] at hx
   rw [List.getElem?_append_left c'] at hy
   exact h.2 i x y hx hy
 · have c' : ¬ i < l'.length := h.1 ▸ c
   rw [List.getElem?_append_right (by omega)] at hx
   rw [List.getElem?_append_right (by omega)] at hy
   have e : i - l.length = i - l'.length := by rw [h.1]
   rw [e] at hx
   cases hj : i - l'.length with
   | zero => rw [hj] at hx hy; simp at hx hy; subst hx hy; exact ⟨ha, rfl⟩
   | succ j => rw [hj] at hx; simp at hx
noncomputable def execTrT (P : Program) (X : Xf) (K : Kf) (ops : Array Oper) (l : List Oper) : T → List Deferred → Heap → List (T × Heap) → (List (T × Heap) → KT) → R :=
 List.rec (motive := fun _ => T → List Deferred → Heap → List (T × Heap) → (List (T × Heap) → KT) → R) (fun t ds H tr k => k (tr ++ [(t, H)]) t ds H)
   (fun o _ ih t ds H tr k => guardT ops o t (opT P X K o t ds H (fun t' ds' H' => ih t' ds' H' (tr ++ [(t, H)]) k) (fun _ _ _ _ => none)) (putT o.dst t undef fun t' => ih t' ds H (tr ++ [(t, H)]) k)) l
theorem jt4 {P : Program} {X : Xf} {K K' : Kf} (hK : KLe K K') {ops : Array Oper} {r : End × Heap} {k : List (T × Heap) → KT} {k' : List (Act × Heap) → Act → Heap → R} {kp' : List PanicEntry → Act → Heap → R} :
   ∀ (l : List Oper) (_ : ∀ o ∈ l, opOk P o = true) (n : Nat) (_ : ∀ tr tr', TrR tr tr' → tr'.length = n + l.length + 1 → KS r (k tr) (k' tr')) (t : T) (ds : List Deferred) (a : Act) (H : Heap) (tr : List (T × Heap)) (tr' : List (Act × Heap)), TrR tr tr' → tr'.length = n → Sim t ds a →
     execTrT P X K ops l t ds H tr k = some r → execTr P X K' ops l a H tr' k' kp' = some r
 | [], _, n, hk, t, ds, a, H, tr, tr', ht, hn, hs, h => hk _ _ (ht.push hs.tree H) (by simp [hn]) _ _ _ _ hs h
 | o :: rest, hall, n, hk, t, ds, a, H, tr, tr', ht, hn, hs, h => by
   have ho := hall o (List.mem_cons_self ..)
   have hr := fun o h => hall o (List.mem_cons_of_mem _ h)
   have h' : guardT ops o t (opT P X K o t ds H (fun t' ds' H' => execTrT P X K ops rest t' ds' H' (tr ++ [(t, H)]) k) (fun _ _ _ _ => none)) (putT o.dst t undef fun t' => execTrT P X K ops rest t' ds H (tr ++ [(t, H)]) k) = some r := h
   show guardK ops o a _ _ = some r
   have hk' : ∀ tr tr', TrR tr tr' → tr'.length = (n + 1) + rest.length + 1 → KS r (k tr) (k' tr') := fun tr tr' h1 h2 => hk tr tr' h1 (by rw [h2]; simp; omega)
   refine j3b hs (fun a hs h => ?_) (fun a hs h => ?_) h'
   · exact yj9 hK ho hs (fun t2 ds2 a2 H2 hs2 h2 => jt4 hK rest hr (n + 1) hk' t2 ds2 a2 H2 _ _ (ht.push hs.tree H) (by simp [hn]) hs2 h2) (fun c t ds a H hs h => by cases h) h
   · obtain ⟨t', h1, h2, h3⟩ := jp7 h hs.tree
     exact jt4 hK rest hr (n + 1) hk' _ _ _ _ _ _ (ht.push hs.tree H) (by simp [hn]) ⟨h2, h3.trans hs.ds⟩ h1
def drawPairs (P : Program) (ops : List Oper) : List (Nat × Nat) :=
 let b := masks ops []
 let n := ops.length
 (List.range n).flatMap fun i => match ops[i]? with
   | some oi => cond (decide (cls P oi = 1)) ((List.range n).filter fun p => match ops[p]? with
       | some op => decide (cls P op = 2 ∧ (b.getD i 0).testBit p = false ∧ (b.getD p 0).testBit i = false)
       | none => false) [] |>.map fun p => (i, p)
   | none => []
noncomputable def guardBT (ops : Array Oper) (o : Oper) (t : T) : Option Bool :=
 match o.guard with
 | none => some true
 | some (j, want) =>
   match (ops[j]?).bind (·.dst) with
   | none => some false
   | some d =>
     match rdP (path d) t with
     | some (.bool b) => some (b == want)
     | some (.tuple _) => some false
     | _ => none
theorem ye6 {ops : Array Oper} {o : Oper} {t : T} {a : Act} (h : Rep t a.tmps) : guardBT ops o t = guardB ops o a := by
 unfold guardBT guardB
 cases o.guard with
 | none => rfl
 | some q =>
   obtain ⟨j, want⟩ := q
   simp only
   cases (ops[j]?).bind (·.dst) with
   | none => rfl
   | some d =>
     simp only [jy9, h d]
     cases a.tmps[d]? with
     | none => rfl
     | some v => cases v <;> rfl
noncomputable def pairChk (P : Program) (ops : Array Oper) (tr : List (T × Heap)) (i p : Nat) : Bool :=
 match ops.toList[i]?, tr[i]?, tr[i + 1]?, tr[p]?, tr[p + 1]? with
 | some oi, some ti, some tn, some tp, some tq =>
   match guardBT ops oi ti.1 with
   | some true => (match oi.dst with
     | some d =>
       (match qval P (evalT ti.1) oi tp.2 with | some v => veq v ((rdP (path d) tn.1).getD undef) | none => false) &&
       (match qval P (evalT ti.1) oi tq.2 with | some v => veq v ((rdP (path d) tn.1).getD undef) | none => false)
     | none => false)
   | _ => true
 | _, _, _, _, _ => false
noncomputable def drawChkT (P : Program) (ops : Array Oper) (tr : List (T × Heap)) : Bool := (drawPairs P ops.toList).all fun x => pairChk P ops tr x.1 x.2
theorem ye7 {P : Program} {ops : Array Oper} {tr : List (T × Heap)} {tr' : List (Act × Heap)} (h : TrR tr tr') (hn : tr'.length = ops.toList.length + 1) (hc : drawChkT P ops tr = true) : drawChk P ops tr' = true := by
 unfold drawChk
 simp only [List.all_eq_true, List.mem_range]
 intro i hi
 have g0 : ∃ oi, ops.toList[i]? = some oi := ⟨_, List.getElem?_eq_getElem hi⟩
 have gt : ∀ j, j ≤ ops.toList.length → ∃ x y, tr[j]? = some x ∧ tr'[j]? = some y ∧ Rep x.1 y.1.tmps ∧ x.2 = y.2 := fun j hj => by
   have c' : j < tr'.length := by omega
   have c : j < tr.length := by rw [h.1]; exact c'
   exact ⟨_, _, List.getElem?_eq_getElem c, List.getElem?_eq_getElem c', h.2 j _ _ (List.getElem?_eq_getElem c) (List.getElem?_eq_getElem c')⟩
 obtain ⟨oi, e0⟩ := g0
 obtain ⟨xi, yi, a1, a2, a3, a4⟩ := gt i (by omega)
 obtain ⟨xn, yn, b1, b2, b3, b4⟩ := gt (i + 1) (by omega)
 rw [e0, a2, b2]
 simp only
 split
 · rename_i hg
   simp only [List.all_eq_true, List.mem_range]
   intro p hp
   obtain ⟨op, e1⟩ : ∃ op, ops.toList[p]? = some op := ⟨_, List.getElem?_eq_getElem hp⟩
   rw [e1]
   simp only
   split
   · rename_i hq
     obtain ⟨xp, yp, c1, c2, c3, c4⟩ := gt p (by omega)
     obtain ⟨xq, yq, d1, d2, d3, d4⟩ := gt (p + 1) (by omega)
     have hmem : (i, p) ∈ drawPairs P ops.toList := by
       unfold drawPairs
       simp only [List.mem_flatMap, List.mem_range]
       refine ⟨i, hi, ?_⟩
       rw [e0]
       simp only [hg.1, decide_true, cond_true, List.mem_map, List.mem_filter, List.mem_range]
       refine ⟨p, ⟨hp, ?_⟩, rfl⟩
       rw [e1]
       exact decide_eq_true hq
     have hchk := List.all_eq_true.mp hc _ hmem
     unfold pairChk at hchk
     rw [e0, a1, b1, c1, d1] at hchk
     simp only [ye6 a3, hg.2] at hchk
     rw [c2, d2]
     cases hd : oi.dst with
     | none => rw [hd] at hchk; cases hchk
     | some d =>
       rw [hd] at hchk
       simp only [jl5 a3, jy9, b3 d, c4, d4] at hchk ⊢
       generalize qval P yi.1.eval oi yp.2 = q1 at hchk ⊢
       generalize qval P yi.1.eval oi yq.2 = q2 at hchk ⊢
       cases q1 <;> cases q2 <;> first
         | (simp at hchk; done)
         | simpa using hchk
   · rfl
 · rfl
abbrev KO := Out → KT
def KSo (r : End × Heap) (k : KO) (k' : Out → Act → Heap → R) : Prop := ∀ o, KS r (k o) (k' o)
noncomputable def loopT (body : T → List Deferred → Heap → KO → R) (n : Nat) : T → List Deferred → Heap → KO → R :=
 Nat.rec (motive := fun _ => T → List Deferred → Heap → KO → R) (fun _ _ _ _ => none)
   (fun _ ih t ds H k => body t ds H fun o t ds H => match o with | .norm => ih t ds H k | o => k o t ds H) n
def BSim (r : End × Heap) (body : T → List Deferred → Heap → KO → R) (body' : Act → Heap → (Out → Act → Heap → R) → R) : Prop :=
 ∀ k k', KSo r k k' → ∀ t ds a H, Sim t ds a → body t ds H k = some r → body' a H k' = some r
theorem j5x {r : End × Heap} {body : T → List Deferred → Heap → KO → R} {body' : Act → Heap → (Out → Act → Heap → R) → R} (hb : BSim r body body') : ∀ n, BSim r (loopT body n) (loopC body' n)
 | 0, _, _, _, _, _, _, _, _, h => by cases h
 | n + 1, k, k', hk, t, ds, a, H, hs, h => by
   refine hb _ _ (fun o t ds a H hs h => ?_) t ds a H hs h
   cases o with
   | norm => exact j5x hb n k k' hk _ _ _ _ hs h
   | _ => exact hk _ _ _ _ _ hs h
noncomputable def scopeT (c : Code) (body : Option Nat → T → List Deferred → Heap → KO → R) (n : Nat) : Option Nat → T → List Deferred → Heap → KO → R :=
 Nat.rec (motive := fun _ => Option Nat → T → List Deferred → Heap → KO → R) (fun _ _ _ _ _ => none)
   (fun _ ih s t ds H k => body s t ds H fun o t ds H => match o with | .goto l => cond (hasLabel l c) (ih (some l) t ds H k) (k (.goto l) t ds H) | o => k o t ds H) n
theorem j3c {r : End × Heap} {c : Code} {body : Option Nat → T → List Deferred → Heap → KO → R} {body' : Option Nat → Act → Heap → (Out → Act → Heap → R) → R} (hb : ∀ s, BSim r (body s) (body' s)) :
   ∀ n s, BSim r (scopeT c body n s) (scopeC c body' n s)
 | 0, _, _, _, _, _, _, _, _, _, h => by cases h
 | n + 1, s, k, k', hk, t, ds, a, H, hs, h => by
   refine hb s _ _ (fun o t ds a H hs h => ?_) t ds a H hs h
   cases o with
   | goto l =>
     simp only at h ⊢
     cases e : hasLabel l c with
     | true => rw [e] at h; exact j3c hb n _ k k' hk _ _ _ _ hs h
     | false => rw [e] at h; exact hk _ _ _ _ _ hs h
   | _ => exact hk _ _ _ _ _ hs h
noncomputable def execT (P : Program) (X : Xf) (K : Kf) (N : Nat) (c : Code) : Option Nat → T → List Deferred → Heap → KO → R :=
 Code.rec (motive := fun _ => Option Nat → T → List Deferred → Heap → KO → R)
   (skip := fun s t ds H k => Option.rec (motive := fun _ => R) (k .norm t ds H) (fun _ => none) s)
   (region := fun _ ops draw s t ds H k => Option.rec (motive := fun _ => R)
     (cond draw (execTrT P X K ops ops.toList t ds H [] fun tr t ds H => cond (drawChkT P ops tr) (k .norm t ds H) none)
       (execOpsT P X K ops ops.toList t ds H (k .norm) (fun c => k (.pan c)))) (fun _ => none) s)
   (seq := fun x _ ihx ihy s t ds H k => Option.rec (motive := fun _ => R)
     (ihx none t ds H fun o t ds H => match o with | .norm => ihy none t ds H k | o => k o t ds H)
     (fun l => cond (hasLabel l x) (ihx (some l) t ds H fun o t ds H => match o with | .norm => ihy none t ds H k | o => k o t ds H) (ihy (some l) t ds H k)) s)
   (cond := fun c _ _ ihx ihy s t ds H k => Option.rec (motive := fun _ => R) (match evalT t c with | .bool b => cond b (ihx none t ds H k) (ihy none t ds H k) | _ => none) (fun _ => none) s)
   (block := fun id _ ih s t ds H k => Option.rec (motive := fun _ => R) (ih none t ds H fun o t ds H => match o with | .exit i => cond (i == id) (k .norm t ds H) (k (.exit i) t ds H) | o => k o t ds H) (fun _ => none) s)
   (loop := fun _ ih s t ds H k => Option.rec (motive := fun _ => R) (loopT (ih none) N t ds H k) (fun _ => none) s)
   (rangeFunc := fun _ _ _ _ _ _ _ _ _ _ _ => none)
   (exit := fun id s t ds H k => Option.rec (motive := fun _ => R) (k (.exit id) t ds H) (fun _ => none) s)
   (scope := fun b ih s t ds H k => Option.rec (motive := fun _ => R) (scopeT b ih N none t ds H k) (fun _ => none) s)
   (label := fun l' s t ds H k => Option.rec (motive := fun _ => R) (k .norm t ds H) (fun l => cond (l' == l) (k .norm t ds H) none) s)
   (goto := fun l s t ds H k => Option.rec (motive := fun _ => R) (k (.goto l) t ds H) (fun _ => none) s)
   (ret := fun s t ds H k => Option.rec (motive := fun _ => R) (k .ret t ds H) (fun _ => none) s)
   (refuse := fun _ _ _ _ _ _ => none) c
theorem yk0 {r : End × Heap} {b2 : T → List Deferred → Heap → KO → R} {b2' : Act → Heap → (Out → Act → Heap → R) → R} (h2 : BSim r b2 b2') {k : KO} {k' : Out → Act → Heap → R} (hk : KSo r k k') :
   KSo r (fun o t ds H => match o with | .norm => b2 t ds H k | o => k o t ds H) (fun o a H => match o with | .norm => b2' a H k' | o => k' o a H) := by
 intro o t ds a H hs h
 cases o with
 | norm => exact h2 k k' hk _ _ _ _ hs h
 | _ => exact hk _ _ _ _ _ hs h
def goodC (P : Program) : Code → Bool
 | .region _ ops draw => ops.toList.all (opOk P) && (!draw || drawOk P ops.toList)
 | .seq a b => goodC P a && goodC P b
 | .cond _ a b => goodC P a && goodC P b
 | .block _ b => goodC P b
 | .loop b => goodC P b
 | .scope b => goodC P b
 | _ => true
theorem je0 {P : Program} {X : Xf} {K K' : Kf} (hK : KLe K K') {N : Nat} {r : End × Heap} : ∀ (c : Code) (_ : goodC P c = true) (s : Option Nat), BSim r (execT P X K N c s) (exec P X K' N c s)
 | .skip, hg, none, k, k', hk, t, ds, a, H, hs, h => by unfold exec; exact hk _ _ _ _ _ hs h
 | .skip, hg, some _, k, k', hk, t, ds, a, H, hs, h => by cases h
 | .region id ops draw, hg, none, k, k', hk, t, ds, a, H, hs, h => by
   unfold exec
   simp only [goodC, Bool.and_eq_true] at hg
   have ho := fun o h => List.all_eq_true.mp hg.1 o h
   cases draw with
   | false =>
     exact jl6 (k' := fun a H => k' .norm a H) (kp' := fun c a H => k' (.pan c) a H) hK (fun t ds a H => hk .norm t ds a H) (fun c t ds a H => hk (.pan c) t ds a H) ops.toList ho t ds a H hs h
   | true =>
     have e : drawOk P ops.toList = true := by simpa using hg.2
     rw [e]
     simp only [cond_true]
     refine jt4 (k' := fun tr af Hf => cond (drawChk P ops tr) (k' .norm af Hf) none) hK ops.toList ho 0 (fun tr tr' htr hn => ?_) t ds a H [] [] ⟨rfl, fun i x y hx => by simp at hx⟩ rfl hs h
     intro t ds a H hs h
     cases e2 : drawChkT P ops tr with
     | false => rw [e2] at h; cases h
     | true =>
       rw [e2] at h
       rw [ye7 htr (by rw [hn]; omega) e2]
       exact hk _ _ _ _ _ hs h
 | .region .., hg, some _, k, k', hk, t, ds, a, H, hs, h => by cases h
 | .seq x y, hg, none, k, k', hk, t, ds, a, H, hs, h => by
   simp only [goodC, Bool.and_eq_true] at hg
   unfold exec
   exact je0 hK x hg.1 none _ _ (yk0 (je0 hK y hg.2 none) hk) t ds a H hs h
 | .seq x y, hg, some l, k, k', hk, t, ds, a, H, hs, h => by
   simp only [goodC, Bool.and_eq_true] at hg
   unfold exec
   have h' : cond (hasLabel l x) (execT P X K N x (some l) t ds H fun o t ds H => match o with | .norm => execT P X K N y none t ds H k | o => k o t ds H) (execT P X K N y (some l) t ds H k) = some r := h
   cases e : hasLabel l x with
   | true => rw [e] at h'; exact je0 hK x hg.1 (some l) _ _ (yk0 (je0 hK y hg.2 none) hk) t ds a H hs h'
   | false => rw [e] at h'; exact je0 hK y hg.2 (some l) _ _ hk t ds a H hs h'
 | .cond c x y, hg, none, k, k', hk, t, ds, a, H, hs, h => by
   simp only [goodC, Bool.and_eq_true] at hg
   unfold exec
   have h' : (match evalT t c with | .bool b => cond b (execT P X K N x none t ds H k) (execT P X K N y none t ds H k) | _ => none) = some r := h
   rw [jl5 hs.tree] at h'
   split at h'
   · rename_i b e
     simp only [e]
     cases b with
     | true => exact je0 hK x hg.1 none _ _ hk t ds a H hs h'
     | false => exact je0 hK y hg.2 none _ _ hk t ds a H hs h'
   · cases h'
 | .cond .., hg, some _, k, k', hk, t, ds, a, H, hs, h => by cases h
 | .block id b, hg, none, k, k', hk, t, ds, a, H, hs, h => by
   unfold exec
   refine je0 hK b hg none _ _ (fun o t ds a H hs h => ?_) t ds a H hs h
   cases o with
   | exit i =>
     simp only at h ⊢
     cases e : (i == id) with
     | true => rw [e] at h; exact hk _ _ _ _ _ hs h
     | false => rw [e] at h; exact hk _ _ _ _ _ hs h
   | _ => exact hk _ _ _ _ _ hs h
 | .block .., hg, some _, k, k', hk, t, ds, a, H, hs, h => by cases h
 | .loop b, hg, none, k, k', hk, t, ds, a, H, hs, h => by
   unfold exec
   exact j5x (je0 hK b hg none) N k k' hk t ds a H hs h
 | .loop _, hg, some _, k, k', hk, t, ds, a, H, hs, h => by cases h
 | .rangeFunc .., hg, s, k, k', hk, t, ds, a, H, hs, h => by cases h
 | .exit id, hg, none, k, k', hk, t, ds, a, H, hs, h => by unfold exec; exact hk _ _ _ _ _ hs h
 | .exit _, hg, some _, k, k', hk, t, ds, a, H, hs, h => by cases h
 | .scope b, hg, none, k, k', hk, t, ds, a, H, hs, h => by
   unfold exec
   exact j3c (fun s => je0 hK b hg s) N none k k' hk t ds a H hs h
 | .scope _, hg, some _, k, k', hk, t, ds, a, H, hs, h => by cases h
 | .label l', hg, none, k, k', hk, t, ds, a, H, hs, h => by unfold exec; exact hk _ _ _ _ _ hs h
 | .label l', hg, some l, k, k', hk, t, ds, a, H, hs, h => by
   unfold exec
   have h' : cond (l' == l) (k .norm t ds H) none = some r := h
   cases e : (l' == l) with
   | true => rw [e] at h'; exact hk _ _ _ _ _ hs h'
   | false => rw [e] at h'; cases h'
 | .goto l, hg, none, k, k', hk, t, ds, a, H, hs, h => by unfold exec; exact hk _ _ _ _ _ hs h
 | .goto _, hg, some _, k, k', hk, t, ds, a, H, hs, h => by cases h
 | .ret, hg, none, k, k', hk, t, ds, a, H, hs, h => by unfold exec; exact hk _ _ _ _ _ hs h
 | .ret, hg, some _, k, k', hk, t, ds, a, H, hs, h => by cases h
 | .refuse _, hg, s, k, k', hk, t, ds, a, H, hs, h => by cases h
noncomputable def resT (P : Program) (t : T) (H : Heap) : List ResultVar → Option (List Value)
 | [] => some []
 | .tmp i :: r => match resT P t H r with | some l => some ((rdP (path i) t).getD undef :: l) | none => none
 | .cell i ty :: r => match loadA P ty ((rdP (path i) t).getD undef) H with
   | some (v, _) => match resT P t H r with | some l => some (v :: l) | none => none
   | none => none
theorem j1o {P : Program} {t : T} {ts : Array Value} (h : Rep t ts) (H : Heap) : ∀ l, resT P t H l = resL P ts H l
 | [] => rfl
 | .tmp i :: r => by
   unfold resT resL
   have e : (ts[i]?).getD undef = ts.getD i undef := by simp
   rw [j1o h H r, jy9, h i, e]
   cases resL P ts H r <;> rfl
 | .cell i ty :: r => by
   unfold resT resL
   have e : (ts[i]?).getD undef = ts.getD i undef := by simp
   rw [j1o h H r, jy9, h i, e]
   cases loadA P ty (ts.getD i undef) H with
   | none => rfl
   | some x => cases resL P ts H r <;> rfl
noncomputable def finDT (P : Program) (fn : Func) (u : FrameMode) (kd : End → FrameMode → Heap → R) (o : Out) (t : T) (ds : List Deferred) (H : Heap) : R :=
 match o with
 | .norm | .ret => match ds with
   | [] => match resT P t H fn.results.toList with | some l => kd (.ret (oneOf l)) u H | none => none
   | _ => none
 | .pan c => match ds with | [] => kd (.pan c) u H | _ => none
 | _ => none
theorem jp8 {P : Program} {fn : Func} {u : FrameMode} {kd kd' : End → FrameMode → Heap → R} {r : End × Heap} (hk : ∀ e u H, kd e u H = some r → kd' e u H = some r) : KSo r (finDT P fn u kd) (finD P fn u kd') := by
 intro o t ds a H hs h
 unfold finDT at h
 unfold finD
 split at h
 · simp only [hs.ds]
   split at h
   · rw [j1o hs.tree] at h
     simp only
     split at h
     · rename_i e; rw [e]; exact hk _ _ _ h
     · cases h
   · cases h
 · simp only [hs.ds]
   split at h
   · rw [j1o hs.tree] at h
     simp only
     split at h
     · rename_i e; rw [e]; exact hk _ _ _ h
     · cases h
   · cases h
 · simp only [hs.ds]
   split at h
   · exact hk _ _ _ h
   · cases h
 · cases h
noncomputable def bodyDT (P : Program) (X : Xf) (K : Kf) (N : Nat) (fn : Func) (c : Code) (args : Array Value) (u : FrameMode) (H : Heap) (kd : End → FrameMode → Heap → R) : R :=
 startT fn.ntmps args fun t => match c with
 | .seq (.region _ ops false) rest => match ops.toList with
   | o :: os => cond (isRec o)
     (putT o.dst t (recM u).1 fun t => execOpsT P X K ops os t [] H (fun t ds H => execT P X K N rest none t ds H (finDT P fn (recM u).2 kd)) (fun c t ds H => finDT P fn (recM u).2 kd (.pan c) t ds H))
     (execT P X K N c none t [] H (finDT P fn u kd))
   | [] => execT P X K N c none t [] H (finDT P fn u kd)
 | c => execT P X K N c none t [] H (finDT P fn u kd)
theorem ye8 {P : Program} {X : Xf} {K K' : Kf} (hK : KLe K K') {N : Nat} {fn : Func} {c : Code} {args : Array Value} {u : FrameMode} {H : Heap} {kd kd' : End → FrameMode → Heap → R} {r : End × Heap}
   (hg : goodC P c = true) (hk : ∀ e u H, kd e u H = some r → kd' e u H = some r) (h : bodyDT P X K N fn c args u H kd = some r) : bodyD P X K' N fn c args u H kd' = some r := by
 unfold bodyDT at h
 obtain ⟨t, h1, h2⟩ := j1n h
 have hs : Sim t [] (act0 fn args) := ⟨h2, rfl⟩
 unfold bodyD
 split at h1
 · rename_i id ops rest
   simp only
   split at h1
   · rename_i o os e
     simp only [e]
     cases hi : isRec o with
     | true =>
       rw [hi] at h1
       simp only [goodC, Bool.and_eq_true] at hg
       have hall := fun o h => List.all_eq_true.mp hg.1.1 o h
       rw [e] at hall
       simp only [cond_true] at h1 ⊢
       obtain ⟨t', q1, q2, q3⟩ := jp7 (a := act0 fn args) h1 h2
       exact jl6 hK (fun t ds a H hs h => je0 hK rest hg.2 none _ _ (jp8 hk) t ds a H hs h) (fun c t ds a H hs h => jp8 hk (.pan c) t ds a H hs h) os (fun o h => hall o (List.mem_cons_of_mem _ h)) t' [] _ H ⟨q2, q3⟩ q1
     | false =>
       rw [hi] at h1
       exact je0 hK _ hg none _ _ (jp8 hk) t [] _ H hs h1
   · rename_i e
     simp only [e]
     exact je0 hK _ hg none _ _ (jp8 hk) t [] _ H hs h1
 · rename_i hno
   split
   · rename_i ops rest
     exact absurd rfl (hno _ _ _)
   · exact je0 hK _ hg none _ _ (jp8 hk) t [] _ H hs h1
def GoodP (P : Program) (bad : List Nat) : Prop := ∀ (f : FuncId) fn c, bad.any (Nat.beq f) = false → P.funcs[f]? = some fn → fn.body = some c → goodC P c = true
def goodF (P : Program) (fn : Func) : Bool := match fn.body with | some c => goodC P c | none => true
def goodAt (P : Program) (bad : List Nat) (f : Nat) : Bool := cond (bad.any (Nat.beq f)) true (match P.funcs[f]? with | some fn => goodF P fn | none => true)
theorem yz6 {P : Program} {bad : List Nat} {n : Nat} (hn : P.funcs.size = n) (h : ∀ f, f < n → goodAt P bad f = true) : GoodP P bad := by
 intro f fn c hb hf hc
 have hlt := (Array.getElem?_eq_some_iff.mp hf).1
 have := h f (by omega)
 simp only [goodAt, hb, hf, cond_false, goodF, hc] at this
 exact this
noncomputable def leaveT (P : Program) (bad : List Nat) (X : Xf) (K : Kf) (N : Nat) (fn : Func) (wk : Bool) (t : T) : List Deferred → FrameMode → Heap → R
 | [], .returning, H => match resT P t H fn.results.toList with | some l => cond (wk && l.any isUndef) none (some (.ret (oneOf l), H)) | none => none
 | [], .panicking c, H => some (.pan c, H)
 | [], .run, _ => none
 | _ :: _, .run, _ => none
 | d :: ds, u, H => match d.target with
   | .fn (.func g) cap => match P.funcs[g]? with
     | some gn => if gn.name == "runtime.NumGoroutine" || bad.any (Nat.beq g) then none else match gn.body with
       | some c => bodyDT P X K N gn c (d.args ++ cap) u H fun e u' H' => match e with
         | .ret _ => match settleA u' with | some u2 => leaveT P bad X K N fn wk t ds u2 H' | none => none
         | .pan ch => leaveT P bad X K N fn wk t ds (raised u' ch) H'
       | none => none
     | none => none
   | _ => none
theorem jz0 {P : Program} {X : Xf} {K K' : Kf} {bad : List Nat} (hgp : GoodP P bad) (hK : KLe K K') {N : Nat} {fn : Func} {wk : Bool} {t : T} {ts : Array Value} (ht : Rep t ts) {r : End × Heap} : ∀ (ds : List Deferred) (u : FrameMode) (H : Heap), leaveT P bad X K N fn wk t ds u H = some r → leave P X K' N fn wk ts ds u H = some r := by
 intro ds
 induction ds with
 | nil =>
   intro u H h
   cases u with
   | returning => unfold leaveT at h; unfold leave; rw [j1o ht] at h; exact h
   | panicking c => unfold leaveT at h; unfold leave; exact h
   | run => unfold leaveT at h; cases h
 | cons d ds ih =>
   intro u H h
   have go : ∀ u, (match d.target with
     | .fn (.func g) cap => match P.funcs[g]? with
       | some gn => if gn.name == "runtime.NumGoroutine" || bad.any (Nat.beq g) then none else match gn.body with
         | some c => bodyDT P X K N gn c (d.args ++ cap) u H fun e u' H' => match e with
           | .ret _ => match settleA u' with | some u2 => leaveT P bad X K N fn wk t ds u2 H' | none => none
           | .pan ch => leaveT P bad X K N fn wk t ds (raised u' ch) H'
         | none => none
       | none => none
     | _ => none) = some r → (match d.target with
     | .fn (.func g) cap => match P.funcs[g]? with
       | some gn => if gn.name == "runtime.NumGoroutine" then none else match gn.body with
         | some c => bodyD P X K' N gn c (d.args ++ cap) u H fun e u' H' => match e with
           | .ret _ => match settleA u' with | some u2 => leave P X K' N fn wk ts ds u2 H' | none => none
           | .pan ch => leave P X K' N fn wk ts ds (raised u' ch) H'
         | none => none
       | none => none
     | _ => none) = some r := by
     intro u h
     split at h
     · split at h
       · rename_i gn hf
         split at h
         · cases h
         · rename_i hn
           simp only [Bool.or_eq_true, not_or, Bool.not_eq_true] at hn
           rw [if_neg (by rw [hn.1]; decide)]
           split at h
           · rename_i c hb
             refine ye8 hK (hgp _ _ _ hn.2 hf hb) (fun e u' H' h => ?_) h
             cases e with
             | ret v =>
               simp only at h ⊢
               split at h
               · rename_i u2 e2; exact ih _ _ h
               · cases h
             | pan ch => exact ih _ _ h
           · cases h
       · cases h
     · cases h
   cases u with
   | run => unfold leaveT at h; cases h
   | returning => unfold leaveT at h; unfold leave; exact go _ h
   | panicking c => unfold leaveT at h; unfold leave; exact go _ h
noncomputable def finishT (P : Program) (bad : List Nat) (X : Xf) (K : Kf) (N : Nat) (fn : Func) (o : Out) (t : T) (ds : List Deferred) (H : Heap) : R :=
 match o with
 | .norm | .ret => leaveT P bad X K N fn false t ds .returning H
 | .pan c => leaveT P bad X K N fn true t ds (.panicking c) H
 | _ => none
theorem j7o {P : Program} {X : Xf} {K K' : Kf} {bad : List Nat} (hgp : GoodP P bad) (hK : KLe K K') {N : Nat} {fn : Func} {r : End × Heap} : KSo r (finishT P bad X K N fn) (finishR P X K' N fn) := by
 intro o t ds a H hs h
 unfold finishR
 rw [hs.ds]
 cases o with
 | norm => exact jz0 hgp hK hs.tree _ _ _ h
 | ret => exact jz0 hgp hK hs.tree _ _ _ h
 | pan c => exact jz0 hgp hK hs.tree _ _ _ h
 | _ => cases h
noncomputable def callT (P : Program) (bad : List Nat) (X : Xf) (N : Nat) (hk : Hook) : Nat → Kf
 | 0 => fun _ _ _ => none
 | d + 1 => fun f args H =>
   match hk f args H with
   | some r => r
   | none => cond (bad.any (Nat.beq f)) none
     (match P.funcs[f]? with
     | some fn => match fn.body with
       | some c => startT fn.ntmps args fun t => execT P X (callT P bad X N hk d) N c none t [] H (finishT P bad X (callT P bad X N hk d) N fn)
       | none => none
     | none => none)
theorem j4c {P : Program} {X : Xf} {N : Nat} {hk : Hook} {bad : List Nat} (hgp : GoodP P bad) : ∀ d, KLe (callT P bad X N hk d) (callR P X N hk d)
 | 0 => fun f args H r h => by cases h
 | d + 1 => fun f args H r h => by
   unfold callT at h
   unfold callR
   split at h
   · rename_i q e; simp only [e]; exact h
   · rename_i e
     simp only [e]
     cases hb : bad.any (Nat.beq f) with
     | true => rw [hb] at h; cases h
     | false =>
     rw [hb] at h
     simp only [cond_false] at h
     split at h
     · rename_i fn hf
       simp only [hf]
       split at h
       · rename_i c hc
         simp only [hc]
         obtain ⟨t, h1, h2⟩ := j1n h
         exact je0 (j4c hgp d) c (hgp _ _ _ hb hf hc) none _ _ (j7o hgp (j4c hgp d)) t [] _ H ⟨h2, rfl⟩ h1
       · cases h
     · cases h
theorem j7p {P : Program} {X : Xf} {N : Nat} {hk : Hook} {bad : List Nat} (hgp : GoodP P bad) (hX : XSnd P X) (hH : HookSnd P hk) (hm : P.follows .mixedOrders = true) (d : Nat) : KSnd P (callT P bad X N hk d) :=
 fun f args H r H' he => jt1 hX hH hm d f args H r H' (j4c hgp d _ _ _ _ he)
theorem goods0 : (List.range' 0 60).all (goodAt PP [14]) = true := by decide +kernel
theorem goods1 : (List.range' 60 70).all (goodAt PP [14]) = true := by decide +kernel
theorem goods2 : (List.range' 130 70).all (goodAt PP [14]) = true := by decide +kernel
theorem ye9 : PP.funcs.size = 184 := by decide +kernel
theorem good : GoodP PP [14] := yz6 ye9 fun f hf => by
 by_cases h0 : f < 60
 · exact List.all_eq_true.mp goods0 f (by rw [List.mem_range'_1]; omega)
 · by_cases h1 : f < 130
   · exact List.all_eq_true.mp goods1 f (by rw [List.mem_range'_1]; omega)
   · exact List.all_eq_true.mp goods2 f (by rw [List.mem_range'_1]; omega)
noncomputable def fast (h : Hook) : Kf := callT PP [14] XX 100000 h 60
theorem jz1 {h : Hook} (hh : HookSnd PP h) : KSnd PP (fast h) := j7p good j9c hh mixed 60
def wordsV : List Value := wordsL.map strV
def errV (b : Nat) : Value := .iface 159 (.pointer (some ⟨b, 0, none⟩))
def ro (l : List Value) : Blk := ⟨l, false, 1, none⟩
def GE : Heap := { ((GG.set 4 (ro [errV 10])).set 5 (ro [errV 11])) with next := 12 }
theorem j3d : ∀ b x, GE.get b = some x → (b = 2 ∧ x = ro asciiV) ∨ (b = 1 ∧ x = ro (classesL.map fun z => .int .u8 z)) ∨ (b = 4 ∧ x = ro [errV 10]) ∨ (b = 5 ∧ x = ro [errV 11]) := by
 intro b x hb
 have e0 : GE.get b = ((GG.set 4 (ro [errV 10])).set 5 (ro [errV 11])).get b := rfl
 rw [e0, Heap.get_set] at hb
 by_cases e5 : b = 5
 · rw [if_pos e5] at hb; exact .inr (.inr (.inr ⟨e5, (Option.some.inj hb).symm⟩))
 rw [if_neg e5, Heap.get_set] at hb
 by_cases e4 : b = 4
 · rw [if_pos e4] at hb; exact .inr (.inr (.inl ⟨e4, (Option.some.inj hb).symm⟩))
 rw [if_neg e4] at hb
 unfold GG at hb
 rw [Heap.get_set] at hb
 by_cases e2 : b = 2
 · rw [if_pos e2] at hb; exact .inl ⟨e2, (Option.some.inj hb).symm⟩
 rw [if_neg e2, Heap.get_set] at hb
 by_cases e1 : b = 1
 · rw [if_pos e1] at hb; exact .inr (.inl ⟨e1, (Option.some.inj hb).symm⟩)
 rw [if_neg e1] at hb
 have : (⟨.nil, 10⟩ : Heap).get b = none := rfl
 rw [this] at hb; simp at hb
theorem jo0 : Tabs PP GE := by
 refine ⟨fun b x hb => ?_, by rw [jl4]; decide, fun b hb => ?_⟩
 · rcases j3d b x hb with ⟨_, rfl⟩ | ⟨_, rfl⟩ | ⟨_, rfl⟩ | ⟨_, rfl⟩ <;> exact ⟨rfl, rfl, by decide +kernel⟩
 · have hn : 12 ≤ b := hb
   cases hg : GE.get b with
   | none => rfl
   | some x => rcases j3d b x hg with ⟨rfl, _⟩ | ⟨rfl, _⟩ | ⟨rfl, _⟩ | ⟨rfl, _⟩ <;> omega
theorem y3i : ∀ b x, GE.get b = some x → b ∈ [1, 2, 4, 5] := by
 intro b x hb
 rcases j3d b x hb with ⟨rfl, _⟩ | ⟨rfl, _⟩ | ⟨rfl, _⟩ | ⟨rfl, _⟩ <;> decide
end Go.Am
