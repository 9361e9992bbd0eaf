/- The library's contracts on cutting a text at its blanks and on a fresh copy, at this program (laid by the kit's tool, cut). -/
import Derived.Shelf.Strings.Fields
import Derived.Shelf.Strconv.Clone
import Derived.Test.YtohmeeglehopiaaGreatDoorProg
import Derived.Test.YtohmeeglehopiaaGreatDoorM04
import Derived.Recover
namespace Go.Proofs
open Go.Shelf
def Tryz.lays157_ren : Go.Shelf.Ren := ⟨fun | 157 => 35 | 229 => 56 | 199 => 57 | 261 => 72 | 311 => 91 | 312 => 92 | n => n, fun | 9 => 9 | 31 => 70 | 3 => 3 | 5 => 5 | 4 => 4 | 119 => 88 | 0 => 0 | 40 => 75 | 152 => 107 | 21 => 21 | 154 => 109 | 51 => 110 | 141 => 112 | 196 => 133 | 193 => 130 | 198 => 136 | 49 => 134 | 194 => 131 | 201 => 139 | 226 => 148 | 46 => 68 | 227 => 149 | n => n, fun | 0 => 0 | 6 => 4 | n => n⟩
theorem Tryz.lays157 : Go.Proofs.Lays.n157 Tryz.prog Tryz.lays157_ren := {
 mixed := by kernel_rfl
 f157 := Tryz.func35.trans (congrArg some (by kernel_rfl))
 f199 := Tryz.func57.trans (congrArg some (by kernel_rfl))
 f229 := Tryz.func56.trans (congrArg some (by kernel_rfl))
 f261 := Tryz.func72.trans (congrArg some (by kernel_rfl))
 f311 := Tryz.func91.trans (congrArg some (by kernel_rfl))
 f312 := Tryz.func92.trans (congrArg some (by kernel_rfl))
 t0 := Tryz.underlying0
 a0 := Tryz.isAgg0
 z0 := Tryz.sizeOf0
 v0 := Tryz.zeroValue0
 t3 := Tryz.underlying3
 a3 := Tryz.isAgg3
 z3 := Tryz.sizeOf3
 v3 := Tryz.zeroValue3
 t4 := Tryz.underlying4
 a4 := Tryz.isAgg4
 z4 := Tryz.sizeOf4
 v4 := Tryz.zeroValue4
 t5 := Tryz.underlying5
 a5 := Tryz.isAgg5
 z5 := Tryz.sizeOf5
 v5 := Tryz.zeroValue5
 t9 := Tryz.underlying9
 a9 := Tryz.isAgg9
 z9 := Tryz.sizeOf9
 v9 := Tryz.zeroValue9
 t21 := Tryz.underlying21
 a21 := Tryz.isAgg21
 z21 := Tryz.sizeOf21
 v21 := Tryz.zeroValue21
 t31 := Tryz.underlying70
 a31 := Tryz.isAgg70
 z31 := Tryz.sizeOf70
 v31 := Tryz.zeroValue70
 t40 := Tryz.underlying75
 a40 := Tryz.isAgg75
 z40 := Tryz.sizeOf75
 v40 := Tryz.zeroValue75
 t46 := Tryz.underlying68
 a46 := Tryz.isAgg68
 z46 := Tryz.sizeOf68
 v46 := Tryz.zeroValue68
 t49 := Tryz.underlying134
 a49 := Tryz.isAgg134
 z49 := Tryz.sizeOf134
 v49 := Tryz.zeroValue134
 t51 := Tryz.underlying110
 a51 := Tryz.isAgg110
 z51 := Tryz.sizeOf110
 v51 := Tryz.zeroValue110
 t119 := Tryz.underlying88
 a119 := Tryz.isAgg88
 z119 := Tryz.sizeOf88
 t141 := Tryz.underlying112
 a141 := Tryz.isAgg112
 z141 := Tryz.sizeOf112
 v141 := Tryz.zeroValue112
 t152 := Tryz.underlying107
 a152 := Tryz.isAgg107
 z152 := Tryz.sizeOf107
 v152 := Tryz.zeroValue107
 t154 := Tryz.underlying109
 a154 := Tryz.isAgg109
 z154 := Tryz.sizeOf109
 v154 := Tryz.zeroValue109
 t193 := Tryz.underlying130
 a193 := Tryz.isAgg130
 z193 := Tryz.sizeOf130
 v193 := Tryz.zeroValue130
 t194 := Tryz.underlying131
 a194 := Tryz.isAgg131
 z194 := Tryz.sizeOf131
 v194 := Tryz.zeroValue131
 t196 := Tryz.underlying133
 a196 := Tryz.isAgg133
 z196 := Tryz.sizeOf133
 v196 := Tryz.zeroValue133
 t198 := Tryz.underlying136
 a198 := Tryz.isAgg136
 z198 := Tryz.sizeOf136
 v198 := Tryz.zeroValue136
 t201 := Tryz.underlying139
 a201 := Tryz.isAgg139
 z201 := Tryz.sizeOf139
 v201 := Tryz.zeroValue139
 t226 := Tryz.underlying148
 a226 := Tryz.isAgg148
 z226 := Tryz.sizeOf148
 v226 := Tryz.zeroValue148
 t227 := Tryz.underlying149
 a227 := Tryz.isAgg149
 z227 := Tryz.sizeOf149
 v227 := Tryz.zeroValue149
 g0 := by kernel_rfl
 g6 := by kernel_rfl }
theorem Tryz.fieldsCore (s : ByteArray) (w : World) (hs : s.size < 4294967281) (hascii : ∀ (j : Nat) b, s.data.toList[j]? = some b → b.toNat < 128) (hT : ∀ c : Nat, c < 256 → w.cell? ⟨0, c, none⟩ = some (.int .u8 (if Lib.isSp (UInt8.ofNat c) then 1 else 0))) :
   Calls Tryz.prog 35 #[.string s] w fun e w' =>
     e = .returned (.slice (some ⟨w.heap.size, 0, none⟩) (Lib.fields s.data.toList).length (Lib.fields s.data.toList).length) ∧ w' = w.alloc (.cells ((Lib.fields s.data.toList).map fun l => Value.string ⟨l.toArray⟩).toArray 9) := Any.strings_Fields_core Tryz.lays157 (by kernel_rfl) s w hs hascii hT
def Tryz.laysM316_ren : Go.Shelf.Ren := ⟨fun | 316 => 97 | n => n, fun | 9 => 9 | 3 => 3 | 4 => 4 | 37 => 22 | 0 => 0 | 127 => 150 | 5 => 5 | n => n, fun | n => n⟩
theorem Tryz.laysM316 : Go.Proofs.LaysM.n316 Tryz.prog Tryz.laysM316_ren := {
 mixed := by kernel_rfl
 f316 := Tryz.func97.trans (congrArg some (by kernel_rfl))
 t0 := Tryz.underlying0
 a0 := Tryz.isAgg0
 z0 := Tryz.sizeOf0
 v0 := Tryz.zeroValue0
 t3 := Tryz.underlying3
 a3 := Tryz.isAgg3
 z3 := Tryz.sizeOf3
 v3 := Tryz.zeroValue3
 t4 := Tryz.underlying4
 a4 := Tryz.isAgg4
 z4 := Tryz.sizeOf4
 v4 := Tryz.zeroValue4
 t9 := Tryz.underlying9
 a9 := Tryz.isAgg9
 z9 := Tryz.sizeOf9
 v9 := Tryz.zeroValue9
 t37 := Tryz.underlying22
 a37 := Tryz.isAgg22
 z37 := Tryz.sizeOf22
 v37 := Tryz.zeroValue22
 t127 := Tryz.underlying150
 a127 := Tryz.isAgg150
 z127 := Tryz.sizeOf150
 v127 := Tryz.zeroValue150
 t5 := Tryz.underlying5
 a5 := Tryz.isAgg5
 z5 := Tryz.sizeOf5
 v5 := Tryz.zeroValue5
 i0 := by kernel_rfl
 i3 := by kernel_rfl
 i4 := by kernel_rfl
 i5 := by kernel_rfl
 i9 := by kernel_rfl
 i37 := by kernel_rfl
 i127 := by kernel_rfl }
open Go.RowKit in
theorem Tryz.stringslite_Clone (s : ByteArray) (w : World) (hlim : s.size ≤ 281474976710656) :
   Calls Tryz.prog 97 #[.string s] w fun e w' => e = .returned (.string s) ∧ Below w.heap.size w w' := Any.stringslite_Clone Tryz.laysM316 s w hlim
end Go.Proofs
namespace Go.Am
def asciiV : List Value := asciiL.map fun z => .int .u8 z
def asciiOk (H : Heap) : Bool := match H.get 0 with | some y => veqs y.cells asciiV && y.o.isNone | none => false
def wordsV : List Value := wordsL.map strV
def hookF : Hook := fun f args H =>
 cond (Nat.beq f 35) (match args.toList with
   | [.string s] => cond (decide (s.data.toList = wordsB)) (cond (asciiOk H) (some (some (.ret (.slice (some ⟨H.next, 0, none⟩) 50 50), H.alloc 1 wordsV))) none) none
   | _ => none) none
theorem j96 : ∀ c : Nat, c < 256 → asciiV[c]? = some (.int .u8 (if Lib.isSp (UInt8.ofNat c) then 1 else 0)) := by
 have h : (List.range 256).all (fun c => match asciiV[c]? with | some (.int .u8 n) => decide (n = if Lib.isSp (UInt8.ofNat c) then 1 else 0) | _ => false) = true := by decide +kernel
 intro c hc
 have := List.all_eq_true.mp h c (List.mem_range.mpr hc)
 revert this
 generalize asciiV[c]? = z
 intro hz
 split at hz
 · simp only [decide_eq_true_eq] at hz; rw [hz]
 · simp at hz
theorem j5l : ∀ (j : Nat) b, wordsB[j]? = some b → b.toNat < 128 := by
 have h : wordsB.all (fun b => decide (b.toNat < 128)) = true := by decide +kernel
 intro j b hb
 simpa using List.all_eq_true.mp h b (List.mem_of_getElem? hb)
theorem j97 : Lib.fields wordsB = wordsL := by decide +kernel
theorem j8p : wordsV.length = 50 := by decide +kernel
theorem j2t : wordsV.all atomic = true := by decide +kernel
theorem yj2 {m : Mp} {H : Heap} {w : World} (h : Rel m H w) (hg : Gl PP m) {g : Nat} (hgl : g < PP.globals.size) {y : Blk} (hy : H.get g = some y) (ho : y.o = none) {c : Nat} {v : Value} (hc : y.cells[c]? = some v) (hv : atomic v = true) :
   w.cell? ⟨g, c, none⟩ = some v := by
 obtain ⟨L, k1, k2⟩ := h.blk g y hy
 obtain ⟨L', q1, q2, q3⟩ := hg g hgl
 rw [k1] at q1
 obtain rfl := Option.some.inj q1
 obtain ⟨cs, elem, fz, p1, p2, p3, _⟩ := k2.ex ho
 obtain ⟨hlt, he⟩ := List.getElem?_eq_some_iff.mp hc
 have hfit := k2.fits
 have hlt' : L.base + c < cs.size := by omega
 have := p3 c hlt hlt'
 rw [he] at this
 have e := this.eq_of_atomic hv
 simp only [q3, Nat.zero_add] at e hlt'
 rw [q2] at p1
 simp [World.cell?, p1, hlt', e]
theorem j0j : HookSnd PP hookF := by
 intro f args H r H' he m w args' hrel hgl hargs
 unfold hookF at he
 cases hf : Nat.beq f 35 with
 | false => rw [hf] at he; simp at he
 | true =>
 rw [hf] at he
 obtain rfl := Nat.eq_of_beq_eq_true hf
 simp only [cond_true] at he
 split at he
 · rename_i s hs
   cases h1 : decide (s.data.toList = wordsB) with
   | false => rw [h1] at he; simp at he
   | true =>
   cases h2 : asciiOk H with
   | false => rw [h1, h2] at he; simp at he
   | true =>
   rw [h1, h2] at he
   simp only [cond_true, Option.some.injEq, Prod.mk.injEq] at he
   obtain ⟨rfl, rfl⟩ := he
   simp only [decide_eq_true_eq] at h1
   have hat : args.toList.all atomic = true := by rw [hs]; rfl
   have e := hargs.eq_of_atomic hat
   subst e
   have ea : args' = #[.string s] := by cases args'; simp_all
   subst ea
   unfold asciiOk at h2
   split at h2
   · rename_i y hy
     simp only [Bool.and_eq_true, Option.isNone_iff_eq_none] at h2
     have hcells := jr5 h2.1
     have hT : ∀ c : Nat, c < 256 → w.cell? ⟨0, c, none⟩ = some (.int .u8 (if Lib.isSp (UInt8.ofNat c) then 1 else 0)) := fun c hc =>
       yj2 hrel hgl (by rw [ji4]; decide) hy h2.2 (by rw [hcells]; exact j96 c hc) rfl
     have hsz : s.size < 4294967281 := by
       have : s.size = wordsB.length := by rw [← h1]; rfl
       rw [this]; decide +kernel
     refine (Go.Proofs.Tryz.fieldsCore s w hsz (by rw [h1]; exact j5l) hT).mono fun e w' ⟨he, hw⟩ => ?_
     rw [h1, j97] at he hw
     have hl : wordsL.length = 50 := by decide +kernel
     rw [hl] at he
     subst he
     have hcells : ((wordsL.map fun l => Value.string ⟨l.toArray⟩).toArray) = wordsV.toArray := rfl
     rw [hcells] at hw
     have hst := Step.alloc (w' := w') hrel 1 wordsV wordsV.toArray 9 (by simp) (fun i a b => by
       have hati : atomic wordsV[i] = true := List.all_eq_true.mp j2t _ (List.getElem_mem a)
       simpa using VR.atom (m := m) _ hati) (by rw [hw]; rfl) (fun i v h1 h2 => by have := (Array.getElem?_eq_some_iff.1 h2).1; simp at this; omega) (by rw [hw]; rfl) (by rw [hw]; rfl) (by rw [hw]; rfl)
     refine ⟨_, ?_, hst⟩
     refine VR.slice H.next 0 ⟨w.heap.size, 0, 1, wordsV.toArray.size⟩ _ 50 50 50 (by simp [Mp.add]) (Nat.le_refl _) (Nat.le_refl _) (.inr rfl) (.inr rfl) (.inr ⟨rfl, ?_⟩)
     show 0 + 50 * 1 ≤ wordsV.toArray.size
     rw [List.size_toArray, j8p]; decide
   · simp at h2
 · simp at he
def hookC : Hook := fun f args H =>
 cond (Nat.beq f 97) (match args.toList with
   | [.string s] => cond (decide (s.size ≤ 281474976710656)) (some (some (.ret (.string s), H))) none
   | _ => none) none
theorem j5m : HookSnd PP hookC := by
 intro f args H r H' he m w args' hrel hgl hargs
 unfold hookC at he
 cases hf : Nat.beq f 97 with
 | false => rw [hf] at he; simp at he
 | true =>
 rw [hf] at he
 obtain rfl := Nat.eq_of_beq_eq_true hf
 simp only [cond_true] at he
 split at he
 · rename_i s hs
   cases h1 : decide (s.size ≤ 281474976710656) with
   | false => rw [h1] at he; simp at he
   | true =>
   rw [h1] at he
   simp only [cond_true, Option.some.injEq, Prod.mk.injEq] at he
   obtain ⟨rfl, rfl⟩ := he
   simp only [decide_eq_true_eq] at h1
   have e := hargs.eq_of_atomic (by rw [hs]; rfl)
   subst e
   have ea : args' = #[.string s] := by cases args'; simp_all
   subst ea
   refine (Go.Proofs.Tryz.stringslite_Clone s w h1).mono fun e w' ⟨he, hw⟩ => ?_
   subst he
   exact ⟨m, VR.atom _ rfl, Step.still hrel hw.os hw.tape hw.output hw.size hw.block⟩
 · simp at he
structure PureRow where
 f : FuncId
 args : List Value
 v : Value
def chkPure (r : R) (v : Value) : Bool := match r with | some (.ret v', _) => veq0 v' v | _ => false
def hookP (G : Heap) (gs : List Nat) (tab : List PureRow) : Hook := fun f args H =>
 match tab.find? (fun e => Nat.beq e.f f && veqs args.toList e.args) with
 | some e => cond (overB G gs H) (some (some (.ret e.v, H))) none
 | none => none
def hookOr (a b : Hook) : Hook := fun f args H => match a f args H with | some r => some r | none => b f args H
theorem jd5 {P : Program} {a b : Hook} (ha : HookSnd P a) (hb : HookSnd P b) : HookSnd P (hookOr a b) := by
 intro f args H r H' he
 unfold hookOr at he
 split at he
 · rename_i q hq
   rw [Option.some.injEq] at he
   subst he
   exact ha f args H r H' hq
 · exact hb f args H r H' he
theorem j5n {r : R} {v : Value} (h : chkPure r v = true) : ∃ Hs, r = some (.ret v, Hs) := by
 unfold chkPure at h
 split at h
 · rename_i v' Hs
   rw [j2p h]
   exact ⟨Hs, rfl⟩
 · simp at h
theorem j0k {P : Program} {K : Kf} (hK : KSnd P K) {G : Heap} (ht : Tabs P G) {gs : List Nat} (hd : ∀ b x, G.get b = some x → b ∈ gs) {tab : List PureRow}
   (hall : ∀ e ∈ tab, (e.args.all atomic && atomic e.v) = true ∧ chkPure (K e.f e.args.toArray G) e.v = true) : HookSnd P (hookP G gs tab) := by
 intro f args H r H' he m w args' h hg hargs
 unfold hookP at he
 split at he
 · rename_i e hf
   cases ho : overB G gs H with
   | false => rw [ho] at he; simp at he
   | true =>
   rw [ho] at he
   simp only [cond_true, Option.some.injEq, Prod.mk.injEq] at he
   obtain ⟨rfl, rfl⟩ := he
   have hp := List.find?_some hf
   simp only [Bool.and_eq_true] at hp
   obtain rfl := Nat.eq_of_beq_eq_true hp.1
   have ha := jr5 hp.2
   obtain ⟨h1, h2⟩ := hall e (List.mem_of_find?_eq_some hf)
   simp only [Bool.and_eq_true] at h1
   obtain ⟨Hs, hr⟩ := j5n h2
   have ea : e.args.toArray = args := by rw [← ha]
   rw [ea] at hr
   exact j8n hK ht hr (by rw [ha]; exact h1.1) h1.2 (j8o hd ho) h hg hargs
 · simp at he
def recM : FrameMode → Value × FrameMode
 | .panicking (p :: older) => if p.recovered = false ∧ p.goexit = false then (p.v, .panicking ({ v := p.v, recovered := true } :: older)) else (.nilIface, .panicking (p :: older))
 | u => (.nilIface, u)
def isRec (o : Oper) : Bool :=
 match o.op with
 | .call c => match c.callee with | .builtin .recover => o.guard.isNone && c.args.isEmpty | _ => false
 | _ => false
def finD (P : Program) (fn : Func) (u : FrameMode) (kd : End → FrameMode → Heap → R) (o : Out) (a : Act) (H : Heap) : R :=
 match o with
 | .norm | .ret => match a.defers with
   | [] => match resL P a.tmps H fn.results.toList with | some l => kd (.ret (oneOf l)) u H | none => none
   | _ => none
 | .pan c => match a.defers with | [] => kd (.pan c) u H | _ => none
 | _ => none
def act0 (fn : Func) (args : Array Value) : Act := { tmps := args ++ Array.replicate (fn.ntmps - args.size) undef, defers := [] }
def bodyD (P : Program) (X : Xf) (K : Kf) (N : Nat) (fn : Func) (c : Code) (args : Array Value) (u : FrameMode) (H : Heap) (kd : End → FrameMode → Heap → R) : R :=
 match c with
 | .seq (.region _ ops false) rest => match ops.toList with
   | o :: os => cond (isRec o)
     (execOps P X K ops os ((act0 fn args).put o.dst (recM u).1) H (fun a H => exec P X K N rest none a H (finD P fn (recM u).2 kd)) (fun c a H => finD P fn (recM u).2 kd (.pan c) a H))
     (exec P X K N c none (act0 fn args) H (finD P fn u kd))
   | [] => exec P X K N c none (act0 fn args) H (finD P fn u kd)
 | c => exec P X K N c none (act0 fn args) H (finD P fn u kd)
def settleA : FrameMode → Option FrameMode
 | .panicking (p :: older) => if p.recovered = true then (match older with | [] => some .returning | _ => none) else some (.panicking (p :: older))
 | u => some u
def leave (P : Program) (X : Xf) (K : Kf) (N : Nat) (fn : Func) (wk : Bool) (tmps : Array Value) : List Deferred → FrameMode → Heap → R
 | [], .returning, H => match resL P tmps H fn.results.toList with | some l => cond (wk && l.any isUndef) none (some (.ret (oneOf l), H)) | none => none
 | [], .panicking c, H => some (.pan c, H)
 | [], .run, _ => none
 | _ :: _, .run, _ => none
 | d :: ds, u, H => match d.target with
   | .fn (.func g) cap => match P.funcs[g]? with
     | some gn => if gn.name == "runtime.NumGoroutine" then none else match gn.body with
       | some c => bodyD P X K N gn c (d.args ++ cap) u H fun e u' H' => match e with
         | .ret _ => match settleA u' with | some u2 => leave P X K N fn wk tmps ds u2 H' | none => none
         | .pan ch => leave P X K N fn wk tmps ds (raised u' ch) H'
       | none => none
     | none => none
   | _ => none
def finishR (P : Program) (X : Xf) (K : Kf) (N : Nat) (fn : Func) (o : Out) (a : Act) (H : Heap) : R :=
 match o with
 | .norm | .ret => leave P X K N fn false a.tmps a.defers .returning H
 | .pan c => leave P X K N fn true a.tmps a.defers (.panicking c) H
 | _ => none
def callR (P : Program) (X : Xf) (N : Nat) (hk : Hook) : Nat → Kf
 | 0 => fun _ _ _ => none
 | d + 1 => fun f args H =>
   match hk f args H with
   | some r => r
   | none =>
     match P.funcs[f]? with
     | some fn => match fn.body with
       | some c => exec P X (callR P X N hk d) N c none (act0 fn args) H (finishR P X (callR P X N hk d) N fn)
       | none => none
     | none => none
inductive ModeR (m : Mp) : FrameMode → FrameMode → Prop where
 | returning : ModeR m .returning .returning
 | panicking (c c' : List PanicEntry) (h : PanR m c c') : ModeR m (.panicking c) (.panicking c')
theorem ModeR.mono {m m' : Mp} (hm : m.le m') {u u' : FrameMode} (h : ModeR m u u') : ModeR m' u u' := by
 cases h with
 | returning => exact .returning
 | panicking c c' h => exact .panicking _ _ (h.mono hm)
theorem PanR.append {m : Mp} {a a' b b' : List PanicEntry} (h : PanR m a a') (k : PanR m b b') : PanR m (a ++ b) (a' ++ b') := by
 refine ⟨by simp [h.1, k.1], fun i hi hi' => ?_⟩
 by_cases e : i < a.length
 · have e' : i < a'.length := h.1 ▸ e
   simp only [List.getElem_append, e, e', dif_pos]
   exact h.2 i e e'
 · have e' : ¬ i < a'.length := h.1 ▸ e
   simp only [List.getElem_append, e, e', dif_neg, not_false_eq_true]
   have hs := h.1
   simp only [List.length_append] at hi hi'
   simp only [← hs]
   exact k.2 _ (by omega) (by have := k.1; omega)
theorem PanR.cons_inv {m : Mp} {p : PanicEntry} {r : List PanicEntry} {c' : List PanicEntry} (h : PanR m (p :: r) c') :
   ∃ p' r', c' = p' :: r' ∧ VR m p.v p'.v ∧ p.recovered = p'.recovered ∧ p.goexit = p'.goexit ∧ PanR m r r' := by
 cases c' with
 | nil => have := h.1; simp at this
 | cons p' r' =>
   have h0 := h.2 0 (by simp) (by simp)
   refine ⟨p', r', rfl, h0.1, h0.2.1, h0.2.2, by simpa using h.1, fun i a b => ?_⟩
   have := h.2 (i + 1) (by simpa using a) (by simpa using b)
   simpa using this
theorem PanR.cons {m : Mp} {p p' : PanicEntry} {r r' : List PanicEntry} (hv : VR m p.v p'.v) (h1 : p.recovered = p'.recovered) (h2 : p.goexit = p'.goexit) (h : PanR m r r') : PanR m (p :: r) (p' :: r') := by
 refine ⟨by simp [h.1], fun i a b => ?_⟩
 cases i with
 | zero => exact ⟨hv, h1, h2⟩
 | succ i => simpa using h.2 i (by simpa using a) (by simpa using b)
theorem ModeR.raised {m : Mp} {u u' : FrameMode} {c c' : List PanicEntry} (h : ModeR m u u') (hc : PanR m c c') : ModeR m (raised u c) (raised u' c') := by
 cases h with
 | returning => exact .panicking _ _ hc
 | panicking o o' ho => exact .panicking _ _ (hc.append ho)
theorem ModeR.settle {m : Mp} {u u' u2 : FrameMode} (h : ModeR m u u') (he : settleA u = some u2) : ModeR m u2 (settle u') := by
 cases h with
 | returning => simp only [settleA, Option.some.injEq] at he; subst he; exact .returning
 | panicking o o' ho =>
   cases o with
   | nil =>
     simp only [settleA, Option.some.injEq] at he
     subst he
     have : o' = [] := by have := ho.1; simpa using this.symm
     subst this
     exact .panicking _ _ ho
   | cons p r =>
     obtain ⟨p', r', rfl, hv, h1, h2, hr⟩ := ho.cons_inv
     simp only [settleA] at he
     by_cases e : p.recovered = true
     · rw [if_pos e] at he
       cases r with
       | cons => simp at he
       | nil =>
         simp only [Option.some.injEq] at he
         subst he
         have : r' = [] := by have := hr.1; simpa using this.symm
         subst this
         have e' : p'.recovered = true := h1 ▸ e
         obtain ⟨v', rec', ge'⟩ := p'
         simp only at e'
         subst e'
         simp only [Go.settle, List.dropWhile_nil]
         exact .returning
     · rw [if_neg e] at he
       simp only [Option.some.injEq] at he
       subst he
       have e' : p'.recovered = false := by rw [← h1]; simpa using e
       obtain ⟨v', rec', ge'⟩ := p'
       simp only at e'
       subst e'
       exact .panicking _ _ ho
theorem j8q {m : Mp} {u : FrameMode} {c₀ : Frame} (cs : List Frame) (h : ModeR m u c₀.mode) :
   ∃ v' u2, VR m (recM u).1 v' ∧ ModeR m (recM u).2 u2 ∧ (match recoverD (c₀ :: cs) with | some (v, cs') => v = v' ∧ cs' = { c₀ with mode := u2 } :: cs | none => v' = .nilIface ∧ u2 = c₀.mode) := by
 obtain ⟨fnx, tmpsx, todox, defx, modex, kindx, rx⟩ := c₀
 simp only at h
 cases h with
 | returning => exact ⟨.nilIface, .returning, .atom _ rfl, .returning, by simp [recoverD]⟩
 | panicking o o' ho =>
   cases o with
   | nil =>
     have : o' = [] := by have := ho.1; simpa using this.symm
     subst this
     exact ⟨.nilIface, _, .atom _ rfl, .panicking _ _ ho, by simp [recoverD]⟩
   | cons p r =>
     obtain ⟨p', r', rfl, hv, h1, h2, hr⟩ := ho.cons_inv
     obtain ⟨v, rc, ge⟩ := p
     obtain ⟨v', rc', ge'⟩ := p'
     simp only at hv h1 h2
     subst h1 h2
     by_cases e : rc = false ∧ ge = false
     · obtain ⟨rfl, rfl⟩ := e
       refine ⟨v', .panicking ({ v := v', recovered := true } :: r'), by simpa [recM] using hv, ?_, by simp [recoverD]⟩
       simp only [recM, and_self, if_true]
       exact .panicking _ _ (PanR.cons hv rfl rfl hr)
     · refine ⟨.nilIface, _, by simp only [recM, if_neg e]; exact .atom _ rfl, by simp only [recM, if_neg e]; exact .panicking _ _ ho, ?_⟩
       cases rc <;> cases ge <;> first | (exact absurd ⟨rfl, rfl⟩ e) | simp [recoverD]
theorem j5o {P : Program} {ops : Array Oper} {Q : Exit → Act → List Frame → World → Prop} {cs : List Frame} {n : Nat} {rest : List Nat} {o : Oper} {a : Act} {w : World} (ho : ops[n]? = some o)
   (hw : Region.wanted o (yielded ops a.tmps) = true) (h : o.wp P a w (fun a' w' => wpOpsS P ops Q rest a' cs w') (fun e a' w' => Q e a' cs w')) : wpOpsS P ops Q (n :: rest) a cs w := by
 simp only [wpOpsS, ho, hw, if_true]
 unfold Oper.wp at h
 split
 · rename_i w' hr
   rw [hr] at h
   exact h.elim
 · exact h
theorem j1g {P : Program} {X : Xf} {K : Kf} (hX : XSnd P X) (hK : KSnd P K) {ops : Array Oper} {r : End × Heap} {k : Act → Heap → R} {kp : List PanicEntry → Act → Heap → R} {Q : Exit → Act → List Frame → World → Prop} {cs : List Frame} :
   ∀ (l : List Oper) (n : Nat) (_ : l = ops.toList.drop n) {a a' : Act} {m : Mp} {H : Heap} {w : World}, StR P m a H a' w → execOps P X K ops l a H k kp = some r →
   (∀ b' w', After P m H w (fun b H' => k b H' = some r) b' w' → Q .normal b' cs w') →
   (∀ c' b' w', AfterP P m H w c' (fun c b H' => kp c b H' = some r) b' w' → Q (.panic c') b' cs w') →
   wpOpsS P ops Q ((List.range ops.size).drop n) a' cs w := by
 intro l
 induction l with
 | nil =>
   intro n hl a a' m H w h he hn hp
   have hlen : ops.size ≤ n := by
     have := congrArg List.length hl
     simp at this; omega
   rw [List.drop_of_length_le (by simpa using hlen)]
   exact hn _ _ ⟨m, a, H, h, .refl h.rel, he⟩
 | cons o rest ih =>
   intro n hl a a' m H w h he hn hp
   have hlt : n < ops.size := by
     have := congrArg List.length hl
     simp at this; omega
   have hd : (List.range ops.size).drop n = n :: (List.range ops.size).drop (n + 1) := by
     rw [List.drop_eq_getElem_cons (by simpa using hlt)]
     simp
   have hl2 : ops.toList.drop n = ops[n] :: ops.toList.drop (n + 1) := by
     rw [List.drop_eq_getElem_cons (by simpa using hlt)]
     simp
   rw [hl2] at hl
   simp only [List.cons.injEq] at hl
   obtain ⟨rfl, hrest⟩ := hl
   rw [hd]
   simp only [execOps] at he
   obtain ⟨b, hb, hc⟩ := jx3 h he
   rcases hc with ⟨hw, hr⟩ | ⟨hw, hr⟩
   · refine j5o (Array.getElem?_eq_getElem hlt) hw ?_
     refine jt3 hX hK hb hr (fun b2 w2 ha => ?_) (fun c2 b2 w2 ha => hp c2 b2 w2 ha)
     obtain ⟨m2, b3, H3, s1, s2, s3⟩ := ha
     exact ih (n + 1) hrest s1 s3 (fun b4 w4 ha4 => hn b4 w4 (ha4.mono s2 (fun _ _ x => x))) (fun c4 b4 w4 ha4 => hp c4 b4 w4 (ha4.mono s2 (fun _ _ _ x => x)))
   · simp only [wpOpsS, Array.getElem?_eq_getElem hlt]
     rw [if_neg (by simp [hw])]
     exact ih (n + 1) hrest (hb.put _ (.undef m)) hr hn hp
def DEnd (m : Mp) (H : Heap) (w : World) (kd : End → FrameMode → Heap → R) (r : End × Heap) (e : Ending) (u' : FrameMode) (w' : World) : Prop :=
 ∃ m1 en uu H1, EndR m1 en e ∧ ModeR m1 uu u' ∧ Step m H w m1 H1 w' ∧ kd en uu H1 = some r
theorem j1r {m : Mp} {l l' : List Deferred} (h : DRs m l l') (e : l = []) : l' = [] := by
 cases h with
 | nil => rfl
 | cons => cases e
theorem jw0 {P : Program} {fn : Func} {u : FrameMode} {kd : End → FrameMode → Heap → R} {r : End × Heap} {m : Mp} {H : Heap} {w : World} {m0 : Mp} {u' : FrameMode} (hu : ModeR m0 u u') (hle : m0.le m)
   {e : Exit} {a : Act} {w1 : World} (hq : OutQ P m H w (finD P fn u kd) r e a w1) :
   (match e with
     | .normal | .ret => a.defers = [] ∧ ∃ v, (results fn a.tmps).run P w1 = .ok v w1 ∧ DEnd m H w kd r (.returned v) u' w1
     | .panic c => a.defers = [] ∧ DEnd m H w kd r (.panicked c) u' w1
     | _ => False) := by
 have fin : ∀ (m1 : Mp) (a1 : Act) (H1 : Heap), StR P m1 a1 H1 a w1 → Step m H w m1 H1 w1 → finD P fn u kd .norm a1 H1 = some r → a.defers = [] ∧ ∃ v, (results fn a.tmps).run P w1 = .ok v w1 ∧ DEnd m H w kd r (.returned v) u' w1 := by
   intro m1 a1 H1 s1 s2 s3
   simp only [finD] at s3
   split at s3
   · rename_i hd
     split at s3
     · rename_i l hl
       obtain ⟨v', q1, q2⟩ := jt4 s1.rel s1.act.tmps hl
       exact ⟨j1r s1.act.defers hd, v', q1, m1, .ret (oneOf l), u, H1, q2, hu.mono (Mp.le_trans hle s2.later.1), s2, s3⟩
     · simp at s3
   · simp at s3
 cases e with
 | normal => obtain ⟨m1, a1, H1, s1, s2, s3⟩ := hq; exact fin m1 a1 H1 s1 s2 s3
 | ret => obtain ⟨m1, a1, H1, s1, s2, s3⟩ := hq; exact fin m1 a1 H1 s1 s2 s3
 | exit id => obtain ⟨m1, a1, H1, s1, s2, s3⟩ := hq; simp [finD] at s3
 | goto l => obtain ⟨m1, a1, H1, s1, s2, s3⟩ := hq; simp [finD] at s3
 | panic c' =>
   obtain ⟨m1, c1, a1, H1, s0, s1, s2, s3⟩ := hq
   simp only [finD] at s3
   split at s3
   · rename_i hd
     exact ⟨j1r s1.act.defers hd, m1, .pan c1, u, H1, s0, hu.mono (Mp.le_trans hle s2.later.1), s2, s3⟩
   · simp at s3
 | outgrown => exact hq.elim
theorem j2u {P : Program} {m : Mp} {H : Heap} {w : World} (hrel : Rel m H w) (hgl : Gl P m) (fn : Func) {args args' : Array Value} (ha : VRa m args args') : StR P m (act0 fn args) H (act0 fn args') w := by
 refine ⟨⟨?_, .nil⟩, hrel, hgl⟩
 simp only [act0, ← ha.1]
 exact ha.append (VRa.replicate _ (.undef m))
theorem j8r {o : Oper} (h : isRec o = true) : o.guard = none ∧ ∀ (P : Program) (ρ : Operand → Value) (w : World), (execOp ρ o).run P w = .ok .recover w := by
 unfold isRec at h
 split at h
 · rename_i c hc
   split at h
   · rename_i hcl
     simp only [Bool.and_eq_true, Option.isNone_iff_eq_none] at h
     refine ⟨h.1, fun P ρ w => ?_⟩
     simp [execOp, hc, hcl, resolve, invoke, builtin]
   · simp at h
 · simp at h
theorem j5p {P : Program} {X : Xf} {K : Kf} {N : Nat} (hX : XSnd P X) (hK : KSnd P K) (hD : DSnd P X K) {g : FuncId} {fn : Func} {c : Code} (hf : P.funcs[g]? = some fn) (hb : fn.body = some c)
   {args args' : Array Value} {u u' : FrameMode} {m : Mp} {H : Heap} {w : World} (hrel : Rel m H w) (hgl : Gl P m) (ha : VRa m args args') (hu : ModeR m u u') {kd : End → FrameMode → Heap → R} {r : End × Heap}
   (he : bodyD P X K N fn c args u H kd = some r) : CallsD P g args' u' w (DEnd m H w kd r) := by
 have hst := j2u hrel hgl fn ha
 have plain : exec P X K N c none (act0 fn args) H (finD P fn u kd) = some r → CallsD P g args' u' w (DEnd m H w kd r) := by
   intro hp
   refine (callsD_of_wp hf hb (R := fun e w1 => DEnd m H w kd r e u' w1) (OutQ.wp_mono (jv8 hX hK hD r c none c rfl hst hp) ?_)).mono fun e u2 w1 ⟨h1, h2⟩ => h1 ▸ h2
   intro e a w1 hq
   have := jw0 hu (Mp.le_refl m) hq
   cases e <;> first | exact this | exact this.elim
 unfold bodyD at he
 split at he
 · rename_i id ops rest
   split at he
   · rename_i o os hos
     cases hr : isRec o with
     | false => rw [hr] at he; exact plain he
     | true =>
     rw [hr] at he
     simp only [cond_true] at he
     obtain ⟨hgu, hex⟩ := j8r hr
     refine callsD_of_wpS hf hb fun c₀ cs hc₀ => ?_
     subst hc₀
     obtain ⟨v', u2, hv', hu2, hrec⟩ := j8q cs hu
     have ho : ops[0]? = some o := by rw [← Array.getElem?_toList, hos]; rfl
     have hsz : 0 < ops.size := by rw [← Array.length_toList, hos]; simp
     have hdr : List.range ops.size = 0 :: (List.range ops.size).drop 1 := by
       have := List.drop_eq_getElem_cons (l := List.range ops.size) (i := 0) (by simpa using hsz)
       simpa using this
     have hw : Region.wanted o (yielded ops (act0 fn args').tmps) = true := by simp [Region.wanted, hgu]
     have hput := hst.put o.dst hv'
     have main : wpOpsS P ops (Exit.thenS (rest.wpS P (bodyPostS P fn c₀ cs (DEnd m H w kd r))) (bodyPostS P fn c₀ cs (DEnd m H w kd r))) ((List.range ops.size).drop 1) ((act0 fn args').put o.dst v') ({ c₀ with mode := u2 } :: cs) w := by
       refine j1g hX hK os 1 (by rw [hos]; rfl) hput he ?_ ?_
       · intro b1 w1 hA
         obtain ⟨m1, a1, H1, s1, s2, s3⟩ := hA
         show rest.wpS P _ b1 _ w1
         refine wpS_of_wp (OutQ.wp_mono (jv8 hX hK hD r rest none rest rfl s1 s3) ?_)
         intro e a w2 hq
         have := jw0 hu2 (Mp.le_refl m) (OutQ.of s2 hq)
         cases e with
         | normal => obtain ⟨hd, v, q1, q2⟩ := this; exact ⟨hd, u2, rfl, v, q1, q2⟩
         | ret => obtain ⟨hd, v, q1, q2⟩ := this; exact ⟨hd, u2, rfl, v, q1, q2⟩
         | panic c2 => obtain ⟨hd, q2⟩ := this; exact ⟨hd, u2, rfl, q2⟩
         | exit id => exact this.elim
         | goto l => exact this.elim
         | outgrown => exact this.elim
       · intro c' b1 w1 hA
         have hq : OutQ P m H w (finD P fn (recM u).2 kd) r (.panic c') b1 w1 := hA
         obtain ⟨hd, q2⟩ := jw0 hu2 (Mp.le_refl m) hq
         exact ⟨hd, u2, rfl, q2⟩
     refine wpS_seq (wpS_region ?_)
     rw [hdr]
     show wpOpsS P ops _ (0 :: (List.range ops.size).drop 1) (act0 fn args') (c₀ :: cs) w
     simp only [wpOpsS, ho, hw, if_true]
     rw [hex]
     simp only
     cases hrd : recoverD (c₀ :: cs) with
     | some x =>
       obtain ⟨v, cs'⟩ := x
       rw [hrd] at hrec
       simp only at hrec
       obtain ⟨rfl, rfl⟩ := hrec
       exact main
     | none =>
       rw [hrd] at hrec
       simp only at hrec
       obtain ⟨rfl, rfl⟩ := hrec
       exact main
   · exact plain he
 · exact plain he
def TmpsR (wk : Bool) (m : Mp) (ts ts' : Array Value) : Prop := ts.size = ts'.size ∧ ∀ (t : Nat) (h : t < ts.size) (h' : t < ts'.size), (wk = true ∧ isUndef ts[t] = true) ∨ VR m ts[t] ts'[t]
theorem TmpsR.mono {wk : Bool} {m m' : Mp} (hm : m.le m') {ts ts' : Array Value} (h : TmpsR wk m ts ts') : TmpsR wk m' ts ts' := ⟨h.1, fun t a b => (h.2 t a b).imp id fun x => x.mono hm⟩
theorem TmpsR.strong {m : Mp} {ts ts' : Array Value} (h : TmpsR false m ts ts') : VRa m ts ts' := ⟨h.1, fun t a b => (h.2 t a b).resolve_left fun x => by cases x.1⟩
theorem TmpsR.getD {wk : Bool} {m : Mp} {ts ts' : Array Value} (h : TmpsR wk m ts ts') (t : Nat) : isUndef (ts.getD t undef) = true ∨ VR m (ts.getD t undef) (ts'.getD t undef) := by
 by_cases c : t < ts.size
 · have c' : t < ts'.size := h.1 ▸ c
   simp only [Array.getD, c, c', dif_pos]
   exact (h.2 t c c').imp (fun x => x.2) id
 · simp only [Array.getD, c, dif_neg, not_false_eq_true]
   exact .inl rfl
theorem j0l {P : Program} {m : Mp} {H : Heap} {w : World} (h : Rel m H w) {ts ts' : Array Value} (hts : TmpsR true m ts ts') : ∀ (l : List ResultVar) (vs : List Value), resL P ts H l = some vs → vs.any isUndef = false →
   ∃ vs', (List.mapM (fun | .tmp t => Pure.pure (ts'.getD t undef) | .cell a t => (do loadVar t (← asAddr (ts'.getD a undef)) : Sem Value)) l : Sem (List Value)).run P w = .ok vs' w ∧ VRs m vs vs'
 | [], vs, he, _ => by simp only [resL, Option.some.injEq] at he; subst he; exact ⟨[], by simp, VRs.nil m⟩
 | .tmp t :: r, vs, he, hu => by
   simp only [resL] at he
   split at he
   · rename_i l hl
     simp only [Option.some.injEq] at he; subst he
     simp only [List.any_cons, Bool.or_eq_false_iff] at hu
     obtain ⟨vs', k1, k2⟩ := j0l h hts r l hl hu.2
     have hv := (hts.getD t).resolve_left (by rw [hu.1]; exact Bool.false_ne_true)
     exact ⟨ts'.getD t undef :: vs', by simp only [List.mapM_cons, Sem.run_bind, Sem.run_pure, Result.andThen_ok, k1], VRs.cons hv k2⟩
   · simp at he
 | .cell a t :: r, vs, he, hu => by
   simp only [resL] at he
   split at he
   · rename_i v H' hv
     split at he
     · rename_i l hl
       simp only [Option.some.injEq] at he; subst he
       simp only [List.any_cons, Bool.or_eq_false_iff] at hu
       obtain ⟨vs', k1, k2⟩ := j0l h hts r l hl hu.2
       have hp : ∃ b, ts.getD a undef = .pointer (some b) := by
         unfold loadA at hv
         split at hv
         · rename_i b hb; exact ⟨b, hb⟩
         · simp at hv
       obtain ⟨b, hb⟩ := hp
       have hx := (hts.getD a).resolve_left (by rw [hb]; exact Bool.false_ne_true)
       obtain ⟨v', q1, q2, q3⟩ := jv4 h hx hv
       rw [hb] at hx
       obtain ⟨L, _, _, e⟩ := hx.ptr_inv
       rw [e] at q1
       have q1' : (loadVar t ⟨L.c, L.base + b.off, none⟩).run P w = .ok v' w := by
         simpa [Instr.loadAt, Instr.sureAddr] using q1
       refine ⟨v' :: vs', ?_, VRs.cons q2 k2⟩
       have hA : (asAddr (ts'.getD a undef)).run P w = .ok ⟨L.c, L.base + b.off, none⟩ w := by rw [e]; rfl
       simp only [List.mapM_cons, Sem.run_bind, hA, Result.andThen_ok, q1', k1, Sem.run_pure]
     · simp at he
   · simp at he
theorem jx6 {P : Program} {m : Mp} {H : Heap} {w : World} (h : Rel m H w) {fn : Func} {wk : Bool} {ts ts' : Array Value} (hts : TmpsR wk m ts ts') {vs : List Value} (he : resL P ts H fn.results.toList = some vs) (hu : (wk && vs.any isUndef) = false) :
   ∃ v', (results fn ts').run P w = .ok v' w ∧ VR m (oneOf vs) v' := by
 cases wk with
 | false => exact jt4 h hts.strong he
 | true =>
   rw [Bool.true_and] at hu
   obtain ⟨vs', k1, k2⟩ := j0l h hts fn.results.toList vs he hu
   refine ⟨_, ?_, j0i k2⟩
   unfold results
   have : (fn.results.mapM (fun | .tmp t => Pure.pure (ts'.getD t undef) | .cell a t => (do loadVar t (← asAddr (ts'.getD a undef)) : Sem Value)) : Sem (Array Value)).run P w = .ok vs'.toArray w := by
     rw [Array.mapM_eq_mapM_toList, Sem.run_map, k1]; rfl
   rw [Sem.run_bind]
   refine (congrArg (fun z => Result.andThen z _) this).trans ?_
   rfl
theorem j0m {P : Program} {X : Xf} {K : Kf} {N : Nat} (hX : XSnd P X) (hK : KSnd P K) (hD : DSnd P X K) {fn : Func} {wk : Bool} {m0 : Mp} {H0 : Heap} {w0 : World} {r : End × Heap} :
   ∀ (ds ds' : List Deferred) (u u' : FrameMode) {tmps tmps' : Array Value} {m : Mp} {H : Heap} {w : World}, Rel m H w → Gl P m → DRs m ds ds' → ModeR m u u' → TmpsR wk m tmps tmps' → Step m0 H0 w0 m H w → leave P X K N fn wk tmps ds u H = some r →
     Leaves P fn tmps' (fun e w' => ∃ m', EndR m' r.1 e ∧ Step m0 H0 w0 m' r.2 w') ds' u' w := by
 intro ds
 induction ds with
 | nil =>
   intro ds' u u' tmps tmps' m H w hrel hgl hds hu ht hs he
   cases hds
   cases hu with
   | returning =>
     simp only [leave] at he
     split at he
     · rename_i l hl
       cases hu : (wk && l.any isUndef) with
       | true => rw [hu] at he; cases he
       | false =>
         rw [hu] at he
         simp only [cond_false, Option.some.injEq] at he
         subst he
         obtain ⟨v', q1, q2⟩ := jx6 hrel ht hl hu
         exact ⟨v', q1, m, q2, hs⟩
     · simp at he
   | panicking c c' h =>
     simp only [leave, Option.some.injEq] at he
     subst he
     exact ⟨m, h, hs⟩
 | cons d ds ih =>
   intro ds' u u' tmps tmps' m H w hrel hgl hds hu ht hs he
   cases hds with
   | cons hd htl =>
   rename_i d' l'
   obtain ⟨fv, cap, cap', e1, e2, hcap, hda⟩ := hd
   have hur : u' ≠ .run := by cases hu <;> simp
   have he' : ∃ g gn c, fv = .func g ∧ P.funcs[g]? = some gn ∧ (gn.name == "runtime.NumGoroutine") = false ∧ gn.body = some c ∧ bodyD P X K N gn c (d.args ++ cap) u H (fun e u' H' => match e with
         | .ret _ => match settleA u' with | some u2 => leave P X K N fn wk tmps ds u2 H' | none => none
         | .pan ch => leave P X K N fn wk tmps ds (raised u' ch) H') = some r := by
     have key : (match d.target with
         | .fn (.func g) cap => match P.funcs[g]? with
           | some gn => if gn.name == "runtime.NumGoroutine" then none else match gn.body with
             | some c => bodyD P X K N gn c (d.args ++ cap) u H (fun e u' H' => match e with
               | .ret _ => match settleA u' with | some u2 => leave P X K N fn wk tmps ds u2 H' | none => none
               | .pan ch => leave P X K N fn wk tmps ds (raised u' ch) H')
             | none => none
           | none => none
         | _ => none) = some r := by
       cases hu <;> (simp only [leave] at he; exact he)
     rw [e1] at key
     cases fv with
     | func g =>
       simp only at key
       split at key
       · rename_i gn hg
         split at key
         · simp at key
         · rename_i hn
           split at key
           · rename_i c hc
             exact ⟨g, gn, c, rfl, hg, by simpa using hn, hc, key⟩
           · simp at key
       · simp at key
     | _ => simp at key
   obtain ⟨g, gn, c, rfl, hg, hn, hc, hbd⟩ := he'
   have hbs := j5p hX hK hD hg hc hrel hgl (hda.append hcap) hu hbd
   obtain ⟨dt, da⟩ := d'
   simp only at e2 hda hbs
   subst e2
   refine ⟨hur, .func g, cap', g, da ++ cap', rfl, ?_, hbs.mono ?_⟩
   · have hn' : ¬ gn.name = "runtime.NumGoroutine" := by simpa using hn
     simp [invoke, callFunc, hg, hn', hc]
   · intro e u2 w1 hde
     obtain ⟨m1, en, uu, H1, q1, q2, q3, q4⟩ := hde
     have hle := q3.later.1
     cases en with
     | ret v =>
       simp only at q4
       cases e with
       | returned v' =>
         split at q4
         · rename_i u3 hu3
           exact ih l' u3 _ q3.rel (hgl.mono hle) (htl.mono hle) (q2.settle hu3) (ht.mono hle) (hs.trans q3) q4
         · simp at q4
       | panicked c => exact q1.elim
       | outgrown => exact q1.elim
     | pan ch =>
       simp only at q4
       cases e with
       | panicked c => exact ih l' _ _ q3.rel (hgl.mono hle) (htl.mono hle) (q2.raised q1) (ht.mono hle) (hs.trans q3) q4
       | returned v' => exact q1.elim
       | outgrown => exact q1.elim
theorem jr9 {P : Program} {X : Xf} {N : Nat} {hk : Hook} (hX : XSnd P X) (hH : HookSnd P hk) (hm : P.follows .mixedOrders = true) : ∀ d, KSnd P (callR P X N hk d)
 | 0 => fun f args H r H' he => by simp [callR] at he
 | d + 1 => by
   have hK := jr9 (X := X) (N := N) hX hH hm d
   intro f args H r H' he m w args' hrel hgl hargs
   simp only [callR] at he
   split at he
   · rename_i r' hr
     rw [he] at hr
     exact hH f args H r H' hr m w args' hrel hgl hargs
   · split at he
     · rename_i fn hf
       split at he
       · rename_i c hb
         have hD : DSnd P X (callR P X N hk d) := fun ops r k kp Q hd _ _ _ _ _ h he hQ hP id => j8l hX hK hm hd h he hQ hP id
         refine calls_of_wp_defers hf hb (OutQ.wp_mono (jv8 hX hK hD (r, H') c none c rfl (j2u hrel hgl fn hargs) he) ?_)
         have fin : ∀ (a : Act) (m1 : Mp) (a1 : Act) (H1 : Heap) (w1 : World), StR P m1 a1 H1 a w1 → Step m H w m1 H1 w1 → leave P X (callR P X N hk d) N fn false a1.tmps a1.defers .returning H1 = some (r, H') →
             Leaves P fn a.tmps (fun e w' => ∃ m', EndR m' r e ∧ Step m H w m' H' w') a.defers .returning w1 :=
           fun a m1 a1 H1 w1 s1 s2 s3 => j0m hX hK hD _ _ _ _ s1.rel s1.gl s1.act.defers .returning ⟨s1.act.tmps.1, fun t a b => .inr (s1.act.tmps.2 t a b)⟩ s2 s3
         intro e a w1 hq
         cases e with
         | normal => obtain ⟨m1, a1, H1, s1, s2, s3⟩ := hq; exact fin a m1 a1 H1 w1 s1 s2 s3
         | ret => obtain ⟨m1, a1, H1, s1, s2, s3⟩ := hq; exact fin a m1 a1 H1 w1 s1 s2 s3
         | exit id => obtain ⟨m1, a1, H1, s1, s2, s3⟩ := hq; simp [finishR] at s3
         | goto l => obtain ⟨m1, a1, H1, s1, s2, s3⟩ := hq; simp [finishR] at s3
         | panic c' =>
           obtain ⟨m1, c1, a1, H1, s0, s1, s2, s3⟩ := hq
           exact j0m hX hK hD _ _ _ _ s1.rel s1.gl s1.act.defers (.panicking _ _ s0) ⟨s1.act.size, fun t a b => (s1.act.tmps t a b).imp (fun x => ⟨rfl, x⟩) id⟩ s2 s3
         | outgrown => exact hq.elim
       · simp at he
     · simp at he
abbrev T := Tr Value
noncomputable def rdP (p : List Bool) : T → Option Value :=
 List.rec (motive := fun _ => T → Option Value) (fun t => Tr.rec (motive := fun _ => Option Value) none (fun v _ _ _ _ => v) t)
   (fun b _ ih t => Tr.rec (motive := fun _ => Option Value) none (fun _ l r _ _ => Bool.rec (motive := fun _ => Option Value) (ih r) (ih l) b) t) p
noncomputable def setP (v : Value) (p : List Bool) : T → (T → R) → R :=
 List.rec (motive := fun _ => T → (T → R) → R) (fun t => Tr.rec (motive := fun _ => (T → R) → R) (fun _ => none) (fun o l r _ _ => Option.rec (motive := fun _ => (T → R) → R) (fun _ => none) (fun _ k => k (.node (some v) l r)) o) t)
   (fun b _ ih t => Tr.rec (motive := fun _ => (T → R) → R) (fun _ => none) (fun o l r _ _ => Bool.rec (motive := fun _ => (T → R) → R) (fun k => ih r fun r' => k (.node o l r')) (fun k => ih l fun l' => k (.node o l' r)) b) t) p
def pathF : Nat → Nat → List Bool
 | 0, _ => []
 | f + 1, n => if n = 0 then [] else if n % 2 = 1 then true :: pathF f (n / 2) else false :: pathF f (n / 2 - 1)
def path (n : Nat) : List Bool := pathF (n + 1) n
def dec : List Bool → Nat
 | [] => 0
 | true :: p => 2 * dec p + 1
 | false :: p => 2 * dec p + 2
theorem j0n : ∀ f n, n < f → dec (pathF f n) = n
 | 0, _, h => absurd h (Nat.not_lt_zero _)
 | f + 1, n, h => by
   unfold pathF
   split
   · rename_i e; simp [dec, e]
   · split
     · rw [dec, j0n f _ (by omega)]; omega
     · rw [dec, j0n f _ (by omega)]; omega
theorem j2v (n : Nat) : dec (path n) = n := j0n (n + 1) n (Nat.lt_succ_self n)
theorem js0 (v : Option Value) (l r : T) (d : Nat) : (Tr.node v l r).get (2 * d + 1) = l.get d := by
 have h1 : (2 * d + 1) % 2 = 1 := by omega
 have h2 : (2 * d + 1) / 2 = d := by omega
 simp [Tr.get, h1, h2]
theorem jn0 (v : Option Value) (l r : T) (d : Nat) : (Tr.node v l r).get (2 * d + 2) = r.get d := by
 simp [Tr.get]
theorem j5q : ∀ (p : List Bool) (t : T), rdP p t = t.get (dec p)
 | [], .nil => rfl
 | [], .node v l r => by simp [dec, Tr.get]; rfl
 | _ :: _, .nil => rfl
 | true :: p, .node v l r => by rw [dec, js0]; exact j5q p l
 | false :: p, .node v l r => by rw [dec, jn0]; exact j5q p r
theorem jw1 (i : Nat) (t : T) : rdP (path i) t = t.get i := by rw [j5q, j2v]
theorem jt5 {v : Value} {r : End × Heap} : ∀ (p : List Bool) (t : T) (k : T → R), setP v p t k = some r →
   ∃ t', k t' = some r ∧ (∃ o, t.get (dec p) = some o) ∧ ∀ i, t'.get i = if i = dec p then some v else t.get i
 | [], .nil, k, h => by cases h
 | _ :: _, .nil, k, h => by cases h
 | [], .node none l r, k, h => by cases h
 | [], .node (some x) l r, k, h => by
   refine ⟨_, h, ⟨x, by simp [dec, Tr.get]⟩, fun i => ?_⟩
   by_cases e : i = 0
   · subst e; simp [dec, Tr.get]
   · simp [dec, Tr.get, e]
 | true :: p, .node o l r, k, h => by
   obtain ⟨l', h1, h2, h3⟩ := jt5 p l (fun l' => k (.node o l' r)) h
   refine ⟨_, h1, by rw [dec, js0]; exact h2, fun i => ?_⟩
   by_cases e : i = 0
   · subst e; simp [dec, Tr.get]
   · by_cases q : i % 2 = 1
     · obtain ⟨j, rfl⟩ : ∃ j, i = 2 * j + 1 := ⟨i / 2, by omega⟩
       rw [js0, js0, h3, dec]
       by_cases e2 : j = dec p
       · subst e2; simp
       · have : ¬ 2 * j + 1 = 2 * dec p + 1 := by omega
         rw [if_neg e2, if_neg this]
     · obtain ⟨j, rfl⟩ : ∃ j, i = 2 * j + 2 := ⟨i / 2 - 1, by omega⟩
       have : ¬ 2 * j + 2 = dec (true :: p) := by rw [dec]; omega
       rw [if_neg this, jn0, jn0]
 | false :: p, .node o l r, k, h => by
   obtain ⟨l', h1, h2, h3⟩ := jt5 p r (fun r' => k (.node o l r')) h
   refine ⟨_, h1, by rw [dec, jn0]; exact h2, fun i => ?_⟩
   by_cases e : i = 0
   · subst e; simp [dec, Tr.get]
   · by_cases q : i % 2 = 1
     · obtain ⟨j, rfl⟩ : ∃ j, i = 2 * j + 1 := ⟨i / 2, by omega⟩
       have : ¬ 2 * j + 1 = dec (false :: p) := by rw [dec]; omega
       rw [if_neg this, js0, js0]
     · obtain ⟨j, rfl⟩ : ∃ j, i = 2 * j + 2 := ⟨i / 2 - 1, by omega⟩
       rw [jn0, jn0, h3, dec]
       by_cases e2 : j = dec p
       · subst e2; simp
       · have : ¬ 2 * j + 2 = 2 * dec p + 2 := by omega
         rw [if_neg e2, if_neg this]
def Rep (t : T) (ts : Array Value) : Prop := ∀ i : Nat, t.get i = ts[i]?
theorem Rep.set {t t' : T} {ts : Array Value} (h : Rep t ts) {i : Nat} {v : Value} (h2 : ∃ o, t.get (dec (path i)) = some o) (h3 : ∀ j, t'.get j = if j = dec (path i) then some v else t.get j) : Rep t' (ts.setIfInBounds i v) := by
 rw [j2v] at h2 h3
 intro j
 rw [h3]
 obtain ⟨o, ho⟩ := h2
 rw [h i] at ho
 have hlt : i < ts.size := by
   rcases Nat.lt_or_ge i ts.size with h | h
   · exact h
   · rw [Array.getElem?_eq_none h] at ho; cases ho
 by_cases e : j = i
 · subst e; simp [hlt]
 · rw [if_neg e, h j, Array.getElem?_setIfInBounds]
   simp [Ne.symm e]
noncomputable def putT (d : Option Tmp) (t : T) (v : Value) (k : T → R) : R := match d with | none => k t | some i => setP v (path i) t k
theorem jn9 {d : Option Tmp} {t : T} {v : Value} {k : T → R} {r : End × Heap} (he : putT d t v k = some r) {a : Act} (h : Rep t a.tmps) : ∃ t', k t' = some r ∧ Rep t' (a.put d v).tmps ∧ (a.put d v).defers = a.defers := by
 unfold putT at he
 cases d with
 | none => exact ⟨t, he, h, rfl⟩
 | some i =>
   obtain ⟨t', h1, h2, h3⟩ := jt5 _ _ _ he
   exact ⟨t', h1, h.set h2 h3, rfl⟩
def forceV (v : Value) (k : Value → R) : R :=
 match v with
 | .iface t (.pointer p) => k (.iface t (.pointer p))
 | .iface t (.agg p) => k (.iface t (.agg p))
 | .iface t (.int i p) => k (.iface t (.int i p))
 | .iface t (.string p) => k (.iface t (.string p))
 | .nilIface => k .nilIface
 | .tuple xs => k (.tuple xs)
 | .func f xs ys => k (.func f xs ys)
 | .nilFunc => k .nilFunc
 | .map m => k (.map m)
 | .int i n => k (.int i n)
 | .bool b => k (.bool b)
 | .pointer p => k (.pointer p)
 | .slice a n c => k (.slice a n c)
 | .agg xs => k (.agg xs)
 | v => k v
theorem j98 (v : Value) (k : Value → R) : forceV v k = k v := by unfold forceV; split <;> rfl
noncomputable def evalT (t : T) : Operand → Value
 | .tmp i => (rdP (path i) t).getD undef
 | .const v => v
 | .global g => .pointer (some ⟨g, 0, none⟩)
 | .func f => .func (.func f) #[] #[]
theorem jk5 {t : T} {a : Act} (h : Rep t a.tmps) : evalT t = a.eval := by
 funext x
 cases x with
 | tmp i => simp only [evalT, Act.eval]; rw [jw1, h i]; simp
 | _ => rfl
def blankF : Nat → Nat → T
 | 0, _ => .nil
 | f + 1, n => match n with
   | 0 => .nil
   | j + 1 => .node (some undef) (blankF f ((j + 1) / 2)) (blankF f (j / 2))
theorem jt6 : ∀ f n i, n ≤ f → (blankF f n).get i = if i < n then some undef else none
 | 0, n, i, h => by
   have : n = 0 := by omega
   subst this; rfl
 | f + 1, 0, i, h => rfl
 | f + 1, j + 1, i, h => by
   unfold blankF
   by_cases e : i = 0
   · subst e; simp [Tr.get]
   · by_cases q : i % 2 = 1
     · obtain ⟨d, rfl⟩ : ∃ d, i = 2 * d + 1 := ⟨i / 2, by omega⟩
       rw [js0, jt6 f _ _ (by omega)]
       by_cases c : 2 * d + 1 < j + 1
       · rw [if_pos c, if_pos (by omega)]
       · rw [if_neg c, if_neg (by omega)]
     · obtain ⟨d, rfl⟩ : ∃ d, i = 2 * d + 2 := ⟨i / 2 - 1, by omega⟩
       rw [jn0, jt6 f _ _ (by omega)]
       by_cases c : 2 * d + 2 < j + 1
       · rw [if_pos c, if_pos (by omega)]
       · rw [if_neg c, if_neg (by omega)]
noncomputable def layT : List Value → Nat → T → (T → R) → R
 | [], _, t, k => k t
 | v :: l, i, t, k => setP v (path i) t fun t => layT l (i + 1) t k
theorem j33 {r : End × Heap} : ∀ (l : List Value) (i : Nat) (t : T) (k : T → R), layT l i t k = some r →
   ∃ t', k t' = some r ∧ (∀ j, t'.get j = if i ≤ j ∧ j < i + l.length then l[j - i]? else t.get j) ∧ (∀ j, i ≤ j → j < i + l.length → ∃ o, t.get j = some o)
 | [], i, t, k, h => ⟨t, h, fun j => by rw [if_neg (by simp only [List.length_nil]; omega)], fun j h1 h2 => by simp only [List.length_nil] at h2; omega⟩
 | v :: l, i, t, k, h => by
   obtain ⟨t1, h1, h2, h3⟩ := jt5 _ _ _ h
   rw [j2v] at h2 h3
   obtain ⟨t2, k1, k2, k3⟩ := j33 l (i + 1) t1 k h1
   refine ⟨t2, k1, fun j => ?_, fun j a b => ?_⟩
   · rw [k2]
     simp only [List.length_cons]
     by_cases c : i + 1 ≤ j ∧ j < i + 1 + l.length
     · rw [if_pos c, if_pos (by omega)]
       obtain ⟨d, hd⟩ : ∃ d, j - i = d + 1 := ⟨j - i - 1, by omega⟩
       have : j - (i + 1) = d := by omega
       rw [hd, this]; simp
     · rw [if_neg c, h3]
       by_cases e : j = i
       · subst e; simp
       · rw [if_neg e, if_neg (by omega)]
   · simp only [List.length_cons] at b
     by_cases e : j = i
     · subst e; exact h2
     · obtain ⟨o, ho⟩ := k3 j (by omega) (by omega)
       rw [h3, if_neg e] at ho
       exact ⟨o, ho⟩
noncomputable def startT (n : Nat) (args : Array Value) (k : T → R) : R := layT args.toList 0 (blankF n n) k
theorem j0o {fn : Func} {args : Array Value} {k : T → R} {r : End × Heap} (he : startT fn.ntmps args k = some r) : ∃ t, k t = some r ∧ Rep t (act0 fn args).tmps := by
 obtain ⟨t, h1, h2, h3⟩ := j33 _ _ _ _ he
 refine ⟨t, h1, fun j => ?_⟩
 rw [h2, jt6 _ _ _ (Nat.le_refl _)]
 simp only [act0, Nat.zero_le, true_and, Nat.zero_add, Nat.sub_zero, Array.length_toList]
 have hle : args.size ≤ fn.ntmps := by
   rcases Nat.eq_zero_or_pos args.size with e | e
   · omega
   · obtain ⟨o, ho⟩ := h3 (args.size - 1) (Nat.zero_le _) (by simp; omega)
     rw [jt6 _ _ _ (Nat.le_refl _)] at ho
     split at ho
     · omega
     · cases ho
 by_cases c : j < args.size
 · rw [if_pos c, Array.getElem?_append_left c]; simp
 · rw [if_neg c, Array.getElem?_append_right (by omega), Array.getElem?_replicate]
   by_cases c2 : j < fn.ntmps
   · rw [if_pos c2, if_pos (by omega)]
   · rw [if_neg c2, if_neg (by omega)]
theorem ji9 {x : VH} {k k' : Value → Heap → R} {r : End × Heap} (hk : ∀ v H, k v H = some r → k' v H = some r) (h : bindV x k = some r) : bindV x k' = some r := by
 obtain ⟨v, H, e, h1⟩ := jd4 h
 rw [e]; exact hk v H h1
theorem jj0 {x : Option Value} {k k' : Value → R} {r : End × Heap} (hk : ∀ v, k v = some r → k' v = some r) (h : bindO x k = some r) : bindO x k' = some r := by
 obtain ⟨v, e, h1⟩ := je0 h
 rw [e]; exact hk v h1
theorem jx7 {v : Value} {k k' : R} {r : End × Heap} (hk : k = some r → k' = some r) (h : groundK v k = some r) : groundK v k' = some r := by
 unfold groundK at h ⊢
 split at h
 · rename_i e; rw [if_pos e]; exact hk h
 · cases h
def KLe (K K' : Kf) : Prop := ∀ f args H r, K f args H = some r → K' f args H = some r
theorem j8s {x x' : R} {k k' : Value → Heap → R} {kp kp' : List PanicEntry → Heap → R} {r : End × Heap} (hx : ∀ q, x = some q → x' = some q) (hk : ∀ v H, k v H = some r → k' v H = some r) (hp : ∀ c H, kp c H = some r → kp' c H = some r)
   (h : bindR x k kp = some r) : bindR x' k' kp' = some r := by
 unfold bindR at h
 split at h
 · rw [hx _ rfl]; exact hk _ _ h
 · rw [hx _ rfl]; exact hp _ _ h
 · cases h
theorem j8t {P : Program} {X : Xf} {K K' : Kf} (hK : KLe K K') {f : FuncId} {args : Array Value} {H : Heap} {k k' : Value → Heap → R} {kp kp' : List PanicEntry → Heap → R} {r : End × Heap}
   (hk : ∀ v H, k v H = some r → k' v H = some r) (hp : ∀ c H, kp c H = some r → kp' c H = some r) (h : callK P X K f args H k kp = some r) : callK P X K' f args H k' kp' = some r := by
 unfold callK at h ⊢
 split at h
 · split at h
   · cases h
   · rename_i hn
     simp only [hn]
     split at h
     · rename_i hb; simp only [hb, if_true]; exact ji9 hk h
     · rename_i hb; simp only [hb]; exact j8s (fun q => hK _ _ _ q) hk hp h
 · cases h
theorem j2w {P : Program} {b : Builtin} {ts : Array TypeId} {args : Array Value} {H : Heap} {k k' : Value → Heap → R} {r : End × Heap}
   (hk : ∀ v H, k v H = some r → k' v H = some r) (h : builtinK P b ts args H k = some r) : builtinK P b ts args H k' = some r := by
 unfold builtinK at h ⊢
 split at h
 · split at h
   · exact jj0 (fun v => hk v H) h
   · cases h
 · split at h
   · exact jj0 (fun v => hk v H) h
   · cases h
 · split at h
   · rename_i e; rw [if_pos e]; exact ji9 hk h
   · cases h
 · exact ji9 hk h
 · split at h
   · rename_i e; rw [if_pos e]; exact hk _ _ h
   · cases h
 · split at h
   · rename_i e; rw [if_pos e]; exact hk _ _ h
   · cases h
 · cases h
theorem j99 {P : Program} {ρ : Operand → Value} {o : Op} {H : Heap} {k k' : Value → Heap → R} {r : End × Heap} (hk : ∀ v H, k v H = some r → k' v H = some r) (h : mapK P ρ o H k = some r) : mapK P ρ o H k' = some r := by
 unfold mapK at h ⊢
 split at h
 · exact ji9 hk h
 · exact jj0 (fun v => hk v _) h
 · exact ji9 hk h
 · cases h
theorem j6w {P : Program} {X : Xf} {K K' : Kf} (hK : KLe K K') {ρ : Operand → Value} {o : Oper} {H : Heap} {k k' : Value → Heap → R} {kp kp' : List PanicEntry → Heap → R} {r : End × Heap}
   (hk : ∀ v H, k v H = some r → k' v H = some r) (hp : ∀ c H, kp c H = some r → kp' c H = some r) (h : opK P X K ρ o H k kp = some r) : opK P X K' ρ o H k' kp' = some r := by
 unfold opK at h ⊢
 split at h
 all_goals first
   | exact hk _ _ h
   | exact ji9 hk h
   | exact j99 hk h
   | exact jj0 (fun v => hk v H) h
   | exact jj0 (fun v => jx7 (hk v H)) h
   | (split at h
      all_goals first
        | exact hk _ _ h
        | exact hp _ _ h
        | exact j2w hk h
        | (cases h; done)
        | (split at h
           all_goals first
             | exact j8t hK hk hp h
             | (cases h; done)))
   | (cases h; done)
   | skip
def typedF (d : Option TypeDesc) (v : Value) (k : Value → R) : R :=
 match d with
 | some (.int K) => match v with | .int K' n => cond (K' == K) (k (.int K n)) none | _ => none
 | some .bool => match v with | .bool b => k (.bool b) | _ => none
 | some .string => match v with | .string s => k (.string s) | _ => none
 | some (.slice _) => match v with | .slice a l c => k (.slice a l c) | _ => none
 | some (.pointer _) => match v with | .pointer a => k (.pointer a) | _ => none
 | some (.struct _) => match v with | .agg cs => k (.agg cs) | _ => none
 | some (.array _ _) => match v with | .agg cs => k (.agg cs) | _ => none
 | _ => k v
theorem j5r {d : Option TypeDesc} {v : Value} {k : Value → R} {r : End × Heap} (h : typedF d v k = some r) : k v = some r := by
 unfold typedF at h
 split at h
 · split at h
   · rename_i K' n
     cases e : (K' == _) with
     | false => rw [e] at h; simp at h
     | true => rw [e] at h; have := eq_of_beq e; subst this; exact h
   · simp at h
 all_goals first
   | (split at h; exact h; simp at h)
   | exact h
noncomputable def forceN (n : Nat) (k : Nat → R) : R := Nat.rec (motive := fun _ => R) (k 0) (fun j _ => k (Nat.succ j)) n
theorem j34 (n : Nat) (k : Nat → R) : forceN n k = k n := by cases n <;> rfl
def tagK : IntKind → Nat
 | .i8 => 0 | .i16 => 1 | .i32 => 2 | .i64 => 3 | .u8 => 4 | .u16 => 5 | .u32 => 6 | .u64 => 7
theorem yj3 : ∀ {k k' : IntKind}, tagK k = tagK k' → k = k' := by
 intro k k'; cases k <;> cases k' <;> simp [tagK]
def limK : IntKind → Nat
 | .i8 | .u8 => 128
 | .i16 | .u16 => 32768
 | .i32 | .u32 => 2147483648
 | .i64 | .u64 => 9223372036854775808
theorem j6x {k : IntKind} {n : Nat} (h : n < limK k) : k.wrap (.ofNat n) = .ofNat n := by
 cases k <;> simp only [limK] at h <;> simp only [IntKind.wrap, IntKind.bits, IntKind.signed] <;> simp <;> omega
noncomputable def fastI (op : BinOp) (k : IntKind) (a b : Nat) (kv : Value → R) (gen : R) : R :=
 match op with
 | .eql => cond (Nat.beq a b) (kv (.bool true)) (kv (.bool false))
 | .neq => cond (Nat.beq a b) (kv (.bool false)) (kv (.bool true))
 | .lss => cond (Nat.ble b a) (kv (.bool false)) (kv (.bool true))
 | .leq => cond (Nat.ble a b) (kv (.bool true)) (kv (.bool false))
 | .gtr => cond (Nat.ble a b) (kv (.bool false)) (kv (.bool true))
 | .geq => cond (Nat.ble b a) (kv (.bool true)) (kv (.bool false))
 | .add => cond (Nat.ble (limK k) (a + b)) gen (forceN (a + b) fun n => kv (.int k (.ofNat n)))
 | .sub => cond (Nat.ble b a) (cond (Nat.ble (limK k) a) gen (forceN (a - b) fun n => kv (.int k (.ofNat n)))) gen
 | _ => gen
theorem jg6 {P : Program} {op : BinOp} {t : TypeId} {x y : Operand} {k : IntKind} {a b : Int} {v : Value} (h1 : (op matches .eql | .neq | .lss | .leq | .gtr | .geq) = true) (h2 : Op.intCmp op a b = .pure v) :
   binA P op t x y (.int k a) (.int k b) = some v := by
 unfold binA
 cases op <;> simp at h1 <;> simp [ground, atomic, eqGuard, binOp, h2] <;> rfl
theorem j8u {P : Program} {op : BinOp} {t : TypeId} {x y : Operand} {k : IntKind} {a b : Nat} {kv : Value → R} {gen : R} {r : End × Heap} (h : fastI op k a b kv gen = some r)
   (hg : gen = some r → bindO (binA P op t x y (.int k (.ofNat a)) (.int k (.ofNat b))) (fun v => groundK v (kv v)) = some r) :
   bindO (binA P op t x y (.int k (.ofNat a)) (.int k (.ofNat b))) (fun v => groundK v (kv v)) = some r := by
 have fin : ∀ v, binA P op t x y (.int k (.ofNat a)) (.int k (.ofNat b)) = some v → ground v = true → kv v = some r → bindO (binA P op t x y (.int k (.ofNat a)) (.int k (.ofNat b))) (fun v => groundK v (kv v)) = some r := by
   intro v h1 h2 h3
   rw [h1]
   simp [bindO, groundK, h2, h3]
 unfold fastI at h
 split at h
 · cases e : Nat.beq a b with
   | true => rw [e] at h; exact fin _ (jg6 rfl (by simp [Op.intCmp, Nat.eq_of_beq_eq_true e]; rfl)) rfl h
   | false => rw [e] at h; exact fin _ (jg6 rfl (by have := Nat.ne_of_beq_eq_false e; simp [Op.intCmp]; rw [show ((a : Int) == (b : Int)) = false by simp; omega]; rfl)) rfl h
 · cases e : Nat.beq a b with
   | true => rw [e] at h; exact fin _ (jg6 rfl (by simp [Op.intCmp, Nat.eq_of_beq_eq_true e]; rfl)) rfl h
   | false => rw [e] at h; exact fin _ (jg6 rfl (by have := Nat.ne_of_beq_eq_false e; simp [Op.intCmp, bne]; rw [show ((a : Int) == (b : Int)) = false by simp; omega]; rfl)) rfl h
 · cases e : Nat.ble b a with
   | true => rw [e] at h; have := Nat.le_of_ble_eq_true e; exact fin _ (jg6 rfl (by simp [Op.intCmp]; rw [decide_eq_false (by omega)]; rfl)) rfl h
   | false => rw [e] at h; have : ¬ b ≤ a := fun c => by rw [Nat.ble_eq_true_of_le c] at e; cases e
              exact fin _ (jg6 rfl (by simp [Op.intCmp]; rw [decide_eq_true (by omega)]; rfl)) rfl h
 · cases e : Nat.ble a b with
   | true => rw [e] at h; have := Nat.le_of_ble_eq_true e; exact fin _ (jg6 rfl (by simp [Op.intCmp]; rw [decide_eq_true (by omega)]; rfl)) rfl h
   | false => rw [e] at h; have : ¬ a ≤ b := fun c => by rw [Nat.ble_eq_true_of_le c] at e; cases e
              exact fin _ (jg6 rfl (by simp [Op.intCmp]; rw [decide_eq_false (by omega)]; rfl)) rfl h
 · cases e : Nat.ble a b with
   | true => rw [e] at h; have := Nat.le_of_ble_eq_true e; exact fin _ (jg6 rfl (by simp [Op.intCmp]; rw [decide_eq_false (by omega)]; rfl)) rfl h
   | false => rw [e] at h; have : ¬ a ≤ b := fun c => by rw [Nat.ble_eq_true_of_le c] at e; cases e
              exact fin _ (jg6 rfl (by simp [Op.intCmp]; rw [decide_eq_true (by omega)]; rfl)) rfl h
 · cases e : Nat.ble b a with
   | true => rw [e] at h; have := Nat.le_of_ble_eq_true e; exact fin _ (jg6 rfl (by simp [Op.intCmp]; rw [decide_eq_true (by omega)]; rfl)) rfl h
   | false => rw [e] at h; have : ¬ b ≤ a := fun c => by rw [Nat.ble_eq_true_of_le c] at e; cases e
              exact fin _ (jg6 rfl (by simp [Op.intCmp]; rw [decide_eq_false (by omega)]; rfl)) rfl h
 · cases e : Nat.ble (limK k) (a + b) with
   | true => rw [e] at h; exact hg h
   | false =>
     rw [e] at h
     simp only [cond_false, j34] at h
     have : ¬ limK k ≤ a + b := fun c => by rw [Nat.ble_eq_true_of_le c] at e; cases e
     refine fin _ ?_ rfl h
     have w := j6x (k := k) (n := a + b) (by omega)
     have e2 : (Int.ofNat a + Int.ofNat b) = Int.ofNat (a + b) := rfl
     unfold binA
     simp only [ground, atomic, Bool.and_self, if_true, eqGuard, binOp, Op.intArith]
     rw [e2, w]
     simp
     rfl
 · cases e : Nat.ble b a with
   | false => rw [e] at h; exact hg h
   | true =>
     rw [e] at h
     simp only [cond_true] at h
     have l1 := Nat.le_of_ble_eq_true e
     cases e1 : Nat.ble (limK k) a with
     | true => rw [e1] at h; exact hg h
     | false =>
       rw [e1] at h
       simp only [cond_false, j34] at h
       have : ¬ limK k ≤ a := fun c => by rw [Nat.ble_eq_true_of_le c] at e1; cases e1
       refine fin _ ?_ rfl h
       have w := j6x (k := k) (n := a - b) (by omega)
       have e2 : (Int.ofNat a - Int.ofNat b) = Int.ofNat (a - b) := by show (a : Int) - b = ((a - b : Nat) : Int); omega
       unfold binA
       simp only [ground, atomic, Bool.and_self, if_true, eqGuard, binOp, Op.intArith]
       rw [e2, w]
       simp
       rfl
 · exact hg h
structure Sim (t : T) (ds : List Deferred) (a : Act) : Prop where
 tree : Rep t a.tmps
 ds : a.defers = ds
abbrev KT := T → List Deferred → Heap → R
def KS (r : End × Heap) (k : KT) (k' : Act → Heap → R) : Prop := ∀ t ds a H, Sim t ds a → k t ds H = some r → k' a H = some r
def binOf (o : Oper) : Option (BinOp × Operand × Operand) := match o.op with | .binOp op _ x y _ => some (op, x, y) | _ => none
def movOf (o : Oper) : Option Operand := match o.op with | .move x | .assign x => some x | _ => none
def callOf (o : Oper) : Option Call := match o.op with | .defer c => some c | _ => none
noncomputable def stT (P : Program) (o : Oper) (t : T) (ds : List Deferred) (k : KT) (v : Value) (H : Heap) : R :=
 typedF (P.underlying o.type) v fun v => forceV v fun v => putT o.dst t v fun t => k t ds H
def asNat (v : Value) (f : IntKind → Nat → R) (g : R) : R := match v with | .int k (.ofNat n) => f k n | _ => g
noncomputable def binT (op : BinOp) (x y : Value) (kv : Value → R) (gen : R) : R :=
 asNat x (fun ka a => asNat y (fun kb b => cond (Nat.beq (tagK ka) (tagK kb)) (fastI op ka a b kv gen) gen) gen) gen
noncomputable def opT (P : Program) (X : Xf) (K : Kf) (o : Oper) (t : T) (ds : List Deferred) (H : Heap) (k : KT) (kp : List PanicEntry → KT) : R :=
 match movOf o with
   | some x => stT P o t ds k (evalT t x) H
   | none => match binOf o with
     | some (op, x, y) => binT op (evalT t x) (evalT t y) (fun v => stT P o t ds k v H) (opK P X K (evalT t) o H (stT P o t ds k) fun c H => kp c t ds H)
     | none => match callOf o with
       | some c => (match deferOf (evalT t) c with | some d => putT o.dst t undef fun t => k t (d :: ds) H | none => none)
       | none => opK P X K (evalT t) o H (stT P o t ds k) fun c H => kp c t ds H
theorem j2x {P : Program} {o : Oper} {t : T} {ds : List Deferred} {a : Act} {r : End × Heap} {k : KT} {k' : Act → Heap → R} (hs : Sim t ds a) (hk : KS r k k') {v : Value} {H : Heap} (h : stT P o t ds k v H = some r) :
   typed (P.underlying o.type) v (fun v => k' (a.put o.dst v) H) = some r := by
 have h := j5r h
 rw [j98] at h
 obtain ⟨t', h1, h2, h3⟩ := jn9 h hs.tree
 exact hk _ _ _ _ ⟨h2, h3.trans hs.ds⟩ h1
theorem j1s {v : Value} {f : IntKind → Nat → R} {g : R} {r : End × Heap} (h : asNat v f g = some r) : (∃ k n, v = .int k (.ofNat n) ∧ f k n = some r) ∨ g = some r := by
 unfold asNat at h
 split at h
 · exact .inl ⟨_, _, rfl, h⟩
 · exact .inr h
theorem ya0 {P : Program} {X : Xf} {K K' : Kf} (hK : KLe K K') {o : Oper} {t : T} {ds : List Deferred} {a : Act} {H : Heap} {r : End × Heap} {k : KT} {k' : Act → Heap → R} {kp : List PanicEntry → KT} {kp' : List PanicEntry → Act → Heap → R}
   (hok : opOk P o = true) (hs : Sim t ds a) (hk : KS r k k') (hp : ∀ c, KS r (kp c) (kp' c)) (h : opT P X K o t ds H k kp = some r) : execOp1 P X K' o a H k' kp' = some r := by
 unfold opT at h
 unfold execOp1
 rw [hok]
 simp only [cond_true]
 have gen : opK P X K (evalT t) o H (stT P o t ds k) (fun c H => kp c t ds H) = some r →
     opK P X K' a.eval o H (fun v H => typed (P.underlying o.type) v fun v => k' (a.put o.dst v) H) (fun c H => kp' c a H) = some r := by
   rw [jk5 hs.tree]
   exact j6w hK (fun v H => j2x hs hk) (fun c H => hp c _ _ _ _ hs)
 split at h
 · rename_i x hm
   unfold movOf at hm
   split at hm
   · rename_i y e
     obtain rfl := Option.some.inj hm
     rw [e]
     simp only [opK, e]
     rw [← jk5 hs.tree]
     exact j2x hs hk h
   · rename_i y e
     obtain rfl := Option.some.inj hm
     rw [e]
     simp only [opK, e]
     rw [← jk5 hs.tree]
     exact j2x hs hk h
   · cases hm
 · split at h
   · rename_i op x y hb
     unfold binOf at hb
     split at hb
     · rename_i op' ty x' y' q e
       obtain ⟨rfl, rfl, rfl⟩ : op' = op ∧ x' = x ∧ y' = y := by
         have := Option.some.inj hb
         simp only [Prod.mk.injEq] at this
         exact this
       have gen' := gen
       rw [e]
       simp only [opK, e] at gen' ⊢
       rcases j1s h with ⟨ka, m, e1, h⟩ | h
       · rcases j1s h with ⟨kb, n, e2, h⟩ | h
         · cases et : Nat.beq (tagK ka) (tagK kb) with
           | false => rw [et] at h; exact gen' (by simpa only [opK, e, cond_false] using h)
           | true =>
             rw [et] at h
             obtain rfl := yj3 (Nat.eq_of_beq_eq_true et)
             rw [jk5 hs.tree] at e1 e2
             simp only [cond_true] at h
             have big : fastI op' ka m n (fun v => stT P o t ds k v H) (opK P X K (evalT t) o H (stT P o t ds k) (fun c H => kp c t ds H)) = some r → _ :=
               fun h => j8u (P := P) (t := ty) (x := x') (y := y') h (fun h => by
                 rw [jk5 hs.tree] at h
                 simp only [opK, e, e1, e2] at h
                 exact h)
             have h2 := big h
             rw [e1, e2]
             exact jj0 (fun v => jx7 (j2x hs hk)) h2
         · exact gen' (by simpa only [opK, e] using h)
       · exact gen' (by simpa only [opK, e] using h)
     · cases hb
   · split at h
     · rename_i c hc
       unfold callOf at hc
       split at hc
       · rename_i c' e
         obtain rfl := Option.some.inj hc
         rw [e]
         simp only
         rw [jk5 hs.tree] at h
         split at h
         · rename_i d hd
           rw [hd]
           simp only
           obtain ⟨t', h1, h2, h3⟩ := jn9 (a := { a with defers := d :: a.defers }) h hs.tree
           exact hk _ _ _ _ ⟨h2, h3.trans (by simp [hs.ds])⟩ h1
         · cases h
       · cases hc
     · rename_i hc
       have := gen h
       split
       · rename_i c e
         simp [callOf, e] at hc
       · exact this
noncomputable def guardT (ops : Array Oper) (o : Oper) (t : T) (run skip : R) : R :=
 match o.guard with
 | none => run
 | some (j, want) =>
   match (ops[j]?).bind (·.dst) with
   | none => skip
   | some d => match rdP (path d) t with
     | some (.bool b) => cond b (cond want run skip) (cond want skip run)
     | some (.tuple _) => skip
     | _ => none
theorem j1t {ops : Array Oper} {o : Oper} {t : T} {ds : List Deferred} {a : Act} {r : End × Heap} {run skip : R} {run' skip' : Act → R} (hs : Sim t ds a)
   (hr : ∀ a, Sim t ds a → run = some r → run' a = some r) (hk : ∀ a, Sim t ds a → skip = some r → skip' a = some r) (h : guardT ops o t run skip = some r) : guardK ops o a run' skip' = some r := by
 unfold guardT at h
 unfold guardK
 split at h
 · rename_i e; simp only [e]; exact hr a hs h
 · rename_i j want e
   simp only [e]
   split at h
   · rename_i e2; simp only [e2]; exact hk a hs h
   · rename_i d e2
     simp only [e2]
     rw [jw1, hs.tree d] at h
     split at h
     · rename_i b e3
       simp only [e3, jn6]
       have hs' : Sim t ds { a with tmps := a.tmps.setIfInBounds d (.bool b) } := by
         refine ⟨fun i => ?_, hs.ds⟩
         rw [hs.tree i, Array.getElem?_setIfInBounds]
         by_cases c : d = i
         · subst c
           have := (Array.getElem?_eq_some_iff.mp e3).1
           have e4 := (Array.getElem?_eq_some_iff.mp e3).2
           simp [this, e4]
         · simp [c]
       cases b <;> cases want <;> simp only [cond_true, cond_false] at h <;> first
         | exact hr _ hs' h
         | exact hk _ hs' h
     · rename_i e3; simp only [e3]; exact hk a hs h
     · cases h
noncomputable def execOpsT (P : Program) (X : Xf) (K : Kf) (ops : Array Oper) (l : List Oper) : T → List Deferred → Heap → KT → (List PanicEntry → KT) → R :=
 List.rec (motive := fun _ => T → List Deferred → Heap → KT → (List PanicEntry → KT) → R) (fun t ds H k _ => k t ds H)
   (fun o _ ih t ds H k kp => guardT ops o t (opT P X K o t ds H (fun t ds H => ih t ds H k kp) kp) (putT o.dst t undef fun t => ih t ds H k kp)) l
theorem jk6 {P : Program} {X : Xf} {K K' : Kf} (hK : KLe K K') {ops : Array Oper} {r : End × Heap} {k : KT} {k' : Act → Heap → R} {kp : List PanicEntry → KT} {kp' : List PanicEntry → Act → Heap → R}
   (hk : KS r k k') (hp : ∀ c, KS r (kp c) (kp' c)) : ∀ (l : List Oper) (_ : ∀ o ∈ l, opOk P o = true) (t : T) (ds : List Deferred) (a : Act) (H : Heap), Sim t ds a → execOpsT P X K ops l t ds H k kp = some r → execOps P X K' ops l a H k' kp' = some r
 | [], _, t, ds, a, H, hs, h => hk _ _ _ _ hs h
 | o :: rest, hall, t, ds, a, H, hs, h => by
   have ho := hall o (List.mem_cons_self ..)
   have hr := fun o h => hall o (List.mem_cons_of_mem _ h)
   have h' : guardT ops o t (opT P X K o t ds H (fun t ds H => execOpsT P X K ops rest t ds H k kp) kp) (putT o.dst t undef fun t => execOpsT P X K ops rest t ds H k kp) = some r := h
   show guardK ops o a _ _ = some r
   refine j1t hs (fun a hs h => ?_) (fun a hs h => ?_) h'
   · exact ya0 hK ho hs (fun t ds a H hs h => jk6 hK hk hp rest hr t ds a H hs h) hp h
   · obtain ⟨t', h1, h2, h3⟩ := jn9 h hs.tree
     exact jk6 hK hk hp rest hr _ _ _ _ ⟨h2, h3.trans hs.ds⟩ h1
def TrR (l : List (T × Heap)) (l' : List (Act × Heap)) : Prop := l.length = l'.length ∧ ∀ (i : Nat) x y, l[i]? = some x → l'[i]? = some y → Rep x.1 y.1.tmps ∧ x.2 = y.2
theorem TrR.push {l : List (T × Heap)} {l' : List (Act × Heap)} (h : TrR l l') {t : T} {a : Act} (ha : Rep t a.tmps) (H : Heap) : TrR (l ++ [(t, H)]) (l' ++ [(a, H)]) := by
 refine ⟨by simp [h.1], fun i x y hx hy => ?_⟩
 by_cases c : i < l.length
 · have c' : i < l'.length := h.1 ▸ c
   rw [List.getElem?_append_left c] at hx
   rw [List.getElem?_append_left c'] at hy
   exact h.2 i x y hx hy
 · have c' : ¬ i < l'.length := h.1 ▸ c
   rw [List.getElem?_append_right (by omega)] at hx
   rw [List.getElem?_append_right (by omega)] at hy
   have e : i - l.length = i - l'.length := by rw [h.1]
   rw [e] at hx
   cases hj : i - l'.length with
   | zero => rw [hj] at hx hy; simp at hx hy; subst hx hy; exact ⟨ha, rfl⟩
   | succ j => rw [hj] at hx; simp at hx
noncomputable def execTrT (P : Program) (X : Xf) (K : Kf) (ops : Array Oper) (l : List Oper) : T → List Deferred → Heap → List (T × Heap) → (List (T × Heap) → KT) → R :=
 List.rec (motive := fun _ => T → List Deferred → Heap → List (T × Heap) → (List (T × Heap) → KT) → R) (fun t ds H tr k => k (tr ++ [(t, H)]) t ds H)
   (fun o _ ih t ds H tr k => guardT ops o t (opT P X K o t ds H (fun t' ds' H' => ih t' ds' H' (tr ++ [(t, H)]) k) (fun _ _ _ _ => none)) (putT o.dst t undef fun t' => ih t' ds H (tr ++ [(t, H)]) k)) l
theorem js1 {P : Program} {X : Xf} {K K' : Kf} (hK : KLe K K') {ops : Array Oper} {r : End × Heap} {k : List (T × Heap) → KT} {k' : List (Act × Heap) → Act → Heap → R} {kp' : List PanicEntry → Act → Heap → R} :
   ∀ (l : List Oper) (_ : ∀ o ∈ l, opOk P o = true) (n : Nat) (_ : ∀ tr tr', TrR tr tr' → tr'.length = n + l.length + 1 → KS r (k tr) (k' tr')) (t : T) (ds : List Deferred) (a : Act) (H : Heap) (tr : List (T × Heap)) (tr' : List (Act × Heap)), TrR tr tr' → tr'.length = n → Sim t ds a →
     execTrT P X K ops l t ds H tr k = some r → execTr P X K' ops l a H tr' k' kp' = some r
 | [], _, n, hk, t, ds, a, H, tr, tr', ht, hn, hs, h => hk _ _ (ht.push hs.tree H) (by simp [hn]) _ _ _ _ hs h
 | o :: rest, hall, n, hk, t, ds, a, H, tr, tr', ht, hn, hs, h => by
   have ho := hall o (List.mem_cons_self ..)
   have hr := fun o h => hall o (List.mem_cons_of_mem _ h)
   have h' : guardT ops o t (opT P X K o t ds H (fun t' ds' H' => execTrT P X K ops rest t' ds' H' (tr ++ [(t, H)]) k) (fun _ _ _ _ => none)) (putT o.dst t undef fun t' => execTrT P X K ops rest t' ds H (tr ++ [(t, H)]) k) = some r := h
   show guardK ops o a _ _ = some r
   have hk' : ∀ tr tr', TrR tr tr' → tr'.length = (n + 1) + rest.length + 1 → KS r (k tr) (k' tr') := fun tr tr' h1 h2 => hk tr tr' h1 (by rw [h2]; simp; omega)
   refine j1t hs (fun a hs h => ?_) (fun a hs h => ?_) h'
   · exact ya0 hK ho hs (fun t2 ds2 a2 H2 hs2 h2 => js1 hK rest hr (n + 1) hk' t2 ds2 a2 H2 _ _ (ht.push hs.tree H) (by simp [hn]) hs2 h2) (fun c t ds a H hs h => by cases h) h
   · obtain ⟨t', h1, h2, h3⟩ := jn9 h hs.tree
     exact js1 hK rest hr (n + 1) hk' _ _ _ _ _ _ (ht.push hs.tree H) (by simp [hn]) ⟨h2, h3.trans hs.ds⟩ h1
def drawPairs (P : Program) (ops : List Oper) : List (Nat × Nat) :=
 let b := masks ops []
 let n := ops.length
 (List.range n).flatMap fun i => match ops[i]? with
   | some oi => cond (decide (cls P oi = 1)) ((List.range n).filter fun p => match ops[p]? with
       | some op => decide (cls P op = 2 ∧ (b.getD i 0).testBit p = false ∧ (b.getD p 0).testBit i = false)
       | none => false) [] |>.map fun p => (i, p)
   | none => []
noncomputable def guardBT (ops : Array Oper) (o : Oper) (t : T) : Option Bool :=
 match o.guard with
 | none => some true
 | some (j, want) =>
   match (ops[j]?).bind (·.dst) with
   | none => some false
   | some d =>
     match rdP (path d) t with
     | some (.bool b) => some (b == want)
     | some (.tuple _) => some false
     | _ => none
theorem j8v {ops : Array Oper} {o : Oper} {t : T} {a : Act} (h : Rep t a.tmps) : guardBT ops o t = guardB ops o a := by
 unfold guardBT guardB
 cases o.guard with
 | none => rfl
 | some q =>
   obtain ⟨j, want⟩ := q
   simp only
   cases (ops[j]?).bind (·.dst) with
   | none => rfl
   | some d =>
     simp only [jw1, h d]
     cases a.tmps[d]? with
     | none => rfl
     | some v => cases v <;> rfl
noncomputable def pairChk (P : Program) (ops : Array Oper) (tr : List (T × Heap)) (i p : Nat) : Bool :=
 match ops.toList[i]?, tr[i]?, tr[i + 1]?, tr[p]?, tr[p + 1]? with
 | some oi, some ti, some tn, some tp, some tq =>
   match guardBT ops oi ti.1 with
   | some true => (match oi.dst with
     | some d =>
       (match qval P (evalT ti.1) oi tp.2 with | some v => veq v ((rdP (path d) tn.1).getD undef) | none => false) &&
       (match qval P (evalT ti.1) oi tq.2 with | some v => veq v ((rdP (path d) tn.1).getD undef) | none => false)
     | none => false)
   | _ => true
 | _, _, _, _, _ => false
noncomputable def drawChkT (P : Program) (ops : Array Oper) (tr : List (T × Heap)) : Bool := (drawPairs P ops.toList).all fun x => pairChk P ops tr x.1 x.2
theorem j8w {P : Program} {ops : Array Oper} {tr : List (T × Heap)} {tr' : List (Act × Heap)} (h : TrR tr tr') (hn : tr'.length = ops.toList.length + 1) (hc : drawChkT P ops tr = true) : drawChk P ops tr' = true := by
 unfold drawChk
 simp only [List.all_eq_true, List.mem_range]
 intro i hi
 have g0 : ∃ oi, ops.toList[i]? = some oi := ⟨_, List.getElem?_eq_getElem hi⟩
 have gt : ∀ j, j ≤ ops.toList.length → ∃ x y, tr[j]? = some x ∧ tr'[j]? = some y ∧ Rep x.1 y.1.tmps ∧ x.2 = y.2 := fun j hj => by
   have c' : j < tr'.length := by omega
   have c : j < tr.length := by rw [h.1]; exact c'
   exact ⟨_, _, List.getElem?_eq_getElem c, List.getElem?_eq_getElem c', h.2 j _ _ (List.getElem?_eq_getElem c) (List.getElem?_eq_getElem c')⟩
 obtain ⟨oi, e0⟩ := g0
 obtain ⟨xi, yi, a1, a2, a3, a4⟩ := gt i (by omega)
 obtain ⟨xn, yn, b1, b2, b3, b4⟩ := gt (i + 1) (by omega)
 rw [e0, a2, b2]
 simp only
 split
 · rename_i hg
   simp only [List.all_eq_true, List.mem_range]
   intro p hp
   obtain ⟨op, e1⟩ : ∃ op, ops.toList[p]? = some op := ⟨_, List.getElem?_eq_getElem hp⟩
   rw [e1]
   simp only
   split
   · rename_i hq
     obtain ⟨xp, yp, c1, c2, c3, c4⟩ := gt p (by omega)
     obtain ⟨xq, yq, d1, d2, d3, d4⟩ := gt (p + 1) (by omega)
     have hmem : (i, p) ∈ drawPairs P ops.toList := by
       unfold drawPairs
       simp only [List.mem_flatMap, List.mem_range]
       refine ⟨i, hi, ?_⟩
       rw [e0]
       simp only [hg.1, decide_true, cond_true, List.mem_map, List.mem_filter, List.mem_range]
       refine ⟨p, ⟨hp, ?_⟩, rfl⟩
       rw [e1]
       exact decide_eq_true hq
     have hchk := List.all_eq_true.mp hc _ hmem
     unfold pairChk at hchk
     rw [e0, a1, b1, c1, d1] at hchk
     simp only [j8v a3, hg.2] at hchk
     rw [c2, d2]
     cases hd : oi.dst with
     | none => rw [hd] at hchk; cases hchk
     | some d =>
       rw [hd] at hchk
       simp only [jk5 a3, jw1, b3 d, c4, d4] at hchk ⊢
       generalize qval P yi.1.eval oi yp.2 = q1 at hchk ⊢
       generalize qval P yi.1.eval oi yq.2 = q2 at hchk ⊢
       cases q1 <;> cases q2 <;> first
         | (simp at hchk; done)
         | simpa using hchk
   · rfl
 · rfl
end Go.Am
