/- From the listed tables to the small heap. -/
import Derived.Test.YtohmeeglehopiaaGreatDoorM01
import Derived.Test.YtohmeeglehopiaaGreatDoorM06
import Derived.Test.YtohmeeglehopiaaGreatDoorM17
import Derived.Stop.LaidErr
import Derived.Below
import Derived.MakeChecks
import Derived.Lib.LaidTab
import Derived.Test.YtohmeeglehopiaaGreatDoorRows
import Derived.Test.YtohmeeglehopiaaGreatDoorM16
import Derived.Test.YtohmeeglehopiaaGreatDoorM14
import Derived.LaidLaws
namespace Go.Am
variable {w : World} {g : Nat}
open Go.Proofs Go.Proofs.YtohmeeglehopiaaGreatDoor
theorem jl0 {P : Program} {n : String} {cs : Array Value} (hg : P.globalNamed n = some g) (h : w.var? P n = some cs) : ∃ t fz, w.heap[g]? = some (.cells cs t fz) := by
 unfold World.var? at h
 rw [hg] at h
 simp only [Option.bind_some] at h
 split at h
 · rename_i cs' t fz he
   obtain rfl := Option.some.inj h
   exact ⟨t, fz, he⟩
 · cases h
structure Laid (w : World) (a6 a7 : Addr) : Prop where
 size : 14 ≤ w.heap.size
 classes : w.var? PP "bulkhead/scan.classes" = some (classesL.map fun z => Value.int .u8 z).toArray
 ascii : w.var? PP "strings.asciiSpace" = some asciiV.toArray
 words : w.var? PP "bulkhead/bulkheadref5.reserved" = some wordsV.toArray
 signs : w.var? PP "bulkhead/bulkheadref5.signs" = some signsV.toArray
 syn : w.var? PP "strconv.ErrSyntax" = some #[.iface 151 (.pointer (some a6))]
 rng : w.var? PP "strconv.ErrRange" = some #[.iface 151 (.pointer (some a7))]
 pow : w.var? PP "internal/strconv.uint64pow10" = some powV.toArray
 bru : w.var? PP "math/bits.deBruijn64tab" = some bruV.toArray
 cell6 : ∃ v, w.cell? a6 = some v
 cell7 : ∃ v, w.cell? a7 = some v
theorem jv3 {a : Addr} (h : ∃ v, w.cell? a = some v) : a.spot = none ∧ a.block < w.heap.size := by
 obtain ⟨v, hv⟩ := h
 refine ⟨World.cell?_spot hv, ?_⟩
 unfold World.cell? at hv
 split at hv
 · rename_i he
   exact (Array.getElem?_eq_some_iff.mp he).1
 · cases hv
theorem g0 : PP.globalNamed "strings.asciiSpace" = some 0 := by kernel_rfl
theorem g1 : PP.globalNamed "bulkhead/scan.classes" = some 1 := by kernel_rfl
theorem g2 : PP.globalNamed "bulkhead/bulkheadref5.reserved" = some 2 := by kernel_rfl
theorem g3 : PP.globalNamed "bulkhead/bulkheadref5.signs" = some 3 := by kernel_rfl
theorem g5 : PP.globalNamed "internal/strconv.uint64pow10" = some 5 := by kernel_rfl
theorem g6 : PP.globalNamed "strconv.ErrSyntax" = some 6 := by kernel_rfl
theorem g7 : PP.globalNamed "strconv.ErrRange" = some 7 := by kernel_rfl
theorem g10 : PP.globalNamed "math/bits.deBruijn64tab" = some 10 := by kernel_rfl
theorem jq6 {m : Mp} {cs : List Value} {t : TypeId} {fz : Nat × Nat} (h : w.heap[g]? = some (.cells cs.toArray t fz)) (hsz : cs.length = szG PP g) (hall : cs.all atomic = true) :
   Lies m w (ro cs) ⟨g, 0, 1, szG PP g⟩ := by
 have hv : ∀ i (a : i < cs.length), VR m cs[i] cs[i] := fun i a => .atom _ (List.all_eq_true.mp hall _ (List.getElem_mem a))
 refine ⟨rfl, by simp [hsz, ro], fun _ => ⟨cs.toArray, t, fz, h, by simp [hsz], fun i a b => ?_, fun hr => by simp [ro] at hr⟩, fun o ho => by simp [ro] at ho, fun hr => by simp [ro] at hr, fun hr => by simp [ro] at hr⟩
 have e : ∀ q, cs.toArray[0 + i]'q = cs[i]'a := fun q => by simp; rfl
 show VR m (cs[i]'a) (cs.toArray[0 + i]'_)
 rw [e]; exact hv i a
theorem j75 {m : Mp} {b : Nat} {a : Addr} {t : TypeId} {fz : Nat × Nat} (h : w.heap[g]? = some (.cells #[.iface 151 (.pointer (some a))] t fz)) (hsz : 1 = szG PP g) (hs : a.spot = none) (e : Nat) (hm : m b = some ⟨a.block, a.off, 1, e⟩) :
   Lies m w (ro [errV b]) ⟨g, 0, 1, szG PP g⟩ := by
 refine ⟨rfl, by simp [← hsz, ro], fun _ => ⟨_, t, fz, h, by simp [← hsz], fun i a1 b1 => ?_, fun hr => by simp [ro] at hr⟩, fun o ho => by simp [ro] at ho, fun hr => by simp [ro] at hr, fun hr => by simp [ro] at hr⟩
 have h0 : i = 0 := by simp [ro] at a1; exact a1
 subst h0
 have hp := VR.ptr (m := m) b 0 _ hm
 have ea : (⟨a.block, a.off + 0, none⟩ : Addr) = a := by cases a; simp_all
 rw [ea] at hp
 exact .iface 151 _ _ hp
theorem yz4 {a6 a7 : Addr} (h : Laid w a6 a7) (m : Mp) (m6 : m 14 = some ⟨a6.block, a6.off, 1, 0⟩) (m7 : m 15 = some ⟨a7.block, a7.off, 1, 0⟩) : ∀ b x, GE.get b = some x → b < 14 ∧ x.rw = false ∧ Lies m w x ⟨b, 0, 1, szG PP b⟩ := by
 obtain ⟨t0, f0, h0⟩ := jl0 g0 h.ascii
 obtain ⟨t1, f1, h1⟩ := jl0 g1 h.classes
 obtain ⟨t2, f2, h2⟩ := jl0 g2 h.words
 obtain ⟨t3, f3, h3⟩ := jl0 g3 h.signs
 obtain ⟨t5, f5, h5⟩ := jl0 g5 h.pow
 obtain ⟨t6, f6, h6⟩ := jl0 g6 h.syn
 obtain ⟨t7, f7, h7⟩ := jl0 g7 h.rng
 obtain ⟨t10, f10, h10⟩ := jl0 g10 h.bru
 intro b x hb
 rcases j36 b x hb with ⟨rfl, rfl⟩ | ⟨rfl, rfl⟩ | ⟨rfl, rfl⟩ | ⟨rfl, rfl⟩ | ⟨rfl, rfl⟩ | ⟨rfl, rfl⟩ | ⟨rfl, rfl⟩ | ⟨rfl, rfl⟩
 · exact ⟨by decide, rfl, jq6 h0 (by kernel_rfl) (by decide +kernel)⟩
 · exact ⟨by decide, rfl, jq6 h1 (by kernel_rfl) (by decide +kernel)⟩
 · exact ⟨by decide, rfl, jq6 h2 (by kernel_rfl) (by decide +kernel)⟩
 · exact ⟨by decide, rfl, jq6 h3 (by kernel_rfl) (by decide +kernel)⟩
 · exact ⟨by decide, rfl, jq6 h5 (by kernel_rfl) (by decide +kernel)⟩
 · exact ⟨by decide, rfl, j75 h6 (by kernel_rfl) (jv3 h.cell6).1 0 m6⟩
 · exact ⟨by decide, rfl, j75 h7 (by kernel_rfl) (jv3 h.cell7).1 0 m7⟩
 · exact ⟨by decide, rfl, jq6 h10 (by kernel_rfl) (by decide +kernel)⟩
theorem heap_size {W : World} (hsh : W.ShapedOpen PP) : 14 ≤ W.heap.size := by
 have h12 : ((((begin PP (fun _ _ => 0) default).world.heap[13]?).bind Obj.row?).isSome) = true := by kernel_rfl
 obtain ⟨⟨zero, t⟩, hz⟩ := Option.isSome_iff_exists.mp h12
 obtain ⟨cs, hcs, _⟩ := hsh.1 13 zero t (by rw [ji4]; decide) hz
 have := (Array.getElem?_eq_some_iff.mp hcs).1
 omega
theorem star : "*" ++ "errors.errorString" = "*errors.errorString" := by decide
theorem row151 (u : TypeId) (h : PP.typeName? 3 u = some "*errors.errorString") : u = 151 :=
 typeName_ptr_named (nm := "errors.errorString") (by rw [star]; kernel_rfl) (by kernel_rfl) (by decide) u (by rw [star]; exact h)
def row8 (zs : List UInt8) : Blk := ro (zs.map fun u => .int .u8 (u.toNat : Int))
structure Tx where
 nil : Bool
 n : Nat
 zs : List UInt8
def Tx.val (i : Nat) (t : Tx) : Value := if t.nil then .slice none 0 0 else .slice (some ⟨17 + i, 0, none⟩) t.n t.zs.length
def rowsH : List Tx → Nat → Heap → Heap
 | [], _, H => H
 | t :: T, i, H => rowsH T (i + 1) (H.set (17 + i) (row8 t.zs))
theorem j46 : ∀ (T : List Tx) (i : Nat) (H : Heap) (b : Nat), (rowsH T i H).get b = if 17 + i ≤ b then (match T[b - (17 + i)]? with | some t => some (row8 t.zs) | none => H.get b) else H.get b
 | [], i, H, b => by simp [rowsH]
 | t :: T, i, H, b => by
   unfold rowsH
   rw [j46 T (i + 1), Heap.get_set]
   by_cases h1 : 17 + i ≤ b
   · rw [if_pos h1]
     by_cases h2 : b = 17 + i
     · rw [if_neg (by omega), if_pos h2, h2, Nat.sub_self]; rfl
     · rw [if_pos (show 17 + (i + 1) ≤ b by omega), if_neg h2]
       have e : b - (17 + i) = (b - (17 + (i + 1))) + 1 := by omega
       rw [e, List.getElem?_cons_succ]
   · rw [if_neg h1, if_neg (by omega), if_neg (by omega)]
def outer (T : List Tx) : List Value := T.mapIdx fun i t => t.val i
def GK (T : List Tx) : Heap := { rowsH T 0 (GE.set 16 (ro (outer T))) with next := 17 + T.length }
theorem j76 : Fresh GE := fun b hb => jo1.fresh b hb
theorem j1a (T : List Tx) (b : Nat) : (GK T).get b = if 17 ≤ b then (match T[b - 17]? with | some t => some (row8 t.zs) | none => none) else if b = 16 then some (ro (outer T)) else GE.get b := by
 have e : (GK T).get b = (rowsH T 0 (GE.set 16 (ro (outer T)))).get b := rfl
 rw [e, j46, Heap.get_set]
 by_cases h : 17 ≤ b
 · rw [if_pos h, if_pos h, if_neg (by omega), j76 b (by show 16 ≤ b; omega)]
 · rw [if_neg h, if_neg h]
theorem ys6 (T : List Tx) : Ext GE (GK T) := by
 refine ⟨by show 16 ≤ 17 + T.length; omega, fun b x h => ?_, fun b hb => ?_⟩
 · have hb : ¬ 16 ≤ b := fun hb => by rw [j76 b hb] at h; cases h
   rw [j1a, if_neg (by omega), if_neg (by omega)]; exact h
 · have hb' : 17 + T.length ≤ b := hb
   rw [j1a, if_pos (by omega), List.getElem?_eq_none (by omega)]
theorem y08 {T : List Tx} {i : Nat} {t : Tx} (h : T[i]? = some t) : (GK T).get (17 + i) = some (row8 t.zs) := by
 rw [j1a, if_pos (by omega), Nat.add_sub_cancel_left, h]
theorem j77 {T : List Tx} {i : Nat} {t : Tx} (h : T[i]? = some t) : (outer T)[i]? = some (t.val i) := by
 simp [outer, List.getElem?_mapIdx, h]
theorem j47 (T : List Tx) : (outer T).length = T.length := by simp [outer]
theorem agg22 : aggT PP 22 = some false := by decide +kernel
theorem size22 : sizeT PP 22 = some 1 := by decide +kernel
structure Tx.ok (t : Tx) : Prop where
 le : t.n ≤ t.zs.length
 small : t.zs.length < 9223372036854775808
theorem yz5 {T : List Tx} (hT : ∀ t ∈ T, t.ok) {n i : Nat} (hin : i < n) (hn : n ≤ T.length) : TextAt (GK T) (some ⟨16, 0, none⟩) n T.length i := by
 have hi : i < T.length := by omega
 have ht := List.getElem?_eq_getElem hi
 have ok := hT _ (List.getElem_mem hi)
 have h16 : (GK T).get 16 = some (ro (outer T)) := by rw [j1a, if_neg (by omega), if_pos rfl]
 have hix : indexAddrA PP 27 (.slice (some ⟨16, 0, none⟩) n T.length) (.int .i64 (i : Int)) = some (.pointer (some ⟨16, i, none⟩)) := by
   have e : (⟨16, 0, none⟩ : Addr).add i = ⟨16, i, none⟩ := by rw [Addr.add_lit, Nat.zero_add]
   simp [indexAddrA, size22, at_, e, hin]
 have hld : ∀ H, Ext (GK T) H → loadA PP 22 (.pointer (some ⟨16, i, none⟩)) H = some (T[i].val i, H) := fun H x => by
   have o : (ro (outer T)).o = none := rfl
   have c : (ro (outer T)).cells[i]? = some (T[i].val i) := j77 ht
   simp only [loadA, agg22]
   simp only [ld1, look, x.keep _ _ h16, o, c]
 cases hn : T[i].nil with
 | true =>
   refine ⟨_, none, [], 0, hix, fun H x => ?_, ⟨fun b e => (nomatch e), fun _ => rfl, by decide⟩, Nat.le_refl _⟩
   rw [hld H x]
   simp [Tx.val, hn]
 | false =>
   have hl : (T[i].zs.take T[i].n).length = T[i].n := by rw [List.length_take]; have := ok.le; omega
   refine ⟨_, some ⟨17 + i, 0, none⟩, T[i].zs.take T[i].n, T[i].zs.length, hix, fun H x => ?_, ⟨fun b e => ?_, fun e => (nomatch e), by rw [hl]; have := ok.le; have := ok.small; omega⟩, by rw [hl]; exact ok.le⟩
   · rw [hld H x, hl]
     simp [Tx.val, hn]
   · obtain rfl := Option.some.inj e
     refine ⟨row8 T[i].zs, ?_, rfl, ?_, ?_⟩
     · simp only [look, y08 ht]; rfl
     · show 0 + _ ≤ _
       rw [hl]; simp [row8, ro]; exact ok.le
     · rw [hl]; simp [row8, ro, List.map_take]
end Go.Am
namespace Go.Am
def finA (P : Program) (fn : Func) (o : Out) (a : Act) (H : Heap) : R :=
 match o with
 | .norm | .ret => match a.defers with
   | [] => match resL P a.tmps H fn.results.toList with | some l => some (.ret (oneOf l), H) | none => none
   | _ => none
 | _ => none
theorem y09 {P : Program} {fn : Func} {n : Nat} {v : Value} {H' : Heap} : KSoE n (.ret v, H') (finE P fn) (finA P fn) := by
 intro o E ds a H hs h
 unfold finE at h
 unfold finA
 rw [hs.ds]
 split at h
 · split at h
   · rw [jw4 hs] at h; exact h
   · cases h
 · split at h
   · rw [jw4 hs] at h; exact h
   · cases h
 · split at h
   · cases h
   · cases h
 · cases h
theorem j2b {St : Sys} {P : Program} {fn : Func} {m m1 : Mp} {H H1 H' : Heap} {w w1 : World} {a1 a : Act} {v : Value} (s1 : StRS St P m1 a1 H1 a w1) (s2 : St.S m H w m1 H1 w1) (s3 : finA P fn .norm a1 H1 = some (.ret v, H')) :
   Leaves P fn a.tmps (fun e w' => ∃ m', EndR m' (.ret v) e ∧ St.S m H w m' H' w') a.defers .returning w1 := by
 unfold finA at s3
 simp only at s3
 split at s3
 · rename_i hd
   have hds := s1.act.defers
   rw [hd] at hds
   have hd' : a.defers = [] := by
     generalize a.defers = z at hds
     cases hds; rfl
   rw [hd']
   split at s3
   · rename_i l hl
     injection s3 with s3
     injection s3 with e1 e2
     injection e1 with e1
     subst e1; subst e2
     obtain ⟨v', q1, q2⟩ := jx6 (wk := false) s1.rel ⟨s1.act.tmps.1, fun t a b => .inr (s1.act.tmps.2 t a b)⟩ hl rfl
     exact ⟨v', q1, m1, q2, s2⟩
   · cases s3
 · cases s3
theorem runS {St : Sys} {P : Program} {X : Xf} {K : Kf} {N : Nat} {f : FuncId} {fn : Func} {c : Code} {pr : Nat → List (Nat × Nat)} (hX : XSnd P X) (hK : KSndS St P K) (hf : P.funcs[f]? = some fn) (hb : fn.body = some c) (hg : goodG P pr fn.ntmps c = true) (hnd : noDraw c = true)
   {args : Array Value} {v : Value} {H H' : Heap} (hn : args.size ≤ fn.ntmps) (he : execG P X K N pr c none (startE args) [] H (finE P fn) = some (.ret v, H')) {m : Mp} {w : World} {args' : Array Value} (hr : Rel m H w) (hi : St.I m H w) (hgl : Gl P m) (ha : VRa m args args') :
   Calls P f args' w fun e w' => ∃ m', EndR m' (.ret v) e ∧ St.S m H w m' H' w' := by
 have h1 := jf4 (K := K) (K' := K) (fun _ _ _ _ h => h) c hg none _ _ y09 (startE args) [] _ H (j39 hn) he
 have h0 := j2u hr hgl fn ha
 refine calls_of_wp_defers hf hb (OutQS.wp_mono (j6o hX hK (.ret v, H') c hnd none c rfl ⟨h0.act, hr, hgl, hi⟩ h1) ?_)
 intro e a w1 hq
 cases e with
 | normal => obtain ⟨m1, a1, H1, s1, s2, s3⟩ := hq; exact j2b s1 s2 s3
 | ret => obtain ⟨m1, a1, H1, s1, s2, s3⟩ := hq; exact j2b s1 s2 s3
 | exit id => obtain ⟨m1, a1, H1, s1, s2, s3⟩ := hq; simp [finA] at s3
 | goto l => obtain ⟨m1, a1, H1, s1, s2, s3⟩ := hq; simp [finA] at s3
 | panic c' => obtain ⟨m1, c1, a1, H1, s0, s1, s2, s3⟩ := hq; simp [finA] at s3
 | outgrown => exact hq.elim
open Go.Proofs
def sizeAt (w : World) (c : Nat) : Nat := match w.heap[c]? with | some (.cells cs _ _) => cs.size | _ => 0
structure InTx (w : World) (a : Option Addr) (t : Tx) : Prop where
 ok : t.ok
 nil : t.nil = a.isNone
 z : a = none → t.n = 0 ∧ t.zs = []
 cell : ∀ b, a = some b → ∀ i (h : i < t.zs.length), w.cell? (b.add i) = some (.int .u8 (t.zs[i].toNat : Int))
structure InRows (w : World) (a : Addr) (T : List Tx) (A : Nat → Option Addr) : Prop where
 cell : ∀ i (h : i < T.length), w.cell? (a.add i) = some (.slice (A i) T[i].n T[i].zs.length)
 each : ∀ i (h : i < T.length), InTx w (A i) T[i]
noncomputable def loc0 : Loc := ⟨0, 0, 1, szG PP 0⟩
noncomputable def locA (w : World) (a : Option Addr) (n : Nat) : Loc := match a with | some b => if n = 0 then loc0 else ⟨b.block, b.off, 1, sizeAt w b.block⟩ | none => loc0
noncomputable def mK (w : World) (a6 a7 a : Addr) (T : List Tx) (A : Nat → Option Addr) : Mp := fun b =>
 if b < 14 then some ⟨b, 0, 1, szG PP b⟩ else if b = 14 then some ⟨a6.block, a6.off, 1, 0⟩ else if b = 15 then some ⟨a7.block, a7.off, 1, 0⟩
 else if b = 16 then some (locA w (some a) T.length) else match T[b - 17]? with | some t => some (locA w (A (b - 17)) t.zs.length) | none => none
theorem j3m {w : World} {a : Addr} {i : Nat} {v : Value} {cs : Array Value} {t : TypeId} {fz : Nat × Nat} (hb : w.heap[a.block]? = some (.cells cs t fz)) (h : w.cell? (a.add i) = some v) (hs : a.spot = none) : cs[a.off + i]? = some v := by
 obtain ⟨b, off, spot⟩ := a
 simp only at hs hb
 subst hs
 rw [Addr.add_lit] at h
 simpa [World.cell?, hb] using h
theorem jq7 {w : World} {a : Addr} {v : Value} (h : w.cell? (a.add 0) = some v) : a.spot = none ∧ ∃ cs t fz, w.heap[a.block]? = some (.cells cs t fz) := by
 have h : w.cell? a = some v := by simpa [Addr.add] using h
 refine ⟨World.cell?_spot h, ?_⟩
 unfold World.cell? at h
 split at h
 · rename_i cs t fz he
   exact ⟨cs, t, fz, he⟩
 · cases h
theorem j2c {w : World} {m : Mp} {a : Option Addr} {cs : List Value} (h0 : Lies m w (ro asciiV) loc0) (hz : a = none → cs = []) (hc : ∀ b, a = some b → ∀ i (h : i < cs.length), ∃ v, w.cell? (b.add i) = some v ∧ VR m cs[i] v) : Lies m w (ro cs) (locA w a cs.length) := by
 have empty : cs = [] → Lies m w (ro cs) loc0 := fun e => by
   subst e
   obtain ⟨xs, t, fz, h1, h2, h3, h4⟩ := h0.ex rfl
   exact ⟨rfl, Nat.zero_le _, fun _ => ⟨xs, t, fz, h1, h2, fun i h => absurd h (Nat.not_lt_zero _), fun h => by cases h⟩, (fun o h => by cases h), (fun h => by cases h), (fun h => by cases h)⟩
 unfold locA
 cases a with
 | none => exact empty (hz rfl)
 | some b =>
   simp only
   by_cases hn : cs.length = 0
   · rw [if_pos hn]; exact empty (List.length_eq_zero_iff.mp hn)
   · rw [if_neg hn]
     obtain ⟨v0, k0, _⟩ := hc b rfl 0 (by omega)
     obtain ⟨hs, xs, t, fz, hb⟩ := jq7 k0
     have hsz : sizeAt w b.block = xs.size := by simp [sizeAt, hb]
     refine ⟨rfl, ?_, fun _ => ⟨xs, t, fz, hb, Nat.le_of_eq hsz, fun i hi hj => ?_, fun h => by cases h⟩, (fun o h => by cases h), (fun h => by cases h), (fun h => by cases h)⟩
     · obtain ⟨v, k1, _⟩ := hc b rfl (cs.length - 1) (by omega)
       have := (Array.getElem?_eq_some_iff.mp (j3m hb k1 hs)).1
       show b.off + (ro cs).cells.length ≤ sizeAt w b.block
       rw [hsz]; show b.off + cs.length ≤ _; omega
     · obtain ⟨v, k1, k2⟩ := hc b rfl i hi
       have e := j3m hb k1 hs
       rw [Array.getElem?_eq_getElem hj] at e
       have e := Option.some.inj e
       show VR m (cs[i]'hi) (xs[b.off + i]'hj)
       rw [e]; exact k2
theorem yi4 {w : World} {a : Option Addr} {n : Nat} (h0 : 14 ≤ w.heap.size) (hc : ∀ b, a = some b → 0 < n → ∃ v, w.cell? (b.add 0) = some v) : (locA w a n).c < w.heap.size := by
 unfold locA
 cases a with
 | none => show 0 < _; omega
 | some b =>
   simp only
   by_cases hn : n = 0
   · rw [if_pos hn]; show 0 < _; omega
   · rw [if_neg hn]
     obtain ⟨v, hv⟩ := hc b rfl (by omega)
     obtain ⟨_, xs, t, fz, hb⟩ := jq7 hv
     exact (Array.getElem?_eq_some_iff.mp hb).1
section
variable {w : World} {a6 a7 a : Addr} {T : List Tx} {A : Nat → Option Addr}
theorem ys7 (i : Nat) (h : i < T.length) : mK w a6 a7 a T A (17 + i) = some (locA w (A i) T[i].zs.length) := by
 unfold mK
 rw [if_neg (by omega), if_neg (by omega), if_neg (by omega), if_neg (by omega), Nat.add_sub_cancel_left, List.getElem?_eq_getElem h]
theorem y1w (hr : InRows w a T A) (i : Nat) (h : i < T.length) : VR (mK w a6 a7 a T A) (T[i].val i) (.slice (A i) T[i].n T[i].zs.length) := by
 have e := hr.each i h
 unfold Tx.val
 cases ha : A i with
 | none =>
   have hn := e.nil
   rw [ha] at hn
   obtain ⟨z1, z2⟩ := e.z ha
   rw [hn, z1, z2]
   exact .atom _ rfl
 | some b =>
   have hn := e.nil
   rw [ha] at hn
   have hn : T[i].nil = false := hn
   simp only [hn, Bool.false_eq_true, if_false]
   have hm := ys7 (w := w) (a6 := a6) (a7 := a7) (a := a) (A := A) i h
   rw [ha] at hm
   refine .slice _ 0 _ b _ _ _ hm e.ok.le (Nat.le_refl _) ?_ ?_ ?_
   all_goals by_cases h0 : T[i].zs.length = 0
   · exact .inl h0
   · right; simp only [locA, if_neg h0]
   · exact .inl h0
   · exact .inr (jq7 (e.cell b ha 0 (by omega))).1
   · exact .inl h0
   · right
     obtain ⟨hs, xs, t, fz, hb⟩ := jq7 (e.cell b ha 0 (by omega))
     simp only [locA, if_neg h0]
     have e2 := j3m hb (e.cell b ha (T[i].zs.length - 1) (by omega)) hs
     have := (Array.getElem?_eq_some_iff.mp e2).1
     have hsz : sizeAt w b.block = xs.size := by simp [sizeAt, hb]
     exact ⟨rfl, by rw [hsz]; omega⟩
theorem Laid.relK (hl : Laid w a6 a7) (hr : InRows w a T A) : Rel (mK w a6 a7 a T A) (GK T) w := by
 have lg := yz4 hl (mK w a6 a7 a T A) rfl rfl
 have l0 : Lies (mK w a6 a7 a T A) w (ro asciiV) loc0 := (lg 0 _ rfl).2.2
 have hsz := hl.size
 refine ⟨fun b x hx => ?_, fun b x hx hrw => ?_, fun b L hm => ?_, fun b hb => ⟨?_, (ys6 T).fresh b hb⟩⟩
 · rw [j1a] at hx
   by_cases h17 : 17 ≤ b
   · rw [if_pos h17] at hx
     split at hx
     · rename_i t ht
       obtain rfl := Option.some.inj hx
       obtain ⟨hi, rfl⟩ := List.getElem?_eq_some_iff.mp ht
       have e := hr.each _ hi
       have hm := ys7 (w := w) (a6 := a6) (a7 := a7) (a := a) (A := A) _ hi
       rw [show 17 + (b - 17) = b by omega] at hm
       refine ⟨_, hm, ?_⟩
       have hll : (T[b - 17].zs.map fun u => Value.int .u8 (u.toNat : Int)).length = T[b - 17].zs.length := by simp
       have := j2c (m := mK w a6 a7 a T A) (a := A (b - 17)) (cs := T[b - 17].zs.map fun u => Value.int .u8 (u.toNat : Int)) l0 (fun h => by rw [(e.z h).2]; rfl)
         (fun c hc i hi => ⟨_, e.cell c hc i (by simpa using hi), by rw [List.getElem_map]; exact .atom _ rfl⟩)
       rw [hll] at this
       exact this
     · cases hx
   · rw [if_neg h17] at hx
     by_cases h16 : b = 16
     · rw [if_pos h16] at hx
       obtain rfl := Option.some.inj hx
       subst h16
       refine ⟨_, rfl, ?_⟩
       have := j2c (m := mK w a6 a7 a T A) (a := some a) (cs := outer T) l0 (fun h => by cases h)
         (fun c hc i hi => by
           obtain rfl := Option.some.inj hc
           rw [j47] at hi
           refine ⟨_, hr.cell i hi, ?_⟩
           have e := j77 (List.getElem?_eq_getElem hi)
           rw [(List.getElem?_eq_some_iff.mp e).2]
           exact y1w hr i hi)
       rw [j47] at this
       exact this
     · rw [if_neg h16] at hx
       obtain ⟨q1, q2, q3⟩ := lg b x hx
       exact ⟨_, by unfold mK; rw [if_pos q1], q3⟩
 · rw [j1a] at hx
   split at hx
   · split at hx
     · obtain rfl := Option.some.inj hx; cases hrw
     · cases hx
   · split at hx
     · obtain rfl := Option.some.inj hx; cases hrw
     · have := (lg b x hx).2.1
       rw [this] at hrw; cases hrw
 · unfold mK at hm
   split at hm
   · obtain rfl := Option.some.inj hm; simp only; omega
   · split at hm
     · obtain rfl := Option.some.inj hm; exact (jv3 hl.cell6).2
     · split at hm
       · obtain rfl := Option.some.inj hm; exact (jv3 hl.cell7).2
       · split at hm
         · obtain rfl := Option.some.inj hm
           exact yi4 hsz fun c hc hn => by obtain rfl := Option.some.inj hc; exact ⟨_, hr.cell 0 hn⟩
         · split at hm
           · rename_i t ht
             obtain rfl := Option.some.inj hm
             obtain ⟨hi, rfl⟩ := List.getElem?_eq_some_iff.mp ht
             exact yi4 hsz fun c hc hn => ⟨_, (hr.each _ hi).cell c hc 0 hn⟩
           · cases hm
 · have hb' : 17 + T.length ≤ b := hb
   unfold mK
   rw [if_neg (by omega), if_neg (by omega), if_neg (by omega), if_neg (by omega), List.getElem?_eq_none (by omega)]
theorem gl_K : Gl PP (mK w a6 a7 a T A) := fun g hg => by
 rw [ji4] at hg
 exact ⟨⟨g, 0, 1, szG PP g⟩, by simp [mK, hg], rfl, rfl, rfl⟩
theorem ro_K (hl : Laid w a6 a7) {b : Nat} {x : Blk} (hx : (GK T).get b = some x) : x.rw = false ∧ x.es = 1 := by
 rw [j1a] at hx
 split at hx
 · split at hx
   · obtain rfl := Option.some.inj hx; exact ⟨rfl, rfl⟩
   · cases hx
 · split at hx
   · obtain rfl := Option.some.inj hx; exact ⟨rfl, rfl⟩
   · rcases j36 b x hx with ⟨_, rfl⟩ | ⟨_, rfl⟩ | ⟨_, rfl⟩ | ⟨_, rfl⟩ | ⟨_, rfl⟩ | ⟨_, rfl⟩ | ⟨_, rfl⟩ | ⟨_, rfl⟩ <;> exact ⟨rfl, rfl⟩
noncomputable def mN : Mp := fun b => if b < 14 then some ⟨b, 0, 1, szG PP b⟩ else none
def GN : Heap := ⟨.nil, 14⟩
theorem yi5 (b : Nat) : GN.get b = none := rfl
theorem y1x (h : 14 ≤ w.heap.size) : Rel mN GN w := by
 refine ⟨fun b x hx => (by cases hx), fun b x hx => (by cases hx), fun b L hm => ?_, fun b hb => ⟨?_, rfl⟩⟩
 · unfold mN at hm
   split at hm
   · obtain rfl := Option.some.inj hm; simp only; omega
   · cases hm
 · have : 14 ≤ b := hb
   unfold mN; rw [if_neg (by omega)]
theorem gl_N : Gl PP mN := fun g hg => by
 rw [ji4] at hg
 exact ⟨⟨g, 0, 1, szG PP g⟩, by simp [mN, hg], rfl, rfl, rfl⟩
theorem beside (hl : Laid w a6 a7) (hr : InRows w a T A) : Beside PP okB 14 w.heap.size mN GN (mK w a6 a7 a T A) (GK T) w := by
 have f0 : ∀ k, k ≠ 0 → (fun k : Nat => if k = 0 then (mK w a6 a7 a T A, GK T) else (mN, GN)) k = (mN, GN) := fun k hk => if_neg hk
 refine ⟨fun k => if k = 0 then (mK w a6 a7 a T A, GK T) else (mN, GN), if_pos rfl, if_neg (by decide), ⟨Nat.le_refl _, fun k => ?_, fun k => ?_, fun k => ?_, fun k l hkl => ?_⟩, ⟨fun g b t _ hg => ?_⟩⟩
 · by_cases e : k = 0
   · simp only [if_pos e]; exact hl.relK hr
   · simp only [if_neg e]; exact y1x hl.size
 · by_cases e : k = 0
   · simp only [if_pos e]
     rintro c ⟨b, x, L, h1, h2, _⟩
     rw [(ro_K hl h1).1] at h2; cases h2
   · simp only [if_neg e]
     rintro c ⟨b, x, L, h1, _⟩
     cases h1
 · by_cases e : k = 0
   · simp only [if_pos e]; exact gl_K
   · simp only [if_neg e]; exact gl_N
 · by_cases e : k = 0
   · have e' : l ≠ 0 := fun h => hkl (e.trans h.symm)
     simp only [if_pos e, if_neg e']; exact Dis.nil yi5
   · simp only [if_neg e]
     exact (Dis.nil yi5).symm
 · have := (ro_K hl hg).2
   have h : 2 * b + t + 100 = 1 := this
   omega
theorem j78 (hl : Laid w a6 a7) (hr : InRows w a T A) {v v' : Value} (hv : VR (mK w a6 a7 a T A) v v') {a0 : Option Addr} {len c0 : Nat} (e : v = .slice a0 len c0) (hT : ∀ i, i < len → i < 20 → TextAt (GK T) a0 len c0 i) :
   Calls PP 4 #[v'] w fun e w' => e = .returned (.bool true) ∧ Go.RowKit.Below w.heap.size w w' := by
 subst e
 obtain ⟨N, hN⟩ : ∃ N, 9223372036854775808 < N := ⟨_, Nat.lt_succ_self _⟩
 obtain ⟨H', hrun⟩ := yi3 (N := N) (hk := hkZ) (d := 0) yq9 y0s y0t (fun H hG => ym8 hG) (ys6 T) (by omega) hT
 have snd : ∀ k, KSnd PP (CG N hkZ k) := fun k => j5w goodAllG j2z ye8 mixed k
 have hK : KSndS (sysB PP okB 14 w.heap.size mN GN) PP (hkB (CG N hkZ (0 + 6))) := yh9 (d := 0) yi5 rfl yq9.nil hN (snd _) (snd _) (snd _)
 refine (runS j2z hK Tryz.func4 (c := codeOf Tryz.f4) rfl good4 plain4 (args := #[.slice a0 len c0]) (show 1 ≤ Tryz.f4.ntmps by decide) hrun (hl.relK hr) (beside hl hr) gl_K (VRa.one hv)).mono fun e w' ⟨m', h1, h2⟩ => ?_
 refine ⟨?_, h2.2.2.2⟩
 cases e with
 | returned v' => rw [VR.eq_of_atomic (show VR m' (.bool true) v' from h1) rfl]
 | panicked c => exact h1.elim
 | outgrown => exact h1.elim
theorem kept_calls (hl : Laid w a6 a7) (hr : InRows w a T A) {n : Nat} (hn : n ≤ T.length) : Calls PP 4 #[.slice (some a) n T.length] w fun e w' => e = .returned (.bool true) ∧ Go.RowKit.Below w.heap.size w w' := by
 have ok : ∀ t ∈ T, t.ok := fun t ht => by
   obtain ⟨i, hi, rfl⟩ := List.getElem_of_mem ht
   exact (hr.each i hi).ok
 have hv : VR (mK w a6 a7 a T A) (.slice (some ⟨16, 0, none⟩) n T.length) (.slice (some a) n T.length) := by
   refine .slice 16 0 (locA w (some a) T.length) a n T.length T.length rfl hn (Nat.le_refl _) ?_ ?_ ?_
   all_goals by_cases h0 : T.length = 0
   · exact .inl h0
   · right; simp only [locA, if_neg h0]
   · exact .inl h0
   · exact .inr (jq7 (hr.cell 0 (by omega))).1
   · exact .inl h0
   · right
     obtain ⟨hs, xs, t, fz, hb⟩ := jq7 (hr.cell 0 (by omega))
     simp only [locA, if_neg h0]
     have e2 := j3m hb (hr.cell (T.length - 1) (by omega)) hs
     have := (Array.getElem?_eq_some_iff.mp e2).1
     have hsz : sizeAt w a.block = xs.size := by simp [sizeAt, hb]
     exact ⟨rfl, by rw [hsz]; omega⟩
 exact j78 hl hr hv rfl fun i hi _ => yz5 ok hi hn
theorem kept_calls_nil (hl : Laid w a6 a7) : Calls PP 4 #[.slice none 0 0] w fun e w' => e = .returned (.bool true) ∧ Go.RowKit.Below w.heap.size w w' :=
 j78 (T := []) (A := fun _ => none) (a := ⟨0, 0, none⟩) hl ⟨fun i h => absurd h (Nat.not_lt_zero _), fun i h => absurd h (Nat.not_lt_zero _)⟩ (.atom _ rfl) rfl fun i hi => absurd hi (Nat.not_lt_zero _)
end
def keyOf : MemPlace → Option Nat
 | .cell b off => if off < 4096 then some (b * 4096 + off) else none
 | .map _ => none
def seenB : List MemPlace → Nat → Bool
 | [], _ => true
 | p :: r, S => match keyOf p with | some k => !(S.testBit k) && seenB r (S ||| 2 ^ k) | none => false
theorem j79 : ∀ {l : List MemPlace} {S : Nat}, seenB l S = true → l.Nodup ∧ ∀ p ∈ l, ∃ k, keyOf p = some k ∧ S.testBit k = false
 | [], _, _ => ⟨List.nodup_nil, fun p h => by cases h⟩
 | p :: r, S, h => by
   unfold seenB at h
   split at h
   · rename_i k hk
     simp only [Bool.and_eq_true, Bool.not_eq_true'] at h
     obtain ⟨h1, h2⟩ := j79 h.2
     refine ⟨List.nodup_cons.2 ⟨fun hp => ?_, h1⟩, fun q hq => ?_⟩
     · obtain ⟨k', e1, e2⟩ := h2 p hp
       obtain rfl := Option.some.inj (hk.symm.trans e1)
       simp [Nat.testBit_or, Nat.testBit_two_pow_self] at e2
     · rcases List.mem_cons.1 hq with rfl | hq
       · exact ⟨k, hk, h.1⟩
       · obtain ⟨k', e1, e2⟩ := h2 q hq
         refine ⟨k', e1, ?_⟩
         simp only [Nat.testBit_or, Bool.or_eq_false_iff] at e2
         exact e2.1
   · cases h
theorem laidMet_of_bits {P : Program} {w : World} {l : List (String × DataW Unit)} (fuel : Nat) (h : (DataW.laidRun P w fuel (l.map (·.1))).map (·.1) = some l)
   (hn : (DataW.laidRun P w fuel (l.map (·.1))).map (fun x => seenB x.2 0) = some true) (hr : (DataW.laidRun P w fuel (l.map (·.1))).map (fun x => laidRowsB P w x.2) = some true) : laidMet P l w := by
 cases hx : DataW.laidRun P w fuel (l.map (·.1)) with
 | none => simp [hx] at h
 | some x =>
   obtain ⟨l', ps⟩ := x
   simp only [hx, Option.map_some, Option.some.injEq] at h hr hn
   subst h
   exact laidMet_of_run fuel hx (decide_eq_true (j79 hn).1) hr
end Go.Am
