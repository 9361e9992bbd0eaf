/- Every function that is run is as the machine asks. -/
import Derived.Test.YtmliebodadgpbaaGreatDoorM06
import Derived.Test.YtmliebodadgpbaaGreatDoorM07
import Derived.Stop.LaidErr
import Derived.Below
import Derived.MakeChecks
import Derived.Lib.LaidTab
import Derived.Test.YtmliebodadgpbaaGreatDoorRows
import Derived.Test.YtmliebodadgpbaaGreatDoorM16
import Derived.LaidLaws
open Go.Proofs
namespace Go.Am
set_option maxRecDepth 100000 in
theorem goodAllG : GoodG PP okC prS := by
 intro f fn c ho hf hc
 have go : ∀ g, PP.funcs[f]? = some g → goodG PP (prS f) g.ntmps (codeOf g) = true → goodG PP (prS f) fn.ntmps c = true := fun g hg h => by
   rw [hf] at hg
   obtain rfl := Option.some.inj hg
   simpa [codeOf, hc] using h
 simp only [okC, Bool.or_eq_true, beq_iff_eq] at ho
 rcases ho with (((((((((((((((((((((((((((((((((((((((((((((((((((((((((((((((((((((((((((((((((((((((((((rfl | rfl) | rfl) | rfl) | rfl) | rfl) | rfl) | rfl) | rfl) | rfl) | rfl) | rfl) | rfl) | rfl) | rfl) | rfl) | rfl) | rfl) | rfl) | rfl) | rfl) | rfl) | rfl) | rfl) | rfl) | rfl) | rfl) | rfl) | rfl) | rfl) | rfl) | rfl) | rfl) | rfl) | rfl) | rfl) | rfl) | rfl) | rfl) | rfl) | rfl) | rfl) | rfl) | rfl) | rfl) | rfl) | rfl) | rfl) | rfl) | rfl) | rfl) | rfl) | rfl) | rfl) | rfl) | rfl) | rfl) | rfl) | rfl) | rfl) | rfl) | rfl) | rfl) | rfl) | rfl) | rfl) | rfl) | rfl) | rfl) | rfl) | rfl) | rfl) | rfl) | rfl) | rfl) | rfl) | rfl) | rfl) | rfl) | rfl) | rfl) | rfl) | rfl) | rfl) | rfl) | rfl) | rfl) | rfl) | rfl) | rfl) | rfl) | rfl) | rfl
 · exact go _ Tryz.func48 (by decide +kernel)
 · exact go _ Tryz.func47 (by decide +kernel)
 · exact go _ Tryz.func26 (by decide +kernel)
 · exact go _ Tryz.func27 (by decide +kernel)
 · exact go _ Tryz.func50 (by decide +kernel)
 · exact go _ Tryz.func52 (by decide +kernel)
 · exact go _ Tryz.func71 (by decide +kernel)
 · exact go _ Tryz.func12 (by decide +kernel)
 · exact go _ Tryz.func60 (by decide +kernel)
 · exact go _ Tryz.func89 (by decide +kernel)
 · exact go _ Tryz.func49 (by decide +kernel)
 · exact go _ Tryz.func51 (by decide +kernel)
 · exact go _ Tryz.func69 (by decide +kernel)
 · exact go _ Tryz.func18 (by decide +kernel)
 · exact go _ Tryz.func19 (by decide +kernel)
 · exact go _ Tryz.func20 (by decide +kernel)
 · exact go _ Tryz.func21 (by decide +kernel)
 · exact go _ Tryz.func22 (by decide +kernel)
 · exact go _ Tryz.func23 (by decide +kernel)
 · exact go _ Tryz.func35 (by decide +kernel)
 · exact go _ Tryz.func36 (by decide +kernel)
 · exact go _ Tryz.func37 (by decide +kernel)
 · exact go _ Tryz.func38 (by decide +kernel)
 · exact go _ Tryz.func39 (by decide +kernel)
 · exact go _ Tryz.func40 (by decide +kernel)
 · exact go _ Tryz.func41 (by decide +kernel)
 · exact go _ Tryz.func42 (by decide +kernel)
 · exact go _ Tryz.func55 (by decide +kernel)
 · exact go _ Tryz.func56 (by decide +kernel)
 · exact go _ Tryz.func57 (by decide +kernel)
 · exact go _ Tryz.func58 (by decide +kernel)
 · exact go _ Tryz.func73 (by decide +kernel)
 · exact go _ Tryz.func74 (by decide +kernel)
 · exact go _ Tryz.func75 (by decide +kernel)
 · exact go _ Tryz.func76 (by decide +kernel)
 · exact go _ Tryz.func77 (by decide +kernel)
 · exact go _ Tryz.func78 (by decide +kernel)
 · exact go _ Tryz.func79 (by decide +kernel)
 · exact go _ Tryz.func80 (by decide +kernel)
 · exact go _ Tryz.func81 (by decide +kernel)
 · exact go _ Tryz.func82 (by decide +kernel)
 · exact go _ Tryz.func83 (by decide +kernel)
 · exact go _ Tryz.func84 (by decide +kernel)
 · exact go _ Tryz.func85 (by decide +kernel)
 · exact go _ Tryz.func98 (by decide +kernel)
 · exact go _ Tryz.func100 (by decide +kernel)
 · exact go _ Tryz.func101 (by decide +kernel)
 · exact go _ Tryz.func102 (by decide +kernel)
 · exact go _ Tryz.func103 (by decide +kernel)
 · exact go _ Tryz.func104 (by decide +kernel)
 · exact go _ Tryz.func105 (by decide +kernel)
 · exact go _ Tryz.func106 (by decide +kernel)
 · exact go _ Tryz.func107 (by decide +kernel)
 · exact go _ Tryz.func114 (by decide +kernel)
 · exact go _ Tryz.func115 (by decide +kernel)
 · exact go _ Tryz.func116 (by decide +kernel)
 · exact go _ Tryz.func117 (by decide +kernel)
 · exact go _ Tryz.func127 (by decide +kernel)
 · exact go _ Tryz.func128 (by decide +kernel)
 · exact go _ Tryz.func134 (by decide +kernel)
 · exact go _ Tryz.func135 (by decide +kernel)
 · exact go _ Tryz.func136 (by decide +kernel)
 · exact go _ Tryz.func8 (by decide +kernel)
 · exact go _ Tryz.func17 (by decide +kernel)
 · exact go _ Tryz.func54 (by decide +kernel)
 · exact go _ Tryz.func99 (by decide +kernel)
 · exact go _ Tryz.func5 (by decide +kernel)
 · exact go _ Tryz.func6 (by decide +kernel)
 · exact go _ Tryz.func7 (by decide +kernel)
 · exact go _ Tryz.func13 (by decide +kernel)
 · exact go _ Tryz.func15 (by decide +kernel)
 · exact go _ Tryz.func16 (by decide +kernel)
 · exact go _ Tryz.func28 (by decide +kernel)
 · exact go _ Tryz.func29 (by decide +kernel)
 · exact go _ Tryz.func30 (by decide +kernel)
 · exact go _ Tryz.func31 (by decide +kernel)
 · exact go _ Tryz.func32 (by decide +kernel)
 · exact go _ Tryz.func33 (by decide +kernel)
 · exact go _ Tryz.func34 (by decide +kernel)
 · exact go _ Tryz.func53 (by decide +kernel)
 · exact go _ Tryz.func59 (by decide +kernel)
 · exact go _ Tryz.func87 (by decide +kernel)
 · exact go _ Tryz.func88 (by decide +kernel)
 · exact go _ Tryz.func62 (by decide +kernel)
 · exact go _ Tryz.func61 (by decide +kernel)
 · exact go _ Tryz.func91 (by decide +kernel)
 · exact go _ Tryz.func10 (by decide +kernel)
 · exact go _ Tryz.func24 (by decide +kernel)
 · exact go _ Tryz.func25 (by decide +kernel)
 · exact go _ Tryz.func86 (by decide +kernel)
 · exact go _ Tryz.func108 (by decide +kernel)
 · exact go _ Tryz.func118 (by decide +kernel)
 · exact go _ Tryz.func46 (by decide +kernel)
end Go.Am
namespace Go.Am
variable {w W : World} {g : Nat} {a a4 a5 : Addr} {m : Mp} {t : TypeId} {fz : Nat × Nat} {zs : List UInt8}
open Go.Proofs Go.Proofs.YtmliebodadgpbaaGreatDoor
def sizeAt (w : World) (c : Nat) : Nat := match w.heap[c]? with | some (.cells cs _ _) => cs.size | _ => 0
theorem jy1 {P : Program} {n : String} {cs : Array Value} (hg : P.globalNamed n = some g) (h : w.var? P n = some cs) : ∃ t fz, w.heap[g]? = some (.cells cs t fz) := by
 unfold World.var? at h
 rw [hg] at h
 simp only [Option.bind_some] at h
 split at h
 · rename_i cs' t fz he
   obtain rfl := Option.some.inj h
   exact ⟨t, fz, he⟩
 · cases h
structure Laid (w : World) (a4 a5 : Addr) : Prop where
 size : 10 ≤ w.heap.size
 classes : w.var? PP "bulkhead/scan.classes" = some (classesL.map fun z => Value.int .u8 z).toArray
 ascii : w.var? PP "strings.asciiSpace" = some asciiV.toArray
 syn : w.var? PP "strconv.ErrSyntax" = some #[.iface 159 (.pointer (some a4))]
 rng : w.var? PP "strconv.ErrRange" = some #[.iface 159 (.pointer (some a5))]
 cell4 : ∃ v, w.cell? a4 = some v
 cell5 : ∃ v, w.cell? a5 = some v
theorem jy2 (h : ∃ v, w.cell? a = some v) : a.spot = none ∧ a.block < w.heap.size := by
 obtain ⟨v, hv⟩ := h
 refine ⟨World.cell?_spot hv, ?_⟩
 unfold World.cell? at hv
 split at hv
 · rename_i he
   exact (Array.getElem?_eq_some_iff.mp he).1
 · cases hv
theorem g1 : PP.globalNamed "bulkhead/scan.classes" = some 1 := by kernel_rfl
theorem g2 : PP.globalNamed "strings.asciiSpace" = some 2 := by kernel_rfl
theorem g4 : PP.globalNamed "strconv.ErrSyntax" = some 4 := by kernel_rfl
theorem g5 : PP.globalNamed "strconv.ErrRange" = some 5 := by kernel_rfl
theorem yc5 {cs : List Value} (h : w.heap[g]? = some (.cells cs.toArray t fz)) (hsz : cs.length = szG PP g) (hall : cs.all atomic = true) :
   Lies m w ⟨cs, false, 1, none⟩ ⟨g, 0, 1, szG PP g⟩ := by
 have hv : ∀ i (a : i < cs.length), VR m cs[i] cs[i] := fun i a => .atom _ (List.all_eq_true.mp hall _ (List.getElem_mem a))
 refine ⟨rfl, by simp [hsz], fun _ => ⟨cs.toArray, t, fz, h, by simp [hsz], fun i a b => ?_, fun hr => by simp at hr⟩, fun o ho => by simp at ho⟩
 simpa using hv i a
theorem yc6 {b : Nat} (h : w.heap[g]? = some (.cells #[.iface 159 (.pointer (some a))] t fz)) (hsz : 1 = szG PP g) (hs : a.spot = none) (e : Nat) (hm : m b = some ⟨a.block, a.off, 1, e⟩) :
   Lies m w ⟨[errV b], false, 1, none⟩ ⟨g, 0, 1, szG PP g⟩ := by
 refine ⟨rfl, by simp [← hsz], fun _ => ⟨_, t, fz, h, by simp [← hsz], fun i a1 b1 => ?_, fun hr => by simp at hr⟩, fun o ho => by simp at ho⟩
 have h0 : i = 0 := by simp at a1; exact a1
 subst h0
 have hp := VR.ptr (m := m) b 0 _ hm
 have ea : (⟨a.block, a.off + 0, none⟩ : Addr) = a := by cases a; simp_all
 rw [ea] at hp
 exact .iface 159 _ _ hp
theorem y2d {H : Heap} {w' : World} (k : Keep m H w w') (hno : ∀ c, ¬ Owns m H c) : Go.RowKit.Below w.heap.size w w' := ⟨k.os, k.tape, k.output, k.size, fun c hc => k.block c hc (hno c)⟩
theorem star : "*" ++ "errors.errorString" = "*errors.errorString" := by decide
theorem row159 (u : TypeId) (h : PP.typeName? 3 u = some "*errors.errorString") : u = 159 :=
 typeName_ptr_named (nm := "errors.errorString") (by rw [star]; kernel_rfl) (by kernel_rfl) (by decide) u (by rw [star]; exact h)
theorem yy2 (hsh : W.ShapedOpen PP) : 10 ≤ W.heap.size := by
 have h9 : ((((begin PP (fun _ _ => 0) default).world.heap[9]?).bind Obj.row?).isSome) = true := by kernel_rfl
 obtain ⟨⟨zero, t⟩, hz⟩ := Option.isSome_iff_exists.mp h9
 obtain ⟨cs, hcs, _⟩ := hsh.1 9 zero t (by rw [jl4]; decide) hz
 have := (Array.getElem?_eq_some_iff.mp hcs).1
 omega
theorem laid_parts {rC rA rS rR : List (String × DataW Unit)} (hC : laidMet PP (("bulkhead/scan.classes", Rows.laid_bulkhead_scan_classes) :: rC) W) (hA : laidMet PP (("strings.asciiSpace", Rows.laid_strings_asciiSpace) :: rA) W)
   (hS : laidMet PP (("strconv.ErrSyntax", Rows.laid_strconv_ErrSyntax) :: rS) W) (hR : laidMet PP (("strconv.ErrRange", Rows.laid_strconv_ErrRange) :: rR) W) (hsh : W.ShapedOpen PP) : ∃ a4 a5, Laid W a4 a5 := by
 have eA : (Rows.laid_strings_asciiSpace : DataW Unit) = Lib.tabData .u8 asciiL := by kernel_rfl
 have eC : (Rows.laid_bulkhead_scan_classes : DataW Unit) = Lib.tabData .u8 classesL := by kernel_rfl
 rw [eA] at hA
 rw [eC] at hC
 obtain ⟨a5, s5, v5, k5, _⟩ := laid_sentinel hR g5 (by kernel_rfl) Tryz.underlying119 row159 Tryz.underlying159 Tryz.underlying161 rfl rfl Tryz.underlying9 (by kernel_rfl) (by kernel_rfl)
 obtain ⟨a4, s4, v4, k4, _⟩ := laid_sentinel hS g4 (by kernel_rfl) Tryz.underlying119 row159 Tryz.underlying159 Tryz.underlying161 rfl rfl Tryz.underlying9 (by kernel_rfl) (by kernel_rfl)
 have tA : Lib.TabIs PP W "strings.asciiSpace" .u8 asciiL := Lib.tabIs_of_head g2 (by kernel_rfl) Tryz.underlying127 Tryz.underlying5 (by kernel_rfl) (by kernel_rfl) hA
 have tC : Lib.TabIs PP W "bulkhead/scan.classes" .u8 classesL := Lib.tabIs_of_head g1 (by kernel_rfl) Tryz.underlying102 Tryz.underlying5 (by kernel_rfl) (by kernel_rfl) hC
 exact ⟨a4, a5, yy2 hsh, tC, tA, v4, v5, ⟨_, k4⟩, ⟨_, k5⟩⟩
def row8 (zs : List UInt8) : Blk := ⟨zs.map fun u => .int .u8 (u.toNat : Int), false, 1, none⟩
def GA (zs : List UInt8) : Heap := { GE.set 12 (row8 zs) with next := 13 }
theorem j3u (zs : List UInt8) (b : Nat) : (GA zs).get b = if b = 12 then some (row8 zs) else GE.get b := by
 rw [← Heap.get_set]; rfl
theorem y2e : Fresh GE := fun b hb => jo0.fresh b hb
theorem y7m {b : Nat} {x : Blk} (h : GE.get b = some x) : b < 10 := by
 rcases j3d b x h with ⟨rfl, _⟩ | ⟨rfl, _⟩ | ⟨rfl, _⟩ | ⟨rfl, _⟩ <;> decide
theorem y3c (zs : List UInt8) : Ext GE (GA zs) := by
 refine ⟨by show 12 ≤ 13; omega, fun b x h => ?_, fun b hb => ?_⟩
 · have := y7m h
   rw [j3u, if_neg (by omega)]; exact h
 · have hb' : 13 ≤ b := hb
   rw [j3u, if_neg (by omega)]
   exact y2e b (by show 12 ≤ b; omega)
structure InRow (w : World) (a : Addr) (zs : List UInt8) : Prop where
 blk : ∃ cs t fz, w.heap[a.block]? = some (.cells cs t fz)
 cell : ∀ i (h : i < zs.length), w.cell? (a.add i) = some (.int .u8 (zs[i].toNat : Int))
noncomputable def mA (w : World) (a4 a5 : Addr) (A : Addr) (n : Nat) : Mp := fun b =>
 if b < 10 then some ⟨b, 0, 1, szG PP b⟩ else if b = 10 then some ⟨a4.block, a4.off, 1, 0⟩ else if b = 11 then some ⟨a5.block, a5.off, 1, 0⟩
 else if b = 12 then some ⟨A.block, if n = 0 then 0 else A.off, 1, sizeAt w A.block⟩ else none
theorem yy3 {i : Nat} {v : Value} {cs : Array Value} (hb : w.heap[a.block]? = some (.cells cs t fz)) (h : w.cell? (a.add i) = some v) (hs : a.spot = none) : cs[a.off + i]? = some v := by
 obtain ⟨b, off, spot⟩ := a
 simp only at hs hb
 subst hs
 rw [Addr.add_lit] at h
 simpa [World.cell?, hb] using h
theorem InRow.spot (h : InRow w a zs) (hn : zs.length ≠ 0) : a.spot = none := by
 have := World.cell?_spot (h.cell 0 (by omega))
 simpa [Addr.add] using this
theorem InRow.lt (h : InRow w a zs) : a.block < w.heap.size := by
 obtain ⟨cs, t, fz, hb⟩ := h.blk
 exact (Array.getElem?_eq_some_iff.mp hb).1
theorem y2f (m : Mp) {a : Addr} {zs : List UInt8} (hr : InRow w a zs) : Lies m w (row8 zs) ⟨a.block, if zs.length = 0 then 0 else a.off, 1, sizeAt w a.block⟩ := by
 obtain ⟨cs, t, fz, hb⟩ := hr.blk
 have hz : sizeAt w a.block = cs.size := by simp [sizeAt, hb]
 have at_ : ∀ i (hi : i < zs.length), cs[(if zs.length = 0 then 0 else a.off) + i]? = some (.int .u8 (zs[i].toNat : Int)) := fun i hi => by
   have hn : zs.length ≠ 0 := by omega
   rw [if_neg hn]
   exact yy3 hb (hr.cell i hi) (hr.spot hn)
 refine ⟨rfl, ?_, fun _ => ⟨cs, t, fz, hb, hz.symm, fun i hi hj => ?_, fun hrw => by simp [row8] at hrw⟩, fun o ho => by simp [row8] at ho⟩
 · show (if zs.length = 0 then 0 else a.off) + (row8 zs).cells.length ≤ sizeAt w a.block
   have hlen : (row8 zs).cells.length = zs.length := by simp [row8]
   rw [hlen, hz]
   by_cases hn : zs.length = 0
   · rw [if_pos hn]; omega
   · have := (Array.getElem?_eq_some_iff.mp (at_ (zs.length - 1) (by omega))).1
     omega
 · have hi' : i < zs.length := by simpa [row8] using hi
   have e := at_ i hi'
   have e2 : cs[(if zs.length = 0 then 0 else a.off) + i] = .int .u8 (zs[i].toNat : Int) := by
     rw [Array.getElem?_eq_getElem hj] at e
     exact Option.some.inj e
   have e1 : (row8 zs).cells[i] = .int .u8 (zs[i].toNat : Int) := by simp [row8]
   show VR _ (row8 zs).cells[i] cs[(if zs.length = 0 then 0 else a.off) + i]
   rw [e1, e2]
   exact .atom _ rfl
theorem Laid.lies (h : Laid w a4 a5) (m : Mp) (m4 : m 10 = some ⟨a4.block, a4.off, 1, 0⟩) (m5 : m 11 = some ⟨a5.block, a5.off, 1, 0⟩) : ∀ b x, GE.get b = some x → x.rw = false ∧ Lies m w x ⟨b, 0, 1, szG PP b⟩ := by
 obtain ⟨t1, f1, h1⟩ := jy1 g1 h.classes
 obtain ⟨t2, f2, h2⟩ := jy1 g2 h.ascii
 obtain ⟨t4, f4, h4⟩ := jy1 g4 h.syn
 obtain ⟨t5, f5, h5⟩ := jy1 g5 h.rng
 have c4 := jy2 h.cell4
 have c5 := jy2 h.cell5
 intro b x hb
 rcases j3d b x hb with ⟨rfl, rfl⟩ | ⟨rfl, rfl⟩ | ⟨rfl, rfl⟩ | ⟨rfl, rfl⟩
 · exact ⟨rfl, yc5 h2 (by kernel_rfl) (by decide +kernel)⟩
 · exact ⟨rfl, yc5 h1 (by kernel_rfl) (by decide +kernel)⟩
 · exact ⟨rfl, yc6 h4 (by kernel_rfl) c4.1 0 m4⟩
 · exact ⟨rfl, yc6 h5 (by kernel_rfl) c5.1 0 m5⟩
theorem Laid.relA (h : Laid w a4 a5) {A : Addr} {zs : List UInt8} (hr : InRow w A zs) : Rel (mA w a4 a5 A zs.length) (GA zs) w := by
 have c4 := jy2 h.cell4
 have c5 := jy2 h.cell5
 refine ⟨fun b x hx => ?_, fun b x hx hrw => ?_, fun b L hm => ?_, fun b hb => ⟨?_, (y3c zs).fresh b hb⟩⟩
 · rw [j3u] at hx
   by_cases e : b = 12
   · rw [if_pos e] at hx
     obtain rfl := Option.some.inj hx
     subst e
     exact ⟨_, rfl, y2f _ hr⟩
   rw [if_neg e] at hx
   have hlt := y7m hx
   exact ⟨_, by unfold mA; rw [if_pos hlt], (h.lies (mA w a4 a5 A zs.length) rfl rfl b x hx).2⟩
 · rw [j3u] at hx
   by_cases e : b = 12
   · rw [if_pos e] at hx
     obtain rfl := Option.some.inj hx
     cases hrw
   rw [if_neg e] at hx
   have := (h.lies (mA w a4 a5 A zs.length) rfl rfl b x hx).1
   rw [this] at hrw; cases hrw
 · unfold mA at hm
   have hs' := h.size
   split at hm
   · obtain rfl := Option.some.inj hm; simp only; omega
   · split at hm
     · obtain rfl := Option.some.inj hm; exact c4.2
     · split at hm
       · obtain rfl := Option.some.inj hm; exact c5.2
       · split at hm
         · obtain rfl := Option.some.inj hm; exact hr.lt
         · cases hm
 · have : 13 ≤ b := hb
   unfold mA
   rw [if_neg (by omega), if_neg (by omega), if_neg (by omega), if_neg (by omega)]
theorem gl_A (w : World) (a4 a5 A : Addr) (n : Nat) : Gl PP (mA w a4 a5 A n) := fun g hg => by
 rw [jl4] at hg
 exact ⟨⟨g, 0, 1, szG PP g⟩, by simp [mA, hg], rfl, rfl, rfl⟩
theorem y51 (c : Nat) : ¬ Owns m (GA zs) c := by
 rintro ⟨b, x, L, h, hrw, _⟩
 rw [j3u] at h
 by_cases e : b = 12
 · rw [if_pos e] at h
   obtain rfl := Option.some.inj h
   cases hrw
 rw [if_neg e] at h
 rcases j3d b x h with ⟨_, rfl⟩ | ⟨_, rfl⟩ | ⟨_, rfl⟩ | ⟨_, rfl⟩ <;> cases hrw
structure ArgRow (W : World) (v : Value) (A : Addr) (zs s : List UInt8) (c : Nat) (x : Nat → Option Addr) : Prop where
 row : InRow W A zs
 cap : s.length ≤ c
 val : ∀ (m : Mp) (b : Nat), m b = some ⟨A.block, if zs.length = 0 then 0 else A.off, 1, sizeAt W A.block⟩ → VR m (.slice (x b) s.length c) v
 brow : ∀ (H : Heap) (b : Nat), H.get b = some (row8 zs) → Brow H (x b) s
theorem argNil (h : Laid W a4 a5) : ArgRow W (.slice none 0 0) ⟨1, 0, none⟩ [] [] 0 (fun _ => none) := by
 obtain ⟨t1, f1, h1⟩ := jy1 g1 h.classes
 exact ⟨⟨⟨_, t1, f1, h1⟩, fun i hi => absurd hi (by simp)⟩, Nat.le_refl _, fun m b _ => .atom _ rfl, fun H b _ => ⟨fun b e => (by cases e), fun _ => rfl, by decide⟩⟩
theorem argSome {n : Nat} (hr : InRow W a zs) (hn : n ≤ zs.length) (hs : a.spot = none) (hz : zs.length < 9223372036854775808) : ArgRow W (.slice (some a) n zs.length) a zs (zs.take n) zs.length (fun b => some ⟨b, 0, none⟩) := by
 have hl : (zs.take n).length = n := by simp; omega
 refine ⟨hr, by omega, fun m b hm => ?_, fun H b hb => ?_⟩
 · rw [hl]
   obtain ⟨cs, t, fz, hb⟩ := hr.blk
   refine .slice b 0 _ a n zs.length zs.length hm hn (Nat.le_refl _) rfl hs ?_
   by_cases h0 : zs.length = 0
   · exact .inl h0
   · refine .inr ⟨by simp [h0], ?_⟩
     have e := yy3 hb (hr.cell (zs.length - 1) (by omega)) hs
     have := (Array.getElem?_eq_some_iff.mp e).1
     show a.off + zs.length * 1 ≤ sizeAt W a.block
     have hz : sizeAt W a.block = cs.size := by simp [sizeAt, hb]
     omega
 · refine ⟨fun q hq => ?_, (fun e => by cases e), by simp; omega⟩
   obtain rfl := Option.some.inj hq
   refine ⟨row8 zs, ?_, rfl, ?_, ?_⟩
   · simp [look, hb]; rfl
   · simp [row8]; omega
   · simp [row8, List.map_take]
end Go.Am
namespace Go.Am
open Go.Proofs
theorem yi1 (N : Nat) : KSnd PP (CH N hkD 400000000001) := j7z goodAllG j9c yv2 mixed 400000000001
theorem deep_calls {W : World} {a4 a5 A : Addr} (hl : Laid W a4 a5) {v1 : Value} {zs s : List UInt8} {c : Nat} {x : Nat → Option Addr} (R1 : ArgRow W v1 A zs s c x) (n : Int) (cl : Bool) :
   Calls PP 7 #[.int .i64 n, v1, .bool cl] W fun e w' => e = .returned (.bool true) ∧ Go.RowKit.Below W.heap.size W w' := by
 have h12 : (GA zs).get 12 = some (row8 zs) := by rw [j3u, if_pos rfl]
 obtain ⟨Hs, _, hrun⟩ := yy1 (N := 2097401) (D := 400000000000) (c := c) cl n y5n (fun H hG => y1x hG) (by decide) (Nat.le_refl _) (y3c zs) (R1.brow _ 12 h12)
 refine (yi1 2097401 _ _ _ _ Hs hrun _ W _ (hl.relA R1.row) (gl_A W a4 a5 A zs.length) (VRs.cons (.atom _ rfl) (VRs.cons (R1.val _ 12 rfl) (VRs.cons (.atom _ rfl) (VRs.nil _)))).toArray).mono fun e w' ⟨m', h1, h2⟩ => ?_
 refine ⟨?_, y2d h2.keep fun c => y51 c⟩
 cases e with
 | returned v' => rw [VR.eq_of_atomic (show VR m' (.bool true) v' from h1) rfl]
 | panicked c => exact h1.elim
 | _ => exact h1.elim
def keyOf : MemPlace → Option Nat
 | .cell b off => if off < 4096 then some (b * 4096 + off) else none
 | .map _ => none
def seenB : List MemPlace → Nat → Bool
 | [], _ => true
 | p :: r, S => match keyOf p with | some k => !(S.testBit k) && seenB r (S ||| 2 ^ k) | none => false
theorem yc7 : ∀ {l : List MemPlace} {S : Nat}, seenB l S = true → l.Nodup ∧ ∀ p ∈ l, ∃ k, keyOf p = some k ∧ S.testBit k = false
 | [], _, _ => ⟨List.nodup_nil, fun p h => by cases h⟩
 | p :: r, S, h => by
   unfold seenB at h
   split at h
   · rename_i k hk
     simp only [Bool.and_eq_true, Bool.not_eq_true'] at h
     obtain ⟨h1, h2⟩ := yc7 h.2
     refine ⟨List.nodup_cons.2 ⟨fun hp => ?_, h1⟩, fun q hq => ?_⟩
     · obtain ⟨k', e1, e2⟩ := h2 p hp
       obtain rfl := Option.some.inj (hk.symm.trans e1)
       simp [Nat.testBit_or, Nat.testBit_two_pow_self] at e2
     · rcases List.mem_cons.1 hq with rfl | hq
       · exact ⟨k, hk, h.1⟩
       · obtain ⟨k', e1, e2⟩ := h2 q hq
         refine ⟨k', e1, ?_⟩
         simp only [Nat.testBit_or, Bool.or_eq_false_iff] at e2
         exact e2.1
   · cases h
theorem laidMet_of_bits {P : Program} {w : World} {l : List (String × DataW Unit)} (fuel : Nat) (h : (DataW.laidRun P w fuel (l.map (·.1))).map (·.1) = some l)
   (hn : (DataW.laidRun P w fuel (l.map (·.1))).map (fun x => seenB x.2 0) = some true) (hr : (DataW.laidRun P w fuel (l.map (·.1))).map (fun x => laidRowsB P w x.2) = some true) : laidMet P l w := by
 cases hx : DataW.laidRun P w fuel (l.map (·.1)) with
 | none => simp [hx] at h
 | some x =>
   obtain ⟨l', ps⟩ := x
   simp only [hx, Option.map_some, Option.some.injEq] at h hr hn
   subst h
   exact laidMet_of_run fuel hx (decide_eq_true (yc7 hn).1) hr
end Go.Am
