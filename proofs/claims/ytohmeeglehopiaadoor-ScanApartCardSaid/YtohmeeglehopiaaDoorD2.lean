/- From the listed tables to the small heap with the rows of two arguments. -/
import Derived.Test.YtohmeeglehopiaaDoorD1
import Derived.Test.YtohmeeglehopiaaDoorS8
import Derived.Stop.LaidErr
import Derived.Below
import Derived.MakeChecks
import Derived.Lib.LaidTab
import Derived.Test.YtohmeeglehopiaaDoorRows
import Derived.Test.YtohmeeglehopiaaDoorT3
import Derived.Test.YtohmeeglehopiaaDoorT2
namespace Go.Am
open Go.Proofs Go.Proofs.YtohmeeglehopiaaDoor

def sizeAt (w : World) (c : Nat) : Nat := match w.heap[c]? with | some (.cells cs _ _) => cs.size | _ => 0
def mTop (w : World) (a4 a5 : Addr) : Mp := fun b =>
  if b < 13 then some ⟨b, 0, 1, sizeAt w b⟩ else if b = 13 then some ⟨a4.block, a4.off, 1, 0⟩ else if b = 14 then some ⟨a5.block, a5.off, 1, 0⟩ else none

theorem var_heap {P : Program} {w : World} {n : String} {g : Nat} {cs : Array Value} (hg : P.globalNamed n = some g) (h : w.var? P n = some cs) : ∃ t fz, w.heap[g]? = some (.cells cs t fz) := by
  unfold World.var? at h
  rw [hg] at h
  simp only [Option.bind_some] at h
  split at h
  · rename_i cs' t fz he
    obtain rfl := Option.some.inj h
    exact ⟨t, fz, he⟩
  · cases h

structure Laid (w : World) (a4 a5 : Addr) : Prop where
  size : 13 ≤ w.heap.size
  classes : w.var? PP "bulkhead/scan.classes" = some (classesL.map fun z => Value.int .u8 z).toArray
  ascii : w.var? PP "strings.asciiSpace" = some asciiV.toArray
  syn : w.var? PP "strconv.ErrSyntax" = some #[.iface 122 (.pointer (some a4))]
  rng : w.var? PP "strconv.ErrRange" = some #[.iface 122 (.pointer (some a5))]
  cell4 : ∃ v, w.cell? a4 = some v
  cell5 : ∃ v, w.cell? a5 = some v

theorem cell_spot {w : World} {a : Addr} (h : ∃ v, w.cell? a = some v) : a.spot = none ∧ a.block < w.heap.size := by
  obtain ⟨v, hv⟩ := h
  refine ⟨World.cell?_spot hv, ?_⟩
  unfold World.cell? at hv
  split at hv
  · rename_i he
    exact (Array.getElem?_eq_some_iff.mp he).1
  · cases hv

theorem g1 : PP.globalNamed "bulkhead/scan.classes" = some 1 := by kernel_rfl
theorem g2 : PP.globalNamed "strings.asciiSpace" = some 2 := by kernel_rfl
theorem g4 : PP.globalNamed "strconv.ErrSyntax" = some 4 := by kernel_rfl
theorem g5 : PP.globalNamed "strconv.ErrRange" = some 5 := by kernel_rfl

theorem lies_tab {w : World} {m : Mp} {g : Nat} {cs : List Value} {t : TypeId} {fz : Nat × Nat} (h : w.heap[g]? = some (.cells cs.toArray t fz)) (hv : ∀ i (a : i < cs.length), VR m cs[i] cs[i]) :
    Lies m w ⟨cs, false, 1, none⟩ ⟨g, 0, 1, sizeAt w g⟩ := by
  have hz : sizeAt w g = cs.length := by simp [sizeAt, h]
  refine ⟨rfl, by simp [hz], fun _ => ⟨cs.toArray, t, fz, h, by simp [hz], fun i a b => ?_, fun hr => by simp at hr⟩, fun o ho => by simp at ho⟩
  simpa using hv i a

theorem lies_err {w : World} {m : Mp} {g b : Nat} {a : Addr} {t : TypeId} {fz : Nat × Nat} (h : w.heap[g]? = some (.cells #[.iface 122 (.pointer (some a))] t fz)) (hs : a.spot = none) (e : Nat) (hm : m b = some ⟨a.block, a.off, 1, e⟩) :
    Lies m w ⟨[errV b], false, 1, none⟩ ⟨g, 0, 1, sizeAt w g⟩ := by
  have hz : sizeAt w g = 1 := by simp [sizeAt, h]
  refine ⟨rfl, by simp [hz], fun _ => ⟨_, t, fz, h, by simp [hz], fun i a1 b1 => ?_, fun hr => by simp at hr⟩, fun o ho => by simp at ho⟩
  have h0 : i = 0 := by simp at a1; exact a1
  subst h0
  have hp := VR.ptr (m := m) b 0 _ hm
  have ea : (⟨a.block, a.off + 0, none⟩ : Addr) = a := by cases a; simp_all
  rw [ea] at hp
  exact .iface 122 _ _ hp

theorem Laid.rel {w : World} {a4 a5 : Addr} (h : Laid w a4 a5) : Rel (mTop w a4 a5) GE w := by
  obtain ⟨t1, f1, h1⟩ := var_heap g1 h.classes
  obtain ⟨t2, f2, h2⟩ := var_heap g2 h.ascii
  obtain ⟨t4, f4, h4⟩ := var_heap g4 h.syn
  obtain ⟨t5, f5, h5⟩ := var_heap g5 h.rng
  have c4 := cell_spot h.cell4
  have c5 := cell_spot h.cell5
  refine ⟨fun b x hb => ?_, fun b x hb hrw => ?_, fun b L hm => ?_, fun b hb => ⟨?_, tabs_GE.fresh b hb⟩⟩
  · rcases GE_get b x hb with ⟨rfl, rfl⟩ | ⟨rfl, rfl⟩ | ⟨rfl, rfl⟩ | ⟨rfl, rfl⟩
    · refine ⟨_, rfl, lies_tab h1 fun i a => .atom _ ?_⟩
      have hall : (classesL.map fun z => Value.int .u8 z).all atomic = true := by decide +kernel
      exact List.all_eq_true.mp hall _ (List.getElem_mem a)
    · refine ⟨_, rfl, lies_tab h2 fun i a => .atom _ ?_⟩
      have hall : asciiV.all atomic = true := by decide +kernel
      exact List.all_eq_true.mp hall _ (List.getElem_mem a)
    · exact ⟨_, rfl, lies_err h4 c4.1 0 rfl⟩
    · exact ⟨_, rfl, lies_err h5 c5.1 0 rfl⟩
  · rcases GE_get b x hb with ⟨_, rfl⟩ | ⟨_, rfl⟩ | ⟨_, rfl⟩ | ⟨_, rfl⟩ <;> simp at hrw
  · unfold mTop at hm
    have hs := h.size
    split at hm
    · obtain rfl := Option.some.inj hm; simp only; omega
    · split at hm
      · obtain rfl := Option.some.inj hm; exact c4.2
      · split at hm
        · obtain rfl := Option.some.inj hm; exact c5.2
        · cases hm
  · have : 15 ≤ b := hb
    unfold mTop
    rw [if_neg (by omega), if_neg (by omega), if_neg (by omega)]

theorem gl_top (w : World) (a4 a5 : Addr) : Gl PP (mTop w a4 a5) := fun g hg => by
  rw [globals_size] at hg
  exact ⟨⟨g, 0, 1, sizeAt w g⟩, by simp [mTop, hg], rfl, rfl⟩

/-- What is kept is what the rows ask. -/
theorem below_of {m : Mp} {H : Heap} {w w' : World} (k : Keep m H w w') (hno : ∀ c, ¬ Owns m H c) : Go.RowKit.Below w.heap.size w w' := ⟨k.os, k.tape, k.output, k.size, fun c hc => k.block c hc (hno c)⟩

theorem star : "*" ++ "errors.errorString" = "*errors.errorString" := by decide
theorem row122 (u : TypeId) (h : PP.typeName? 3 u = some "*errors.errorString") : u = 122 :=
  typeName_ptr_named (nm := "errors.errorString") (by rw [star]; kernel_rfl) (by kernel_rfl) (by decide) u (by rw [star]; exact h)

theorem heap_size {W : World} (hsh : W.ShapedOpen PP) : 13 ≤ W.heap.size := by
  have h12 : ((((begin PP (fun _ _ => 0) default).world.heap[12]?).bind Obj.row?).isSome) = true := by kernel_rfl
  obtain ⟨⟨zero, t⟩, hz⟩ := Option.isSome_iff_exists.mp h12
  obtain ⟨cs, hcs, _⟩ := hsh.1 12 zero t (by rw [globals_size]; decide) hz
  have := (Array.getElem?_eq_some_iff.mp hcs).1
  omega
/-- The listed tables, told by their places on the list. -/
theorem laid_parts {W : World} {rC rA rS rR : List (String × DataW Unit)} (hC : laidMet PP (("bulkhead/scan.classes", Rows.laid_bulkhead_scan_classes) :: rC) W) (hA : laidMet PP (("strings.asciiSpace", Rows.laid_strings_asciiSpace) :: rA) W)
    (hS : laidMet PP (("strconv.ErrSyntax", Rows.laid_strconv_ErrSyntax) :: rS) W) (hR : laidMet PP (("strconv.ErrRange", Rows.laid_strconv_ErrRange) :: rR) W) (hsh : W.ShapedOpen PP) : ∃ a4 a5, Laid W a4 a5 := by
  have eA : (Rows.laid_strings_asciiSpace : DataW Unit) = Lib.tabData .u8 asciiL := by kernel_rfl
  have eC : (Rows.laid_bulkhead_scan_classes : DataW Unit) = Lib.tabData .u8 classesL := by kernel_rfl
  rw [eA] at hA
  rw [eC] at hC
  obtain ⟨a5, s5, v5, k5, _⟩ := laid_sentinel hR g5 (by kernel_rfl) Tryd.underlying53 row122 Tryd.underlying122 Tryd.underlying124 rfl rfl Tryd.underlying9 (by kernel_rfl) (by kernel_rfl)
  obtain ⟨a4, s4, v4, k4, _⟩ := laid_sentinel hS g4 (by kernel_rfl) Tryd.underlying53 row122 Tryd.underlying122 Tryd.underlying124 rfl rfl Tryd.underlying9 (by kernel_rfl) (by kernel_rfl)
  have tA : Lib.TabIs PP W "strings.asciiSpace" .u8 asciiL := Lib.tabIs_of_head g2 (by kernel_rfl) Tryd.underlying68 Tryd.underlying5 (by kernel_rfl) (by kernel_rfl) hA
  have tC : Lib.TabIs PP W "bulkhead/scan.classes" .u8 classesL := Lib.tabIs_of_head g1 (by kernel_rfl) Tryd.underlying63 Tryd.underlying5 (by kernel_rfl) (by kernel_rfl) hC
  exact ⟨a4, a5, heap_size hsh, tC, tA, v4, v5, ⟨_, k4⟩, ⟨_, k5⟩⟩

/-- The rows of two arguments. -/
def row8 (zs : List UInt8) : Blk := ⟨zs.map fun u => .int .u8 (u.toNat : Int), false, 1, none⟩
def GA (zs ys : List UInt8) : Heap := { (GE.set 15 (row8 zs)).set 16 (row8 ys) with next := 17 }
theorem GA_get (zs ys : List UInt8) (b : Nat) : (GA zs ys).get b = if b = 16 then some (row8 ys) else if b = 15 then some (row8 zs) else GE.get b := by
  rw [← Heap.get_set (GE)]
  rw [← Heap.get_set]; rfl
theorem GE_fresh : Fresh GE := fun b hb => tabs_GE.fresh b hb
theorem GE_lt {b : Nat} {x : Blk} (h : GE.get b = some x) : b < 13 := by
  rcases GE_get b x h with ⟨rfl, _⟩ | ⟨rfl, _⟩ | ⟨rfl, _⟩ | ⟨rfl, _⟩ <;> decide
theorem GA_ext (zs ys : List UInt8) : Ext GE (GA zs ys) := by
  refine ⟨by show 15 ≤ 17; omega, fun b x h => ?_, fun b hb => ?_⟩
  · have := GE_lt h
    rw [GA_get, if_neg (by omega), if_neg (by omega)]; exact h
  · have hb' : 17 ≤ b := hb
    rw [GA_get, if_neg (by omega), if_neg (by omega)]
    exact GE_fresh b (by show 15 ≤ b; omega)
/-- A row of bytes as it lies in a world. -/
structure InRow (w : World) (a : Addr) (zs : List UInt8) : Prop where
  blk : ∃ cs t fz, w.heap[a.block]? = some (.cells cs t fz)
  cell : ∀ i (h : i < zs.length), w.cell? (a.add i) = some (.int .u8 (zs[i].toNat : Int))
def mA (w : World) (a4 a5 : Addr) (A : Addr) (n : Nat) (B : Addr) (k : Nat) : Mp := fun b =>
  if b < 13 then some ⟨b, 0, 1, sizeAt w b⟩ else if b = 13 then some ⟨a4.block, a4.off, 1, 0⟩ else if b = 14 then some ⟨a5.block, a5.off, 1, 0⟩
  else if b = 15 then some ⟨A.block, if n = 0 then 0 else A.off, 1, sizeAt w A.block⟩ else if b = 16 then some ⟨B.block, if k = 0 then 0 else B.off, 1, sizeAt w B.block⟩ else none
theorem cell_at {w : World} {a : Addr} {i : Nat} {v : Value} {cs : Array Value} {t : TypeId} {fz : Nat × Nat} (hb : w.heap[a.block]? = some (.cells cs t fz)) (h : w.cell? (a.add i) = some v) (hs : a.spot = none) : cs[a.off + i]? = some v := by
  obtain ⟨b, off, spot⟩ := a
  simp only at hs hb
  subst hs
  rw [Addr.add_lit] at h
  simpa [World.cell?, hb] using h
theorem InRow.spot {w : World} {a : Addr} {zs : List UInt8} (h : InRow w a zs) (hn : zs.length ≠ 0) : a.spot = none := by
  have := World.cell?_spot (h.cell 0 (by omega))
  simpa [Addr.add] using this
theorem InRow.lt {w : World} {a : Addr} {zs : List UInt8} (h : InRow w a zs) : a.block < w.heap.size := by
  obtain ⟨cs, t, fz, hb⟩ := h.blk
  exact (Array.getElem?_eq_some_iff.mp hb).1
theorem lies_row {w : World} (m : Mp) {a : Addr} {zs : List UInt8} (hr : InRow w a zs) : Lies m w (row8 zs) ⟨a.block, if zs.length = 0 then 0 else a.off, 1, sizeAt w a.block⟩ := by
  obtain ⟨cs, t, fz, hb⟩ := hr.blk
  have hz : sizeAt w a.block = cs.size := by simp [sizeAt, hb]
  have at_ : ∀ i (hi : i < zs.length), cs[(if zs.length = 0 then 0 else a.off) + i]? = some (.int .u8 (zs[i].toNat : Int)) := fun i hi => by
    have hn : zs.length ≠ 0 := by omega
    rw [if_neg hn]
    exact cell_at hb (hr.cell i hi) (hr.spot hn)
  refine ⟨rfl, ?_, fun _ => ⟨cs, t, fz, hb, hz.symm, fun i hi hj => ?_, fun hrw => by simp [row8] at hrw⟩, fun o ho => by simp [row8] at ho⟩
  · show (if zs.length = 0 then 0 else a.off) + (row8 zs).cells.length ≤ sizeAt w a.block
    have hlen : (row8 zs).cells.length = zs.length := by simp [row8]
    rw [hlen, hz]
    by_cases hn : zs.length = 0
    · rw [if_pos hn]; omega
    · have := (Array.getElem?_eq_some_iff.mp (at_ (zs.length - 1) (by omega))).1
      omega
  · have hi' : i < zs.length := by simpa [row8] using hi
    have e := at_ i hi'
    have e2 : cs[(if zs.length = 0 then 0 else a.off) + i] = .int .u8 (zs[i].toNat : Int) := by
      rw [Array.getElem?_eq_getElem hj] at e
      exact Option.some.inj e
    have e1 : (row8 zs).cells[i] = .int .u8 (zs[i].toNat : Int) := by simp [row8]
    show VR _ (row8 zs).cells[i] cs[(if zs.length = 0 then 0 else a.off) + i]
    rw [e1, e2]
    exact .atom _ rfl
theorem Laid.lies {w : World} {a4 a5 : Addr} (h : Laid w a4 a5) (m : Mp) (m4 : m 13 = some ⟨a4.block, a4.off, 1, 0⟩) (m5 : m 14 = some ⟨a5.block, a5.off, 1, 0⟩) : ∀ b x, GE.get b = some x → x.rw = false ∧ Lies m w x ⟨b, 0, 1, sizeAt w b⟩ := by
  obtain ⟨t1, f1, h1⟩ := var_heap g1 h.classes
  obtain ⟨t2, f2, h2⟩ := var_heap g2 h.ascii
  obtain ⟨t4, f4, h4⟩ := var_heap g4 h.syn
  obtain ⟨t5, f5, h5⟩ := var_heap g5 h.rng
  have c4 := cell_spot h.cell4
  have c5 := cell_spot h.cell5
  intro b x hb
  rcases GE_get b x hb with ⟨rfl, rfl⟩ | ⟨rfl, rfl⟩ | ⟨rfl, rfl⟩ | ⟨rfl, rfl⟩
  · refine ⟨rfl, lies_tab h1 fun i a => .atom _ ?_⟩
    have hall : (classesL.map fun z => Value.int .u8 z).all atomic = true := by decide +kernel
    exact List.all_eq_true.mp hall _ (List.getElem_mem a)
  · refine ⟨rfl, lies_tab h2 fun i a => .atom _ ?_⟩
    have hall : asciiV.all atomic = true := by decide +kernel
    exact List.all_eq_true.mp hall _ (List.getElem_mem a)
  · exact ⟨rfl, lies_err h4 c4.1 0 m4⟩
  · exact ⟨rfl, lies_err h5 c5.1 0 m5⟩
theorem Laid.relA {w : World} {a4 a5 : Addr} (h : Laid w a4 a5) {A B : Addr} {zs ys : List UInt8} (hr : InRow w A zs) (hs : InRow w B ys) : Rel (mA w a4 a5 A zs.length B ys.length) (GA zs ys) w := by
  have c4 := cell_spot h.cell4
  have c5 := cell_spot h.cell5
  refine ⟨fun b x hx => ?_, fun b x hx hrw => ?_, fun b L hm => ?_, fun b hb => ⟨?_, (GA_ext zs ys).fresh b hb⟩⟩
  · rw [GA_get] at hx
    by_cases e : b = 16
    · rw [if_pos e] at hx
      obtain rfl := Option.some.inj hx
      subst e
      exact ⟨_, rfl, lies_row _ hs⟩
    rw [if_neg e] at hx
    by_cases e' : b = 15
    · rw [if_pos e'] at hx
      obtain rfl := Option.some.inj hx
      subst e'
      exact ⟨_, rfl, lies_row _ hr⟩
    rw [if_neg e'] at hx
    have hlt := GE_lt hx
    exact ⟨_, by unfold mA; rw [if_pos hlt], (h.lies (mA w a4 a5 A zs.length B ys.length) rfl rfl b x hx).2⟩
  · rw [GA_get] at hx
    by_cases e : b = 16
    · rw [if_pos e] at hx
      obtain rfl := Option.some.inj hx
      cases hrw
    rw [if_neg e] at hx
    by_cases e' : b = 15
    · rw [if_pos e'] at hx
      obtain rfl := Option.some.inj hx
      cases hrw
    rw [if_neg e'] at hx
    have := (h.lies (mA w a4 a5 A zs.length B ys.length) rfl rfl b x hx).1
    rw [this] at hrw; cases hrw
  · unfold mA at hm
    have hs' := h.size
    split at hm
    · obtain rfl := Option.some.inj hm; simp only; omega
    · split at hm
      · obtain rfl := Option.some.inj hm; exact c4.2
      · split at hm
        · obtain rfl := Option.some.inj hm; exact c5.2
        · split at hm
          · obtain rfl := Option.some.inj hm; exact hr.lt
          · split at hm
            · obtain rfl := Option.some.inj hm; exact hs.lt
            · cases hm
  · have : 17 ≤ b := hb
    unfold mA
    rw [if_neg (by omega), if_neg (by omega), if_neg (by omega), if_neg (by omega), if_neg (by omega)]
theorem gl_A (w : World) (a4 a5 A : Addr) (n : Nat) (B : Addr) (k : Nat) : Gl PP (mA w a4 a5 A n B k) := fun g hg => by
  rw [globals_size] at hg
  exact ⟨⟨g, 0, 1, sizeAt w g⟩, by simp [mA, hg], rfl, rfl⟩
theorem noOwn_A {m : Mp} {zs ys : List UInt8} (c : Nat) : ¬ Owns m (GA zs ys) c := by
  rintro ⟨b, x, L, h, hrw, _⟩
  rw [GA_get] at h
  by_cases e : b = 16
  · rw [if_pos e] at h
    obtain rfl := Option.some.inj h
    cases hrw
  rw [if_neg e] at h
  by_cases e' : b = 15
  · rw [if_pos e'] at h
    obtain rfl := Option.some.inj h
    cases hrw
  rw [if_neg e'] at h
  rcases GE_get b x h with ⟨_, rfl⟩ | ⟨_, rfl⟩ | ⟨_, rfl⟩ | ⟨_, rfl⟩ <;> cases hrw
/-- A row that was handed in: nil, or a row that lies somewhere. -/
structure ArgRow (W : World) (v : Value) (A : Addr) (zs s : List UInt8) (c : Nat) (x : Nat → Option Addr) : Prop where
  row : InRow W A zs
  cap : s.length ≤ c
  val : ∀ (m : Mp) (b : Nat), m b = some ⟨A.block, if zs.length = 0 then 0 else A.off, 1, sizeAt W A.block⟩ → VR m (.slice (x b) s.length c) v
  brow : ∀ (H : Heap) (b : Nat), H.get b = some (row8 zs) → Brow H (x b) s
theorem argNil {W : World} {a4 a5 : Addr} (h : Laid W a4 a5) : ArgRow W (.slice none 0 0) ⟨1, 0, none⟩ [] [] 0 (fun _ => none) := by
  obtain ⟨t1, f1, h1⟩ := var_heap g1 h.classes
  exact ⟨⟨⟨_, t1, f1, h1⟩, fun i hi => absurd hi (by simp)⟩, Nat.le_refl _, fun m b _ => .atom _ rfl, fun H b _ => ⟨fun b e => (by cases e), fun _ => rfl, by decide⟩⟩
theorem argSome {W : World} {a : Addr} {zs : List UInt8} {n : Nat} (hr : InRow W a zs) (hn : n ≤ zs.length) (hs : a.spot = none) (hz : zs.length < 9223372036854775808) : ArgRow W (.slice (some a) n zs.length) a zs (zs.take n) zs.length (fun b => some ⟨b, 0, none⟩) := by
  have hl : (zs.take n).length = n := by simp; omega
  refine ⟨hr, by omega, fun m b hm => ?_, fun H b hb => ?_⟩
  · rw [hl]
    obtain ⟨cs, t, fz, hb⟩ := hr.blk
    refine .slice b 0 _ a n zs.length zs.length hm hn (Nat.le_refl _) rfl hs ?_
    by_cases h0 : zs.length = 0
    · exact .inl h0
    · refine .inr ⟨by simp [h0], ?_⟩
      have e := cell_at hb (hr.cell (zs.length - 1) (by omega)) hs
      have := (Array.getElem?_eq_some_iff.mp e).1
      show a.off + zs.length * 1 ≤ sizeAt W a.block
      have hz : sizeAt W a.block = cs.size := by simp [sizeAt, hb]
      omega
  · refine ⟨fun q hq => ?_, (fun e => by cases e), by simp; omega⟩
    obtain rfl := Option.some.inj hq
    refine ⟨row8 zs, ?_, rfl, ?_, ?_⟩
    · simp [look, hb]; rfl
    · simp [row8]; omega
    · simp [row8, List.map_take]
end Go.Am
/- The law on lexemes apart, in every world that holds the tables. -/
namespace Go.Am
open Go.Proofs
theorem apart_sound (N : Nat) : KSnd PP (CG N hkT 6) := callG_sound goodAllG XX_sound hkT_sound mixed 6
theorem apart_calls {W : World} {a4 a5 A : Addr} (hl : Laid W a4 a5) {v1 : Value} {zs s : List UInt8} {c : Nat} {x : Nat → Option Addr} (R1 : ArgRow W v1 A zs s c x) :
    Calls PP 7 #[v1] W fun e w' => e = .returned (.bool true) ∧ Go.RowKit.Below W.heap.size W w' := by
  have R2 := (argNil hl).row
  have h15 : (GA zs []).get 15 = some (row8 zs) := by rw [GA_get, if_neg (by decide), if_pos rfl]
  obtain ⟨Hs, _, hrun⟩ := call_apart (N := 5000001) (d := 0) hkT_ok (fun H hG => hk_known hG) (GA_ext zs []) (R1.brow _ 15 h15) R1.cap (by decide)
  refine (apart_sound 5000001 _ _ _ _ Hs hrun _ W _ (hl.relA R1.row R2) (gl_A W a4 a5 A zs.length ⟨1, 0, none⟩ _) (VRs.cons (R1.val _ 15 rfl) (VRs.nil _)).toArray).mono fun e w' ⟨m', h1, h2⟩ => ?_
  refine ⟨?_, below_of h2.keep fun c => noOwn_A c⟩
  cases e with
  | returned v' => rw [VR.eq_of_atomic (show VR m' (.bool true) v' from h1) rfl]
  | panicked c => exact h1.elim
  | _ => exact h1.elim
end Go.Am
