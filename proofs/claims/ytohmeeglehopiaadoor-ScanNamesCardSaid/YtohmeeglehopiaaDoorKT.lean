/- From the listed tables to the small heap. -/
import Derived.Test.YtohmeeglehopiaaDoorKZ
import Derived.Stop.LaidErr
import Derived.Below
import Derived.MakeChecks
import Derived.Lib.LaidTab
import Derived.Test.YtohmeeglehopiaaDoorRows
namespace Go.Am
open Go.Proofs Go.Proofs.YtohmeeglehopiaaDoor

def sizeAt (w : World) (c : Nat) : Nat := match w.heap[c]? with | some (.cells cs _ _) => cs.size | _ => 0
def mTop (w : World) (a4 a5 : Addr) : Mp := fun b =>
  if b < 13 then some ⟨b, 0, 1, sizeAt w b⟩ else if b = 13 then some ⟨a4.block, a4.off, 1, 0⟩ else if b = 14 then some ⟨a5.block, a5.off, 1, 0⟩ else none

theorem var_heap {P : Program} {w : World} {n : String} {g : Nat} {cs : Array Value} (hg : P.globalNamed n = some g) (h : w.var? P n = some cs) : ∃ t fz, w.heap[g]? = some (.cells cs t fz) := by
  unfold World.var? at h
  rw [hg] at h
  simp only [Option.bind_some] at h
  split at h
  · rename_i cs' t fz he
    obtain rfl := Option.some.inj h
    exact ⟨t, fz, he⟩
  · cases h

structure Laid (w : World) (a4 a5 : Addr) : Prop where
  size : 13 ≤ w.heap.size
  classes : w.var? PP "bulkhead/scan.classes" = some (classesL.map fun z => Value.int .u8 z).toArray
  ascii : w.var? PP "strings.asciiSpace" = some asciiV.toArray
  syn : w.var? PP "strconv.ErrSyntax" = some #[.iface 122 (.pointer (some a4))]
  rng : w.var? PP "strconv.ErrRange" = some #[.iface 122 (.pointer (some a5))]
  cell4 : ∃ v, w.cell? a4 = some v
  cell5 : ∃ v, w.cell? a5 = some v

theorem cell_spot {w : World} {a : Addr} (h : ∃ v, w.cell? a = some v) : a.spot = none ∧ a.block < w.heap.size := by
  obtain ⟨v, hv⟩ := h
  refine ⟨World.cell?_spot hv, ?_⟩
  unfold World.cell? at hv
  split at hv
  · rename_i he
    exact (Array.getElem?_eq_some_iff.mp he).1
  · cases hv

theorem g1 : PP.globalNamed "bulkhead/scan.classes" = some 1 := by kernel_rfl
theorem g2 : PP.globalNamed "strings.asciiSpace" = some 2 := by kernel_rfl
theorem g4 : PP.globalNamed "strconv.ErrSyntax" = some 4 := by kernel_rfl
theorem g5 : PP.globalNamed "strconv.ErrRange" = some 5 := by kernel_rfl

theorem lies_tab {w : World} {m : Mp} {g : Nat} {cs : List Value} {t : TypeId} {fz : Nat × Nat} (h : w.heap[g]? = some (.cells cs.toArray t fz)) (hv : ∀ i (a : i < cs.length), VR m cs[i] cs[i]) :
    Lies m w ⟨cs, false, 1, none⟩ ⟨g, 0, 1, sizeAt w g⟩ := by
  have hz : sizeAt w g = cs.length := by simp [sizeAt, h]
  refine ⟨rfl, by simp [hz], fun _ => ⟨cs.toArray, t, fz, h, by simp [hz], fun i a b => ?_, fun hr => by simp at hr⟩, fun o ho => by simp at ho⟩
  simpa using hv i a

theorem lies_err {w : World} {m : Mp} {g b : Nat} {a : Addr} {t : TypeId} {fz : Nat × Nat} (h : w.heap[g]? = some (.cells #[.iface 122 (.pointer (some a))] t fz)) (hs : a.spot = none) (e : Nat) (hm : m b = some ⟨a.block, a.off, 1, e⟩) :
    Lies m w ⟨[errV b], false, 1, none⟩ ⟨g, 0, 1, sizeAt w g⟩ := by
  have hz : sizeAt w g = 1 := by simp [sizeAt, h]
  refine ⟨rfl, by simp [hz], fun _ => ⟨_, t, fz, h, by simp [hz], fun i a1 b1 => ?_, fun hr => by simp at hr⟩, fun o ho => by simp at ho⟩
  have h0 : i = 0 := by simp at a1; exact a1
  subst h0
  have hp := VR.ptr (m := m) b 0 _ hm
  have ea : (⟨a.block, a.off + 0, none⟩ : Addr) = a := by cases a; simp_all
  rw [ea] at hp
  exact .iface 122 _ _ hp

theorem Laid.rel {w : World} {a4 a5 : Addr} (h : Laid w a4 a5) : Rel (mTop w a4 a5) GE w := by
  obtain ⟨t1, f1, h1⟩ := var_heap g1 h.classes
  obtain ⟨t2, f2, h2⟩ := var_heap g2 h.ascii
  obtain ⟨t4, f4, h4⟩ := var_heap g4 h.syn
  obtain ⟨t5, f5, h5⟩ := var_heap g5 h.rng
  have c4 := cell_spot h.cell4
  have c5 := cell_spot h.cell5
  refine ⟨fun b x hb => ?_, fun b x hb hrw => ?_, fun b L hm => ?_, fun b hb => ⟨?_, tabs_GE.fresh b hb⟩⟩
  · rcases GE_get b x hb with ⟨rfl, rfl⟩ | ⟨rfl, rfl⟩ | ⟨rfl, rfl⟩ | ⟨rfl, rfl⟩
    · refine ⟨_, rfl, lies_tab h1 fun i a => .atom _ ?_⟩
      have hall : (classesL.map fun z => Value.int .u8 z).all atomic = true := by decide +kernel
      exact List.all_eq_true.mp hall _ (List.getElem_mem a)
    · refine ⟨_, rfl, lies_tab h2 fun i a => .atom _ ?_⟩
      have hall : asciiV.all atomic = true := by decide +kernel
      exact List.all_eq_true.mp hall _ (List.getElem_mem a)
    · exact ⟨_, rfl, lies_err h4 c4.1 0 rfl⟩
    · exact ⟨_, rfl, lies_err h5 c5.1 0 rfl⟩
  · rcases GE_get b x hb with ⟨_, rfl⟩ | ⟨_, rfl⟩ | ⟨_, rfl⟩ | ⟨_, rfl⟩ <;> simp at hrw
  · unfold mTop at hm
    have hs := h.size
    split at hm
    · obtain rfl := Option.some.inj hm; simp only; omega
    · split at hm
      · obtain rfl := Option.some.inj hm; exact c4.2
      · split at hm
        · obtain rfl := Option.some.inj hm; exact c5.2
        · cases hm
  · have : 15 ≤ b := hb
    unfold mTop
    rw [if_neg (by omega), if_neg (by omega), if_neg (by omega)]

theorem gl_top (w : World) (a4 a5 : Addr) : Gl PP (mTop w a4 a5) := fun g hg => by
  rw [globals_size] at hg
  exact ⟨⟨g, 0, 1, sizeAt w g⟩, by simp [mTop, hg], rfl, rfl⟩

/-- What is kept is what the rows ask. -/
theorem below_of {m : Mp} {H : Heap} {w w' : World} (k : Keep m H w w') (hno : ∀ c, ¬ Owns m H c) : Go.RowKit.Below w.heap.size w w' := ⟨k.os, k.tape, k.output, k.size, fun c hc => k.block c hc (hno c)⟩

theorem star : "*" ++ "errors.errorString" = "*errors.errorString" := by decide
theorem row122 (u : TypeId) (h : PP.typeName? 3 u = some "*errors.errorString") : u = 122 :=
  typeName_ptr_named (nm := "errors.errorString") (by rw [star]; kernel_rfl) (by kernel_rfl) (by decide) u (by rw [star]; exact h)

theorem laid_of {W : World} (hL' : laidMetH PP Rows.scanNamesRow.laid W) (hsh : W.ShapedOpen PP) : ∃ a4 a5, Laid W a4 a5 := by
  have hL : laidMet PP Rows.scanNamesRow.laid W := by
    rw [MakeChecks.laidMetH_plain _ _ _ (by kernel_rfl)] at hL'
    exact hL'
  have hR := hL.tail.tail.tail.tail
  have hS := hR.tail
  have hA := hS.tail.tail
  have hC := hA.tail
  have eA : (Rows.laid_strings_asciiSpace : DataW Unit) = Lib.tabData .u8 asciiL := by kernel_rfl
  have eC : (Rows.laid_bulkhead_scan_classes : DataW Unit) = Lib.tabData .u8 classesL := by kernel_rfl
  rw [eA] at hA
  rw [eC] at hC
  obtain ⟨a5, s5, v5, k5, _⟩ := laid_sentinel hR g5 (by kernel_rfl) Tryd.underlying53 row122 Tryd.underlying122 Tryd.underlying124 rfl rfl Tryd.underlying9 (by kernel_rfl) (by kernel_rfl)
  obtain ⟨a4, s4, v4, k4, _⟩ := laid_sentinel hS g4 (by kernel_rfl) Tryd.underlying53 row122 Tryd.underlying122 Tryd.underlying124 rfl rfl Tryd.underlying9 (by kernel_rfl) (by kernel_rfl)
  have tA : Lib.TabIs PP W "strings.asciiSpace" .u8 asciiL := Lib.tabIs_of_head g2 (by kernel_rfl) Tryd.underlying68 Tryd.underlying5 (by kernel_rfl) (by kernel_rfl) hA
  have tC : Lib.TabIs PP W "bulkhead/scan.classes" .u8 classesL := Lib.tabIs_of_head g1 (by kernel_rfl) Tryd.underlying63 Tryd.underlying5 (by kernel_rfl) (by kernel_rfl) hC
  refine ⟨a4, a5, ?_, tC, tA, v4, v5, ⟨_, k4⟩, ⟨_, k5⟩⟩
  have h12 : ((((begin PP (fun _ _ => 0) default).world.heap[12]?).bind Obj.row?).isSome) = true := by kernel_rfl
  obtain ⟨⟨zero, t⟩, hz⟩ := Option.isSome_iff_exists.mp h12
  obtain ⟨cs, hcs, _⟩ := hsh.1 12 zero t (by rw [globals_size]; decide) hz
  have := (Array.getElem?_eq_some_iff.mp hcs).1
  omega

/-- A closed run at the tables is a run in every world that holds them. -/
theorem top_run {K : Kf} (hK : KSnd PP K) {f : FuncId} {args : Array Value} {v : Value} (h : chkPure (K f args GE) v = true) (ha : args.toList.all atomic = true) (hv : atomic v = true) {W : World} {a4 a5 : Addr} (hl : Laid W a4 a5) :
    Calls PP f args W fun e w' => e = .returned v ∧ Go.RowKit.Below W.heap.size W w' := by
  obtain ⟨Hs, hr⟩ := chkPure_run h
  refine (hK f args GE _ Hs hr _ W args hl.rel (gl_top W a4 a5) (VRs.of_atomic _ ha).toArray).mono fun e w' ⟨m', h1, h2⟩ => ?_
  refine ⟨?_, below_of h2.keep fun c => tabs_GE.owns _ c⟩
  cases e with
  | returned v' => rw [VR.eq_of_atomic (show VR m' v v' from h1) hv]
  | panicked c => exact h1.elim
  | _ => exact h1.elim
end Go.Am
