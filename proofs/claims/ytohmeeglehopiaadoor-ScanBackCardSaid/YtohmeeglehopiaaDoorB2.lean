/- From the listed tables to the small heap. -/
import Derived.Test.YtohmeeglehopiaaDoorB1
import Derived.Stop.LaidErr
import Derived.Below
import Derived.MakeChecks
import Derived.Lib.LaidTab
import Derived.Test.YtohmeeglehopiaaDoorRows
import Derived.Test.YtohmeeglehopiaaDoorU3
import Derived.Test.YtohmeeglehopiaaDoorU4
import Derived.Test.YtohmeeglehopiaaDoorT2
namespace Go.Am
open Go.Proofs Go.Proofs.YtohmeeglehopiaaDoor

noncomputable def mTop (_w : World) (a4 a5 : Addr) : Mp := fun b =>
  if b < 13 then some ⟨b, 0, 1, szG PP b⟩ else if b = 13 then some ⟨a4.block, a4.off, 1, 0⟩ else if b = 14 then some ⟨a5.block, a5.off, 1, 0⟩ else none
theorem var_heap {P : Program} {w : World} {n : String} {g : Nat} {cs : Array Value} (hg : P.globalNamed n = some g) (h : w.var? P n = some cs) : ∃ t fz, w.heap[g]? = some (.cells cs t fz) := by
  unfold World.var? at h
  rw [hg] at h
  simp only [Option.bind_some] at h
  split at h
  · rename_i cs' t fz he
    obtain rfl := Option.some.inj h
    exact ⟨t, fz, he⟩
  · cases h
structure Laid (w : World) (a4 a5 : Addr) : Prop where
  size : 13 ≤ w.heap.size
  classes : w.var? PP "bulkhead/scan.classes" = some (classesL.map fun z => Value.int .u8 z).toArray
  ascii : w.var? PP "strings.asciiSpace" = some asciiV.toArray
  syn : w.var? PP "strconv.ErrSyntax" = some #[.iface 122 (.pointer (some a4))]
  rng : w.var? PP "strconv.ErrRange" = some #[.iface 122 (.pointer (some a5))]
  pow : w.var? PP "internal/strconv.uint64pow10" = some powV.toArray
  bru : w.var? PP "math/bits.deBruijn64tab" = some bruV.toArray
  cell4 : ∃ v, w.cell? a4 = some v
  cell5 : ∃ v, w.cell? a5 = some v
theorem cell_spot {w : World} {a : Addr} (h : ∃ v, w.cell? a = some v) : a.spot = none ∧ a.block < w.heap.size := by
  obtain ⟨v, hv⟩ := h
  refine ⟨World.cell?_spot hv, ?_⟩
  unfold World.cell? at hv
  split at hv
  · rename_i he
    exact (Array.getElem?_eq_some_iff.mp he).1
  · cases hv
theorem g1 : PP.globalNamed "bulkhead/scan.classes" = some 1 := by kernel_rfl
theorem g2 : PP.globalNamed "strings.asciiSpace" = some 2 := by kernel_rfl
theorem g4 : PP.globalNamed "strconv.ErrSyntax" = some 4 := by kernel_rfl
theorem g5 : PP.globalNamed "strconv.ErrRange" = some 5 := by kernel_rfl
theorem g6 : PP.globalNamed "internal/strconv.uint64pow10" = some 6 := by kernel_rfl
theorem g11 : PP.globalNamed "math/bits.deBruijn64tab" = some 11 := by kernel_rfl
theorem lies_tab {w : World} {m : Mp} {g : Nat} {cs : List Value} {t : TypeId} {fz : Nat × Nat} (h : w.heap[g]? = some (.cells cs.toArray t fz)) (hsz : cs.length = szG PP g) (hall : cs.all atomic = true) :
    Lies m w ⟨cs, false, 1, none⟩ ⟨g, 0, 1, szG PP g⟩ := by
  have hv : ∀ i (a : i < cs.length), VR m cs[i] cs[i] := fun i a => .atom _ (List.all_eq_true.mp hall _ (List.getElem_mem a))
  refine ⟨rfl, by simp [hsz], fun _ => ⟨cs.toArray, t, fz, h, by simp [hsz], fun i a b => ?_, fun hr => by simp at hr⟩, fun o ho => by simp at ho⟩
  simpa using hv i a
theorem lies_err {w : World} {m : Mp} {g b : Nat} {a : Addr} {t : TypeId} {fz : Nat × Nat} (h : w.heap[g]? = some (.cells #[.iface 122 (.pointer (some a))] t fz)) (hsz : 1 = szG PP g) (hs : a.spot = none) (e : Nat) (hm : m b = some ⟨a.block, a.off, 1, e⟩) :
    Lies m w ⟨[errV b], false, 1, none⟩ ⟨g, 0, 1, szG PP g⟩ := by
  refine ⟨rfl, by simp [← hsz], fun _ => ⟨_, t, fz, h, by simp [← hsz], fun i a1 b1 => ?_, fun hr => by simp at hr⟩, fun o ho => by simp at ho⟩
  have h0 : i = 0 := by simp at a1; exact a1
  subst h0
  have hp := VR.ptr (m := m) b 0 _ hm
  have ea : (⟨a.block, a.off + 0, none⟩ : Addr) = a := by cases a; simp_all
  rw [ea] at hp
  exact .iface 122 _ _ hp
theorem Laid.rel {w : World} {a4 a5 : Addr} (h : Laid w a4 a5) : Rel (mTop w a4 a5) GE w := by
  obtain ⟨t1, f1, h1⟩ := var_heap g1 h.classes
  obtain ⟨t2, f2, h2⟩ := var_heap g2 h.ascii
  obtain ⟨t4, f4, h4⟩ := var_heap g4 h.syn
  obtain ⟨t5, f5, h5⟩ := var_heap g5 h.rng
  obtain ⟨t6, f6, h6⟩ := var_heap g6 h.pow
  obtain ⟨t7, f7, h7⟩ := var_heap g11 h.bru
  have c4 := cell_spot h.cell4
  have c5 := cell_spot h.cell5
  refine ⟨fun b x hb => ?_, fun b x hb hrw => ?_, fun b L hm => ?_, fun b hb => ⟨?_, tabs_GE.fresh b hb⟩⟩
  · rcases GE_get b x hb with ⟨rfl, rfl⟩ | ⟨rfl, rfl⟩ | ⟨rfl, rfl⟩ | ⟨rfl, rfl⟩ | ⟨rfl, rfl⟩ | ⟨rfl, rfl⟩
    · exact ⟨_, rfl, lies_tab h1 (by kernel_rfl) (by decide +kernel)⟩
    · exact ⟨_, rfl, lies_tab h2 (by kernel_rfl) (by decide +kernel)⟩
    · exact ⟨_, rfl, lies_err h4 (by kernel_rfl) c4.1 0 rfl⟩
    · exact ⟨_, rfl, lies_err h5 (by kernel_rfl) c5.1 0 rfl⟩
    · exact ⟨_, rfl, lies_tab h6 (by kernel_rfl) (by decide +kernel)⟩
    · exact ⟨_, rfl, lies_tab h7 (by kernel_rfl) (by decide +kernel)⟩
  · rcases GE_get b x hb with ⟨_, rfl⟩ | ⟨_, rfl⟩ | ⟨_, rfl⟩ | ⟨_, rfl⟩ | ⟨_, rfl⟩ | ⟨_, rfl⟩ <;> simp at hrw
  · unfold mTop at hm
    have hs := h.size
    split at hm
    · obtain rfl := Option.some.inj hm; simp only; omega
    · split at hm
      · obtain rfl := Option.some.inj hm; exact c4.2
      · split at hm
        · obtain rfl := Option.some.inj hm; exact c5.2
        · cases hm
  · have : 15 ≤ b := hb
    unfold mTop
    rw [if_neg (by omega), if_neg (by omega), if_neg (by omega)]
theorem gl_top (w : World) (a4 a5 : Addr) : Gl PP (mTop w a4 a5) := fun g hg => by
  rw [globals_size] at hg
  exact ⟨⟨g, 0, 1, szG PP g⟩, by simp [mTop, hg], rfl, rfl, rfl⟩
/-- What is kept is what the rows ask. -/
theorem below_of {m : Mp} {H : Heap} {w w' : World} (k : Keep m H w w') (hno : ∀ c, ¬ Owns m H c) : Go.RowKit.Below w.heap.size w w' := ⟨k.os, k.tape, k.output, k.size, fun c hc => k.block c hc (hno c)⟩
theorem star : "*" ++ "errors.errorString" = "*errors.errorString" := by decide
theorem row122 (u : TypeId) (h : PP.typeName? 3 u = some "*errors.errorString") : u = 122 :=
  typeName_ptr_named (nm := "errors.errorString") (by rw [star]; kernel_rfl) (by kernel_rfl) (by decide) u (by rw [star]; exact h)
theorem heap_size {W : World} (hsh : W.ShapedOpen PP) : 13 ≤ W.heap.size := by
  have h12 : ((((begin PP (fun _ _ => 0) default).world.heap[12]?).bind Obj.row?).isSome) = true := by kernel_rfl
  obtain ⟨⟨zero, t⟩, hz⟩ := Option.isSome_iff_exists.mp h12
  obtain ⟨cs, hcs, _⟩ := hsh.1 12 zero t (by rw [globals_size]; decide) hz
  have := (Array.getElem?_eq_some_iff.mp hcs).1
  omega
/-- The listed tables, told by their places on the list. -/
theorem laid_parts {W : World} {rC rA rS rR rP rB : List (String × DataW Unit)} (hC : laidMet PP (("bulkhead/scan.classes", Rows.laid_bulkhead_scan_classes) :: rC) W) (hA : laidMet PP (("strings.asciiSpace", Rows.laid_strings_asciiSpace) :: rA) W)
    (hS : laidMet PP (("strconv.ErrSyntax", Rows.laid_strconv_ErrSyntax) :: rS) W) (hR : laidMet PP (("strconv.ErrRange", Rows.laid_strconv_ErrRange) :: rR) W)
    (hP : laidMet PP (("internal/strconv.uint64pow10", Rows.laid_internal_strconv_uint64pow10) :: rP) W) (hB : laidMet PP (("math/bits.deBruijn64tab", Rows.laid_math_bits_deBruijn64tab) :: rB) W) (hsh : W.ShapedOpen PP) : ∃ a4 a5, Laid W a4 a5 := by
  have eA : (Rows.laid_strings_asciiSpace : DataW Unit) = Lib.tabData .u8 asciiL := by kernel_rfl
  have eC : (Rows.laid_bulkhead_scan_classes : DataW Unit) = Lib.tabData .u8 classesL := by kernel_rfl
  have eP : (Rows.laid_internal_strconv_uint64pow10 : DataW Unit) = Lib.tabData .u64 Lib.pow10Tab := by kernel_rfl
  have eB : (Rows.laid_math_bits_deBruijn64tab : DataW Unit) = Lib.tabData .u8 bruL := by kernel_rfl
  rw [eA] at hA
  rw [eC] at hC
  rw [eP] at hP
  rw [eB] at hB
  obtain ⟨a5, s5, v5, k5, _⟩ := laid_sentinel hR g5 (by kernel_rfl) Tryd.underlying53 row122 Tryd.underlying122 Tryd.underlying124 rfl rfl Tryd.underlying9 (by kernel_rfl) (by kernel_rfl)
  obtain ⟨a4, s4, v4, k4, _⟩ := laid_sentinel hS g4 (by kernel_rfl) Tryd.underlying53 row122 Tryd.underlying122 Tryd.underlying124 rfl rfl Tryd.underlying9 (by kernel_rfl) (by kernel_rfl)
  have tA : Lib.TabIs PP W "strings.asciiSpace" .u8 asciiL := Lib.tabIs_of_head g2 (by kernel_rfl) Tryd.underlying68 Tryd.underlying5 (by kernel_rfl) (by kernel_rfl) hA
  have tC : Lib.TabIs PP W "bulkhead/scan.classes" .u8 classesL := Lib.tabIs_of_head g1 (by kernel_rfl) Tryd.underlying63 Tryd.underlying5 (by kernel_rfl) (by kernel_rfl) hC
  have tP : Lib.TabIs PP W "internal/strconv.uint64pow10" .u64 Lib.pow10Tab := Lib.tabIs_of_head g6 (by kernel_rfl) Tryd.underlying106 Tryd.underlying27 (by kernel_rfl) (by kernel_rfl) hP
  have tB : Lib.TabIs PP W "math/bits.deBruijn64tab" .u8 bruL := Lib.tabIs_of_head g11 (by kernel_rfl) Tryd.underlying135 Tryd.underlying5 (by kernel_rfl) (by kernel_rfl) hB
  exact ⟨a4, a5, heap_size hsh, tC, tA, v4, v5, tP, tB, ⟨_, k4⟩, ⟨_, k5⟩⟩
end Go.Am
/- The law on what is read back, in every world that holds the tables. -/
namespace Go.Am
open Go.Proofs
theorem back_sound (N : Nat) : KSnd PP (CG N hkT 9) := callG_sound goodAllG XX_sound hkT_sound mixed 9
theorem GE_self : Ext GE GE := ⟨Nat.le_refl _, fun _ _ h => h, fun b hb => tabs_GE.fresh b hb⟩
theorem back_calls {W : World} {a4 a5 : Addr} (hl : Laid W a4 a5) {n : Int} (h0 : 0 ≤ n) (h1 : n < 18446744073709551616) (t w : ByteArray) (hw : w.size < 9223372036854775807) :
    Calls PP 8 #[.int .u64 n, .string t, .string w] W fun e w' => e = .returned (.bool true) ∧ Go.RowKit.Below W.heap.size W w' := by
  obtain ⟨⟨t⟩⟩ := t
  obtain ⟨⟨w⟩⟩ := w
  have en : ((n.toNat : Nat) : Int) = n := by omega
  obtain ⟨Hs, _, hrun⟩ := call_back (N := 3000001) (d := 0) (n := n.toNat) (t := t) (w := w) hkT_ok hkB_ok (fun H hG => hk_known hG) GE_self (by omega) hw (by decide)
  rw [en] at hrun
  refine (back_sound 3000001 _ _ _ _ Hs hrun _ W _ hl.rel (gl_top W a4 a5) (VRs.cons (.atom _ rfl) (VRs.cons (.atom _ rfl) (VRs.cons (.atom _ rfl) (VRs.nil _)))).toArray).mono fun e w' ⟨m', h1, h2⟩ => ?_
  refine ⟨?_, below_of h2.keep fun c => tabs_GE.owns _ c⟩
  cases e with
  | returned v' => rw [VR.eq_of_atomic (show VR m' (.bool true) v' from h1) rfl]
  | panicked c => exact h1.elim
  | _ => exact h1.elim
end Go.Am
