/- A listed table of texts holds its texts. -/
import Derived.Test.YtohmeeglehopiaaGreatDoorAmO
import Derived.Lib.LaidTab
import Derived.Test.YtohmeeglehopiaaGreatDoorZX
import Derived.Stop.LaidErr
import Derived.Below
import Derived.MakeChecks
import Derived.Test.YtohmeeglehopiaaGreatDoorRows
namespace Go.Am
def strData {H : Type} (l : List (List UInt8)) : DataW H := .agg (l.map fun s => .lit (.string s))
theorem cells_of_strs {H : Type} {enc : TypeId × Value → H} {P : Program} {w : World} {base : Nat} {sp : Nat → Bool} {held : Bool} {fuel : Nat} {t e : TypeId} {n : Nat} {cs : List Value} {l : List (List UInt8)} {p : List MemPlace}
    (ht : P.underlying t = some (.array n e)) (he : P.underlying e = some .string) (hce : P.cellsOf e = 1) (hct : P.cellsOf t = n)
    (h : DataW.trod enc P w base sp held fuel t cs = some (strData l, p)) : cs = l.map fun s => Value.string ⟨⟨s⟩⟩ := by
  cases fuel with
  | zero => simp [DataW.trod] at h
  | succ fuel =>
    simp only [DataW.trod, ht, hce, hct, Nat.mul_one] at h
    split at h
    · rename_i hl
      obtain ⟨xs, hm, hx⟩ := Option.map_eq_some_iff.1 h
      have hxs : xs.map (·.1) = l.map fun s => (DataW.lit (.string s) : DataW H) := by
        have := congrArg Prod.fst hx
        simpa [strData] using this
      have hxl : xs.length = n := by simpa using Lib.mapM_length hm
      have hzl : l.length = n := by
        have := congrArg List.length hxs
        simp at this
        omega
      apply List.ext_getElem?
      intro i
      by_cases hi : i < n
      · obtain ⟨b, hb, hf⟩ := Lib.mapM_at hm i i (by simp [hi])
        obtain ⟨s, hc, rfl, _⟩ := DataW.trod_string he hf
        have h1 : cs[i]? = some (.string s) := by
          have := congrArg (·[0]?) hc
          simpa [List.getElem?_take, List.getElem?_drop] using this
        have h2 : (xs.map (·.1))[i]? = some (DataW.lit (.string s.data.toList) : DataW H) := by simp [hb]
        rw [hxs] at h2
        simp only [List.getElem?_map, Option.map_eq_some_iff, DataW.lit.injEq, Lit.string.injEq] at h2
        obtain ⟨z, hz, rfl⟩ := h2
        simp [h1, hz]
      · rw [List.getElem?_eq_none (by omega), List.getElem?_eq_none (by simp; omega)]
    · cases h
theorem strsIs_of_head {P : Program} {W : World} {name : String} {l : List (List UInt8)} {rest : List (String × DataW Unit)} {g : Nat} {t e : TypeId} {n : Nat}
    (hg : P.globalNamed name = some g) (hty : (P.globals[g]?).map (·.type) = some t) (ht : P.underlying t = some (.array n e)) (he : P.underlying e = some .string) (hce : P.cellsOf e = 1) (hct : P.cellsOf t = n)
    (h : laidMet P ((name, strData l) :: rest) W) : W.var? P name = some (l.map fun s => Value.string ⟨⟨s⟩⟩).toArray := by
  obtain ⟨ps, ⟨g', t', cs, fuel, p, q, hg', ht', hvar, hd, _, _⟩, _⟩ := h
  obtain rfl := Option.some.inj (hg.symm.trans hg')
  obtain rfl := Option.some.inj (hty.symm.trans ht')
  rw [hvar, ← cells_of_strs ht he hce hct hd]
end Go.Am
/- From the listed tables to the small heap. -/
namespace Go.Am
open Go.Proofs Go.Proofs.YtohmeeglehopiaaGreatDoor

def sizeAt (w : World) (c : Nat) : Nat := match w.heap[c]? with | some (.cells cs _ _) => cs.size | _ => 0
def mTop (w : World) (a6 a7 : Addr) : Mp := fun b =>
  if b < 14 then some ⟨b, 0, 1, sizeAt w b⟩ else if b = 14 then some ⟨a6.block, a6.off, 1, 0⟩ else if b = 15 then some ⟨a7.block, a7.off, 1, 0⟩ else none

theorem var_heap {P : Program} {w : World} {n : String} {g : Nat} {cs : Array Value} (hg : P.globalNamed n = some g) (h : w.var? P n = some cs) : ∃ t fz, w.heap[g]? = some (.cells cs t fz) := by
  unfold World.var? at h
  rw [hg] at h
  simp only [Option.bind_some] at h
  split at h
  · rename_i cs' t fz he
    obtain rfl := Option.some.inj h
    exact ⟨t, fz, he⟩
  · cases h

structure Laid (w : World) (a6 a7 : Addr) : Prop where
  size : 14 ≤ w.heap.size
  classes : w.var? PP "bulkhead/scan.classes" = some (classesL.map fun z => Value.int .u8 z).toArray
  ascii : w.var? PP "strings.asciiSpace" = some asciiV.toArray
  words : w.var? PP "bulkhead/bulkheadref5.reserved" = some wordsV.toArray
  signs : w.var? PP "bulkhead/bulkheadref5.signs" = some signsV.toArray
  syn : w.var? PP "strconv.ErrSyntax" = some #[.iface 151 (.pointer (some a6))]
  rng : w.var? PP "strconv.ErrRange" = some #[.iface 151 (.pointer (some a7))]
  cell6 : ∃ v, w.cell? a6 = some v
  cell7 : ∃ v, w.cell? a7 = some v
theorem cell_spot {w : World} {a : Addr} (h : ∃ v, w.cell? a = some v) : a.spot = none ∧ a.block < w.heap.size := by
  obtain ⟨v, hv⟩ := h
  refine ⟨World.cell?_spot hv, ?_⟩
  unfold World.cell? at hv
  split at hv
  · rename_i he
    exact (Array.getElem?_eq_some_iff.mp he).1
  · cases hv

theorem g0 : PP.globalNamed "strings.asciiSpace" = some 0 := by kernel_rfl
theorem g1 : PP.globalNamed "bulkhead/scan.classes" = some 1 := by kernel_rfl
theorem g2 : PP.globalNamed "bulkhead/bulkheadref5.reserved" = some 2 := by kernel_rfl
theorem g3 : PP.globalNamed "bulkhead/bulkheadref5.signs" = some 3 := by kernel_rfl
theorem g6 : PP.globalNamed "strconv.ErrSyntax" = some 6 := by kernel_rfl
theorem g7 : PP.globalNamed "strconv.ErrRange" = some 7 := by kernel_rfl
theorem lies_tab {w : World} {m : Mp} {g : Nat} {cs : List Value} {t : TypeId} {fz : Nat × Nat} (h : w.heap[g]? = some (.cells cs.toArray t fz)) (hall : cs.all atomic = true) :
    Lies m w (ro cs) ⟨g, 0, 1, sizeAt w g⟩ := by
  have hz : sizeAt w g = cs.length := by simp [sizeAt, h]
  have hv : ∀ i (a : i < cs.length), VR m cs[i] cs[i] := fun i a => .atom _ (List.all_eq_true.mp hall _ (List.getElem_mem a))
  refine ⟨rfl, by simp [hz, ro], fun _ => ⟨cs.toArray, t, fz, h, by simp [hz], fun i a b => ?_, fun hr => by simp [ro] at hr⟩, fun o ho => by simp [ro] at ho⟩
  have e : ∀ q, cs.toArray[0 + i]'q = cs[i]'a := fun q => by simp; rfl
  show VR m (cs[i]'a) (cs.toArray[0 + i]'_)
  rw [e]; exact hv i a
theorem lies_err {w : World} {m : Mp} {g b : Nat} {a : Addr} {t : TypeId} {fz : Nat × Nat} (h : w.heap[g]? = some (.cells #[.iface 151 (.pointer (some a))] t fz)) (hs : a.spot = none) (e : Nat) (hm : m b = some ⟨a.block, a.off, 1, e⟩) :
    Lies m w (ro [errV b]) ⟨g, 0, 1, sizeAt w g⟩ := by
  have hz : sizeAt w g = 1 := by simp [sizeAt, h]
  refine ⟨rfl, by simp [hz, ro], fun _ => ⟨_, t, fz, h, by simp [hz], fun i a1 b1 => ?_, fun hr => by simp [ro] at hr⟩, fun o ho => by simp [ro] at ho⟩
  have h0 : i = 0 := by simp [ro] at a1; exact a1
  subst h0
  have hp := VR.ptr (m := m) b 0 _ hm
  have ea : (⟨a.block, a.off + 0, none⟩ : Addr) = a := by cases a; simp_all
  rw [ea] at hp
  exact .iface 151 _ _ hp
theorem lies_GE {w : World} {a6 a7 : Addr} (h : Laid w a6 a7) (m : Mp) (m6 : m 14 = some ⟨a6.block, a6.off, 1, 0⟩) (m7 : m 15 = some ⟨a7.block, a7.off, 1, 0⟩) : ∀ b x, GE.get b = some x → b < 14 ∧ x.rw = false ∧ Lies m w x ⟨b, 0, 1, sizeAt w b⟩ := by
  obtain ⟨t0, f0, h0⟩ := var_heap g0 h.ascii
  obtain ⟨t1, f1, h1⟩ := var_heap g1 h.classes
  obtain ⟨t2, f2, h2⟩ := var_heap g2 h.words
  obtain ⟨t3, f3, h3⟩ := var_heap g3 h.signs
  obtain ⟨t6, f6, h6⟩ := var_heap g6 h.syn
  obtain ⟨t7, f7, h7⟩ := var_heap g7 h.rng
  intro b x hb
  rcases GE_get b x hb with ⟨rfl, rfl⟩ | ⟨rfl, rfl⟩ | ⟨rfl, rfl⟩ | ⟨rfl, rfl⟩ | ⟨rfl, rfl⟩ | ⟨rfl, rfl⟩
  · exact ⟨by decide, rfl, lies_tab h0 (by decide +kernel)⟩
  · exact ⟨by decide, rfl, lies_tab h1 (by decide +kernel)⟩
  · exact ⟨by decide, rfl, lies_tab h2 (by decide +kernel)⟩
  · exact ⟨by decide, rfl, lies_tab h3 (by decide +kernel)⟩
  · exact ⟨by decide, rfl, lies_err h6 (cell_spot h.cell6).1 0 m6⟩
  · exact ⟨by decide, rfl, lies_err h7 (cell_spot h.cell7).1 0 m7⟩
theorem Laid.rel {w : World} {a6 a7 : Addr} (h : Laid w a6 a7) : Rel (mTop w a6 a7) GE w := by
  refine ⟨fun b x hb => ?_, fun b x hb hrw => ?_, fun b L hm => ?_, fun b hb => ⟨?_, tabs_GE.fresh b hb⟩⟩
  · obtain ⟨q1, q2, q3⟩ := lies_GE h (mTop w a6 a7) rfl rfl b x hb
    exact ⟨_, by unfold mTop; rw [if_pos q1], q3⟩
  · obtain ⟨_, q2, _⟩ := lies_GE h (mTop w a6 a7) rfl rfl b x hb
    rw [q2] at hrw; cases hrw
  · unfold mTop at hm
    have hs := h.size
    split at hm
    · obtain rfl := Option.some.inj hm; simp only; omega
    · split at hm
      · obtain rfl := Option.some.inj hm; exact (cell_spot h.cell6).2
      · split at hm
        · obtain rfl := Option.some.inj hm; exact (cell_spot h.cell7).2
        · cases hm
  · have : 16 ≤ b := hb
    unfold mTop
    rw [if_neg (by omega), if_neg (by omega), if_neg (by omega)]

theorem gl_top (w : World) (a6 a7 : Addr) : Gl PP (mTop w a6 a7) := fun g hg => by
  rw [globals_size] at hg
  exact ⟨⟨g, 0, 1, sizeAt w g⟩, by simp [mTop, hg], rfl, rfl⟩

/-- What is kept is what the rows ask. -/
theorem below_of {m : Mp} {H : Heap} {w w' : World} (k : Keep m H w w') (hno : ∀ c, ¬ Owns m H c) : Go.RowKit.Below w.heap.size w w' := ⟨k.os, k.tape, k.output, k.size, fun c hc => k.block c hc (hno c)⟩
theorem heap_size {W : World} (hsh : W.ShapedOpen PP) : 14 ≤ W.heap.size := by
  have h12 : ((((begin PP (fun _ _ => 0) default).world.heap[13]?).bind Obj.row?).isSome) = true := by kernel_rfl
  obtain ⟨⟨zero, t⟩, hz⟩ := Option.isSome_iff_exists.mp h12
  obtain ⟨cs, hcs, _⟩ := hsh.1 13 zero t (by rw [globals_size]; decide) hz
  have := (Array.getElem?_eq_some_iff.mp hcs).1
  omega
theorem star : "*" ++ "errors.errorString" = "*errors.errorString" := by decide
theorem row151 (u : TypeId) (h : PP.typeName? 3 u = some "*errors.errorString") : u = 151 :=
  typeName_ptr_named (nm := "errors.errorString") (by rw [star]; kernel_rfl) (by kernel_rfl) (by decide) u (by rw [star]; exact h)
end Go.Am
