/- From the listed tables to the small heap. -/
import Derived.Test.YtohmeeglehopiaaDoorDX
import Derived.Stop.LaidErr
import Derived.Below
import Derived.MakeChecks
import Derived.Lib.LaidTab
import Derived.Test.YtohmeeglehopiaaDoorRows
import Derived.Test.YtohmeeglehopiaaDoorS5
namespace Go.Am
open Go.Proofs Go.Proofs.YtohmeeglehopiaaDoor

def sizeAt (w : World) (c : Nat) : Nat := match w.heap[c]? with | some (.cells cs _ _) => cs.size | _ => 0
def mTop (w : World) : Mp := fun b => if b < 13 then some ⟨b, 0, 1, sizeAt w b⟩ else none

theorem var_heap {P : Program} {w : World} {n : String} {g : Nat} {cs : Array Value} (hg : P.globalNamed n = some g) (h : w.var? P n = some cs) : ∃ t fz, w.heap[g]? = some (.cells cs t fz) := by
  unfold World.var? at h
  rw [hg] at h
  simp only [Option.bind_some] at h
  split at h
  · rename_i cs' t fz he
    obtain rfl := Option.some.inj h
    exact ⟨t, fz, he⟩
  · cases h

structure Laid (w : World) : Prop where
  size : 13 ≤ w.heap.size
  classes : w.var? PP "bulkhead/scan.classes" = some (classesL.map fun z => Value.int .u8 z).toArray
  ascii : w.var? PP "strings.asciiSpace" = some asciiV.toArray

theorem g1 : PP.globalNamed "bulkhead/scan.classes" = some 1 := by kernel_rfl
theorem g2 : PP.globalNamed "strings.asciiSpace" = some 2 := by kernel_rfl
theorem lies_tab {w : World} {m : Mp} {g : Nat} {cs : List Value} {t : TypeId} {fz : Nat × Nat} (h : w.heap[g]? = some (.cells cs.toArray t fz)) (hv : ∀ i (a : i < cs.length), VR m cs[i] cs[i]) :
    Lies m w ⟨cs, false, 1, none⟩ ⟨g, 0, 1, sizeAt w g⟩ := by
  have hz : sizeAt w g = cs.length := by simp [sizeAt, h]
  refine ⟨rfl, by simp [hz], fun _ => ⟨cs.toArray, t, fz, h, by simp [hz], fun i a b => ?_, fun hr => by simp at hr⟩, fun o ho => by simp at ho⟩
  simpa using hv i a

theorem GG_get : ∀ b x, GG.get b = some x → (b = 1 ∧ x = ⟨classesL.map fun z => .int .u8 z, false, 1, none⟩) ∨ (b = 2 ∧ x = ⟨asciiV, false, 1, none⟩) := by
  intro b x hb
  unfold GG at hb
  rw [Heap.get_set] at hb
  by_cases e2 : b = 2
  · rw [if_pos e2] at hb; exact .inr ⟨e2, (Option.some.inj hb).symm⟩
  · rw [if_neg e2, Heap.get_set] at hb
    by_cases e1 : b = 1
    · rw [if_pos e1] at hb; exact .inl ⟨e1, (Option.some.inj hb).symm⟩
    · rw [if_neg e1] at hb
      have : (⟨.nil, 13⟩ : Heap).get b = none := rfl
      rw [this] at hb; simp at hb

theorem Laid.rel {w : World} (h : Laid w) : Rel (mTop w) GG w := by
  obtain ⟨t1, f1, h1⟩ := var_heap g1 h.classes
  obtain ⟨t2, f2, h2⟩ := var_heap g2 h.ascii
  refine ⟨fun b x hb => ?_, fun b x hb hrw => ?_, fun b L hm => ?_, fun b hb => ⟨?_, tabs_GG.fresh b hb⟩⟩
  · rcases GG_get b x hb with ⟨rfl, rfl⟩ | ⟨rfl, rfl⟩
    · refine ⟨_, rfl, lies_tab h1 fun i a => .atom _ ?_⟩
      have hall : (classesL.map fun z => Value.int .u8 z).all atomic = true := by decide +kernel
      exact List.all_eq_true.mp hall _ (List.getElem_mem a)
    · refine ⟨_, rfl, lies_tab h2 fun i a => .atom _ ?_⟩
      have hall : asciiV.all atomic = true := by decide +kernel
      exact List.all_eq_true.mp hall _ (List.getElem_mem a)
  · rcases GG_get b x hb with ⟨_, rfl⟩ | ⟨_, rfl⟩ <;> simp at hrw
  · unfold mTop at hm
    have hs := h.size
    split at hm
    · obtain rfl := Option.some.inj hm; simp only; omega
    · cases hm
  · have : 13 ≤ b := hb
    unfold mTop
    rw [if_neg (by omega)]

theorem gl_top (w : World) : Gl PP (mTop w) := fun g hg => by
  rw [globals_size] at hg
  exact ⟨⟨g, 0, 1, sizeAt w g⟩, by simp [mTop, hg], rfl, rfl⟩

/-- What is kept is what the rows ask. -/
theorem below_of {m : Mp} {H : Heap} {w w' : World} (k : Keep m H w w') (hno : ∀ c, ¬ Owns m H c) : Go.RowKit.Below w.heap.size w w' := ⟨k.os, k.tape, k.output, k.size, fun c hc => k.block c hc (hno c)⟩

theorem laid_of {W : World} {l : List (String × DataW Unit)} (hl : l = Rows.scanBoundRow.laid) (hL' : laidMetH PP l W) (hsh : W.ShapedOpen PP) : Laid W := by
  subst hl
  have hL : laidMet PP Rows.scanBoundRow.laid W := by
    rw [MakeChecks.laidMetH_plain _ _ _ (by kernel_rfl)] at hL'
    exact hL'
  have hA := hL.tail.tail.tail.tail.tail.tail.tail
  have hC := hA.tail
  have eA : (Rows.laid_strings_asciiSpace : DataW Unit) = Lib.tabData .u8 asciiL := by kernel_rfl
  have eC : (Rows.laid_bulkhead_scan_classes : DataW Unit) = Lib.tabData .u8 classesL := by kernel_rfl
  rw [eA] at hA
  rw [eC] at hC
  have tA : Lib.TabIs PP W "strings.asciiSpace" .u8 asciiL := Lib.tabIs_of_head g2 (by kernel_rfl) Tryd.underlying68 Tryd.underlying5 (by kernel_rfl) (by kernel_rfl) hA
  have tC : Lib.TabIs PP W "bulkhead/scan.classes" .u8 classesL := Lib.tabIs_of_head g1 (by kernel_rfl) Tryd.underlying63 Tryd.underlying5 (by kernel_rfl) (by kernel_rfl) hC
  refine ⟨?_, tC, tA⟩
  have h12 : ((((begin PP (fun _ _ => 0) default).world.heap[12]?).bind Obj.row?).isSome) = true := by kernel_rfl
  obtain ⟨⟨zero, t⟩, hz⟩ := Option.isSome_iff_exists.mp h12
  obtain ⟨cs, hcs, _⟩ := hsh.1 12 zero t (by rw [globals_size]; decide) hz
  have := (Array.getElem?_eq_some_iff.mp hcs).1
  omega

/-- A closed run at the tables is a run in every world that holds them. -/
theorem top_run {K : Kf} (hK : KSnd PP K) {f : FuncId} {args : Array Value} {v : Value} (h : chkPure (K f args GG) v = true) (ha : args.toList.all atomic = true) (hv : atomic v = true) {W : World} (hl : Laid W) :
    Calls PP f args W fun e w' => e = .returned v ∧ Go.RowKit.Below W.heap.size W w' := by
  obtain ⟨Hs, hr⟩ := chkPure_run h
  refine (hK f args GG _ Hs hr _ W args hl.rel (gl_top W) (VRs.of_atomic _ ha).toArray).mono fun e w' ⟨m', h1, h2⟩ => ?_
  refine ⟨?_, below_of h2.keep fun c => tabs_GG.owns _ c⟩
  cases e with
  | returned v' => rw [VR.eq_of_atomic (show VR m' v v' from h1) hv]
  | panicked c => exact h1.elim
  | _ => exact h1.elim
end Go.Am
/- The law on the greatest length: what it answers in every world. -/
open Go.Proofs
namespace Go.Am
theorem goodAllG : GoodG PP okC prS := by
  intro f fn c ho hf hc
  have go : ∀ g, PP.funcs[f]? = some g → goodG PP (prS f) g.ntmps (codeOf g) = true → goodG PP (prS f) fn.ntmps c = true := fun g hg h => by
    rw [hf] at hg
    obtain rfl := Option.some.inj hg
    simpa [codeOf, hc] using h
  simp only [okC, Bool.or_eq_true, beq_iff_eq] at ho
  rcases ho with ((((((((( rfl | rfl) | rfl) | rfl) | rfl) | rfl) | rfl) | rfl) | rfl) | rfl)
  · exact go _ Tryd.func26 (by decide +kernel)
  · exact go _ Tryd.func38 (by decide +kernel)
  · exact go _ Tryd.func24 (by decide +kernel)
  · exact go _ Tryd.func25 (by decide +kernel)
  · exact go _ Tryd.func40 (by decide +kernel)
  · exact go _ Tryd.func42 (by decide +kernel)
  · exact go _ Tryd.func56 (by decide +kernel)
  · exact go _ Tryd.func9 (by decide +kernel)
  · exact go _ Tryd.func4 (by decide +kernel)
  · exact go _ Tryd.func11 (by decide +kernel)
theorem bound_sound (N : Nat) : KSnd PP (CG N hkD 6) := callG_sound goodAllG XX_sound hkD_sound mixed 6
theorem bound_calls {W : World} (hl : Laid W) (n kind : Int) : Calls PP 4 #[.int .i64 n, .int .i64 kind] W fun e w' => e = .returned (.bool true) ∧ Go.RowKit.Below W.heap.size W w' := by
  obtain ⟨Hs, hrun⟩ := bound_run (N := 1100001) (d := 0) (by decide) (G := GG) ⟨Nat.le_refl _, fun _ _ h => h, fresh_GG⟩ n kind
  refine (bound_sound 1100001 _ _ _ _ Hs hrun _ W _ hl.rel (gl_top W) (VRs.cons (.atom _ rfl) (VRs.cons (.atom _ rfl) (VRs.nil _))).toArray).mono fun e w' ⟨m', h1, h2⟩ => ?_
  refine ⟨?_, below_of h2.keep fun c => tabs_GG.owns _ c⟩
  cases e with
  | returned v' => rw [VR.eq_of_atomic (show VR m' (.bool true) v' from h1) rfl]
  | panicked c => exact h1.elim
  | _ => exact h1.elim
end Go.Am
