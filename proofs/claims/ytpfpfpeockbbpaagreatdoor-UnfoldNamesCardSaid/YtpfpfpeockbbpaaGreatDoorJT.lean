/- From the listed tables to the small heap. -/
import Derived.Test.YtpfpfpeockbbpaaGreatDoorJX
import Derived.Stop.LaidErr
import Derived.Below
import Derived.MakeChecks
import Derived.Lib.LaidTab
import Derived.Test.YtpfpfpeockbbpaaGreatDoorRows
import Derived.LaidLaws
namespace Go.Am
open Go.Proofs Go.Proofs.YtpfpfpeockbbpaaGreatDoor

noncomputable def mTop : Mp := fun b => if b < 13 then some ⟨b, 0, 1, szG PP b⟩ else none

theorem var_heap {P : Program} {w : World} {n : String} {g : Nat} {cs : Array Value} (hg : P.globalNamed n = some g) (h : w.var? P n = some cs) : ∃ t fz, w.heap[g]? = some (.cells cs t fz) := by
  unfold World.var? at h
  rw [hg] at h
  simp only [Option.bind_some] at h
  split at h
  · rename_i cs' t fz he
    obtain rfl := Option.some.inj h
    exact ⟨t, fz, he⟩
  · cases h

structure Laid (w : World) : Prop where
  size : 13 ≤ w.heap.size
  ranks : w.var? PP "bulkhead/render.ranks" = some (ranksL.map fun z => Value.int .u8 z).toArray
  ascii : w.var? PP "strings.asciiSpace" = some (asciiL.map fun z => Value.int .u8 z).toArray
  classes : w.var? PP "bulkhead/scan.classes" = some (classesL.map fun z => Value.int .u8 z).toArray
  pow : w.var? PP "internal/strconv.uint64pow10" = some (powL.map fun z => Value.int .u64 z).toArray

theorem vn0 : PP.globalNamed "bulkhead/scan.classes" = some 0 := by kernel_rfl
theorem vn2 : PP.globalNamed "strings.asciiSpace" = some 2 := by kernel_rfl
theorem vn4 : PP.globalNamed "internal/strconv.uint64pow10" = some 4 := by kernel_rfl
theorem vn5 : PP.globalNamed "bulkhead/render.ranks" = some 5 := by kernel_rfl

theorem lies_tab {w : World} {m : Mp} {g : Nat} {cs : List Value} {t : TypeId} {fz : Nat × Nat} (h : w.heap[g]? = some (.cells cs.toArray t fz)) (hsz : cs.length = szG PP g) (hall : cs.all atomic = true) :
    Lies m w ⟨cs, false, 1, none, none⟩ ⟨g, 0, 1, szG PP g⟩ := by
  have hv : ∀ i (a : i < cs.length), VR m cs[i] cs[i] := fun i a => .atom _ (List.all_eq_true.mp hall _ (List.getElem_mem a))
  refine ⟨rfl, by simp [hsz], fun _ => ⟨cs.toArray, t, fz, h, by simp [hsz], fun i a b => ?_, fun hr => by simp at hr⟩, fun o ho => by simp at ho, fun t n e => by cases e⟩
  simpa using hv i a

theorem Laid.rel {w : World} (h : Laid w) : Rel mTop GG w := by
  obtain ⟨t0, f0, h0⟩ := var_heap vn0 h.classes
  obtain ⟨t2, f2, h2⟩ := var_heap vn2 h.ascii
  obtain ⟨t4, f4, h4⟩ := var_heap vn4 h.pow
  obtain ⟨t5, f5, h5⟩ := var_heap vn5 h.ranks
  refine ⟨fun b x hb => ?_, fun b x hb hrw => ?_, fun b L hm => ?_, fun b hb => ⟨?_, tabs_GG.fresh b hb⟩⟩
  · rcases GG_get b x hb with ⟨rfl, rfl⟩ | ⟨rfl, rfl⟩ | ⟨rfl, rfl⟩ | ⟨rfl, rfl⟩
    · exact ⟨_, rfl, lies_tab h0 (by kernel_rfl) classes_plain⟩
    · exact ⟨_, rfl, lies_tab h2 (by kernel_rfl) ascii_plain⟩
    · exact ⟨_, rfl, lies_tab h4 (by kernel_rfl) pow_plain⟩
    · exact ⟨_, rfl, lies_tab h5 (by kernel_rfl) ranks_plain⟩
  · rcases GG_get b x hb with ⟨_, rfl⟩ | ⟨_, rfl⟩ | ⟨_, rfl⟩ | ⟨_, rfl⟩ <;> simp [u8s, u64s] at hrw
  · unfold mTop at hm
    have hs := h.size
    split at hm
    · obtain rfl := Option.some.inj hm; simp only; omega
    · cases hm
  · have : 13 ≤ b := hb
    unfold mTop
    rw [if_neg (by omega)]

theorem gl_top : Gl PP mTop := fun g hg => by
  rw [globals_size] at hg
  exact ⟨⟨g, 0, 1, szG PP g⟩, by simp [mTop, hg], rfl, rfl, rfl⟩

/-- What is kept is what the rows ask. -/
theorem below_of {m : Mp} {H : Heap} {w w' : World} (k : Keep m H w w') (hno : ∀ c, ¬ Owns m H c) : Go.RowKit.Below w.heap.size w w' := ⟨k.os, k.tape, k.output, k.size, fun c hc => k.block c hc (hno c)⟩

theorem laid_of {W : World} {l : List (String × DataW Unit)} (hl : l = Rows.unfoldNamesRow.laid) (hL' : laidMetH PP l W) (hsh : W.ShapedOpen PP) : Laid W := by
  subst hl
  have hL : laidMet PP Rows.unfoldNamesRow.laid W := by
    rw [MakeChecks.laidMetH_plain _ _ _ (by kernel_rfl)] at hL'
    exact hL'
  have hP := hL.tail.tail
  have hA := hP.tail.tail.tail.tail.tail
  have hC := hA.tail
  have hR := hC.tail
  have eP : (Rows.laid_internal_strconv_uint64pow10 : DataW Unit) = Lib.tabData .u64 powL := by kernel_rfl
  have eA : (Rows.laid_strings_asciiSpace : DataW Unit) = Lib.tabData .u8 asciiL := by kernel_rfl
  have eC : (Rows.laid_bulkhead_scan_classes : DataW Unit) = Lib.tabData .u8 classesL := by kernel_rfl
  have eR : (Rows.laid_bulkhead_render_ranks : DataW Unit) = Lib.tabData .u8 ranksL := by kernel_rfl
  rw [eP] at hP
  rw [eA] at hA
  rw [eC] at hC
  rw [eR] at hR
  have tP : Lib.TabIs PP W "internal/strconv.uint64pow10" .u64 powL := Lib.tabIs_of_head vn4 (by kernel_rfl) Tryz.underlying307 Tryz.underlying37 (by kernel_rfl) (by kernel_rfl) hP
  have tA : Lib.TabIs PP W "strings.asciiSpace" .u8 asciiL := Lib.tabIs_of_head vn2 (by kernel_rfl) Tryz.underlying251 Tryz.underlying5 (by kernel_rfl) (by kernel_rfl) hA
  have tC : Lib.TabIs PP W "bulkhead/scan.classes" .u8 classesL := Lib.tabIs_of_head vn0 (by kernel_rfl) Tryz.underlying216 Tryz.underlying5 (by kernel_rfl) (by kernel_rfl) hC
  have tR : Lib.TabIs PP W "bulkhead/render.ranks" .u8 ranksL := Lib.tabIs_of_head vn5 (by kernel_rfl) Tryz.underlying315 Tryz.underlying5 (by kernel_rfl) (by kernel_rfl) hR
  refine ⟨?_, tR, tA, tC, tP⟩
  have h10 : ((((begin PP (fun _ _ => 0) default).world.heap[12]?).bind Obj.row?).isSome) = true := by kernel_rfl
  obtain ⟨⟨zero, t⟩, hz⟩ := Option.isSome_iff_exists.mp h10
  obtain ⟨cs, hcs, _⟩ := hsh.1 12 zero t (by rw [globals_size]; decide) hz
  have := (Array.getElem?_eq_some_iff.mp hcs).1
  omega

/-- A closed run at the tables is a run in every world that holds them. -/
theorem top_run {K : Kf} (hK : KSnd PP K) {f : FuncId} {args : Array Value} {v : Value} (h : chkPure (K f args GG) v = true) (ha : args.toList.all atomic = true) (hv : atomic v = true) {W : World} (hl : Laid W) :
    Calls PP f args W fun e w' => e = .returned v ∧ Go.RowKit.Below W.heap.size W w' := by
  obtain ⟨Hs, hr⟩ := chkPure_run h
  refine (hK f args GG _ Hs hr _ W args hl.rel gl_top (VRs.of_atomic _ ha).toArray).mono fun e w' ⟨m', h1, h2⟩ => ?_
  refine ⟨?_, below_of h2.keep fun c => tabs_GG.owns _ c⟩
  cases e with
  | returned v' => rw [VR.eq_of_atomic (show VR m' v v' from h1) hv]
  | panicked c => exact h1.elim
  | _ => exact h1.elim
end Go.Am
/- That no place is met twice, told by a row of bits. -/
namespace Go.Am

def keyOf : MemPlace → Option Nat
  | .cell b off => if off < 4096 then some (b * 4096 + off) else none
  | .map _ => none
def seenB : List MemPlace → Nat → Bool
  | [], _ => true
  | p :: r, S => match keyOf p with | some k => !(S.testBit k) && seenB r (S ||| 2 ^ k) | none => false

theorem key_inj {p q : MemPlace} {k : Nat} (h : keyOf p = some k) (h' : keyOf q = some k) : p = q := by
  unfold keyOf at h h'
  split at h
  · rename_i b off
    split at h
    · rename_i ho
      split at h'
      · rename_i b' off'
        split at h'
        · rename_i ho'
          simp only [Option.some.injEq] at h h'
          have e1 : b = b' := by omega
          have e2 : off = off' := by omega
          rw [e1, e2]
        · cases h'
      · cases h'
    · cases h
  · cases h

theorem seenB_ok : ∀ {l : List MemPlace} {S : Nat}, seenB l S = true → l.Nodup ∧ ∀ p ∈ l, ∃ k, keyOf p = some k ∧ S.testBit k = false
  | [], _, _ => ⟨List.nodup_nil, fun p h => by cases h⟩
  | p :: r, S, h => by
    unfold seenB at h
    split at h
    · rename_i k hk
      simp only [Bool.and_eq_true, Bool.not_eq_true'] at h
      obtain ⟨h1, h2⟩ := seenB_ok h.2
      refine ⟨List.nodup_cons.2 ⟨fun hp => ?_, h1⟩, fun q hq => ?_⟩
      · obtain ⟨k', e1, e2⟩ := h2 p hp
        obtain rfl := Option.some.inj (hk.symm.trans e1)
        simp [Nat.testBit_or, Nat.testBit_two_pow_self] at e2
      · rcases List.mem_cons.1 hq with rfl | hq
        · exact ⟨k, hk, h.1⟩
        · obtain ⟨k', e1, e2⟩ := h2 q hq
          refine ⟨k', e1, ?_⟩
          simp only [Nat.testBit_or, Bool.or_eq_false_iff] at e2
          exact e2.1
    · cases h

theorem laidMet_of_bits {P : Program} {w : World} {l : List (String × DataW Unit)} (fuel : Nat) (h : (DataW.laidRun P w fuel (l.map (·.1))).map (·.1) = some l)
    (hn : (DataW.laidRun P w fuel (l.map (·.1))).map (fun x => seenB x.2 0) = some true) (hr : (DataW.laidRun P w fuel (l.map (·.1))).map (fun x => laidRowsB P w x.2) = some true) : laidMet P l w := by
  cases hx : DataW.laidRun P w fuel (l.map (·.1)) with
  | none => simp [hx] at h
  | some x =>
    obtain ⟨l', ps⟩ := x
    simp only [hx, Option.map_some, Option.some.injEq] at h hr hn
    subst h
    exact laidMet_of_run fuel hx (decide_eq_true (seenB_ok hn).1) hr
end Go.Am
