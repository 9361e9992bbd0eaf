/- The heap with a text's row; what the law on places answers in every world. -/
import Derived.Test.YtmliebodadgpbaaGreatDoorLVa
import Derived.Test.YtmliebodadgpbaaGreatDoorLT
namespace Go.Am
open Go.Proofs

def row8 (zs : List UInt8) : Blk := ⟨zs.map fun u => .int .u8 (u.toNat : Int), false, 1, none⟩
def GA (zs : List UInt8) : Heap := { GG.set 10 (row8 zs) with next := 11 }
theorem GA_get (zs : List UInt8) (b : Nat) : (GA zs).get b = if b = 10 then some (row8 zs) else GG.get b := by
  rw [← Heap.get_set]; rfl
theorem fresh_GG : Fresh GG := fun b hb => tabs_GG.fresh b hb
theorem GA_ext (zs : List UInt8) : Ext GG (GA zs) := by
  refine ⟨by show 10 ≤ 11; omega, fun b x h => ?_, fun b hb => ?_⟩
  · rw [GA_get]
    by_cases e : b = 10
    · subst e
      rw [fresh_GG 10 (Nat.le_refl _)] at h; cases h
    · rw [if_neg e]; exact h
  · have hb' : 11 ≤ b := hb
    rw [GA_get, if_neg (by omega)]
    exact fresh_GG b (by show 10 ≤ b; omega)
theorem GA_row {zs : List UInt8} {n : Nat} (hn : n ≤ zs.length) (hz : zs.length < 9223372036854775808) : Brow (GA zs) (some ⟨10, 0, none⟩) (zs.take n) := by
  refine ⟨fun b hb => ?_, (fun e => by cases e), by simp; omega⟩
  obtain rfl := Option.some.inj hb
  refine ⟨row8 zs, ?_, rfl, ?_, ?_⟩
  · have : (GA zs).get 10 = some (row8 zs) := by rw [GA_get, if_pos rfl]
    simp [look, this]; rfl
  · simp [row8]; omega
  · simp [row8, List.map_take]

/-- A row of bytes as it lies in a world. -/
structure InRow (w : World) (a : Addr) (zs : List UInt8) : Prop where
  blk : ∃ cs t fz, w.heap[a.block]? = some (.cells cs t fz)
  cell : ∀ i (h : i < zs.length), w.cell? (a.add i) = some (.int .u8 (zs[i].toNat : Int))

def mA (w : World) (a : Addr) (n : Nat) : Mp := fun b => if b < 10 then some ⟨b, 0, 1, sizeAt w b⟩ else if b = 10 then some ⟨a.block, if n = 0 then 0 else a.off, 1, sizeAt w a.block⟩ else none
theorem cell_at {w : World} {a : Addr} {i : Nat} {v : Value} {cs : Array Value} {t : TypeId} {fz : Nat × Nat} (hb : w.heap[a.block]? = some (.cells cs t fz)) (h : w.cell? (a.add i) = some v) (hs : a.spot = none) : cs[a.off + i]? = some v := by
  obtain ⟨b, off, spot⟩ := a
  simp only at hs hb
  subst hs
  rw [Addr.add_lit] at h
  simpa [World.cell?, hb] using h
theorem InRow.spot {w : World} {a : Addr} {zs : List UInt8} (h : InRow w a zs) (hn : zs.length ≠ 0) : a.spot = none := by
  have := World.cell?_spot (h.cell 0 (by omega))
  simpa [Addr.add] using this
theorem Laid.relA {w : World} (h : Laid w) {a : Addr} {zs : List UInt8} (hr : InRow w a zs) : Rel (mA w a zs.length) (GA zs) w := by
  obtain ⟨t1, f1, h1⟩ := var_heap g1 h.classes
  obtain ⟨t2, f2, h2⟩ := var_heap g2 h.ascii
  obtain ⟨cs, t, fz, hb⟩ := hr.blk
  have hz : sizeAt w a.block = cs.size := by simp [sizeAt, hb]
  have cases3 : ∀ b x, (GA zs).get b = some x → (b = 1 ∧ x = ⟨classesL.map fun z => .int .u8 z, false, 1, none⟩) ∨ (b = 2 ∧ x = ⟨asciiV, false, 1, none⟩) ∨ (b = 10 ∧ x = row8 zs) := fun b x hx => by
    rw [GA_get] at hx
    by_cases e : b = 10
    · rw [if_pos e] at hx; exact .inr (.inr ⟨e, (Option.some.inj hx).symm⟩)
    · rw [if_neg e] at hx
      rcases GG_get b x hx with h | h
      · exact .inl h
      · exact .inr (.inl h)
  refine ⟨fun b x hx => ?_, fun b x hx hrw => ?_, fun b L hm => ?_, fun b hb => ⟨?_, (GA_ext zs).fresh b hb⟩⟩
  · rcases cases3 b x hx with ⟨rfl, rfl⟩ | ⟨rfl, rfl⟩ | ⟨rfl, rfl⟩
    · refine ⟨_, rfl, lies_tab h1 fun i a => .atom _ ?_⟩
      have hall : (classesL.map fun z => Value.int .u8 z).all atomic = true := by decide +kernel
      exact List.all_eq_true.mp hall _ (List.getElem_mem a)
    · refine ⟨_, rfl, lies_tab h2 fun i a => .atom _ ?_⟩
      have hall : asciiV.all atomic = true := by decide +kernel
      exact List.all_eq_true.mp hall _ (List.getElem_mem a)
    · have at_ : ∀ i (hi : i < zs.length), cs[(if zs.length = 0 then 0 else a.off) + i]? = some (.int .u8 (zs[i].toNat : Int)) := fun i hi => by
        have hn : zs.length ≠ 0 := by omega
        rw [if_neg hn]
        exact cell_at hb (hr.cell i hi) (hr.spot hn)
      refine ⟨_, rfl, rfl, ?_, fun _ => ⟨cs, t, fz, hb, hz.symm, fun i hi hj => ?_, fun hrw => by simp [row8] at hrw⟩, fun o ho => by simp [row8] at ho⟩
      · show (if zs.length = 0 then 0 else a.off) + (row8 zs).cells.length ≤ sizeAt w a.block
        have hlen : (row8 zs).cells.length = zs.length := by simp [row8]
        rw [hlen, hz]
        by_cases hn : zs.length = 0
        · rw [if_pos hn]; omega
        · have := (Array.getElem?_eq_some_iff.mp (at_ (zs.length - 1) (by omega))).1
          omega
      · have hi' : i < zs.length := by simpa [row8] using hi
        have e := at_ i hi'
        have e2 : cs[(if zs.length = 0 then 0 else a.off) + i] = .int .u8 (zs[i].toNat : Int) := by
          rw [Array.getElem?_eq_getElem hj] at e
          exact Option.some.inj e
        have e1 : (row8 zs).cells[i] = .int .u8 (zs[i].toNat : Int) := by simp [row8]
        show VR _ (row8 zs).cells[i] cs[(if zs.length = 0 then 0 else a.off) + i]
        rw [e1, e2]
        exact .atom _ rfl
  · rcases cases3 b x hx with ⟨_, rfl⟩ | ⟨_, rfl⟩ | ⟨_, rfl⟩ <;> simp [row8] at hrw
  · unfold mA at hm
    have hs := h.size
    split at hm
    · obtain rfl := Option.some.inj hm; simp only; omega
    · split at hm
      · obtain rfl := Option.some.inj hm
        exact (Array.getElem?_eq_some_iff.mp hb).1
      · cases hm
  · have : 11 ≤ b := hb
    unfold mA
    rw [if_neg (by omega), if_neg (by omega)]
theorem gl_A (w : World) (a : Addr) (n : Nat) : Gl PP (mA w a n) := fun g hg => by
  rw [globals_size] at hg
  exact ⟨⟨g, 0, 1, sizeAt w g⟩, by simp [mA, hg], rfl, rfl⟩
theorem noOwn_A {m : Mp} {zs : List UInt8} (c : Nat) : ¬ Owns m (GA zs) c := by
  rintro ⟨b, x, L, h, hrw, _⟩
  rw [GA_get] at h
  by_cases e : b = 10
  · rw [if_pos e] at h
    obtain rfl := Option.some.inj h
    simp [row8] at hrw
  · rw [if_neg e] at h
    rcases GG_get b x h with ⟨_, rfl⟩ | ⟨_, rfl⟩ <;> simp at hrw

theorem slice_VR {w : World} {a : Addr} {zs : List UInt8} {n : Nat} (hr : InRow w a zs) (hn : n ≤ zs.length) (hs : a.spot = none) : VR (mA w a zs.length) (.slice (some ⟨10, 0, none⟩) n zs.length) (.slice (some a) n zs.length) := by
  obtain ⟨cs, t, fz, hb⟩ := hr.blk
  refine .slice 10 0 _ a n zs.length zs.length (show mA w a zs.length 10 = some _ from rfl) hn (Nat.le_refl _) rfl hs ?_
  by_cases h0 : zs.length = 0
  · exact .inl h0
  · refine .inr ⟨by simp [h0], ?_⟩
    have e := cell_at hb (hr.cell (zs.length - 1) (by omega)) hs
    have := (Array.getElem?_eq_some_iff.mp e).1
    show a.off + zs.length * 1 ≤ sizeAt w a.block
    have hz : sizeAt w a.block = cs.size := by simp [sizeAt, hb]
    omega

theorem places_sound (N : Nat) : KSnd PP (topF PP okf XX N hk4 3 4 pr4) :=
  topF_sound goodAll XX_sound hookKn_sound mixed 3 4 (fun _ _ => hk4_none _ _ _ (by decide)) pr4
theorem places_calls {W : World} (hl : Laid W) {a : Addr} {zs : List UInt8} {n : Nat} (hr : InRow W a zs) (hn : n ≤ zs.length) (hs : a.spot = none) (hz : zs.length < 9223372036854775808) (k : Int) :
    Calls PP 4 #[.slice (some a) n zs.length, .int .i64 k] W fun e w' => e = .returned (.bool true) ∧ Go.RowKit.Below W.heap.size W w' := by
  have hlen : (zs.take n).length = n := by simp; omega
  have hrun := places_run (N := n + 11) (d := 0) (c := zs.length) (GA_row hn hz) (by omega) (fun e => by cases e) (GA_ext zs).fresh (GA_ext zs) k (by omega)
  obtain ⟨Hs, hrun⟩ := hrun
  rw [hlen] at hrun
  refine (places_sound _ _ _ _ _ Hs hrun _ W _ (hl.relA hr) (gl_A W a zs.length) (VRs.cons (slice_VR hr hn hs) (VRs.cons (.atom _ rfl) (VRs.nil _))).toArray).mono fun e w' ⟨m', h1, h2⟩ => ?_
  refine ⟨?_, below_of h2.keep fun c => noOwn_A c⟩
  cases e with
  | returned v' => rw [VR.eq_of_atomic (show VR m' (.bool true) v' from h1) rfl]
  | panicked c => exact h1.elim
  | _ => exact h1.elim
theorem places_calls_nil {W : World} (hl : Laid W) (k : Int) :
    Calls PP 4 #[.slice none 0 0, .int .i64 k] W fun e w' => e = .returned (.bool true) ∧ Go.RowKit.Below W.heap.size W w' := by
  have hb : Brow GG none [] := ⟨(fun b e => by cases e), fun _ => rfl, by decide⟩
  obtain ⟨Hs, hrun⟩ := places_run (N := 11) (d := 0) (c := 0) hb (Nat.le_refl _) (fun _ => rfl) fresh_GG ⟨Nat.le_refl _, fun _ _ h => h, fresh_GG⟩ k (by decide)
  refine (places_sound _ _ _ _ _ Hs hrun _ W _ hl.rel (gl_top W) (VRs.cons (.atom _ rfl) (VRs.cons (.atom _ rfl) (VRs.nil _))).toArray).mono fun e w' ⟨m', h1, h2⟩ => ?_
  refine ⟨?_, below_of h2.keep fun c => tabs_GG.owns _ c⟩
  cases e with
  | returned v' => rw [VR.eq_of_atomic (show VR m' (.bool true) v' from h1) rfl]
  | panicked c => exact h1.elim
  | _ => exact h1.elim
end Go.Am
