/- The hook for the cut of the reserved words. -/
import Derived.Test.YtohmeeglehopiaaDoorKB
import Derived.Test.YtohmeeglehopiaaDoorKSh
namespace Go.Am

/-- Block 2 holds the table of blanks. -/
def asciiV : List Value := asciiL.map fun z => .int .u8 z
def asciiOk (H : Heap) : Bool := match H.get 2 with | some y => veqs y.cells asciiV && y.o.isNone | none => false
def wordsV : List Value := wordsL.map strV
def hookF : Hook := fun f args H =>
  cond (Nat.beq f 36) (match args.toList with
    | [.string s] => cond (decide (s.data.toList = wordsB)) (cond (asciiOk H) (some (some (.ret (.slice (some ⟨H.next, 0, none⟩) 50 50), H.alloc 1 wordsV))) none) none
    | _ => none) none

theorem asciiL_at : ∀ c : Nat, c < 256 → asciiV[c]? = some (.int .u8 (if Lib.isSp (UInt8.ofNat c) then 1 else 0)) := by
  have h : (List.range 256).all (fun c => match asciiV[c]? with | some (.int .u8 n) => decide (n = if Lib.isSp (UInt8.ofNat c) then 1 else 0) | _ => false) = true := by decide +kernel
  intro c hc
  have := List.all_eq_true.mp h c (List.mem_range.mpr hc)
  revert this
  generalize asciiV[c]? = z
  intro hz
  split at hz
  · simp only [decide_eq_true_eq] at hz; rw [hz]
  · simp at hz

theorem words_ascii : ∀ (j : Nat) b, wordsB[j]? = some b → b.toNat < 128 := by
  have h : wordsB.all (fun b => decide (b.toNat < 128)) = true := by decide +kernel
  intro j b hb
  simpa using List.all_eq_true.mp h b (List.mem_of_getElem? hb)

theorem words_cut : Lib.fields wordsB = wordsL := by decide +kernel
theorem wordsV_len : wordsV.length = 50 := by decide +kernel
theorem wordsV_atomic : wordsV.all atomic = true := by decide +kernel

/-- A table's cell in the world. -/
theorem tab_cell {m : Mp} {H : Heap} {w : World} (h : Rel m H w) (hg : Gl PP m) {g : Nat} (hgl : g < PP.globals.size) {y : Blk} (hy : H.get g = some y) (ho : y.o = none) {c : Nat} {v : Value} (hc : y.cells[c]? = some v) (hv : atomic v = true) :
    w.cell? ⟨g, c, none⟩ = some v := by
  obtain ⟨L, k1, k2⟩ := h.blk g y hy
  obtain ⟨L', q1, q2, q3, _⟩ := hg g hgl
  rw [k1] at q1
  obtain rfl := Option.some.inj q1
  obtain ⟨cs, elem, fz, p1, p2, p3, _⟩ := k2.ex ho
  obtain ⟨hlt, he⟩ := List.getElem?_eq_some_iff.mp hc
  have hfit := k2.fits
  have hlt' : L.base + c < cs.size := by omega
  have := p3 c hlt hlt'
  rw [he] at this
  have e := this.eq_of_atomic hv
  simp only [q3, Nat.zero_add] at e hlt'
  rw [q2] at p1
  simp [World.cell?, p1, hlt', e]

theorem hookF_sound : HookSnd PP hookF := by
  intro f args H r H' he m w args' hrel hgl hargs
  unfold hookF at he
  cases hf : Nat.beq f 36 with
  | false => rw [hf] at he; simp at he
  | true =>
  rw [hf] at he
  obtain rfl := Nat.eq_of_beq_eq_true hf
  simp only [cond_true] at he
  split at he
  · rename_i s hs
    cases h1 : decide (s.data.toList = wordsB) with
    | false => rw [h1] at he; simp at he
    | true =>
    cases h2 : asciiOk H with
    | false => rw [h1, h2] at he; simp at he
    | true =>
    rw [h1, h2] at he
    simp only [cond_true, Option.some.injEq, Prod.mk.injEq] at he
    obtain ⟨rfl, rfl⟩ := he
    simp only [decide_eq_true_eq] at h1
    have hat : args.toList.all atomic = true := by rw [hs]; rfl
    have e := hargs.eq_of_atomic hat
    subst e
    have ea : args' = #[.string s] := by cases args'; simp_all
    subst ea
    unfold asciiOk at h2
    split at h2
    · rename_i y hy
      simp only [Bool.and_eq_true, Option.isNone_iff_eq_none] at h2
      have hcells := veqs_eq h2.1
      have hT : ∀ c : Nat, c < 256 → w.cell? ⟨2, c, none⟩ = some (.int .u8 (if Lib.isSp (UInt8.ofNat c) then 1 else 0)) := fun c hc =>
        tab_cell hrel hgl (by rw [globals_size]; decide) hy h2.2 (by rw [hcells]; exact asciiL_at c hc) rfl
      have hsz : s.size < 4294967281 := by
        have : s.size = wordsB.length := by rw [← h1]; rfl
        rw [this]; decide +kernel
      refine (Go.Proofs.Tryd.fieldsCore s w hsz (by rw [h1]; exact words_ascii) hT).mono fun e w' ⟨he, hw⟩ => ?_
      rw [h1, words_cut] at he hw
      have hl : wordsL.length = 50 := by decide +kernel
      rw [hl] at he
      subst he
      have hcells : ((wordsL.map fun l => Value.string ⟨l.toArray⟩).toArray) = wordsV.toArray := rfl
      rw [hcells] at hw
      have hst := Step.alloc (w' := w') hrel 1 wordsV wordsV.toArray 9 (by simp) (fun i a b => by
        have hati : atomic wordsV[i] = true := List.all_eq_true.mp wordsV_atomic _ (List.getElem_mem a)
        simpa using VR.atom (m := m) _ hati) (by rw [hw]; rfl) (by rw [hw]; rfl) (by rw [hw]; rfl) (by rw [hw]; rfl)
      refine ⟨_, ?_, hst⟩
      refine VR.slice H.next 0 ⟨w.heap.size, 0, 1, wordsV.toArray.size⟩ _ 50 50 50 (by simp [Mp.add]) (Nat.le_refl _) (Nat.le_refl _) rfl rfl (.inr ⟨rfl, ?_⟩)
      show 0 + 50 * 1 ≤ wordsV.toArray.size
      rw [List.size_toArray, wordsV_len]; decide
    · simp at h2
  · simp at he
/-- The library's fresh copy of a text. -/
def hookC : Hook := fun f args H =>
  cond (Nat.beq f 80) (match args.toList with
    | [.string s] => cond (decide (s.size ≤ 281474976710656)) (some (some (.ret (.string s), H))) none
    | _ => none) none
theorem hookC_sound : HookSnd PP hookC := by
  intro f args H r H' he m w args' hrel hgl hargs
  unfold hookC at he
  cases hf : Nat.beq f 80 with
  | false => rw [hf] at he; simp at he
  | true =>
  rw [hf] at he
  obtain rfl := Nat.eq_of_beq_eq_true hf
  simp only [cond_true] at he
  split at he
  · rename_i s hs
    cases h1 : decide (s.size ≤ 281474976710656) with
    | false => rw [h1] at he; simp at he
    | true =>
    rw [h1] at he
    simp only [cond_true, Option.some.injEq, Prod.mk.injEq] at he
    obtain ⟨rfl, rfl⟩ := he
    simp only [decide_eq_true_eq] at h1
    have e := hargs.eq_of_atomic (by rw [hs]; rfl)
    subst e
    have ea : args' = #[.string s] := by cases args'; simp_all
    subst ea
    refine (Go.Proofs.Tryd.stringslite_Clone s w h1).mono fun e w' ⟨he, hw⟩ => ?_
    subst he
    exact ⟨m, VR.atom _ rfl, Step.still hrel hw.os hw.tape hw.output hw.size hw.block⟩
  · simp at he
end Go.Am
