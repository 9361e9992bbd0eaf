/- The hook for the cut of the reserved words. -/
import Derived.Test.YtpfpfpeockbbpaaGreatDoorJB
import Derived.Test.YtpfpfpeockbbpaaGreatDoorJSh
namespace Go.Am

/-- Block 2 holds the table of blanks. -/
def asciiV : List Value := asciiL.map fun z => .int .u8 z
def asciiOk (H : Heap) : Bool := match H.get 2 with | some y => veqs y.cells asciiV && y.o.isNone | none => false
def signsL : List (List UInt8) := [[123], [125], [91], [93], [40], [41], [59], [44], [46, 46], [61], [61, 61], [33, 61], [60], [60, 61], [62], [62, 61], [124], [94], [38], [60, 60], [62, 62], [43], [45], [42], [47], [37]]
def signsB : List UInt8 := joinL signsL
def cutV (L : List (List UInt8)) : List Value := L.map strV
/-- The cut of a text that is known: the text, its words. -/
def cutRow (B : List UInt8) (L : List (List UInt8)) : Hook := fun f args H =>
  cond (Nat.beq f 111) (match args.toList with
    | [.string s] => cond (decide (s.data.toList = B)) (cond (asciiOk H) (some (some (.ret (.slice (some ⟨H.next, 0, none⟩) L.length L.length), H.alloc 1 (cutV L)))) none) none
    | _ => none) none

theorem asciiL_at : ∀ c : Nat, c < 256 → asciiV[c]? = some (.int .u8 (if Lib.isSp (UInt8.ofNat c) then 1 else 0)) := by
  have h : (List.range 256).all (fun c => match asciiV[c]? with | some (.int .u8 n) => decide (n = if Lib.isSp (UInt8.ofNat c) then 1 else 0) | _ => false) = true := by decide +kernel
  intro c hc
  have := List.all_eq_true.mp h c (List.mem_range.mpr hc)
  revert this
  generalize asciiV[c]? = z
  intro hz
  split at hz
  · simp only [decide_eq_true_eq] at hz; rw [hz]
  · simp at hz

/-- What the library's contract asks of such a text. -/
structure CutOk (B : List UInt8) (L : List (List UInt8)) : Prop where
  low : B.all (fun b => decide (b.toNat < 128)) = true
  cut : Lib.fields B = L
  short : B.length < 4294967281
  plain : (cutV L).all atomic = true
theorem CutOk.ascii {B : List UInt8} {L : List (List UInt8)} (h : CutOk B L) : ∀ (j : Nat) b, B[j]? = some b → b.toNat < 128 := by
  intro j b hb
  simpa using List.all_eq_true.mp h.low b (List.mem_of_getElem? hb)
theorem words_ok : CutOk wordsB wordsL := ⟨by decide +kernel, by decide +kernel, by decide +kernel, by decide +kernel⟩
theorem signs_ok : CutOk signsB signsL := ⟨by decide +kernel, by decide +kernel, by decide +kernel, by decide +kernel⟩

/-- A table's cell in the world. -/
theorem tab_cell {m : Mp} {H : Heap} {w : World} (h : Rel m H w) (hg : Gl PP m) {g : Nat} (hgl : g < PP.globals.size) {y : Blk} (hy : H.get g = some y) (ho : y.o = none) {c : Nat} {v : Value} (hc : y.cells[c]? = some v) (hv : atomic v = true) :
    w.cell? ⟨g, c, none⟩ = some v := by
  obtain ⟨L, k1, k2⟩ := h.blk g y hy
  obtain ⟨L', q1, q2, q3, _⟩ := hg g hgl
  rw [k1] at q1
  obtain rfl := Option.some.inj q1
  obtain ⟨cs, elem, fz, p1, p2, p3, _⟩ := k2.ex ho
  obtain ⟨hlt, he⟩ := List.getElem?_eq_some_iff.mp hc
  have hfit := k2.fits
  have hlt' : L.base + c < cs.size := by omega
  have := p3 c hlt hlt'
  rw [he] at this
  have e := this.eq_of_atomic hv
  simp only [q3, Nat.zero_add] at e hlt'
  rw [q2] at p1
  simp [World.cell?, p1, hlt', e]

theorem cutRow_sound {B : List UInt8} {L : List (List UInt8)} (ok : CutOk B L) : HookSnd PP (cutRow B L) := by
  intro f args H r H' he m w args' hrel hgl hargs
  unfold cutRow at he
  cases hf : Nat.beq f 111 with
  | false => rw [hf] at he; simp at he
  | true =>
  rw [hf] at he
  obtain rfl := Nat.eq_of_beq_eq_true hf
  simp only [cond_true] at he
  split at he
  · rename_i s hs
    cases h1 : decide (s.data.toList = B) with
    | false => rw [h1] at he; simp at he
    | true =>
    cases h2 : asciiOk H with
    | false => rw [h1, h2] at he; simp at he
    | true =>
    rw [h1, h2] at he
    simp only [cond_true, Option.some.injEq, Prod.mk.injEq] at he
    obtain ⟨rfl, rfl⟩ := he
    simp only [decide_eq_true_eq] at h1
    have hat : args.toList.all atomic = true := by rw [hs]; rfl
    have e := hargs.eq_of_atomic hat
    subst e
    have ea : args' = #[.string s] := by cases args'; simp_all
    subst ea
    unfold asciiOk at h2
    split at h2
    · rename_i y hy
      simp only [Bool.and_eq_true, Option.isNone_iff_eq_none] at h2
      have hcells := veqs_eq h2.1
      have hT : ∀ c : Nat, c < 256 → w.cell? ⟨2, c, none⟩ = some (.int .u8 (if Lib.isSp (UInt8.ofNat c) then 1 else 0)) := fun c hc =>
        tab_cell hrel hgl (by rw [globals_size]; decide) hy h2.2 (by rw [hcells]; exact asciiL_at c hc) rfl
      have hsz : s.size < 4294967281 := by
        have : s.size = B.length := by rw [← h1]; rfl
        rw [this]; exact ok.short
      refine (Go.Proofs.Tryz.fieldsCore s w hsz (by rw [h1]; exact ok.ascii) hT).mono fun e w' ⟨he, hw⟩ => ?_
      rw [h1, ok.cut] at he hw
      subst he
      have hcells : ((L.map fun l => Value.string ⟨l.toArray⟩).toArray) = (cutV L).toArray := rfl
      rw [hcells] at hw
      have hst := Step.alloc (w' := w') hrel 1 (cutV L) (cutV L).toArray 9 (by simp) (fun i a b => by
        have hati : atomic (cutV L)[i] = true := List.all_eq_true.mp ok.plain _ (List.getElem_mem a)
        simpa using VR.atom (m := m) _ hati) (by rw [hw]; rfl) (by rw [hw]; rfl) (by rw [hw]; rfl) (by rw [hw]; rfl)
      refine ⟨_, ?_, hst⟩
      refine VR.slice H.next 0 ⟨w.heap.size, 0, 1, (cutV L).toArray.size⟩ _ L.length L.length L.length (by simp [Mp.add]) (Nat.le_refl _) (Nat.le_refl _) rfl rfl (.inr ⟨rfl, ?_⟩)
      show 0 + L.length * 1 ≤ (cutV L).toArray.size
      simp [cutV]
    · simp at h2
  · simp at he
def hookF : Hook := hookOr (cutRow wordsB wordsL) (cutRow signsB signsL)
theorem hookF_sound : HookSnd PP hookF := hookOr_sound (cutRow_sound words_ok) (cutRow_sound signs_ok)
/-- The library's fresh copy of a text. -/
def hookC : Hook := fun f args H =>
  cond (Nat.beq f 246) (match args.toList with
    | [.string s] => cond (decide (s.size ≤ 281474976710656)) (some (some (.ret (.string s), H))) none
    | _ => none) none
theorem hookC_sound : HookSnd PP hookC := by
  intro f args H r H' he m w args' hrel hgl hargs
  unfold hookC at he
  cases hf : Nat.beq f 246 with
  | false => rw [hf] at he; simp at he
  | true =>
  rw [hf] at he
  obtain rfl := Nat.eq_of_beq_eq_true hf
  simp only [cond_true] at he
  split at he
  · rename_i s hs
    cases h1 : decide (s.size ≤ 281474976710656) with
    | false => rw [h1] at he; simp at he
    | true =>
    rw [h1] at he
    simp only [cond_true, Option.some.injEq, Prod.mk.injEq] at he
    obtain ⟨rfl, rfl⟩ := he
    simp only [decide_eq_true_eq] at h1
    have e := hargs.eq_of_atomic (by rw [hs]; rfl)
    subst e
    have ea : args' = #[.string s] := by cases args'; simp_all
    subst ea
    refine (Go.Proofs.Tryz.stringslite_Clone s w h1).mono fun e w' ⟨he, hw⟩ => ?_
    subst he
    exact ⟨m, VR.atom _ rfl, Step.still hrel hw.os hw.tape hw.output hw.size hw.block⟩
  · simp at he
end Go.Am
