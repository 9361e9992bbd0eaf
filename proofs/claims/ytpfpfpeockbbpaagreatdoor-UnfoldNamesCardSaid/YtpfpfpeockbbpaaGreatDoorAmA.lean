/- Externs that read a row of bytes. -/
import Derived.Test.YtpfpfpeockbbpaaGreatDoorAmB
import Derived.Test.YtpfpfpeockbbpaaGreatDoorAmN
namespace Go.Am

theorem run_loadB {P : Program} {w : World} : ∀ (ns : List Int) (a : Addr) (acc : ByteArray), (∀ j x, ns[j]? = some x → w.cell? (a.add j) = some (.int .u8 x)) →
    (Extern.Bytes.loadBytes a ns.length acc).run P w = .ok ⟨acc.data ++ (ns.map fun n => UInt8.ofNat n.toNat).toArray⟩ w
  | [], a, acc, _ => by simp [Extern.Bytes.loadBytes]
  | x :: l, a, acc, h => by
    have h0 : w.cell? a = some (.int .u8 x) := by
      have := h 0 x rfl
      simpa [Addr.add] using this
    have ih := run_loadB (P := P) l (a.add 1) (acc.push x.toNat.toUInt8) (fun j y hy => by
      have := h (j + 1) y (by simpa using hy)
      have e : (a.add 1).add j = a.add (j + 1) := by
        unfold Addr.add
        by_cases hj : j = 0
        · subst hj; simp
        · simp [hj]; omega
      rw [e]; exact this)
    simp only [List.length_cons, Extern.Bytes.loadBytes, Sem.run_bind, run_load, h0, Result.andThen]
    rw [ih]
    congr 1
    apply ByteArray.ext
    simp [ByteArray.push]

theorem bytesOf_run {P : Program} {m : Mp} {H : Heap} {w : World} (h : Rel m H w) {a : Option Addr} {n c : Nat} {x' : Value} {s : ByteArray} (hx : VR m (.slice a n c) x') (he : strOf H a n = some s) :
    (Extern.Bytes.bytesOf x').run P w = .ok s w := by
  unfold strOf at he
  split at he
  · simp only [Option.some.injEq] at he; subst he
    cases hx with
    | atom _ h => simp [Extern.Bytes.bytesOf]
  · rename_i a
    obtain ⟨L, a', c', hsp, hm, hl, hc, hb', hs', ha, rfl⟩ := hx.slice_inv
    by_cases h0 : n = 0
    · rw [if_pos h0] at he
      simp only [Option.some.injEq] at he; subst he; subst h0
      simp [Extern.Bytes.bytesOf, Extern.Bytes.loadBytes]
    · rw [if_neg h0] at he
      cases hlk : look H a with
      | none => simp [hlk] at he
      | some y =>
        simp only [hlk] at he
        by_cases hin : a.off + n ≤ y.cells.length
        · rw [if_pos hin] at he
          split at he
          · rename_i l hl'
            simp only [Option.some.injEq] at he; subst he
            obtain ⟨_, hg, ho, hes, hfit, cs, elem, fz, h1, h2, h3, h4⟩ := h.look' hm hlk
            have ha' := slice_addr hb' hs' ha (by omega)
            subst ha'
            obtain ⟨ys, k1, k2, k3⟩ := cells_at h1 h2 hfit h3 a.off n hin
            obtain ⟨ns, b1, b2⟩ := bytesOf_spec hl'
            rw [b1] at k2
            have := k2.ints; subst this
            have hlen : ns.length = n := by simpa using k1
            have hr := run_loadB (P := P) (w := w) ns ⟨L.c, L.base + a.off, none⟩ .empty (fun j x hj => k3 j _ (by simp [hj]))
            rw [hlen] at hr
            simp only [Extern.Bytes.bytesOf]
            rw [hr, b2]
            congr 1
            apply ByteArray.ext
            simp
          · simp at he
        · rw [if_neg hin] at he; simp at he

/-- The library's count and search of one byte, on a row of bytes. -/
def ByteRow (P : Program) (f : FuncId) (e : Array Value → Sem Value) : Prop := ∀ (args : Array Value) (w : World) (v : Value), (e args).run P w = .ok v w → (callFunc f args).run P w = .ok (.value v) w

def countV (s : ByteArray) (c : Int) : Value := goInt (s.foldl (fun n x => if x == c.toNat.toUInt8 then n + 1 else n) (0 : Nat))
def indexV (s : ByteArray) (c : Int) : Value := match (List.range s.size).find? fun i => s[i]! == c.toNat.toUInt8 with | some i => goInt i | none => goInt (-1)

/-- 'fc': the number of the count, 'fi': that of the search. -/
def byteX (P : Program) (fc fi : FuncId) : Xf := fun f args H =>
  match args.toList with
  | [.slice a n _, .int .u8 c] =>
    match strOf H a n with
    | some s => cond (Nat.beq f fc) (some (countV s c, H)) (cond (Nat.beq f fi) (some (indexV s c, H)) none)
    | none => none
  | _ => extX P f args H

theorem byteX_sound {P : Program} {fc fi : FuncId} (hc : ByteRow P fc Extern.BytealgCount.count) (hi : ByteRow P fi Extern.BytealgIndexByte.indexByte) : XSnd P (byteX P fc fi) := by
  intro f args H v H' he m w args' h hg ha
  unfold byteX at he
  split at he
  · rename_i a n cp c hl
    split at he
    · rename_i s hs
      have hal := ha.toList
      rw [hl] at hal
      obtain ⟨x', y', e'⟩ : ∃ x' y', args' = #[x', y'] := by
        have hz := hal.1
        obtain ⟨l⟩ := args'
        match l, hz with
        | [x, y], _ => exact ⟨x, y, rfl⟩
      subst e'
      have hx : VR m (.slice a n cp) x' := hal.head
      have hy : VR m (.int .u8 c) y' := hal.tail.head
      have ey := hy.eq_of_atomic rfl
      subst ey
      have hb := bytesOf_run (P := P) h hx hs
      cases hfc : Nat.beq f fc with
      | true =>
        rw [hfc] at he
        simp only [cond_true, Option.some.injEq, Prod.mk.injEq] at he
        obtain ⟨rfl, rfl⟩ := he
        obtain rfl := Nat.eq_of_beq_eq_true hfc
        refine ⟨m, _, w, hc _ w (countV s c) ?_, .atom _ rfl, .refl h⟩
        have e0 : Extern.BytealgCount.count #[x', .int .u8 c] = (do
          let b ← Extern.Bytes.bytesOf x'
          let d ← Extern.Bytes.asByte (.int .u8 c)
          Pure.pure (goInt (b.foldl (fun n x => if x == d then n + 1 else n) (0 : Nat)))) := rfl
        rw [e0]
        simp [hb, Extern.Bytes.asByte, countV]
      | false =>
        rw [hfc] at he
        simp only [cond_false] at he
        cases hfi : Nat.beq f fi with
        | false => rw [hfi] at he; simp at he
        | true =>
          rw [hfi] at he
          simp only [cond_true, Option.some.injEq, Prod.mk.injEq] at he
          obtain ⟨rfl, rfl⟩ := he
          obtain rfl := Nat.eq_of_beq_eq_true hfi
          have hat : atomic (indexV s c) = true := by unfold indexV; split <;> rfl
          refine ⟨m, _, w, hi _ w (indexV s c) ?_, .atom _ hat, .refl h⟩
          have e0 : Extern.BytealgIndexByte.indexByte #[x', .int .u8 c] = (do
            let b ← Extern.Bytes.bytesOf x'
            let d ← Extern.Bytes.asByte (.int .u8 c)
            match (List.range b.size).find? fun i => b[i]! == d with
            | some i => Pure.pure (goInt i)
            | none => Pure.pure (goInt (-1))) := rfl
          rw [e0]
          simp only [Sem.run_bind, hb, Result.andThen_ok, Extern.Bytes.asByte, Sem.run_pure]
          unfold indexV
          split <;> simp_all
    · simp at he
  · exact extX_sound P f args H v H' he m w args' h hg ha

theorem byteRow_of {P : Program} {f : FuncId} {fn : Func} {e : Array Value → Sem Value} (hf : P.funcs[f]? = some fn) (hn : fn.name ≠ "runtime.NumGoroutine") (hb : fn.body = none) (h1 : Extern.findNext fn = none) (h2 : Extern.find fn = some e) : ByteRow P f e := by
  intro args w v hr
  simp [callFunc, hf, hn, hb, h1, h2, hr]
/-- 'fn': the number of internal/abi's NoEscape: what it gets. -/
def escX (_P : Program) (X : Xf) (fn : FuncId) : Xf := fun f args H =>
  match args.toList with
  | [x] => cond (Nat.beq f fn) (some (x, H)) (X f args H)
  | _ => X f args H
theorem escX_sound {P : Program} {X : Xf} {fn : FuncId} (hX : XSnd P X) (hn : ByteRow P fn Extern.AbiNoEscape.same) : XSnd P (escX P X fn) := by
  intro f args H v H' he m w args' h hg ha
  unfold escX at he
  split at he
  · rename_i x hl
    cases hf : Nat.beq f fn with
    | false => rw [hf] at he; exact hX f args H v H' he m w args' h hg ha
    | true =>
      rw [hf] at he
      simp only [cond_true, Option.some.injEq, Prod.mk.injEq] at he
      obtain ⟨rfl, rfl⟩ := he
      obtain rfl := Nat.eq_of_beq_eq_true hf
      have hal := ha.toList
      rw [hl] at hal
      obtain ⟨x', e'⟩ : ∃ x', args' = #[x'] := by
        have hz := hal.1
        obtain ⟨l⟩ := args'
        match l, hz with
        | [x], _ => exact ⟨x, rfl⟩
      subst e'
      exact ⟨m, x', w, hn _ w x' rfl, hal.head, .refl h⟩
  · exact hX f args H v H' he m w args' h hg ha
end Go.Am
