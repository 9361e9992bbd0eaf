/- That no place is met twice, told by a row of bits. -/
import Derived.LaidLaws
namespace Go.Am

def keyOf : MemPlace → Option Nat
  | .cell b off => if off < 4096 then some (b * 4096 + off) else none
  | .map _ => none
def seenB : List MemPlace → Nat → Bool
  | [], _ => true
  | p :: r, S => match keyOf p with | some k => !(S.testBit k) && seenB r (S ||| 2 ^ k) | none => false

theorem key_inj {p q : MemPlace} {k : Nat} (h : keyOf p = some k) (h' : keyOf q = some k) : p = q := by
  unfold keyOf at h h'
  split at h
  · rename_i b off
    split at h
    · rename_i ho
      split at h'
      · rename_i b' off'
        split at h'
        · rename_i ho'
          simp only [Option.some.injEq] at h h'
          have e1 : b = b' := by omega
          have e2 : off = off' := by omega
          rw [e1, e2]
        · cases h'
      · cases h'
    · cases h
  · cases h

theorem seenB_ok : ∀ {l : List MemPlace} {S : Nat}, seenB l S = true → l.Nodup ∧ ∀ p ∈ l, ∃ k, keyOf p = some k ∧ S.testBit k = false
  | [], _, _ => ⟨List.nodup_nil, fun p h => by cases h⟩
  | p :: r, S, h => by
    unfold seenB at h
    split at h
    · rename_i k hk
      simp only [Bool.and_eq_true, Bool.not_eq_true'] at h
      obtain ⟨h1, h2⟩ := seenB_ok h.2
      refine ⟨List.nodup_cons.2 ⟨fun hp => ?_, h1⟩, fun q hq => ?_⟩
      · obtain ⟨k', e1, e2⟩ := h2 p hp
        obtain rfl := Option.some.inj (hk.symm.trans e1)
        simp [Nat.testBit_or, Nat.testBit_two_pow_self] at e2
      · rcases List.mem_cons.1 hq with rfl | hq
        · exact ⟨k, hk, h.1⟩
        · obtain ⟨k', e1, e2⟩ := h2 q hq
          refine ⟨k', e1, ?_⟩
          simp only [Nat.testBit_or, Bool.or_eq_false_iff] at e2
          exact e2.1
    · cases h

theorem laidMet_of_bits {P : Program} {w : World} {l : List (String × DataW Unit)} (fuel : Nat) (h : (DataW.laidRun P w fuel (l.map (·.1))).map (·.1) = some l)
    (hn : (DataW.laidRun P w fuel (l.map (·.1))).map (fun x => seenB x.2 0) = some true) (hr : (DataW.laidRun P w fuel (l.map (·.1))).map (fun x => laidRowsB P w x.2) = some true) : laidMet P l w := by
  cases hx : DataW.laidRun P w fuel (l.map (·.1)) with
  | none => simp [hx] at h
  | some x =>
    obtain ⟨l', ps⟩ := x
    simp only [hx, Option.map_some, Option.some.injEq] at h hr hn
    subst h
    exact laidMet_of_run fuel hx (decide_eq_true (seenB_ok hn).1) hr
end Go.Am
