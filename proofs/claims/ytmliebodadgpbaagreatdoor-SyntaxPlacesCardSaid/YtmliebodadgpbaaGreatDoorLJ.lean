/- The two counts of lines are the same. What the law on places asks beside. -/
import Derived.Test.YtmliebodadgpbaaGreatDoorLU
import Derived.Test.YtmliebodadgpbaaGreatDoorFaF
import Derived.Test.YtmliebodadgpbaaGreatDoorLK
open Go.Proofs
namespace Go.Am

theorem good10 : goodE PP Tryz.f10.ntmps (bodyOf Tryz.f10) = true := by decide +kernel
theorem good11 : goodE PP Tryz.f11.ntmps (bodyOf Tryz.f11) = true := by decide +kernel
theorem good24 : goodE PP Tryz.f24.ntmps (bodyOf Tryz.f24) = true := by decide +kernel
theorem good25 : goodE PP Tryz.f25.ntmps (bodyOf Tryz.f25) = true := by decide +kernel
theorem good46 : goodE PP Tryz.f46.ntmps (bodyOf Tryz.f46) = true := by decide +kernel
theorem goodAll : GoodE PP okf := by
  intro f fn c ho hf hc
  have go : ∀ g, PP.funcs[f]? = some g → goodE PP g.ntmps (bodyOf g) = true → goodE PP fn.ntmps c = true := fun g hg h => by
    rw [hf] at hg
    obtain rfl := Option.some.inj hg
    simpa [bodyOf, hc] using h
  simp only [okf, Bool.or_eq_true, beq_iff_eq] at ho
  rcases ho with ((( rfl | rfl) | rfl) | rfl) | rfl
  · exact go _ Tryz.func10 good10
  · exact go _ Tryz.func11 good11
  · exact go _ Tryz.func24 good24
  · exact go _ Tryz.func25 good25
  · exact go _ Tryz.func46 good46

theorem lastB_take (s : List UInt8) (z : UInt8) (m : Nat) : ∀ j, j ≤ m → lastB (s.take m) z j = lastB s z j
  | 0, _ => rfl
  | j + 1, h => by
    unfold lastB
    have : (s.take m).getD j 0 = s.getD j 0 := by simp [List.getD, show j < m by omega]
    rw [this, lastB_take s z m j (by omega)]
theorem wrap_wrap (x y : Int) : IntKind.i64.wrap (IntKind.i64.wrap x + y) = IntKind.i64.wrap (x + y) := by
  simp only [IntKind.wrap, IntKind.bits, IntKind.signed]
  simp
  repeat' split
  all_goals omega
theorem rc_eq (s : List UInt8) : ∀ q, rc s q = IntKind.i64.wrap ((q : Int) - lastB s 10 q)
  | 0 => by rfl
  | q + 1 => by
    unfold rc lastB
    rw [rc_eq s q]
    split
    · have : ((q + 1 : Nat) : Int) - (q : Int) = 1 := by omega
      rw [this]; rfl
    · unfold inc
      rw [wrap_wrap]
      congr 1
      omega
theorem cntB_snoc (s : List UInt8) (x z : UInt8) : cntB (s ++ [x]) z = if x = z then cntB s z + 1 else cntB s z := by
  unfold cntB
  rw [List.foldl_append]
  simp
theorem rl_eq (s : List UInt8) : ∀ q, q ≤ s.length → rl s q = IntKind.i64.wrap (1 + cntB (s.take q) 10)
  | 0, _ => by simp [rl, cntB]; rfl
  | q + 1, h => by
    have hq : q < s.length := by omega
    have e : s.take (q + 1) = s.take q ++ [s[q]] := by rw [List.take_add_one, List.getElem?_eq_getElem hq]; rfl
    have hg : s.getD q 0 = s[q] := by simp [List.getD, hq]
    unfold rl
    rw [rl_eq s q (by omega), e, cntB_snoc, hg]
    split
    · unfold inc
      rw [wrap_wrap]
      congr 1
      omega
    · rfl

def hk4 : Hook := hookP GG [1, 2] [kn]
theorem hk4_none : ∀ f args H, f ≠ 9 → hk4 f args H = none := by
  intro f args H h
  have : Nat.beq 9 f = false := by
    cases e : Nat.beq 9 f with
    | false => rfl
    | true => exact absurd (Nat.eq_of_beq_eq_true e).symm h
  simp [hk4, hookP, kn, this]
theorem self1 : (match GG.get 1, GG.get 1 with | some x, some y => sameB x y | _, _ => false) = true := by decide +kernel
theorem self2 : (match GG.get 2, GG.get 2 with | some x, some y => sameB x y | _, _ => false) = true := by decide +kernel
theorem over_ext {H : Heap} (h : Ext GG H) : overB GG [1, 2] H = true := by
  have g1 : ∃ x, GG.get 1 = some x := ⟨_, rfl⟩
  have g2 : ∃ x, GG.get 2 = some x := ⟨_, rfl⟩
  obtain ⟨x1, e1⟩ := g1
  obtain ⟨x2, e2⟩ := g2
  have s1 := self1
  have s2 := self2
  rw [e1] at s1
  rw [e2] at s2
  have k1 := h.keep 1 x1 e1
  have k2 := h.keep 2 x2 e2
  simp only [overB, List.all_cons, List.all_nil, e1, e2, k1, k2, Bool.and_true, Bool.and_eq_true, decide_eq_true_eq]
  exact ⟨h.next, s1, s2⟩
theorem known_run {N d : Nat} {H : Heap} (h : Ext GG H) : CE N hk4 (d + 1) 9 #[] H = some (.ret (.bool true), H) := by
  have e : hk4 9 #[] H = some (some (.ret (.bool true), H)) := by simp [hk4, hookP, kn, over_ext h, veqs]
  simp [callE, e]
end Go.Am
