/- The functions that are looked up: their tables, and that they answer what the code asks. -/
import Derived.Test.YtohmeeglehopiaaDoorU2
import Derived.Test.YtohmeeglehopiaaDoorU1
import Derived.Test.YtohmeeglehopiaaDoorD1
import Derived.Test.YtohmeeglehopiaaDoorS1
open Go.Proofs
namespace Go.Am

def gsE : List Nat := [0, 1, 2, 4, 5, 6, 11]
def hkT : Hook := hookOr (tabH GE gsE 57 fun u => .int .i64 (singleT u)) (hookOr (tabH GE gsE 55 fun u => .int .u64 (hexT u)) (hookOr hookM (hookOr hookF (hookOr hookU (hookP GE gsE [kn, kPw, kTz])))))
theorem hkT_sound : HookSnd PP hkT :=
  hookOr_sound (tabH_sound (fast_sound hook0_sound) tabs_GE gs_GE singles_ok) (hookOr_sound (tabH_sound (fast_sound hook0_sound) tabs_GE gs_GE hexes_ok) (
    (hookOr_sound hookM_sound (hookOr_sound hookF_sound (hookOr_sound hookU_sound (hookP_sound (fast_sound hook0_sound) tabs_GE gs_GE fun e he => by
      have : okRow (fast hook0) GE e = true := by
        simp only [List.mem_cons, List.not_mem_nil, or_false] at he
        rcases he with rfl | rfl | rfl
        · exact okKn
        · exact okPw
        · exact okTz
      simp only [okRow, Bool.and_eq_true] at this
      simpa using this))))))
theorem okC_no (k : FuncId) (hk : okC k = false) {f : FuncId} (h : okC f = true) : Nat.beq f k = false := by
  cases hb : Nat.beq f k with
  | false => rfl
  | true =>
    obtain rfl := Nat.eq_of_beq_eq_true hb
    rw [h] at hk; cases hk
theorem hookOr_right {a b : Hook} {f : FuncId} {args : Array Value} {H : Heap} (h : a f args H = none) : hookOr a b f args H = b f args H := by simp only [hookOr, h]
theorem hookOr_left {a b : Hook} {f : FuncId} {args : Array Value} {H : Heap} {r : R} (h : a f args H = some r) : hookOr a b f args H = some r := by simp only [hookOr, h]
theorem tabH_none {G : Heap} {gs : List Nat} {f0 f : FuncId} {T : Nat → Value} {args : Array Value} {H : Heap} (h : Nat.beq f f0 = false) : tabH G gs f0 T f args H = none := by simp only [tabH, h, cond_false]
theorem hookM_none {f : FuncId} {args : Array Value} {H : Heap} (h : Nat.beq f 73 = false) : hookM f args H = none := by simp only [hookM, h, cond_false]
theorem hookF_none {f : FuncId} {args : Array Value} {H : Heap} (h : Nat.beq f 36 = false) : hookF f args H = none := by simp only [hookF, h, cond_false]
theorem hookU_none {f : FuncId} {args : Array Value} {H : Heap} (h : Nat.beq f 19 = false) : hookU f args H = none := by simp only [hookU, h, cond_false]
theorem hookK_none {f : FuncId} {args : Array Value} {H : Heap} (h : Nat.beq 10 f = false) (h2 : Nat.beq 86 f = false) (h3 : Nat.beq 87 f = false) : hookP GE gsE [kn, kPw, kTz] f args H = none := by simp [hookP, kn, kPw, kTz, h, h2, h3]
theorem beq_flip {a b : Nat} (h : Nat.beq a b = false) : Nat.beq b a = false := by
  cases hb : Nat.beq b a with
  | false => rfl
  | true =>
    obtain rfl := Nat.eq_of_beq_eq_true hb
    rw [h] at hb; cases hb
theorem hkT_none : ∀ f args H, okC f = true → hkT f args H = none := by
  intro f args H h
  unfold hkT
  rw [hookOr_right (tabH_none (okC_no 57 rfl h)), hookOr_right (tabH_none (okC_no 55 rfl h)), hookOr_right (hookM_none (okC_no 73 rfl h)), hookOr_right (hookF_none (okC_no 36 rfl h)), hookOr_right (hookU_none (okC_no 19 rfl h))]
  exact hookK_none (beq_flip (okC_no 10 rfl h)) (beq_flip (okC_no 86 rfl h)) (beq_flip (okC_no 87 rfl h))
theorem self0 : (match GE.get 0, GE.get 0 with | some x, some y => sameB x y | _, _ => false) = true := by decide +kernel
theorem self1 : (match GE.get 1, GE.get 1 with | some x, some y => sameB x y | _, _ => false) = true := by decide +kernel
theorem self2 : (match GE.get 2, GE.get 2 with | some x, some y => sameB x y | _, _ => false) = true := by decide +kernel
theorem self4 : (match GE.get 4, GE.get 4 with | some x, some y => sameB x y | _, _ => false) = true := by decide +kernel
theorem self5 : (match GE.get 5, GE.get 5 with | some x, some y => sameB x y | _, _ => false) = true := by decide +kernel
theorem self6 : (match GE.get 6, GE.get 6 with | some x, some y => sameB x y | _, _ => false) = true := by decide +kernel
theorem self11 : (match GE.get 11, GE.get 11 with | some x, some y => sameB x y | _, _ => false) = true := by decide +kernel
theorem over_ext {H : Heap} (h : Ext GE H) : overB GE gsE H = true := by
  have g0 : ∃ x, GE.get 0 = some x := ⟨_, rfl⟩
  have g1 : ∃ x, GE.get 1 = some x := ⟨_, rfl⟩
  have g2 : ∃ x, GE.get 2 = some x := ⟨_, rfl⟩
  have g4 : ∃ x, GE.get 4 = some x := ⟨_, rfl⟩
  have g5 : ∃ x, GE.get 5 = some x := ⟨_, rfl⟩
  have g6 : ∃ x, GE.get 6 = some x := ⟨_, rfl⟩
  have g11 : ∃ x, GE.get 11 = some x := ⟨_, rfl⟩
  obtain ⟨x0, e0⟩ := g0
  obtain ⟨x1, e1⟩ := g1
  obtain ⟨x2, e2⟩ := g2
  obtain ⟨x4, e4⟩ := g4
  obtain ⟨x5, e5⟩ := g5
  obtain ⟨x6, e6⟩ := g6
  obtain ⟨x11, e11⟩ := g11
  have s0 := self0
  have s1 := self1
  have s2 := self2
  have s4 := self4
  have s5 := self5
  have s6 := self6
  have s11 := self11
  rw [e0] at s0
  rw [e1] at s1
  rw [e2] at s2
  rw [e4] at s4
  rw [e5] at s5
  rw [e6] at s6
  rw [e11] at s11
  have k0 := h.keep 0 x0 e0
  have k1 := h.keep 1 x1 e1
  have k2 := h.keep 2 x2 e2
  have k4 := h.keep 4 x4 e4
  have k5 := h.keep 5 x5 e5
  have k6 := h.keep 6 x6 e6
  have k11 := h.keep 11 x11 e11
  simp only [overB, gsE, List.all_cons, List.all_nil, e0, e1, e2, e4, e5, e6, e11, k0, k1, k2, k4, k5, k6, k11, Bool.and_true, Bool.and_eq_true, decide_eq_true_eq]
  exact ⟨h.next, s0, s1, s2, s4, s5, s6, s11⟩
theorem veqs_u8 (n : Int) : veqs [.int .u8 n] [.int .u8 n] = true := by simp [veqs, veq0]
theorem tabH_at {f0 : FuncId} {T : Nat → Value} {H : Heap} (hG : Ext GE H) (u : UInt8) : tabH GE gsE f0 T f0 #[.int .u8 (u.toNat : Int)] H = some (some (.ret (T u.toNat), H)) := by
  have hu := u.toNat_lt
  have e0 : Nat.beq f0 f0 = true := Nat.beq_refl f0
  have e1 : decide ((0 : Int) ≤ (u.toNat : Int)) = true := decide_eq_true (by omega)
  have e2 : decide ((u.toNat : Int) < 256) = true := decide_eq_true (by omega)
  simp only [tabH, e0, cond_true, e1, e2, Bool.and_self, hookP, List.find?_cons, veqs_u8, over_ext hG, Int.toNat_natCast]
theorem hk_known {H : Heap} (hG : Ext GE H) : hkT 10 #[] H = some (some (.ret (.bool true), H)) := by
  unfold hkT
  rw [hookOr_right (tabH_none rfl), hookOr_right (tabH_none rfl), hookOr_right (hookM_none rfl), hookOr_right (hookF_none rfl), hookOr_right (hookU_none rfl)]
  have h : [kn, kPw, kTz].find? (fun e => Nat.beq e.f 10 && veqs (#[] : Array Value).toList e.args) = some kn := rfl
  simp only [hookP, h, over_ext hG, cond_true]
  rfl
theorem hk_pw {H : Heap} (hG : Ext GE H) : hkT 86 #[.int .i64 16] H = some (some (.ret (.bool true), H)) := by
  unfold hkT
  rw [hookOr_right (tabH_none rfl), hookOr_right (tabH_none rfl), hookOr_right (hookM_none rfl), hookOr_right (hookF_none rfl), hookOr_right (hookU_none rfl)]
  have h : [kn, kPw, kTz].find? (fun e => Nat.beq e.f 86 && veqs (#[.int .i64 16] : Array Value).toList e.args) = some kPw := rfl
  simp only [hookP, h, over_ext hG, cond_true]
  rfl
theorem hk_tz {H : Heap} (hG : Ext GE H) : hkT 87 #[.int .u64 16] H = some (some (.ret (.int .i64 4), H)) := by
  unfold hkT
  rw [hookOr_right (tabH_none rfl), hookOr_right (tabH_none rfl), hookOr_right (hookM_none rfl), hookOr_right (hookF_none rfl), hookOr_right (hookU_none rfl)]
  have h : [kn, kPw, kTz].find? (fun e => Nat.beq e.f 87 && veqs (#[.int .u64 16] : Array Value).toList e.args) = some kTz := rfl
  simp only [hookP, h, over_ext hG, cond_true]
  rfl
theorem ascii_ok {H : Heap} (hG : Ext GE H) : asciiOk H = true := by
  have h := hG.keep 2 ⟨asciiV, false, 1, none⟩ rfl
  have hv : veqs (Blk.mk asciiV false 1 none).cells asciiV = true := by decide +kernel
  simp only [asciiOk, h, hv]
  rfl
theorem hkT_ok : HkOk hkT := by
  refine ⟨hkT_none, fun u H hG => ?_, fun u H hG => ?_, fun x y H hx hy => ?_, fun H hG => ?_⟩
  · exact hookOr_left (tabH_at hG u)
  · unfold hkT
    rw [hookOr_right (tabH_none rfl)]
    exact hookOr_left (tabH_at hG u)
  · unfold hkT
    rw [hookOr_right (tabH_none rfl), hookOr_right (tabH_none rfl)]
    refine hookOr_left ?_
    have hx' : x < 18446744073709551616 := hx
    have hy' : y < 18446744073709551616 := hy
    have e0 : Nat.beq 73 73 = true := rfl
    have e1 : decide ((0 : Int) ≤ (x : Int)) = true := decide_eq_true (by omega)
    have e2 : decide ((x : Int) < 18446744073709551616) = true := decide_eq_true (by omega)
    have e3 : decide ((0 : Int) ≤ (y : Int)) = true := decide_eq_true (by omega)
    have e4 : decide ((y : Int) < 18446744073709551616) = true := decide_eq_true (by omega)
    simp only [hookM, e0, cond_true, e1, e2, e3, e4, Bool.and_self, Int.toNat_natCast]
  · unfold hkT
    rw [hookOr_right (tabH_none rfl), hookOr_right (tabH_none rfl), hookOr_right (hookM_none rfl)]
    refine hookOr_left ?_
    have e0 : Nat.beq 36 36 = true := rfl
    have dT : ∀ {i : Decidable True}, @decide True i = true := fun {i} => decide_eq_true trivial
    simp only [hookF, e0, cond_true, strV, dT, ascii_ok hG]
theorem pow_ok {H : Heap} (hG : Ext GE H) : powOk H = true := by
  have h := hG.keep 6 ⟨powV, false, 1, none⟩ rfl
  have hv : veqs (Blk.mk powV false 1 none).cells powV = true := by decide +kernel
  simp only [powOk, h, hv]
  rfl
theorem hkB_ok : HkB hkT := by
  refine ⟨fun u H hu hG => ?_, fun H hG => hk_pw hG, fun H hG => hk_tz hG⟩
  unfold hkT
  rw [hookOr_right (tabH_none rfl), hookOr_right (tabH_none rfl), hookOr_right (hookM_none rfl), hookOr_right (hookF_none rfl)]
  refine hookOr_left ?_
  have e0 : Nat.beq 19 19 = true := rfl
  have e1 : decide ((0 : Int) ≤ (u : Int)) = true := decide_eq_true (by omega)
  have e2 : decide ((u : Int) < 18446744073709551616) = true := decide_eq_true (by omega)
  simp only [hookU, e0, cond_true, e1, e2, pow_ok hG, Bool.and_self, Int.toNat_natCast]
end Go.Am
/- Every function that is run is as the machine asks. -/
open Go.Proofs
namespace Go.Am
theorem goodAllG : GoodG PP okC prS := by
  intro f fn c ho hf hc
  have go : ∀ g, PP.funcs[f]? = some g → goodG PP (prS f) g.ntmps (codeOf g) = true → goodG PP (prS f) fn.ntmps c = true := fun g hg h => by
    rw [hf] at hg
    obtain rfl := Option.some.inj hg
    simpa [codeOf, hc] using h
  simp only [okC, Bool.or_eq_true, beq_iff_eq] at ho
  rcases ho with ((((((((((((((((((((((((((((((((((((rfl | rfl) | rfl) | rfl) | rfl) | rfl) | rfl) | rfl) | rfl) | rfl) | rfl) | rfl) | rfl) | rfl) | rfl) | rfl) | rfl) | rfl) | rfl) | rfl) | rfl) | rfl) | rfl) | rfl) | rfl) | rfl) | rfl) | rfl) | rfl) | rfl) | rfl) | rfl) | rfl) | rfl) | rfl) | rfl) | rfl) | rfl
  · exact go _ Tryd.func26 (by decide +kernel)
  · exact go _ Tryd.func38 (by decide +kernel)
  · exact go _ Tryd.func24 (by decide +kernel)
  · exact go _ Tryd.func25 (by decide +kernel)
  · exact go _ Tryd.func40 (by decide +kernel)
  · exact go _ Tryd.func42 (by decide +kernel)
  · exact go _ Tryd.func56 (by decide +kernel)
  · exact go _ Tryd.func9 (by decide +kernel)
  · exact go _ Tryd.func33 (by decide +kernel)
  · exact go _ Tryd.func49 (by decide +kernel)
  · exact go _ Tryd.func5 (by decide +kernel)
  · exact go _ Tryd.func13 (by decide +kernel)
  · exact go _ Tryd.func14 (by decide +kernel)
  · exact go _ Tryd.func15 (by decide +kernel)
  · exact go _ Tryd.func17 (by decide +kernel)
  · exact go _ Tryd.func18 (by decide +kernel)
  · exact go _ Tryd.func20 (by decide +kernel)
  · exact go _ Tryd.func22 (by decide +kernel)
  · exact go _ Tryd.func30 (by decide +kernel)
  · exact go _ Tryd.func34 (by decide +kernel)
  · exact go _ Tryd.func8 (by decide +kernel)
  · exact go _ Tryd.func12 (by decide +kernel)
  · exact go _ Tryd.func21 (by decide +kernel)
  · exact go _ Tryd.func27 (by decide +kernel)
  · exact go _ Tryd.func28 (by decide +kernel)
  · exact go _ Tryd.func29 (by decide +kernel)
  · exact go _ Tryd.func37 (by decide +kernel)
  · exact go _ Tryd.func43 (by decide +kernel)
  · exact go _ Tryd.func53 (by decide +kernel)
  · exact go _ Tryd.func58 (by decide +kernel)
  · exact go _ Tryd.func71 (by decide +kernel)
  · exact go _ Tryd.func4 (by decide +kernel)
  · exact go _ Tryd.func11 (by decide +kernel)
  · exact go _ Tryd.func16 (by decide +kernel)
  · exact go _ Tryd.func35 (by decide +kernel)
  · exact go _ Tryd.func39 (by decide +kernel)
  · exact go _ Tryd.func41 (by decide +kernel)
  · exact go _ Tryd.func54 (by decide +kernel)
end Go.Am
