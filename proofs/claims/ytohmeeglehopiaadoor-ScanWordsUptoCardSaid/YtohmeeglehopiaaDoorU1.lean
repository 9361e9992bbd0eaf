/- A number as it is spelled: the answer that is looked up. -/
import Derived.Test.YtohmeeglehopiaaDoorB1
import Derived.Test.YtohmeeglehopiaaDoorS1
import Derived.Test.YtohmeeglehopiaaDoorG1
open Go.Proofs
namespace Go.Am
def okB (f : FuncId) : Bool := f == 19 || f == 37
noncomputable abbrev KB (N : Nat) (d : Nat) : Kf := callG PP okB (fun _ => noPr) XX N hookN d
theorem goodB : GoodG PP okB (fun _ => noPr) := by
  intro f fn c ho hf hc
  have go : ∀ g, PP.funcs[f]? = some g → goodG PP noPr g.ntmps (g.body.getD .skip) = true → goodG PP noPr fn.ntmps c = true := fun g hg h => by
    rw [hf] at hg
    obtain rfl := Option.some.inj hg
    simpa [hc] using h
  simp only [okB, Bool.or_eq_true, beq_iff_eq] at ho
  rcases ho with rfl | rfl
  · exact go _ Tryd.func19 (by decide +kernel)
  · exact go _ Tryd.func37 (by decide +kernel)
theorem KB_sound (N d : Nat) : KSnd PP (KB N d) := callG_sound goodB XX_sound hookN_sound mixed d
theorem hookN_no {f : FuncId} {args : Array Value} {H : Heap} (h : Nat.beq f 53 = false) : hookN f args H = none := by simp only [hookN, h, cond_false]
theorem code19 : codeOf Tryd.f19 = .seq (.region 0 (rgn Tryd.f19 0) false) (.seq (.region 1 (rgn Tryd.f19 1) false) (.ret)) := by kernel_rfl
theorem code37 : codeOf Tryd.f37 = .seq (.region 0 (rgn Tryd.f37 0) false) (.seq (.region 1 (rgn Tryd.f37 1) false) (.ret)) := by kernel_rfl

theorem num37 {N d : Nat} {H : Heap} {u : Int} (h0 : 0 ≤ u) (h1 : u < 18446744073709551616) (hp : powOk H = true) :
    KB N (d + 2) 37 #[.slice none 0 0, .int .u64 u, .int .i64 10] H = some (.ret (.slice (some ⟨H.next, 0, none⟩) (digV u.toNat).length (digV u.toNat).length), H.alloc 1 (digV u.toNat)) := by
  have e0 : Nat.beq 53 53 = true := rfl
  have hk : hookN 53 #[.slice none 0 0, .int .u64 u, .int .i64 10] H = some (some (.ret (.slice (some ⟨H.next, 0, none⟩) (digV u.toNat).length (digV u.toNat).length), H.alloc 1 (digV u.toNat))) := by
    simp only [hookN, e0, cond_true, decide_eq_true h0, decide_eq_true h1, hp, Bool.and_self]
  have hc : KB N (d + 1) 53 #[.slice none 0 0, .int .u64 u, .int .i64 10] H = _ := callG_hook hk
  have main : ∃ R0 : R, KB N (d + 2) 37 #[.slice none 0 0, .int .u64 u, .int .i64 10] H = R0 ∧ R0 = some (.ret (.slice (some ⟨H.next, 0, none⟩) (digV u.toNat).length (digV u.toNat).length), H.alloc 1 (digV u.toNat)) := by
    refine ⟨_, callG_fn (hookN_no rfl) Tryd.func37 (c := codeOf Tryd.f37) rfl rfl rfl (pr := noPr) rfl, ?_⟩
    rw [code37]
    generalize hF : finE PP Tryd.f37 = F
    have l0 := tl (rgn Tryd.f37 0)
    conv at l0 => rhs; simp only [rgn, opsAt, codeOf, Tryd.f37, gS, gN, reduceIte, Nat.reduceEqDiff, tA]
    have l1 := tl (rgn Tryd.f37 1)
    conv at l1 => rhs; simp only [rgn, opsAt, codeOf, Tryd.f37, gS, gN, reduceIte, Nat.reduceEqDiff, tA]
    simp (decide := true) only [↓execG_seq, ↓g_region, ↓execG_ret, thenE_norm, ↓r_nil, ↓r_cons, ↓o_move, ↓o_assign, ↓o_callf, nextE_app, putK_app, normK_app, evalE_tmp, evalE_const, upd_some, reduceIte, map_three, startE_0, startE_1, ↓reg_lit l0, ↓reg_lit l1, startE_2, callK_fn Tryd.func53 rfl rfl hc]
    rw [← hF, finE_ret (l := [.slice (some ⟨H.next, 0, none⟩) (digV u.toNat).length (digV u.toNat).length]) (by simp (decide := true) [Tryd.f37, resE, upd_some])]
    rfl
  obtain ⟨R0, m1, m2⟩ := main
  exact m1.trans m2
theorem num19 {N d : Nat} {H : Heap} {u : Int} (h0 : 0 ≤ u) (h1 : u < 18446744073709551616) (hp : powOk H = true) :
    KB N (d + 3) 19 #[.int .u64 u] H = some (.ret (.slice (some ⟨H.next, 0, none⟩) (digV u.toNat).length (digV u.toNat).length), H.alloc 1 (digV u.toNat)) := by
  have hc := num37 (N := N) (d := d) h0 h1 hp
  have main : ∃ R0 : R, KB N (d + 3) 19 #[.int .u64 u] H = R0 ∧ R0 = some (.ret (.slice (some ⟨H.next, 0, none⟩) (digV u.toNat).length (digV u.toNat).length), H.alloc 1 (digV u.toNat)) := by
    refine ⟨_, callG_fn (hookN_no rfl) Tryd.func19 (c := codeOf Tryd.f19) rfl rfl rfl (pr := noPr) rfl, ?_⟩
    rw [code19]
    generalize hF : finE PP Tryd.f19 = F
    have l0 := tl (rgn Tryd.f19 0)
    conv at l0 => rhs; simp only [rgn, opsAt, codeOf, Tryd.f19, gS, gN, reduceIte, Nat.reduceEqDiff, tA]
    have l1 := tl (rgn Tryd.f19 1)
    conv at l1 => rhs; simp only [rgn, opsAt, codeOf, Tryd.f19, gS, gN, reduceIte, Nat.reduceEqDiff, tA]
    simp (decide := true) only [↓execG_seq, ↓g_region, ↓execG_ret, thenE_norm, ↓r_nil, ↓r_cons, ↓o_move, ↓o_assign, ↓o_callf, nextE_app, putK_app, normK_app, evalE_tmp, evalE_const, upd_some, reduceIte, map_three, startE_0, ↓reg_lit l0, ↓reg_lit l1, callK_fn Tryd.func37 rfl rfl hc]
    rw [← hF, finE_ret (l := [.slice (some ⟨H.next, 0, none⟩) (digV u.toNat).length (digV u.toNat).length]) (by simp (decide := true) [Tryd.f19, resE, upd_some])]
    rfl
  obtain ⟨R0, m1, m2⟩ := main
  exact m1.trans m2
def hookU : Hook := fun f args H =>
  cond (Nat.beq f 19) (match args.toList with
    | [.int .u64 u] => cond (decide (0 ≤ u) && decide (u < 18446744073709551616) && powOk H) (some (some (.ret (.slice (some ⟨H.next, 0, none⟩) (digV u.toNat).length (digV u.toNat).length), H.alloc 1 (digV u.toNat)))) none
    | _ => none) none
theorem hookU_sound : HookSnd PP hookU := by
  intro f args H r H' he
  unfold hookU at he
  cases hf : Nat.beq f 19 with
  | false => rw [hf] at he; simp at he
  | true =>
  rw [hf] at he
  obtain rfl := Nat.eq_of_beq_eq_true hf
  simp only [cond_true] at he
  split at he
  · rename_i u hs
    cases h1 : (decide (0 ≤ u) && decide (u < 18446744073709551616) && powOk H) with
    | false => rw [h1] at he; simp at he
    | true =>
    rw [h1] at he
    simp only [cond_true, Option.some.injEq, Prod.mk.injEq] at he
    obtain ⟨rfl, rfl⟩ := he
    simp only [Bool.and_eq_true, decide_eq_true_eq] at h1
    have ea : args = #[.int .u64 u] := by cases args; simp_all
    subst ea
    exact KB_sound 1 3 19 _ H _ _ (num19 (d := 0) h1.1.1 h1.1.2 h1.2)
  · simp at he
end Go.Am
