/- Two places are compared. -/
import Derived.Test.YtmliebodadgpbaaGreatDoorLI
open Go.Proofs
namespace Go.Am
theorem pureRun_bind {α β : Type} (P : Program) (s : Sem α) (f : α → Sem β) : pureRun P (s >>= f) = (pureRun P s).bind fun a => pureRun P (f a) := by
  induction s with
  | pure x => rfl
  | program k ih => exact ih P
  | mark m k ih => exact ih
  | _ => rfl
theorem pureRun_pure {α : Type} (P : Program) (a : α) : pureRun P (pure a) = some a := rfl
theorem pureRun_prog (P : Program) : pureRun P program = some P := rfl
noncomputable def f3 (i : Nat) : Field := (PP.fieldsOf 30).getD i default
theorem und30 : PP.underlying 30 = some (.struct #[f3 0, f3 1, f3 2]) := by kernel_rfl
theorem names30 : (f3 0).name ≠ "_" ∧ (f3 1).name ≠ "_" ∧ (f3 2).name ≠ "_" := by decide +kernel
theorem f30 : (f3 0).type = 3 ∧ (f3 0).offset = 0 ∧ (f3 1).type = 3 ∧ (f3 1).offset = 1 ∧ (f3 2).type = 3 ∧ (f3 2).offset = 2 := by decide +kernel
theorem stood30 : PP.stoodInHeld 30 = false := by kernel_rfl
theorem guard30 : PP.eqGuardType PP.depth 30 = false := by kernel_rfl
theorem und3 : PP.underlying 3 = some (.int .i64) := Tryz.underlying3
theorem pureRun_u30 : pureRun PP (underlying 30) = some (.struct #[f3 0, f3 1, f3 2]) := by
  simp [underlying, pureRun_bind, pureRun_prog, pureRun_pure]
  exact ⟨by kernel_rfl, by kernel_rfl, by kernel_rfl⟩
theorem pureRun_u3 : pureRun PP (underlying 3) = some (.int .i64) := by
  simp [underlying, pureRun_bind, pureRun_prog, pureRun_pure]
theorem part3 (cs : Array Value) (i : Nat) (v : Value) (h : cs[i]? = some v) : pureRun PP (part 3 cs i) = some v := by
  have ha : pureRun PP (isAgg 3) = some false := by kernel_rfl
  simp [part, pureRun_bind, ha, h, pureRun_pure]
theorem eqI (d : Nat) (x : Int) : pureRun PP (Op.equalIn (d + 1) 3 (.int .i64 x) (.int .i64 x)) = some true := by
  simp [Op.equalIn, pureRun_bind, pureRun_u3, pureRun_pure]
theorem eqS (d : Nat) (x y w : Int) : pureRun PP (Op.equalIn (d + 2) 30 (.agg #[.int .i64 x, .int .i64 y, .int .i64 w]) (.agg #[.int .i64 x, .int .i64 y, .int .i64 w])) = some true := by
  obtain ⟨n0, n1, n2⟩ := names30
  obtain ⟨t0, o0, t1, o1, t2, o2⟩ := f30
  have p0 := part3 #[.int .i64 x, .int .i64 y, .int .i64 w] 0 (.int .i64 x) rfl
  have p1 := part3 #[.int .i64 x, .int .i64 y, .int .i64 w] 1 (.int .i64 y) rfl
  have p2 := part3 #[.int .i64 x, .int .i64 y, .int .i64 w] 2 (.int .i64 w) rfl
  unfold Op.equalIn
  simp only [pureRun_bind, pureRun_u30, Option.bind_some, pureRun_prog, stood30]
  rw [← Array.forIn_toList]
  simp [pureRun_bind, pureRun_pure, n0, n1, n2, t0, t1, t2, o0, o1, o2, p0, p1, p2, eqI]
theorem eq30 (o1 o2 : Operand) (x y w : Int) : binA PP .eql 30 o1 o2 (.agg #[.int .i64 x, .int .i64 y, .int .i64 w]) (.agg #[.int .i64 x, .int .i64 y, .int .i64 w]) = some (.bool true) := by
  have he := eqS 9998 x y w
  have hd : Op.maxDepth = 9998 + 2 := rfl
  rw [← hd] at he
  unfold binA
  rw [if_pos (by simp [ground, atomic])]
  simp only [eqGuard, binOp, Op.equal, pureRun_bind, pureRun_pure]
  simp only [he]
  simp [pureRun_pure, pureRun_bind, pureRun_prog]
end Go.Am
