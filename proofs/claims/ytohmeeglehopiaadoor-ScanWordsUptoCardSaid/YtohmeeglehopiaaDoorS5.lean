/- An integer: its end and its suffix. -/
import Derived.Test.YtohmeeglehopiaaDoorS4
import Derived.Test.YtohmeeglehopiaaDoorG1
open Go.Proofs
namespace Go.Am

/-- What an integer's reading comes to. -/
inductive IR where
  | bad (e : Nat)
  | good (n e : Nat)
def endI (s : List UInt8) (i n : Nat) : IR := if isW s i then .bad i else .good n i
def mulI (s : List UInt8) (i n f : Nat) : IR := if n * f < m64 then endI s (i + 1) (n * f) else .bad i
def sufI (s : List UInt8) (i n : Nat) : IR := if isI s i 4 then (if s.getD i 0 = 77 then mulI s i n 1048576 else if s.getD i 0 = 75 then mulI s i n 1024 else .bad i) else endI s i n
/-- What stands when the reading ends. -/
def Fin (H0 : Heap) (a : Option Addr) (l c b t : Nat) (kd : Int) (w : ByteArray) (f0 t0 : Int) (r : IR) (E' : Env) (H' : Heap) : Prop :=
  match r with
  | .bad e => E' 4 = .bool false ∧ ∃ y, Two H0 H' b (cur a l c e) t y
  | .good n e => E' 4 = .bool true ∧ Two H0 H' b (cur a l c e) t (tok kd (n : Int) w f0 t0)
theorem Two.row {H0 H : Heap} {b t : Nat} {x y : Blk} {a : Option Addr} {c : Nat} {s : List UInt8} (h : Two H0 H b x t y) (k : Ctx H0 a c s b) (ht : ∀ q, a = some q → q.block ≠ t) : Brow H a s := by
  refine ⟨fun q hq => ?_, k.row.nil, k.row.small⟩
  obtain ⟨z, h1, h2⟩ := k.row.row q hq
  refine ⟨z, ?_, h2⟩
  have hn := h.there q.block (k.ne q hq) (ht q hq)
  unfold look at h1 ⊢
  rw [hn]; exact h1
theorem Two.gg {H0 H : Heap} {b t : Nat} {x y : Blk} {a : Option Addr} {c : Nat} {s : List UInt8} (h : Two H0 H b x t y) (k : Ctx H0 a c s b) (htl : t < H0.next) (ht : GE.next ≤ t) : Ext GE H :=
  (h.lexd k.gg.fresh k.lt htl).gg k ht
section
end
end Go.Am
/- An integer: its digits. -/
open Go.Proofs
namespace Go.Am

theorem hexT_nn (u : Nat) : 0 ≤ hexT u := by
  unfold hexT
  repeat' split
  all_goals omega
def dg (u : UInt8) : Nat := u.toNat - 48
def decI (s : List UInt8) : Nat → Nat → Nat → IR
  | 0, i, n => sufI s i n
  | k + 1, i, n => if isI s i 3 then (if n * 10 + dg (s.getD i 0) < m64 then decI s k (i + 1) (n * 10 + dg (s.getD i 0)) else .bad i) else sufI s i n
theorem dec_ok {s : List UInt8} {f i n : Nat} {u : UInt8} (h3 : isI s i 3 = true) (hu : s.getD i 0 = u) (ov : n * 10 + dg u < m64) : decI s (f + 1) i n = decI s f (i + 1) (n * 10 + dg u) := by
  subst hu
  unfold decI
  rw [h3, if_pos rfl, if_pos ov]
  cases f <;> rfl
theorem dec_no {s : List UInt8} {f i n : Nat} {u : UInt8} (h3 : isI s i 3 = true) (hu : s.getD i 0 = u) (ov : ¬ n * 10 + dg u < m64) : decI s (f + 1) i n = .bad i := by
  subst hu
  unfold decI
  rw [h3, if_pos rfl, if_neg ov]
def endH (s : List UInt8) (fr i n : Nat) : IR := if i = fr then .bad i else sufI s i n
def hexI (s : List UInt8) (fr : Nat) : Nat → Nat → Nat → IR
  | 0, i, n => endH s fr i n
  | k + 1, i, n => if hexT (s.getD i 0).toNat < 16 then (if n * 16 + (hexT (s.getD i 0).toNat).toNat < m64 then hexI s fr k (i + 1) (n * 16 + (hexT (s.getD i 0).toNat).toNat) else .bad i) else endH s fr i n
theorem conv_u64 (x : Int) (H : Heap) : convertA PP 5 27 (.int .u8 x) H = some (.int .u64 (IntKind.u64.wrap x), H) := by kernel_rfl
theorem wrap_u64' {x : Int} (h0 : 0 ≤ x) (h1 : x < 18446744073709551616) : IntKind.u64.wrap x = x := by rw [IntKind.wrap_u64]; omega
theorem wrap_u8' {x : Int} (h0 : 0 ≤ x) (h1 : x < 256) : IntKind.u8.wrap x = x := by
  simp only [IntKind.wrap, IntKind.bits, IntKind.signed]
  simp
  omega
section jumps
variable {K : Kf} {N : Nat}
end jumps
end Go.Am
