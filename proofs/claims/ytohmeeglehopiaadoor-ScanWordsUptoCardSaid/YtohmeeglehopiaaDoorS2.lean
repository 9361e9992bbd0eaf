/- A sign: what is looked at again. -/
import Derived.Test.YtohmeeglehopiaaDoorS1
open Go.Proofs
namespace Go.Am

def nextT (P : Program) (X : Xf) (K : Kf) (A : Array Oper) (rest : List Oper) (tr : List (Env × Heap)) (k : List (Env × Heap) → KE) : KE := fun E ds H => execTrF P X K A rest E ds H tr k
def noKp : List PanicEntry → KE := fun _ _ _ _ => none
section tr
variable {P : Program} {X : Xf} {K : Kf} {A : Array Oper} {d : Option Tmp} {t : TypeId} {p : String} {af : Array Edge} {E : Env} {ds : List Deferred} {H : Heap} {tr : List (Env × Heap)} {k : List (Env × Heap) → KE}
theorem nextT_app (rest : List Oper) (E : Env) (ds : List Deferred) (H : Heap) : nextT P X K A rest tr k E ds H = execTrF P X K A rest E ds H tr k := id rfl
theorem t_nil : execTrF P X K A [] E ds H tr k = k (tr ++ [(E, H)]) E ds H := id rfl
theorem t_cons (op : Op) (rest : List Oper) : execTrF P X K A (⟨d, op, t, p, af, none⟩ :: rest) E ds H tr k = opE P X K ⟨d, op, t, p, af, none⟩ E ds H (nextT P X K A rest (tr ++ [(E, H)]) k) noKp := id rfl
theorem trg_lit {L : List Oper} (h : A.toList = L) (E : Env) (ds : List Deferred) (H : Heap) : execTrF P X K A A.toList E ds H tr k = execTrF P X K A L E ds H tr k := by rw [h]
end tr
/-- A row of one cell. -/
def one (v : Value) : Blk := ⟨[v], true, 1, none⟩
/-- Blocks beside; two have changed. -/
structure Lexd (H0 H : Heap) (b : Nat) (x : Blk) (t : Nat) (y : Blk) : Prop where
  next : H0.next ≤ H.next
  one : H.get b = some x
  two : H.get t = some y
  there : ∀ z w, z ≠ b → z ≠ t → H0.get z = some w → H.get z = some w
  fresh : Fresh H
theorem Two.lexd {H0 H : Heap} {b t : Nat} {x y : Blk} (h : Two H0 H b x t y) (hf : Fresh H0) (hb : b < H0.next) (ht : t < H0.next) : Lexd H0 H b x t y :=
  ⟨by rw [h.next]; exact Nat.le_refl _, h.one, h.two, fun z w h1 h2 hz => by rw [h.there z h1 h2]; exact hz, fun z hz => by rw [h.next] at hz; rw [h.there z (by omega) (by omega)]; exact hf z hz⟩
theorem Lexd.new {H0 H : Heap} {b t : Nat} {x y : Blk} (h : Lexd H0 H b x t y) (v : Value) (hb : b < H.next) (ht : t < H.next) : Lexd H0 (H.alloc 1 [v]) b x t y :=
  ⟨Nat.le_trans h.next (Nat.le_succ _), by rw [Heap.get_alloc, if_neg (by omega)]; exact h.one, by rw [Heap.get_alloc, if_neg (by omega)]; exact h.two, fun z w h1 h2 hz => by
    have e := h.there z w h1 h2 hz
    rw [Heap.get_alloc, if_neg (fun q => by rw [q, h.fresh _ (Nat.le_refl _)] at e; cases e)]; exact e, fun z hz => by
    have hz' : H.next + 1 ≤ z := hz
    rw [Heap.get_alloc, if_neg (by omega)]; exact h.fresh z (by omega)⟩
/-- A block beyond all that was there changes. -/
theorem Lexd.own {H0 H : Heap} {b t q : Nat} {x y : Blk} (h : Lexd H0 H b x t y) (hq : H0.next ≤ q) (hl : q < H.next) (hf : Fresh H0) (hb : b < H0.next) (ht : t < H0.next) (z' : Blk) : Lexd H0 (H.set q z') b x t y :=
  ⟨h.next, by rw [Heap.get_set, if_neg (by omega)]; exact h.one, by rw [Heap.get_set, if_neg (by omega)]; exact h.two, fun z w h1 h2 hz => by
    rw [Heap.get_set, if_neg (fun e => by rw [e, hf q hq] at hz; cases hz)]; exact h.there z w h1 h2 hz, fun z hz => by
    have hz' : H.next ≤ z := hz
    rw [Heap.get_set, if_neg (by omega)]; exact h.fresh z hz'⟩
theorem Lexd.gg {H0 H : Heap} {b t : Nat} {x y : Blk} {a : Option Addr} {c : Nat} {s : List UInt8} (h : Lexd H0 H b x t y) (k : Ctx H0 a c s b) (ht : GE.next ≤ t) : Ext GE H :=
  ⟨Nat.le_trans k.gg.next h.next, fun z w hz => h.there z w (fun e => by rw [e, fresh_GE b k.low] at hz; cases hz) (fun e => by rw [e, fresh_GE t ht] at hz; cases hz) (k.gg.keep z w hz), h.fresh⟩
theorem Lexd.row {H0 H : Heap} {b t : Nat} {x y : Blk} {a : Option Addr} {c : Nat} {s : List UInt8} (h : Lexd H0 H b x t y) (k : Ctx H0 a c s b) (ht : ∀ q, a = some q → q.block ≠ t) : Brow H a s := by
  refine ⟨fun q hq => ?_, k.row.nil, k.row.small⟩
  obtain ⟨z, h1, h2⟩ := k.row.row q hq
  refine ⟨z, ?_, h2⟩
  unfold look at h1 ⊢
  split at h1
  · cases h1
  · rename_i hs
    cases hg : H0.get q.block with
    | none => rw [hg] at h1; cases h1
    | some w =>
      rw [hg] at h1
      rw [h.there _ _ (k.ne q hq) (ht q hq) hg]
      exact h1

end Go.Am
/- A sign. -/
open Go.Proofs
namespace Go.Am

def chkK (P : Program) (ops : Array Oper) (prs : List (Nat × Nat)) (k : KOE) : List (Env × Heap) → KE := fun tr E ds H => cond (prs.all fun x => pairChkE P ops tr x.1 x.2) (k .norm E ds H) none
theorem chkK_open {P : Program} {X : Xf} {K : Kf} {N : Nat} {pr : Nat → List (Nat × Nat)} (i : Nat) (ops : Array Oper) (E : Env) (ds : List Deferred) (H : Heap) (k : KOE) (h : (pr i).isEmpty = false) :
    execG P X K N pr (.region i ops true) none E ds H k = execTrF P X K ops ops.toList E ds H [] (chkK P ops (pr i) k) := execG_open i ops E ds H k h
theorem chkK_ok {P : Program} {ops : Array Oper} {prs : List (Nat × Nat)} {k : KOE} {tr : List (Env × Heap)} {E : Env} {ds : List Deferred} {H : Heap} (h : (prs.all fun x => pairChkE P ops tr x.1 x.2) = true) : chkK P ops prs k tr E ds H = k .norm E ds H := by simp only [chkK, h, cond_true]

/-- The boxes of the two parameters. -/
structure Own (H : Heap) (n0 b t : Nat) : Prop where
  c0 : H.get n0 = some (one (.pointer (some ⟨b, 0, none⟩)))
  c1 : H.get (n0 + 1) = some (one (.pointer (some ⟨t, 0, none⟩)))
theorem Own.new {H : Heap} {n0 b t : Nat} (h : Own H n0 b t) (hn : H.next = n0 + 2) (v : Value) : Own (H.alloc 1 [v]) n0 b t :=
  ⟨by rw [Heap.get_alloc, if_neg (by omega)]; exact h.c0, by rw [Heap.get_alloc, if_neg (by omega)]; exact h.c1⟩
theorem Own.set {H : Heap} {n0 b t q : Nat} (h : Own H n0 b t) (h0 : n0 ≠ q) (h1 : n0 + 1 ≠ q) (x : Blk) : Own (H.set q x) n0 b t :=
  ⟨by rw [Heap.get_set, if_neg h0]; exact h.c0, by rw [Heap.get_set, if_neg h1]; exact h.c1⟩

section
variable {N : Nat} {hk : Hook} {d : Nat} {H : Heap} {a : Option Addr} {c : Nat} {s : List UInt8} {b t i : Nat} {nn f0 t0 : Int}
end
end Go.Am
/- A sign: what it answers. -/
open Go.Proofs
namespace Go.Am

section
variable {N : Nat} {hk : Hook} {d : Nat} {H : Heap} {a : Option Addr} {c : Nat} {s : List UInt8} {b t i : Nat} {nn f0 t0 : Int}
end
end Go.Am
