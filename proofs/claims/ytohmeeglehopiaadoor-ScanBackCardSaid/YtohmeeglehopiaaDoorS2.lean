/- A sign: what is looked at again. -/
import Derived.Test.YtohmeeglehopiaaDoorS1
open Go.Proofs
namespace Go.Am

def nextT (P : Program) (X : Xf) (K : Kf) (A : Array Oper) (rest : List Oper) (tr : List (Env × Heap)) (k : List (Env × Heap) → KE) : KE := fun E ds H => execTrF P X K A rest E ds H tr k
def noKp : List PanicEntry → KE := fun _ _ _ _ => none
section tr
variable {P : Program} {X : Xf} {K : Kf} {A : Array Oper} {d : Option Tmp} {t : TypeId} {p : String} {af : Array Edge} {E : Env} {ds : List Deferred} {H : Heap} {tr : List (Env × Heap)} {k : List (Env × Heap) → KE}
theorem nextT_app (rest : List Oper) (E : Env) (ds : List Deferred) (H : Heap) : nextT P X K A rest tr k E ds H = execTrF P X K A rest E ds H tr k := id rfl
theorem t_nil : execTrF P X K A [] E ds H tr k = k (tr ++ [(E, H)]) E ds H := id rfl
theorem t_cons (op : Op) (rest : List Oper) : execTrF P X K A (⟨d, op, t, p, af, none⟩ :: rest) E ds H tr k = opE P X K ⟨d, op, t, p, af, none⟩ E ds H (nextT P X K A rest (tr ++ [(E, H)]) k) noKp := id rfl
theorem trg_lit {L : List Oper} (h : A.toList = L) (E : Env) (ds : List Deferred) (H : Heap) : execTrF P X K A A.toList E ds H tr k = execTrF P X K A L E ds H tr k := by rw [h]
end tr
theorem g_open {P : Program} {X : Xf} {K : Kf} {N : Nat} {pr : Nat → List (Nat × Nat)} (i : Nat) (ops : Array Oper) (E : Env) (ds : List Deferred) (H : Heap) (k : KOE) (h : (pr i).isEmpty = false) :
    execG P X K N pr (.region i ops true) none E ds H k = execTrF P X K ops ops.toList E ds H [] fun tr E ds H => cond ((pr i).all fun x => pairChkE P ops tr x.1 x.2) (k .norm E ds H) none := execG_open i ops E ds H k h
theorem veq_ptr (a : Addr) : veq (.pointer (some a)) (.pointer (some a)) = true := by simp [veq, veq0]
theorem veq_slice (a : Option Addr) (n c : Nat) : veq (.slice a n c) (.slice a n c) = true := by simp [veq, veq0]
theorem veq_int (i : IntKind) (n : Int) : veq (.int i n) (.int i n) = true := by simp [veq, veq0]

theorem aggPc : aggT PP 42 = some false := by decide +kernel
theorem aggPt : aggT PP 46 = some false := by decide +kernel
theorem esPc : esT PP 42 = 1 := by decide +kernel
theorem esPt : esT PP 46 = 1 := by decide +kernel
theorem box_cur (H : Heap) (v : Value) (hv : v.cells = #[v]) : boxA PP 42 v H = some (.pointer (some ⟨H.next, 0, none⟩), H.alloc 1 [v]) := by simp only [boxA, esPc, mk, hv]
theorem box_tok (H : Heap) (v : Value) (hv : v.cells = #[v]) : boxA PP 46 v H = some (.pointer (some ⟨H.next, 0, none⟩), H.alloc 1 [v]) := by simp only [boxA, esPt, mk, hv]
/-- A row of one cell. -/
def one (v : Value) : Blk := ⟨[v], true, 1, none⟩
theorem load_pc {H : Heap} {b : Nat} {v : Value} (h : H.get b = some (one v)) : loadA PP 42 (.pointer (some ⟨b, 0, none⟩)) H = some (v, H) := by
  simp only [loadA, aggPc]
  simp [ld1, look, h, one]
theorem load_pt {H : Heap} {b : Nat} {v : Value} (h : H.get b = some (one v)) : loadA PP 46 (.pointer (some ⟨b, 0, none⟩)) H = some (v, H) := by
  simp only [loadA, aggPt]
  simp [ld1, look, h, one]
theorem load_b1 {H : Heap} {b : Nat} {v : Value} (h : H.get b = some (one v)) : loadA PP 5 (.pointer (some ⟨b, 0, none⟩)) H = some (v, H) := by
  apply load_byte
  simp [ld1, look, h, one]
theorem alloc_u8 (H : Heap) : allocA PP 5 H = some (.pointer (some ⟨H.next, 0, none⟩), H.alloc 1 [.int .u8 0]) := by
  have z : zeroT PP 5 = some [.int .u8 0] := by kernel_rfl
  have e : esT PP 5 = 1 := by decide +kernel
  simp only [allocA, z, e, mk]
theorem store_b1 {H : Heap} {b : Nat} {v : Value} (h : H.get b = some (one v)) (n : Int) : storeA PP 5 (.pointer (some ⟨b, 0, none⟩)) (.int .u8 n) H = some (undef, H.set b (one (.int .u8 n))) := by
  simp only [storeA, size5, stV]
  simp [Value.cells, st, look, h, one, over, Value.oneCell']

/-- Blocks beside; two have changed. -/
structure Lexd (H0 H : Heap) (b : Nat) (x : Blk) (t : Nat) (y : Blk) : Prop where
  next : H0.next ≤ H.next
  one : H.get b = some x
  two : H.get t = some y
  there : ∀ z w, z ≠ b → z ≠ t → H0.get z = some w → H.get z = some w
  fresh : Fresh H
theorem Two.lexd {H0 H : Heap} {b t : Nat} {x y : Blk} (h : Two H0 H b x t y) (hf : Fresh H0) (hb : b < H0.next) (ht : t < H0.next) : Lexd H0 H b x t y :=
  ⟨by rw [h.next]; exact Nat.le_refl _, h.one, h.two, fun z w h1 h2 hz => by rw [h.there z h1 h2]; exact hz, fun z hz => by rw [h.next] at hz; rw [h.there z (by omega) (by omega)]; exact hf z hz⟩
theorem Lexd.set1 {H0 H : Heap} {b t : Nat} {x y : Blk} (h : Lexd H0 H b x t y) (hbt : t ≠ b) (hb : b < H.next) (x' : Blk) : Lexd H0 (H.set b x') b x' t y :=
  ⟨h.next, by rw [Heap.get_set, if_pos rfl], by rw [Heap.get_set, if_neg hbt]; exact h.two, fun z w h1 h2 hz => by rw [Heap.get_set, if_neg h1]; exact h.there z w h1 h2 hz, fun z hz => by
    have hz' : H.next ≤ z := hz
    rw [Heap.get_set, if_neg (by omega)]; exact h.fresh z hz'⟩
theorem Lexd.set2 {H0 H : Heap} {b t : Nat} {x y : Blk} (h : Lexd H0 H b x t y) (hbt : t ≠ b) (ht : t < H.next) (y' : Blk) : Lexd H0 (H.set t y') b x t y' :=
  ⟨h.next, by rw [Heap.get_set, if_neg (Ne.symm hbt)]; exact h.one, by rw [Heap.get_set, if_pos rfl], fun z w h1 h2 hz => by rw [Heap.get_set, if_neg h2]; exact h.there z w h1 h2 hz, fun z hz => by
    have hz' : H.next ≤ z := hz
    rw [Heap.get_set, if_neg (by omega)]; exact h.fresh z hz'⟩
theorem Lexd.new {H0 H : Heap} {b t : Nat} {x y : Blk} (h : Lexd H0 H b x t y) (v : Value) (hb : b < H.next) (ht : t < H.next) : Lexd H0 (H.alloc 1 [v]) b x t y :=
  ⟨Nat.le_trans h.next (Nat.le_succ _), by rw [Heap.get_alloc, if_neg (by omega)]; exact h.one, by rw [Heap.get_alloc, if_neg (by omega)]; exact h.two, fun z w h1 h2 hz => by
    have e := h.there z w h1 h2 hz
    rw [Heap.get_alloc, if_neg (fun q => by rw [q, h.fresh _ (Nat.le_refl _)] at e; cases e)]; exact e, fun z hz => by
    have hz' : H.next + 1 ≤ z := hz
    rw [Heap.get_alloc, if_neg (by omega)]; exact h.fresh z (by omega)⟩
/-- A block beyond all that was there changes. -/
theorem Lexd.own {H0 H : Heap} {b t q : Nat} {x y : Blk} (h : Lexd H0 H b x t y) (hq : H0.next ≤ q) (hl : q < H.next) (hf : Fresh H0) (hb : b < H0.next) (ht : t < H0.next) (z' : Blk) : Lexd H0 (H.set q z') b x t y :=
  ⟨h.next, by rw [Heap.get_set, if_neg (by omega)]; exact h.one, by rw [Heap.get_set, if_neg (by omega)]; exact h.two, fun z w h1 h2 hz => by
    rw [Heap.get_set, if_neg (fun e => by rw [e, hf q hq] at hz; cases hz)]; exact h.there z w h1 h2 hz, fun z hz => by
    have hz' : H.next ≤ z := hz
    rw [Heap.get_set, if_neg (by omega)]; exact h.fresh z hz'⟩
theorem Lexd.gg {H0 H : Heap} {b t : Nat} {x y : Blk} {a : Option Addr} {c : Nat} {s : List UInt8} (h : Lexd H0 H b x t y) (k : Ctx H0 a c s b) (ht : GE.next ≤ t) : Ext GE H :=
  ⟨Nat.le_trans k.gg.next h.next, fun z w hz => h.there z w (fun e => by rw [e, fresh_GE b k.low] at hz; cases hz) (fun e => by rw [e, fresh_GE t ht] at hz; cases hz) (k.gg.keep z w hz), h.fresh⟩
theorem Lexd.row {H0 H : Heap} {b t : Nat} {x y : Blk} {a : Option Addr} {c : Nat} {s : List UInt8} (h : Lexd H0 H b x t y) (k : Ctx H0 a c s b) (ht : ∀ q, a = some q → q.block ≠ t) : Brow H a s := by
  refine ⟨fun q hq => ?_, k.row.nil, k.row.small⟩
  obtain ⟨z, h1, h2⟩ := k.row.row q hq
  refine ⟨z, ?_, h2⟩
  unfold look at h1 ⊢
  split at h1
  · cases h1
  · rename_i hs
    cases hg : H0.get q.block with
    | none => rw [hg] at h1; cases h1
    | some w =>
      rw [hg] at h1
      rw [h.there _ _ (k.ne q hq) (ht q hq) hg]
      exact h1

theorem code56 : codeOf Tryd.f56 = .seq (.region 0 (rgn Tryd.f56 0) false) (.seq (.region 1 (rgn Tryd.f56 1) false) (.seq (.seq (.region 2 (rgn Tryd.f56 2) false) (.cond (.tmp 16) (.seq (.region 3 (rgn Tryd.f56 3) false) (.region 4 (rgn Tryd.f56 4) false)) (.skip))) (.seq (.region 5 (rgn Tryd.f56 5) false) (.ret)))) := by kernel_rfl

/-- The closure of two bytes. -/
theorem call_two {N : Nat} {hk : Hook} {d : Nat} {H0 H : Heap} {a : Option Addr} {n c b t i n0 n1 n2 : Nat} {kd nn f0 t0 : Int} {w : ByteArray} (h : Lexd H0 H b (cur a n c i) t (tok kd nn w f0 t0)) (hbt : t ≠ b) (hbl : b < H.next) (htl : t < H.next)
    (_c0 : H.get n0 = some (one (.pointer (some ⟨b, 0, none⟩)))) (c1 : H.get n1 = some (one (.pointer (some ⟨t, 0, none⟩)))) (v : Int) (c2 : H.get n2 = some (one (.int .u8 v))) (h1 : n1 ≠ t) (_hn1b : n1 ≠ b)
    (second double single_ : Int) (hne : (v == second) = false) (hh : ∀ f args H, okC f = true → hk f args H = none) :
    ∃ H', Lexd H0 H' b (cur a n c i) t (tok single_ nn w f0 t0) ∧ CG N hk (d + 1) 56 #[.int .u8 second, .int .i64 double, .int .i64 single_, .pointer (some ⟨n1, 0, none⟩), .pointer (some ⟨n2, 0, none⟩), .pointer (some ⟨n0, 0, none⟩)] H = some (.ret (.bool (single_ != 0)), H') := by
  refine ⟨_, h.set2 hbt htl (tok single_ nn w f0 t0), ?_⟩
  refine (callG_fn (hh _ _ _ rfl) Tryd.func56 (c := codeOf Tryd.f56) rfl rfl rfl (pr := noPr) rfl).trans ?_
  rw [code56]
  generalize hF : finE PP Tryd.f56 = F
  have h2 : n2 ≠ t := fun e => by rw [e, h.two] at c2; simp [tok, one] at c2
  have c1' : (H.set t (tok single_ nn w f0 t0)).get n1 = some (one (.pointer (some ⟨t, 0, none⟩))) := by rw [Heap.get_set, if_neg h1]; exact c1
  have c2' : (H.set t (tok single_ nn w f0 t0)).get n2 = some (one (.int .u8 v)) := by rw [Heap.get_set, if_neg h2]; exact c2
  have ct' := get_self H t (tok single_ nn w f0 t0)
  have l0 := tl (rgn Tryd.f56 0)
  conv at l0 => rhs; simp only [rgn, opsAt, codeOf, Tryd.f56, gS, gN, reduceIte, Nat.reduceEqDiff, tA]
  have l1 := tl (rgn Tryd.f56 1)
  conv at l1 => rhs; simp only [rgn, opsAt, codeOf, Tryd.f56, gS, gN, reduceIte, Nat.reduceEqDiff, tA]
  have l2 := tl (rgn Tryd.f56 2)
  conv at l2 => rhs; simp only [rgn, opsAt, codeOf, Tryd.f56, gS, gN, reduceIte, Nat.reduceEqDiff, tA]
  have l5 := tl (rgn Tryd.f56 5)
  conv at l5 => rhs; simp only [rgn, opsAt, codeOf, Tryd.f56, gS, gN, reduceIte, Nat.reduceEqDiff, tA]
  simp (decide := true) only [↓execG_seq, ↓g_region, ↓execG_ret, ↓execG_skip, ↓g_else, thenE_norm, ↓r_nil, ↓r_cons, ↓o_move, ↓o_assign, ↓o_load, ↓o_store, ↓o_nilCheck, ↓o_binOp, ↓o_fieldAddr, nextE_app, putK_app, putO_app, putG_bool, normK_app, nilCheckA_ok, evalE_tmp, evalE_const, upd_some, upd_none, bindO_ok, bindV_ok, reduceIte, startE_0, ↓reg_lit l0, ↓reg_lit l1, ↓reg_lit l2, ↓reg_lit l5, startE_2, startE_3, startE_4, load_pt c1, tf0, store_kind h.two, load_b1 c2', binA_eql, hne, load_pt c1', load_kind ct', binA_neq]
  rw [← hF, finE_ret (l := [.bool (single_ != 0)]) (by simp (decide := true) [Tryd.f56, resE, upd_some])]
  rfl
end Go.Am
/- A sign. -/
open Go.Proofs
namespace Go.Am

def chkK (P : Program) (ops : Array Oper) (prs : List (Nat × Nat)) (k : KOE) : List (Env × Heap) → KE := fun tr E ds H => cond (prs.all fun x => pairChkE P ops tr x.1 x.2) (k .norm E ds H) none
theorem chkK_open {P : Program} {X : Xf} {K : Kf} {N : Nat} {pr : Nat → List (Nat × Nat)} (i : Nat) (ops : Array Oper) (E : Env) (ds : List Deferred) (H : Heap) (k : KOE) (h : (pr i).isEmpty = false) :
    execG P X K N pr (.region i ops true) none E ds H k = execTrF P X K ops ops.toList E ds H [] (chkK P ops (pr i) k) := execG_open i ops E ds H k h
theorem chkK_ok {P : Program} {ops : Array Oper} {prs : List (Nat × Nat)} {k : KOE} {tr : List (Env × Heap)} {E : Env} {ds : List Deferred} {H : Heap} (h : (prs.all fun x => pairChkE P ops tr x.1 x.2) = true) : chkK P ops prs k tr E ds H = k .norm E ds H := by simp only [chkK, h, cond_true]

/-- The boxes of the two parameters. -/
structure Own (H : Heap) (n0 b t : Nat) : Prop where
  c0 : H.get n0 = some (one (.pointer (some ⟨b, 0, none⟩)))
  c1 : H.get (n0 + 1) = some (one (.pointer (some ⟨t, 0, none⟩)))
theorem Own.mk0 (H : Heap) (b t : Nat) : Own ((H.alloc 1 [Value.pointer (some ⟨b, 0, none⟩)]).alloc 1 [Value.pointer (some ⟨t, 0, none⟩)]) H.next b t := by
  refine ⟨?_, ?_⟩
  · rw [Heap.get_alloc, if_neg (by show ¬ H.next = H.next + 1; omega), Heap.get_alloc, if_pos rfl]; rfl
  · rw [Heap.get_alloc]; exact if_pos rfl
theorem Own.new {H : Heap} {n0 b t : Nat} (h : Own H n0 b t) (hn : H.next = n0 + 2) (v : Value) : Own (H.alloc 1 [v]) n0 b t :=
  ⟨by rw [Heap.get_alloc, if_neg (by omega)]; exact h.c0, by rw [Heap.get_alloc, if_neg (by omega)]; exact h.c1⟩
theorem Own.set {H : Heap} {n0 b t q : Nat} (h : Own H n0 b t) (h0 : n0 ≠ q) (h1 : n0 + 1 ≠ q) (x : Blk) : Own (H.set q x) n0 b t :=
  ⟨by rw [Heap.get_set, if_neg h0]; exact h.c0, by rw [Heap.get_set, if_neg h1]; exact h.c1⟩

theorem code42 : codeOf Tryd.f42 = .seq (.region 0 (rgn Tryd.f42 0) false) (.seq (.region 1 (rgn Tryd.f42 1) true) (.seq (.seq (.region 2 (rgn Tryd.f42 2) true) (.cond (.tmp 28) (.region 3 (rgn Tryd.f42 3) true) (.skip))) (.seq (.region 4 (rgn Tryd.f42 4) false) (.seq (.region 5 (rgn Tryd.f42 5) false) (.seq (.seq (.region 6 (rgn Tryd.f42 6) false) (.block 0 (.seq (.region 7 (rgn Tryd.f42 7) false) (.cond (.tmp 49) (.seq (.region 8 (rgn Tryd.f42 8) false) (.ret)) (.seq (.region 9 (rgn Tryd.f42 9) false) (.cond (.tmp 53) (.seq (.region 10 (rgn Tryd.f42 10) false) (.ret)) (.seq (.region 11 (rgn Tryd.f42 11) false) (.cond (.tmp 57) (.seq (.region 12 (rgn Tryd.f42 12) false) (.ret)) (.seq (.region 13 (rgn Tryd.f42 13) false) (.cond (.tmp 61) (.seq (.seq (.region 14 (rgn Tryd.f42 14) false) (.cond (.tmp 64) (.seq (.region 15 (rgn Tryd.f42 15) false) (.ret)) (.skip))) (.seq (.region 16 (rgn Tryd.f42 16) false) (.ret))) (.seq (.region 17 (rgn Tryd.f42 17) false) (.cond (.tmp 69) (.seq (.seq (.region 18 (rgn Tryd.f42 18) false) (.cond (.tmp 72) (.seq (.region 19 (rgn Tryd.f42 19) false) (.ret)) (.skip))) (.seq (.region 20 (rgn Tryd.f42 20) false) (.ret))) (.skip))))))))))))) (.seq (.region 21 (rgn Tryd.f42 21) true) (.seq (.region 22 (rgn Tryd.f42 22) false) (.ret)))))))) := by kernel_rfl

section
variable {N : Nat} {hk : Hook} {d : Nat} {H : Heap} {a : Option Addr} {c : Nat} {s : List UInt8} {b t i : Nat} {nn f0 t0 : Int}
/-- What stands ahead of the choice of the sign. -/
theorem sign_head (x : Ctx H a c s b) (hb : H.get b = some (cur a s.length c i)) (ht : H.get t = some (tok 0 nn .empty f0 t0)) (hbt : t ≠ b) (htl : t < H.next) (htg : GE.next ≤ t) (hrt : ∀ q, a = some q → q.block ≠ t) (hi : i < s.length) (hh : ∀ f args H, okC f = true → hk f args H = none) {K : Kf} {Q : R → Prop} {k : KOE} {rest : Code}
    (hx : ∀ E' H', E' 5 = .int .u8 (s[i].toNat : Int) → E' 7 = .func (.func 56) #[] #[.pointer (some ⟨H.next + 1, 0, none⟩), .pointer (some ⟨H.next + 2, 0, none⟩), .pointer (some ⟨H.next, 0, none⟩)] → E' 3 = .pointer (some ⟨H.next + 1, 0, none⟩) → E' 6 = .pointer (some ⟨H.next + 2, 0, none⟩) →
      Lexd H H' b (cur a s.length c (i + 1)) t (tok 0 nn .empty f0 t0) → H'.next = H.next + 3 → Own H' H.next b t → H'.get (H.next + 2) = some (one (.int .u8 (if i + 1 < s.length then ((s.getD (i + 1) 0).toNat : Int) else 0))) → Q (execG PP XX K N pr1 rest none E' [] H' k)) :
    Q (execG PP XX K N pr1 (.seq (.region 0 (rgn Tryd.f42 0) false) (.seq (.region 1 (rgn Tryd.f42 1) true) (.seq (.seq (.region 2 (rgn Tryd.f42 2) true) (.cond (.tmp 28) (.region 3 (rgn Tryd.f42 3) true) .skip)) (.seq (.region 4 (rgn Tryd.f42 4) false) (.seq (.region 5 (rgn Tryd.f42 5) false) rest))))) none (startE #[.pointer (some ⟨b, 0, none⟩), .pointer (some ⟨t, 0, none⟩)]) [] H k) := by
  have hf := x.gg.fresh
  have hbl := x.lt
  have h0 : Lexd H H b (cur a s.length c i) t (tok 0 nn .empty f0 t0) := ⟨Nat.le_refl _, hb, ht, fun z w _ _ hz => hz, hf⟩
  have ha := h0.new (.pointer (some ⟨b, 0, none⟩)) hbl htl
  have hB := ha.new (.pointer (some ⟨t, 0, none⟩)) (Nat.lt_succ_of_lt hbl) (Nat.lt_succ_of_lt htl)
  have hC := hB.new (.int .u8 0) (by show b < H.next + 1 + 1; omega) (by show t < H.next + 1 + 1; omega)
  have hD := hC.own (q := H.next + 2) (by omega) (by show H.next + 2 < H.next + 1 + 1 + 1; omega) hf hbl htl (one (.int .u8 0))
  have nA : (H.alloc 1 [Value.pointer (some ⟨b, 0, none⟩)]).next = H.next + 1 := rfl
  have nB : ((H.alloc 1 [Value.pointer (some ⟨b, 0, none⟩)]).alloc 1 [Value.pointer (some ⟨t, 0, none⟩)]).next = H.next + 2 := rfl
  have oB : Own ((H.alloc 1 [Value.pointer (some ⟨b, 0, none⟩)]).alloc 1 [Value.pointer (some ⟨t, 0, none⟩)]) H.next b t := .mk0 H b t
  have oC : Own (((H.alloc 1 [Value.pointer (some ⟨b, 0, none⟩)]).alloc 1 [Value.pointer (some ⟨t, 0, none⟩)]).alloc 1 [.int .u8 0]) H.next b t := oB.new rfl _
  have vC : (((H.alloc 1 [Value.pointer (some ⟨b, 0, none⟩)]).alloc 1 [Value.pointer (some ⟨t, 0, none⟩)]).alloc 1 [.int .u8 0]).get (H.next + 2) = some (one (.int .u8 0)) := by rw [Heap.get_alloc]; exact if_pos rfl
  have oD := oC.set (q := H.next + 2) (by omega) (by omega) (one (.int .u8 0))
  obtain ⟨y, rfl⟩ : ∃ y, a = some y := by
    cases a with
    | none => exact absurd (x.row.nil rfl) (by intro e; rw [e] at hi; simp at hi)
    | some y => exact ⟨y, rfl⟩
  have rB := hB.row x hrt
  obtain ⟨y', e', hl⟩ := rB.bts.cell i hi
  obtain rfl := Option.some.inj e'
  obtain ⟨y2, e2, hlC⟩ := (hC.row x hrt).bts.cell i hi
  obtain rfl := Option.some.inj e2
  have hix := index_row (n := s.length) (c := c) (a := y) hi
  have hsm := x.row.small
  have w : IntKind.i64.wrap ((i : Int) + 1) = ((i + 1 : Nat) : Int) := by rw [wrap_i64 (by omega) (by omega)]; omega
  have l0 := tl (rgn Tryd.f42 0)
  conv at l0 => rhs; simp only [rgn, opsAt, codeOf, Tryd.f42, gS, gN, reduceIte, Nat.reduceEqDiff, tA]
  have l1 := tl (rgn Tryd.f42 1)
  conv at l1 => rhs; simp only [rgn, opsAt, codeOf, Tryd.f42, gS, gN, reduceIte, Nat.reduceEqDiff, tA]
  have l2 := tl (rgn Tryd.f42 2)
  conv at l2 => rhs; simp only [rgn, opsAt, codeOf, Tryd.f42, gS, gN, reduceIte, Nat.reduceEqDiff, tA]
  have l3 := tl (rgn Tryd.f42 3)
  conv at l3 => rhs; simp only [rgn, opsAt, codeOf, Tryd.f42, gS, gN, reduceIte, Nat.reduceEqDiff, tA]
  have l4 := tl (rgn Tryd.f42 4)
  conv at l4 => rhs; simp only [rgn, opsAt, codeOf, Tryd.f42, gS, gN, reduceIte, Nat.reduceEqDiff, tA]
  have l5 := tl (rgn Tryd.f42 5)
  conv at l5 => rhs; simp only [rgn, opsAt, codeOf, Tryd.f42, gS, gN, reduceIte, Nat.reduceEqDiff, tA]
  simp (decide := true) only [↓g_plain, chkK_open, ↓trg_lit l1, ↓t_nil, ↓t_cons, nextT_app, pr1, ↓execG_seq, thenE_norm, ↓r_nil, ↓r_cons, ↓o_assign, ↓o_alloc, ↓o_box, ↓o_load, ↓o_store, ↓o_nilCheck, ↓o_fieldAddr, ↓o_indexAddr, nextE_app, putK_app, putO_app, normK_app, nilCheckA_ok, evalE_tmp, evalE_const, upd_some, upd_none, bindO_ok, bindV_ok, reduceIte, startE_0, startE_1, ↓reg_lit l0, box_cur _ (.pointer (some ⟨b, 0, none⟩)) rfl, box_tok _ (.pointer (some ⟨t, 0, none⟩)) rfl, nA, nB, load_pc oB.c0, load_src hB.one, load_at hB.one, fld0, fld1, hix, load_byte hl, alloc_u8, store_b1 vC]
  simp only [List.nil_append, List.cons_append]
  rw [chkK_ok (by simp (decide := true) only [List.all_cons, List.all_nil, pairChkE, l1, List.getElem?_cons_zero, List.getElem?_cons_succ, guardBE, qval, opK, evalE_tmp, upd_some, reduceIte, bindV_ok, Bool.and_self, veq_ptr, veq_slice, veq_int, load_pc oB.c0, load_pc oC.c0, load_src hB.one, load_src hC.one, load_at hB.one, load_at hC.one, load_byte hl, load_byte hlC])]
  have vD := get_self (((H.alloc 1 [Value.pointer (some ⟨b, 0, none⟩)]).alloc 1 [Value.pointer (some ⟨t, 0, none⟩)]).alloc 1 [.int .u8 0]) (H.next + 2) (one (.int .u8 0))
  have nD : ((((H.alloc 1 [Value.pointer (some ⟨b, 0, none⟩)]).alloc 1 [Value.pointer (some ⟨t, 0, none⟩)]).alloc 1 [.int .u8 0]).set (H.next + 2) (one (.int .u8 0))).next = H.next + 3 := rfl
  generalize ((((H.alloc 1 [Value.pointer (some ⟨b, 0, none⟩)]).alloc 1 [Value.pointer (some ⟨t, 0, none⟩)]).alloc 1 [.int .u8 0]).set (H.next + 2) (one (.int .u8 0))) = HD at *
  have rD := hD.row x hrt
  by_cases h1 : i + 1 < s.length
  · have hlt : decide (((i + 1 : Nat) : Int) < (s.length : Int)) = true := decide_eq_true (by omega)
    obtain ⟨y3, e3, hl1⟩ := rD.bts.cell (i + 1) h1
    obtain rfl := Option.some.inj e3
    have hix1 := index_row (n := s.length) (c := c) (a := y) h1
    have hE := hD.own (q := H.next + 2) (by omega) (by omega) hf hbl htl (one (.int .u8 (s[i + 1].toNat : Int)))
    have oE := oD.set (q := H.next + 2) (by omega) (by omega) (one (.int .u8 (s[i + 1].toNat : Int)))
    have vE := get_self HD (H.next + 2) (one (.int .u8 (s[i + 1].toNat : Int)))
    have hG := hE.set1 hbt (by show b < HD.next; omega) (cur (some y) s.length c (i + 1))
    simp (decide := true) only [↓g_plain, g_still (pr := pr1) 2 _ _ _ _ _ rfl, g_still (pr := pr1) 3 _ _ _ _ _ rfl, ↓execG_seq, ↓g_if, thenE_norm, ↓r_nil, ↓r_cons, ↓o_assign, ↓o_load, ↓o_store, ↓o_nilCheck, ↓o_binOp, ↓o_makeFunc, ↓o_fieldAddr, ↓o_indexAddr, ↓o_builtin, nextE_app, putK_app, putO_app, putG_bool, putG_int, normK_app, nilCheckA_ok, evalE_tmp, evalE_const, upd_some, upd_none, bindO_ok, bindV_ok, reduceIte, map_one, map_three, map_nil, ↓reg_lit l2, ↓reg_lit l3, ↓reg_lit l4, ↓reg_lit l5, load_pc oD.c0, load_src hD.one, load_at hD.one, fld0, fld1, binA_add, w, len_slice (ts := #[26]) rfl und34, binA_lss, hlt, hix1, load_byte hl1, store_b1 vD, load_pc oE.c0, load_at hE.one, store_at hE.one]
    refine hx _ _ ?_ ?_ ?_ ?_ hG (by show HD.next = _; exact nD) (oE.set (by omega) (by omega) _) (by rw [Heap.get_set, if_neg (by omega), vE, if_pos h1]; simp [List.getD, h1])
    all_goals simp (decide := true) only [upd_some, reduceIte]
  · have hlt : decide (((i + 1 : Nat) : Int) < (s.length : Int)) = false := decide_eq_false (by omega)
    have hG := hD.set1 hbt (by omega) (cur (some y) s.length c (i + 1))
    simp (decide := true) only [↓g_plain, g_still (pr := pr1) 2 _ _ _ _ _ rfl, ↓execG_seq, ↓execG_skip, ↓g_else, thenE_norm, ↓r_nil, ↓r_cons, ↓o_assign, ↓o_load, ↓o_store, ↓o_nilCheck, ↓o_binOp, ↓o_makeFunc, ↓o_fieldAddr, ↓o_builtin, nextE_app, putK_app, putO_app, putG_bool, putG_int, normK_app, nilCheckA_ok, evalE_tmp, evalE_const, upd_some, upd_none, bindO_ok, bindV_ok, reduceIte, map_one, map_three, map_nil, ↓reg_lit l2, ↓reg_lit l4, ↓reg_lit l5, load_pc oD.c0, load_src hD.one, load_at hD.one, fld0, fld1, binA_add, w, len_slice (ts := #[26]) rfl und34, binA_lss, hlt, store_at hD.one]
    refine hx _ _ ?_ ?_ ?_ ?_ hG (by show HD.next = _; exact nD) (oD.set (by omega) (by omega) _) (by rw [Heap.get_set, if_neg (by omega), vD, if_neg h1])
    all_goals simp (decide := true) only [upd_some, reduceIte]
end
end Go.Am
/- A sign: what it answers. -/
open Go.Proofs
namespace Go.Am

theorem app33 (a b c x y z : Value) : (#[] ++ #[a, b, c] ++ #[x, y, z] : Array Value) = #[a, b, c, x, y, z] := rfl
section
variable {N : Nat} {hk : Hook} {d : Nat} {H : Heap} {a : Option Addr} {c : Nat} {s : List UInt8} {b t i : Nat} {nn f0 t0 : Int}
/-- A sign of one byte that begins no other. -/
theorem call_plain (x : Ctx H a c s b) (hb : H.get b = some (cur a s.length c i)) (ht : H.get t = some (tok 0 nn .empty f0 t0)) (hbt : t ≠ b) (htl : t < H.next) (htg : GE.next ≤ t) (hrt : ∀ q, a = some q → q.block ≠ t) (hi : i < s.length) (hh : ∀ f args H, okC f = true → hk f args H = none) (h46 : ((s[i].toNat : Int) == 46) = false) (h33 : ((s[i].toNat : Int) == 33) = false) (h61 : ((s[i].toNat : Int) == 61) = false) (h60 : ((s[i].toNat : Int) == 60) = false) (h62 : ((s[i].toNat : Int) == 62) = false)
    {kd : Int} (hs : ∀ H, Ext GE H → hk 57 #[.int .u8 (s[i].toNat : Int)] H = some (some (.ret (.int .i64 kd), H))) :
    ∃ H', Lexd H H' b (cur a s.length c (i + 1)) t (tok kd nn .empty f0 t0) ∧ CG N hk (d + 2) 42 #[.pointer (some ⟨b, 0, none⟩), .pointer (some ⟨t, 0, none⟩)] H = some (.ret (.bool true), H') := by
  have main : ∃ R0 : R, CG N hk (d + 2) 42 #[.pointer (some ⟨b, 0, none⟩), .pointer (some ⟨t, 0, none⟩)] H = R0 ∧ ∃ H', Lexd H H' b (cur a s.length c (i + 1)) t (tok kd nn .empty f0 t0) ∧ R0 = some (.ret (.bool true), H') := by
    refine ⟨_, callG_fn (hh _ _ _ rfl) Tryd.func42 (c := codeOf Tryd.f42) rfl rfl rfl (pr := pr1) rfl, ?_⟩
    rw [code42]
    generalize hF : finE PP Tryd.f42 = F
    refine sign_head (Q := fun r => ∃ H', Lexd H H' b (cur a s.length c (i + 1)) t (tok kd nn .empty f0 t0) ∧ r = some (.ret (.bool true), H')) x hb ht hbt htl htg hrt hi hh fun E H' e5 e7 e3 e6 hL hn own hv => ?_
    have hcall : CG N hk (d + 1) 57 #[.int .u8 (s[i].toNat : Int)] H' = some (.ret (.int .i64 kd), H') := callG_hook (hs H' (hL.gg x htg))
    have l6 := tl (rgn Tryd.f42 6)
    conv at l6 => rhs; simp only [rgn, opsAt, codeOf, Tryd.f42, gS, gN, reduceIte, Nat.reduceEqDiff, tA]
    have l7 := tl (rgn Tryd.f42 7)
    conv at l7 => rhs; simp only [rgn, opsAt, codeOf, Tryd.f42, gS, gN, reduceIte, Nat.reduceEqDiff, tA]
    have l9 := tl (rgn Tryd.f42 9)
    conv at l9 => rhs; simp only [rgn, opsAt, codeOf, Tryd.f42, gS, gN, reduceIte, Nat.reduceEqDiff, tA]
    have l11 := tl (rgn Tryd.f42 11)
    conv at l11 => rhs; simp only [rgn, opsAt, codeOf, Tryd.f42, gS, gN, reduceIte, Nat.reduceEqDiff, tA]
    have l13 := tl (rgn Tryd.f42 13)
    conv at l13 => rhs; simp only [rgn, opsAt, codeOf, Tryd.f42, gS, gN, reduceIte, Nat.reduceEqDiff, tA]
    have l17 := tl (rgn Tryd.f42 17)
    conv at l17 => rhs; simp only [rgn, opsAt, codeOf, Tryd.f42, gS, gN, reduceIte, Nat.reduceEqDiff, tA]
    have l21 := tl (rgn Tryd.f42 21)
    conv at l21 => rhs; simp only [rgn, opsAt, codeOf, Tryd.f42, gS, gN, reduceIte, Nat.reduceEqDiff, tA]
    have l22 := tl (rgn Tryd.f42 22)
    conv at l22 => rhs; simp only [rgn, opsAt, codeOf, Tryd.f42, gS, gN, reduceIte, Nat.reduceEqDiff, tA]
    simp (decide := true) only [↓g_plain, chkK_open, ↓trg_lit l21, ↓t_nil, ↓t_cons, nextT_app, pr1, ↓execG_seq, ↓execG_block, ↓execG_skip, ↓g_else, thenE_norm, leaveB_norm, ↓r_nil, ↓r_cons, ↓o_move, ↓o_assign, ↓o_load, ↓o_store, ↓o_nilCheck, ↓o_binOp, ↓o_fieldAddr, ↓o_callf, nextE_app, putK_app, putO_app, putG_bool, normK_app, nilCheckA_ok, evalE_tmp, evalE_const, upd_some, upd_none, bindO_ok, bindV_ok, reduceIte, map_one, ↓reg_lit l6, ↓reg_lit l7, ↓reg_lit l9, ↓reg_lit l11, ↓reg_lit l13, ↓reg_lit l17, e5, e3, binA_eql, h46, h33, h61, h60, h62, load_pt own.c1, callK_fn Tryd.func57 rfl rfl hcall, tf0, store_kind hL.two]
    simp only [List.nil_append, List.cons_append]
    rw [chkK_ok (by simp (decide := true) only [List.all_cons, List.all_nil, pairChkE, l21, List.getElem?_cons_zero, List.getElem?_cons_succ, guardBE, qval, opK, evalE_tmp, upd_some, reduceIte, bindV_ok, Bool.and_self, veq_ptr, e3, load_pt own.c1])]
    refine ⟨_, hL.set2 hbt (by omega) _, ?_⟩
    simp (decide := true) only [↓g_plain, ↓execG_seq, ↓execG_ret, thenE_norm, ↓r_nil, ↓r_cons, ↓o_assign, nextE_app, normK_app, evalE_const, ↓reg_lit l22]
    rw [← hF, finE_ret (l := [.bool true]) (by simp (decide := true) [Tryd.f42, resE, upd_some])]
    rfl
  obtain ⟨R0, m1, H', m2, m3⟩ := main
  exact ⟨H', m2, m1.trans m3⟩
/-- A '!' that stands by itself. -/
theorem call_bang (x : Ctx H a c s b) (hb : H.get b = some (cur a s.length c i)) (ht : H.get t = some (tok 0 nn .empty f0 t0)) (hbt : t ≠ b) (htl : t < H.next) (htg : GE.next ≤ t) (hrt : ∀ q, a = some q → q.block ≠ t) (hi : i < s.length) (hh : ∀ f args H, okC f = true → hk f args H = none) (h46 : ((s[i].toNat : Int) == 46) = false) (h33 : ((s[i].toNat : Int) == 33) = true) (hn : ((if i + 1 < s.length then ((s.getD (i + 1) 0).toNat : Int) else 0) == 61) = false) :
    ∃ H', Lexd H H' b (cur a s.length c (i + 1)) t (tok 0 nn .empty f0 t0) ∧ CG N hk (d + 2) 42 #[.pointer (some ⟨b, 0, none⟩), .pointer (some ⟨t, 0, none⟩)] H = some (.ret (.bool false), H') := by
  have main : ∃ R0 : R, CG N hk (d + 2) 42 #[.pointer (some ⟨b, 0, none⟩), .pointer (some ⟨t, 0, none⟩)] H = R0 ∧ ∃ H', Lexd H H' b (cur a s.length c (i + 1)) t (tok 0 nn .empty f0 t0) ∧ R0 = some (.ret (.bool false), H') := by
    refine ⟨_, callG_fn (hh _ _ _ rfl) Tryd.func42 (c := codeOf Tryd.f42) rfl rfl rfl (pr := pr1) rfl, ?_⟩
    rw [code42]
    generalize hF : finE PP Tryd.f42 = F
    refine sign_head (Q := fun r => ∃ H', Lexd H H' b (cur a s.length c (i + 1)) t (tok 0 nn .empty f0 t0) ∧ r = some (.ret (.bool false), H')) x hb ht hbt htl htg hrt hi hh fun E H' e5 e7 e3 e6 hL hnx own hv => ?_
    obtain ⟨H2, h2, hcall⟩ := call_two (N := N) (hk := hk) (d := d) hL hbt (by have := x.lt; omega) (by omega) own.c0 own.c1 _ hv (by omega) (by have := x.lt; omega) 61 15 0 hn hh
    have l6 := tl (rgn Tryd.f42 6)
    conv at l6 => rhs; simp only [rgn, opsAt, codeOf, Tryd.f42, gS, gN, reduceIte, Nat.reduceEqDiff, tA]
    have l7 := tl (rgn Tryd.f42 7)
    conv at l7 => rhs; simp only [rgn, opsAt, codeOf, Tryd.f42, gS, gN, reduceIte, Nat.reduceEqDiff, tA]
    have l9 := tl (rgn Tryd.f42 9)
    conv at l9 => rhs; simp only [rgn, opsAt, codeOf, Tryd.f42, gS, gN, reduceIte, Nat.reduceEqDiff, tA]
    have l10 := tl (rgn Tryd.f42 10)
    conv at l10 => rhs; simp only [rgn, opsAt, codeOf, Tryd.f42, gS, gN, reduceIte, Nat.reduceEqDiff, tA]
    simp (decide := true) only [↓g_plain, ↓execG_seq, ↓execG_block, ↓execG_ret, ↓g_if, ↓g_else, thenE_norm, thenE_ret, leaveB_ret, ↓r_nil, ↓r_cons, ↓o_move, ↓o_assign, ↓o_binOp, nextE_app, putK_app, putG_bool, normK_app, evalE_tmp, evalE_const, upd_some, bindO_ok, reduceIte, map_three, ↓reg_lit l6, ↓reg_lit l7, ↓reg_lit l9, ↓reg_lit l10, e5, e7, binA_eql, h46, h33, ↓o_callv 55 _ _ 56 #[] #[.pointer (some ⟨H.next + 1, 0, none⟩), .pointer (some ⟨H.next + 2, 0, none⟩), .pointer (some ⟨H.next, 0, none⟩)], app33, callK_fn Tryd.func56 rfl rfl hcall]
    refine ⟨_, h2, ?_⟩
    rw [← hF, finE_ret (l := [.bool ((0 : Int) != 0)]) (by simp (decide := true) [Tryd.f42, resE, upd_some])]
    rfl
  obtain ⟨R0, m1, H', m2, m3⟩ := main
  exact ⟨H', m2, m1.trans m3⟩
end
end Go.Am
