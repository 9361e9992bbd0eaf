/- A sign: all of them. -/
import Derived.Test.YtohmeeglehopiaaDoorS2
import Derived.Test.YtohmeeglehopiaaDoorD1
import Derived.Test.YtohmeeglehopiaaDoorS3
open Go.Proofs
namespace Go.Am

/-- The closure of two bytes, where the second one stands. -/
theorem call_two2 {N : Nat} {hk : Hook} {d : Nat} {H0 H : Heap} {a : Option Addr} {n c b t i n0 : Nat} {kd nn f0 t0 : Int} {w : ByteArray} (h : Lexd H0 H b (cur a n c i) t (tok kd nn w f0 t0)) (hbt : t ≠ b) (hbl : b < H.next) (htl : t < H.next)
    (c0 : H.get n0 = some (one (.pointer (some ⟨b, 0, none⟩)))) (c1 : H.get (n0 + 1) = some (one (.pointer (some ⟨t, 0, none⟩)))) (v : Int) (c2 : H.get (n0 + 2) = some (one (.int .u8 v))) (h1 : n0 + 1 ≠ t) (hn1b : n0 + 1 ≠ b)
    (second double single_ : Int) (heq : (v == second) = true) (hn0t : n0 ≠ t) (_hn0b : n0 ≠ b) (hi : i < 9223372036854775806) (hh : ∀ f args H, okC f = true → hk f args H = none) :
    ∃ H', Lexd H0 H' b (cur a n c (i + 1)) t (tok double nn w f0 t0) ∧ CG N hk (d + 1) 56 #[.int .u8 second, .int .i64 double, .int .i64 single_, .pointer (some ⟨n0 + 1, 0, none⟩), .pointer (some ⟨n0 + 2, 0, none⟩), .pointer (some ⟨n0, 0, none⟩)] H = some (.ret (.bool (double != 0)), H') := by
  have a1 := h.set2 hbt htl (tok single_ nn w f0 t0)
  have a2 := a1.set2 hbt (by exact htl) (tok double nn w f0 t0)
  have a3 := a2.set1 hbt (by exact hbl) (cur a n c (i + 1))
  refine ⟨_, a3, ?_⟩
  refine (callG_fn (hh _ _ _ rfl) Tryd.func56 (c := codeOf Tryd.f56) rfl rfl rfl (pr := noPr) rfl).trans ?_
  rw [code56]
  generalize hF : finE PP Tryd.f56 = F
  have h2 : n0 + 2 ≠ t := fun e => by rw [e, h.two] at c2; simp [tok, one] at c2
  have g : ∀ (G : Heap) (q : Nat) (x : Blk) (z : Nat) (y : Option Blk), z ≠ q → G.get z = y → (G.set q x).get z = y := fun G q x z y hz hy => by rw [Heap.get_set, if_neg hz]; exact hy
  have k1 := g H t (tok single_ nn w f0 t0) _ _ h1 c1
  have k2 := g H t (tok single_ nn w f0 t0) _ _ h2 c2
  have k0 := g _ t (tok double nn w f0 t0) _ _ hn0t (g H t (tok single_ nn w f0 t0) _ _ hn0t c0)
  have k3 := g _ b (cur a n c (i + 1)) _ _ hn1b (g _ t (tok double nn w f0 t0) _ _ h1 k1)
  have w1 : IntKind.i64.wrap ((i : Int) + 1) = ((i + 1 : Nat) : Int) := by rw [wrap_i64 (by omega) (by omega)]; omega
  have l0 := tl (rgn Tryd.f56 0)
  conv at l0 => rhs; simp only [rgn, opsAt, codeOf, Tryd.f56, gS, gN, reduceIte, Nat.reduceEqDiff, tA]
  have l1 := tl (rgn Tryd.f56 1)
  conv at l1 => rhs; simp only [rgn, opsAt, codeOf, Tryd.f56, gS, gN, reduceIte, Nat.reduceEqDiff, tA]
  have l2 := tl (rgn Tryd.f56 2)
  conv at l2 => rhs; simp only [rgn, opsAt, codeOf, Tryd.f56, gS, gN, reduceIte, Nat.reduceEqDiff, tA]
  have l3 := tl (rgn Tryd.f56 3)
  conv at l3 => rhs; simp only [rgn, opsAt, codeOf, Tryd.f56, gS, gN, reduceIte, Nat.reduceEqDiff, tA]
  have l4 := tl (rgn Tryd.f56 4)
  conv at l4 => rhs; simp only [rgn, opsAt, codeOf, Tryd.f56, gS, gN, reduceIte, Nat.reduceEqDiff, tA]
  have l5 := tl (rgn Tryd.f56 5)
  conv at l5 => rhs; simp only [rgn, opsAt, codeOf, Tryd.f56, gS, gN, reduceIte, Nat.reduceEqDiff, tA]
  simp (decide := true) only [↓execG_seq, ↓g_region, ↓execG_ret, ↓g_if, thenE_norm, ↓r_nil, ↓r_cons, ↓o_move, ↓o_assign, ↓o_load, ↓o_store, ↓o_nilCheck, ↓o_binOp, ↓o_fieldAddr, nextE_app, putK_app, putO_app, putG_bool, putG_int, normK_app, nilCheckA_ok, evalE_tmp, evalE_const, upd_some, upd_none, bindO_ok, bindV_ok, reduceIte, startE_0, startE_1, ↓reg_lit l0, ↓reg_lit l1, ↓reg_lit l2, ↓reg_lit l3, ↓reg_lit l4, ↓reg_lit l5, startE_2, startE_3, startE_4, startE_5, load_pt c1, tf0, store_kind h.two, load_b1 k2, binA_eql, heq, load_pt k1, store_kind a1.two, load_pc k0, fld1, load_at a2.one, store_at a2.one, binA_add, w1, load_pt k3, load_kind a3.two, binA_neq]
  rw [← hF, finE_ret (l := [.bool (double != 0)]) (by simp (decide := true) [Tryd.f56, resE, upd_some])]
  rfl
section
variable {N : Nat} {hk : Hook} {d : Nat} {H : Heap} {a : Option Addr} {c : Nat} {s : List UInt8} {b t i : Nat} {nn f0 t0 : Int}
theorem sg_a1 (x : Ctx H a c s b) (hb : H.get b = some (cur a s.length c i)) (ht : H.get t = some (tok 0 nn .empty f0 t0)) (hbt : t ≠ b) (htl : t < H.next) (htg : GE.next ≤ t) (hrt : ∀ q, a = some q → q.block ≠ t) (hi : i < s.length) (hh : ∀ f args H, okC f = true → hk f args H = none) (hsl : s.length < 9223372036854775000) (h46 : ((s[i].toNat : Int) == 46) = true) (hn : ((if i + 1 < s.length then ((s.getD (i + 1) 0).toNat : Int) else 0) == 46) = true) :
    ∃ H', Lexd H H' b (cur a s.length c (i + 1 + 1)) t (tok 12 nn .empty f0 t0) ∧ CG N hk (d + 2) 42 #[.pointer (some ⟨b, 0, none⟩), .pointer (some ⟨t, 0, none⟩)] H = some (.ret (.bool true), H') := by
  have main : ∃ R0 : R, CG N hk (d + 2) 42 #[.pointer (some ⟨b, 0, none⟩), .pointer (some ⟨t, 0, none⟩)] H = R0 ∧ ∃ H', Lexd H H' b (cur a s.length c (i + 1 + 1)) t (tok 12 nn .empty f0 t0) ∧ R0 = some (.ret (.bool true), H') := by
    refine ⟨_, callG_fn (hh _ _ _ rfl) Tryd.func42 (c := codeOf Tryd.f42) rfl rfl rfl (pr := pr1) rfl, ?_⟩
    rw [code42]
    generalize hF : finE PP Tryd.f42 = F
    refine sign_head (Q := fun r => ∃ H', Lexd H H' b (cur a s.length c (i + 1 + 1)) t (tok 12 nn .empty f0 t0) ∧ r = some (.ret (.bool true), H')) x hb ht hbt htl htg hrt hi hh fun E H' e5 e7 e3 e6 hL hnx own hv => ?_
    have hbl := x.lt
    have hsm := x.row.small
    obtain ⟨H2, h2, hcall⟩ := call_two2 (N := N) (hk := hk) (d := d) hL hbt (by omega) (by omega) own.c0 own.c1 _ hv (by omega) (by omega) 46 12 0 hn (by omega) (by omega) (by omega) hh
    have l6 := tl (rgn Tryd.f42 6)
    conv at l6 => rhs; simp only [rgn, opsAt, codeOf, Tryd.f42, gS, gN, reduceIte, Nat.reduceEqDiff, tA]
    have l7 := tl (rgn Tryd.f42 7)
    conv at l7 => rhs; simp only [rgn, opsAt, codeOf, Tryd.f42, gS, gN, reduceIte, Nat.reduceEqDiff, tA]
    have l8 := tl (rgn Tryd.f42 8)
    conv at l8 => rhs; simp only [rgn, opsAt, codeOf, Tryd.f42, gS, gN, reduceIte, Nat.reduceEqDiff, tA]
    simp (decide := true) only [↓g_plain, ↓execG_seq, ↓execG_block, ↓execG_ret, ↓g_if, thenE_norm, thenE_ret, leaveB_ret, ↓r_nil, ↓r_cons, ↓o_move, ↓o_assign, ↓o_binOp, nextE_app, putK_app, putG_bool, normK_app, evalE_tmp, evalE_const, upd_some, bindO_ok, reduceIte, map_three, ↓reg_lit l6, ↓reg_lit l7, ↓reg_lit l8, e5, e7, binA_eql, h46, ↓o_callv 51 _ _ 56 #[] #[.pointer (some ⟨H.next + 1, 0, none⟩), .pointer (some ⟨H.next + 2, 0, none⟩), .pointer (some ⟨H.next, 0, none⟩)], app33, callK_fn Tryd.func56 rfl rfl hcall]
    refine ⟨_, h2, ?_⟩
    rw [← hF, finE_ret (l := [.bool ((12 : Int) != 0)]) (by simp (decide := true) [Tryd.f42, resE, upd_some])]
    rfl
  obtain ⟨R0, m1, H', m2, m3⟩ := main
  exact ⟨H', m2, m1.trans m3⟩
theorem sg_a2 (x : Ctx H a c s b) (hb : H.get b = some (cur a s.length c i)) (ht : H.get t = some (tok 0 nn .empty f0 t0)) (hbt : t ≠ b) (htl : t < H.next) (htg : GE.next ≤ t) (hrt : ∀ q, a = some q → q.block ≠ t) (hi : i < s.length) (hh : ∀ f args H, okC f = true → hk f args H = none) (hsl : s.length < 9223372036854775000) (h46 : ((s[i].toNat : Int) == 46) = true) (hn : ((if i + 1 < s.length then ((s.getD (i + 1) 0).toNat : Int) else 0) == 46) = false) :
    ∃ H', Lexd H H' b (cur a s.length c (i + 1)) t (tok 0 nn .empty f0 t0) ∧ CG N hk (d + 2) 42 #[.pointer (some ⟨b, 0, none⟩), .pointer (some ⟨t, 0, none⟩)] H = some (.ret (.bool false), H') := by
  have main : ∃ R0 : R, CG N hk (d + 2) 42 #[.pointer (some ⟨b, 0, none⟩), .pointer (some ⟨t, 0, none⟩)] H = R0 ∧ ∃ H', Lexd H H' b (cur a s.length c (i + 1)) t (tok 0 nn .empty f0 t0) ∧ R0 = some (.ret (.bool false), H') := by
    refine ⟨_, callG_fn (hh _ _ _ rfl) Tryd.func42 (c := codeOf Tryd.f42) rfl rfl rfl (pr := pr1) rfl, ?_⟩
    rw [code42]
    generalize hF : finE PP Tryd.f42 = F
    refine sign_head (Q := fun r => ∃ H', Lexd H H' b (cur a s.length c (i + 1)) t (tok 0 nn .empty f0 t0) ∧ r = some (.ret (.bool false), H')) x hb ht hbt htl htg hrt hi hh fun E H' e5 e7 e3 e6 hL hnx own hv => ?_
    have hbl := x.lt
    have hsm := x.row.small
    obtain ⟨H2, h2, hcall⟩ := call_two (N := N) (hk := hk) (d := d) hL hbt (by omega) (by omega) own.c0 own.c1 _ hv (by omega) (by omega) 46 12 0 hn hh
    have l6 := tl (rgn Tryd.f42 6)
    conv at l6 => rhs; simp only [rgn, opsAt, codeOf, Tryd.f42, gS, gN, reduceIte, Nat.reduceEqDiff, tA]
    have l7 := tl (rgn Tryd.f42 7)
    conv at l7 => rhs; simp only [rgn, opsAt, codeOf, Tryd.f42, gS, gN, reduceIte, Nat.reduceEqDiff, tA]
    have l8 := tl (rgn Tryd.f42 8)
    conv at l8 => rhs; simp only [rgn, opsAt, codeOf, Tryd.f42, gS, gN, reduceIte, Nat.reduceEqDiff, tA]
    simp (decide := true) only [↓g_plain, ↓execG_seq, ↓execG_block, ↓execG_ret, ↓g_if, thenE_norm, thenE_ret, leaveB_ret, ↓r_nil, ↓r_cons, ↓o_move, ↓o_assign, ↓o_binOp, nextE_app, putK_app, putG_bool, normK_app, evalE_tmp, evalE_const, upd_some, bindO_ok, reduceIte, map_three, ↓reg_lit l6, ↓reg_lit l7, ↓reg_lit l8, e5, e7, binA_eql, h46, ↓o_callv 51 _ _ 56 #[] #[.pointer (some ⟨H.next + 1, 0, none⟩), .pointer (some ⟨H.next + 2, 0, none⟩), .pointer (some ⟨H.next, 0, none⟩)], app33, callK_fn Tryd.func56 rfl rfl hcall]
    refine ⟨_, h2, ?_⟩
    rw [← hF, finE_ret (l := [.bool ((0 : Int) != 0)]) (by simp (decide := true) [Tryd.f42, resE, upd_some])]
    rfl
  obtain ⟨R0, m1, H', m2, m3⟩ := main
  exact ⟨H', m2, m1.trans m3⟩
theorem sg_b1 (x : Ctx H a c s b) (hb : H.get b = some (cur a s.length c i)) (ht : H.get t = some (tok 0 nn .empty f0 t0)) (hbt : t ≠ b) (htl : t < H.next) (htg : GE.next ≤ t) (hrt : ∀ q, a = some q → q.block ≠ t) (hi : i < s.length) (hh : ∀ f args H, okC f = true → hk f args H = none) (hsl : s.length < 9223372036854775000) (h46 : ((s[i].toNat : Int) == 46) = false) (h33 : ((s[i].toNat : Int) == 33) = true) (hn : ((if i + 1 < s.length then ((s.getD (i + 1) 0).toNat : Int) else 0) == 61) = true) :
    ∃ H', Lexd H H' b (cur a s.length c (i + 1 + 1)) t (tok 15 nn .empty f0 t0) ∧ CG N hk (d + 2) 42 #[.pointer (some ⟨b, 0, none⟩), .pointer (some ⟨t, 0, none⟩)] H = some (.ret (.bool true), H') := by
  have main : ∃ R0 : R, CG N hk (d + 2) 42 #[.pointer (some ⟨b, 0, none⟩), .pointer (some ⟨t, 0, none⟩)] H = R0 ∧ ∃ H', Lexd H H' b (cur a s.length c (i + 1 + 1)) t (tok 15 nn .empty f0 t0) ∧ R0 = some (.ret (.bool true), H') := by
    refine ⟨_, callG_fn (hh _ _ _ rfl) Tryd.func42 (c := codeOf Tryd.f42) rfl rfl rfl (pr := pr1) rfl, ?_⟩
    rw [code42]
    generalize hF : finE PP Tryd.f42 = F
    refine sign_head (Q := fun r => ∃ H', Lexd H H' b (cur a s.length c (i + 1 + 1)) t (tok 15 nn .empty f0 t0) ∧ r = some (.ret (.bool true), H')) x hb ht hbt htl htg hrt hi hh fun E H' e5 e7 e3 e6 hL hnx own hv => ?_
    have hbl := x.lt
    have hsm := x.row.small
    obtain ⟨H2, h2, hcall⟩ := call_two2 (N := N) (hk := hk) (d := d) hL hbt (by omega) (by omega) own.c0 own.c1 _ hv (by omega) (by omega) 61 15 0 hn (by omega) (by omega) (by omega) hh
    have l6 := tl (rgn Tryd.f42 6)
    conv at l6 => rhs; simp only [rgn, opsAt, codeOf, Tryd.f42, gS, gN, reduceIte, Nat.reduceEqDiff, tA]
    have l7 := tl (rgn Tryd.f42 7)
    conv at l7 => rhs; simp only [rgn, opsAt, codeOf, Tryd.f42, gS, gN, reduceIte, Nat.reduceEqDiff, tA]
    have l9 := tl (rgn Tryd.f42 9)
    conv at l9 => rhs; simp only [rgn, opsAt, codeOf, Tryd.f42, gS, gN, reduceIte, Nat.reduceEqDiff, tA]
    have l10 := tl (rgn Tryd.f42 10)
    conv at l10 => rhs; simp only [rgn, opsAt, codeOf, Tryd.f42, gS, gN, reduceIte, Nat.reduceEqDiff, tA]
    simp (decide := true) only [↓g_plain, ↓execG_seq, ↓execG_block, ↓execG_ret, ↓g_if, ↓g_else, thenE_norm, thenE_ret, leaveB_ret, ↓r_nil, ↓r_cons, ↓o_move, ↓o_assign, ↓o_binOp, nextE_app, putK_app, putG_bool, normK_app, evalE_tmp, evalE_const, upd_some, bindO_ok, reduceIte, map_three, ↓reg_lit l6, ↓reg_lit l7, ↓reg_lit l9, ↓reg_lit l10, e5, e7, binA_eql, h46, h33, ↓o_callv 55 _ _ 56 #[] #[.pointer (some ⟨H.next + 1, 0, none⟩), .pointer (some ⟨H.next + 2, 0, none⟩), .pointer (some ⟨H.next, 0, none⟩)], app33, callK_fn Tryd.func56 rfl rfl hcall]
    refine ⟨_, h2, ?_⟩
    rw [← hF, finE_ret (l := [.bool ((15 : Int) != 0)]) (by simp (decide := true) [Tryd.f42, resE, upd_some])]
    rfl
  obtain ⟨R0, m1, H', m2, m3⟩ := main
  exact ⟨H', m2, m1.trans m3⟩
theorem sg_c1 (x : Ctx H a c s b) (hb : H.get b = some (cur a s.length c i)) (ht : H.get t = some (tok 0 nn .empty f0 t0)) (hbt : t ≠ b) (htl : t < H.next) (htg : GE.next ≤ t) (hrt : ∀ q, a = some q → q.block ≠ t) (hi : i < s.length) (hh : ∀ f args H, okC f = true → hk f args H = none) (hsl : s.length < 9223372036854775000) (h46 : ((s[i].toNat : Int) == 46) = false) (h33 : ((s[i].toNat : Int) == 33) = false) (h61 : ((s[i].toNat : Int) == 61) = true) (hn : ((if i + 1 < s.length then ((s.getD (i + 1) 0).toNat : Int) else 0) == 61) = true) :
    ∃ H', Lexd H H' b (cur a s.length c (i + 1 + 1)) t (tok 14 nn .empty f0 t0) ∧ CG N hk (d + 2) 42 #[.pointer (some ⟨b, 0, none⟩), .pointer (some ⟨t, 0, none⟩)] H = some (.ret (.bool true), H') := by
  have main : ∃ R0 : R, CG N hk (d + 2) 42 #[.pointer (some ⟨b, 0, none⟩), .pointer (some ⟨t, 0, none⟩)] H = R0 ∧ ∃ H', Lexd H H' b (cur a s.length c (i + 1 + 1)) t (tok 14 nn .empty f0 t0) ∧ R0 = some (.ret (.bool true), H') := by
    refine ⟨_, callG_fn (hh _ _ _ rfl) Tryd.func42 (c := codeOf Tryd.f42) rfl rfl rfl (pr := pr1) rfl, ?_⟩
    rw [code42]
    generalize hF : finE PP Tryd.f42 = F
    refine sign_head (Q := fun r => ∃ H', Lexd H H' b (cur a s.length c (i + 1 + 1)) t (tok 14 nn .empty f0 t0) ∧ r = some (.ret (.bool true), H')) x hb ht hbt htl htg hrt hi hh fun E H' e5 e7 e3 e6 hL hnx own hv => ?_
    have hbl := x.lt
    have hsm := x.row.small
    obtain ⟨H2, h2, hcall⟩ := call_two2 (N := N) (hk := hk) (d := d) hL hbt (by omega) (by omega) own.c0 own.c1 _ hv (by omega) (by omega) 61 14 13 hn (by omega) (by omega) (by omega) hh
    have l6 := tl (rgn Tryd.f42 6)
    conv at l6 => rhs; simp only [rgn, opsAt, codeOf, Tryd.f42, gS, gN, reduceIte, Nat.reduceEqDiff, tA]
    have l7 := tl (rgn Tryd.f42 7)
    conv at l7 => rhs; simp only [rgn, opsAt, codeOf, Tryd.f42, gS, gN, reduceIte, Nat.reduceEqDiff, tA]
    have l9 := tl (rgn Tryd.f42 9)
    conv at l9 => rhs; simp only [rgn, opsAt, codeOf, Tryd.f42, gS, gN, reduceIte, Nat.reduceEqDiff, tA]
    have l11 := tl (rgn Tryd.f42 11)
    conv at l11 => rhs; simp only [rgn, opsAt, codeOf, Tryd.f42, gS, gN, reduceIte, Nat.reduceEqDiff, tA]
    have l12 := tl (rgn Tryd.f42 12)
    conv at l12 => rhs; simp only [rgn, opsAt, codeOf, Tryd.f42, gS, gN, reduceIte, Nat.reduceEqDiff, tA]
    simp (decide := true) only [↓g_plain, ↓execG_seq, ↓execG_block, ↓execG_ret, ↓g_if, ↓g_else, thenE_norm, thenE_ret, leaveB_ret, ↓r_nil, ↓r_cons, ↓o_move, ↓o_assign, ↓o_binOp, nextE_app, putK_app, putG_bool, normK_app, evalE_tmp, evalE_const, upd_some, bindO_ok, reduceIte, map_three, ↓reg_lit l6, ↓reg_lit l7, ↓reg_lit l9, ↓reg_lit l11, ↓reg_lit l12, e5, e7, binA_eql, h46, h33, h61, ↓o_callv 59 _ _ 56 #[] #[.pointer (some ⟨H.next + 1, 0, none⟩), .pointer (some ⟨H.next + 2, 0, none⟩), .pointer (some ⟨H.next, 0, none⟩)], app33, callK_fn Tryd.func56 rfl rfl hcall]
    refine ⟨_, h2, ?_⟩
    rw [← hF, finE_ret (l := [.bool ((14 : Int) != 0)]) (by simp (decide := true) [Tryd.f42, resE, upd_some])]
    rfl
  obtain ⟨R0, m1, H', m2, m3⟩ := main
  exact ⟨H', m2, m1.trans m3⟩
theorem sg_c2 (x : Ctx H a c s b) (hb : H.get b = some (cur a s.length c i)) (ht : H.get t = some (tok 0 nn .empty f0 t0)) (hbt : t ≠ b) (htl : t < H.next) (htg : GE.next ≤ t) (hrt : ∀ q, a = some q → q.block ≠ t) (hi : i < s.length) (hh : ∀ f args H, okC f = true → hk f args H = none) (hsl : s.length < 9223372036854775000) (h46 : ((s[i].toNat : Int) == 46) = false) (h33 : ((s[i].toNat : Int) == 33) = false) (h61 : ((s[i].toNat : Int) == 61) = true) (hn : ((if i + 1 < s.length then ((s.getD (i + 1) 0).toNat : Int) else 0) == 61) = false) :
    ∃ H', Lexd H H' b (cur a s.length c (i + 1)) t (tok 13 nn .empty f0 t0) ∧ CG N hk (d + 2) 42 #[.pointer (some ⟨b, 0, none⟩), .pointer (some ⟨t, 0, none⟩)] H = some (.ret (.bool true), H') := by
  have main : ∃ R0 : R, CG N hk (d + 2) 42 #[.pointer (some ⟨b, 0, none⟩), .pointer (some ⟨t, 0, none⟩)] H = R0 ∧ ∃ H', Lexd H H' b (cur a s.length c (i + 1)) t (tok 13 nn .empty f0 t0) ∧ R0 = some (.ret (.bool true), H') := by
    refine ⟨_, callG_fn (hh _ _ _ rfl) Tryd.func42 (c := codeOf Tryd.f42) rfl rfl rfl (pr := pr1) rfl, ?_⟩
    rw [code42]
    generalize hF : finE PP Tryd.f42 = F
    refine sign_head (Q := fun r => ∃ H', Lexd H H' b (cur a s.length c (i + 1)) t (tok 13 nn .empty f0 t0) ∧ r = some (.ret (.bool true), H')) x hb ht hbt htl htg hrt hi hh fun E H' e5 e7 e3 e6 hL hnx own hv => ?_
    have hbl := x.lt
    have hsm := x.row.small
    obtain ⟨H2, h2, hcall⟩ := call_two (N := N) (hk := hk) (d := d) hL hbt (by omega) (by omega) own.c0 own.c1 _ hv (by omega) (by omega) 61 14 13 hn hh
    have l6 := tl (rgn Tryd.f42 6)
    conv at l6 => rhs; simp only [rgn, opsAt, codeOf, Tryd.f42, gS, gN, reduceIte, Nat.reduceEqDiff, tA]
    have l7 := tl (rgn Tryd.f42 7)
    conv at l7 => rhs; simp only [rgn, opsAt, codeOf, Tryd.f42, gS, gN, reduceIte, Nat.reduceEqDiff, tA]
    have l9 := tl (rgn Tryd.f42 9)
    conv at l9 => rhs; simp only [rgn, opsAt, codeOf, Tryd.f42, gS, gN, reduceIte, Nat.reduceEqDiff, tA]
    have l11 := tl (rgn Tryd.f42 11)
    conv at l11 => rhs; simp only [rgn, opsAt, codeOf, Tryd.f42, gS, gN, reduceIte, Nat.reduceEqDiff, tA]
    have l12 := tl (rgn Tryd.f42 12)
    conv at l12 => rhs; simp only [rgn, opsAt, codeOf, Tryd.f42, gS, gN, reduceIte, Nat.reduceEqDiff, tA]
    simp (decide := true) only [↓g_plain, ↓execG_seq, ↓execG_block, ↓execG_ret, ↓g_if, ↓g_else, thenE_norm, thenE_ret, leaveB_ret, ↓r_nil, ↓r_cons, ↓o_move, ↓o_assign, ↓o_binOp, nextE_app, putK_app, putG_bool, normK_app, evalE_tmp, evalE_const, upd_some, bindO_ok, reduceIte, map_three, ↓reg_lit l6, ↓reg_lit l7, ↓reg_lit l9, ↓reg_lit l11, ↓reg_lit l12, e5, e7, binA_eql, h46, h33, h61, ↓o_callv 59 _ _ 56 #[] #[.pointer (some ⟨H.next + 1, 0, none⟩), .pointer (some ⟨H.next + 2, 0, none⟩), .pointer (some ⟨H.next, 0, none⟩)], app33, callK_fn Tryd.func56 rfl rfl hcall]
    refine ⟨_, h2, ?_⟩
    rw [← hF, finE_ret (l := [.bool ((13 : Int) != 0)]) (by simp (decide := true) [Tryd.f42, resE, upd_some])]
    rfl
  obtain ⟨R0, m1, H', m2, m3⟩ := main
  exact ⟨H', m2, m1.trans m3⟩
theorem sg_d1 (x : Ctx H a c s b) (hb : H.get b = some (cur a s.length c i)) (ht : H.get t = some (tok 0 nn .empty f0 t0)) (hbt : t ≠ b) (htl : t < H.next) (htg : GE.next ≤ t) (hrt : ∀ q, a = some q → q.block ≠ t) (hi : i < s.length) (hh : ∀ f args H, okC f = true → hk f args H = none) (hsl : s.length < 9223372036854775000) (h46 : ((s[i].toNat : Int) == 46) = false) (h33 : ((s[i].toNat : Int) == 33) = false) (h61 : ((s[i].toNat : Int) == 61) = false) (h60 : ((s[i].toNat : Int) == 60) = true) (hq : ((if i + 1 < s.length then ((s.getD (i + 1) 0).toNat : Int) else 0) == 60) = true) :
    ∃ H', Lexd H H' b (cur a s.length c (i + 1 + 1)) t (tok 23 nn .empty f0 t0) ∧ CG N hk (d + 2) 42 #[.pointer (some ⟨b, 0, none⟩), .pointer (some ⟨t, 0, none⟩)] H = some (.ret (.bool true), H') := by
  have main : ∃ R0 : R, CG N hk (d + 2) 42 #[.pointer (some ⟨b, 0, none⟩), .pointer (some ⟨t, 0, none⟩)] H = R0 ∧ ∃ H', Lexd H H' b (cur a s.length c (i + 1 + 1)) t (tok 23 nn .empty f0 t0) ∧ R0 = some (.ret (.bool true), H') := by
    refine ⟨_, callG_fn (hh _ _ _ rfl) Tryd.func42 (c := codeOf Tryd.f42) rfl rfl rfl (pr := pr1) rfl, ?_⟩
    rw [code42]
    generalize hF : finE PP Tryd.f42 = F
    refine sign_head (Q := fun r => ∃ H', Lexd H H' b (cur a s.length c (i + 1 + 1)) t (tok 23 nn .empty f0 t0) ∧ r = some (.ret (.bool true), H')) x hb ht hbt htl htg hrt hi hh fun E H' e5 e7 e3 e6 hL hnx own hv => ?_
    have hbl := x.lt
    have hsm := x.row.small
    obtain ⟨H2, h2, hcall⟩ := call_two2 (N := N) (hk := hk) (d := d) hL hbt (by omega) (by omega) own.c0 own.c1 _ hv (by omega) (by omega) 60 23 0 hq (by omega) (by omega) (by omega) hh
    have l6 := tl (rgn Tryd.f42 6)
    conv at l6 => rhs; simp only [rgn, opsAt, codeOf, Tryd.f42, gS, gN, reduceIte, Nat.reduceEqDiff, tA]
    have l7 := tl (rgn Tryd.f42 7)
    conv at l7 => rhs; simp only [rgn, opsAt, codeOf, Tryd.f42, gS, gN, reduceIte, Nat.reduceEqDiff, tA]
    have l9 := tl (rgn Tryd.f42 9)
    conv at l9 => rhs; simp only [rgn, opsAt, codeOf, Tryd.f42, gS, gN, reduceIte, Nat.reduceEqDiff, tA]
    have l11 := tl (rgn Tryd.f42 11)
    conv at l11 => rhs; simp only [rgn, opsAt, codeOf, Tryd.f42, gS, gN, reduceIte, Nat.reduceEqDiff, tA]
    have l13 := tl (rgn Tryd.f42 13)
    conv at l13 => rhs; simp only [rgn, opsAt, codeOf, Tryd.f42, gS, gN, reduceIte, Nat.reduceEqDiff, tA]
    have l14 := tl (rgn Tryd.f42 14)
    conv at l14 => rhs; simp only [rgn, opsAt, codeOf, Tryd.f42, gS, gN, reduceIte, Nat.reduceEqDiff, tA]
    have l15 := tl (rgn Tryd.f42 15)
    conv at l15 => rhs; simp only [rgn, opsAt, codeOf, Tryd.f42, gS, gN, reduceIte, Nat.reduceEqDiff, tA]
    simp (decide := true) only [↓g_plain, ↓execG_seq, ↓execG_block, ↓execG_ret, ↓g_if, ↓g_else, thenE_norm, thenE_ret, leaveB_ret, ↓r_nil, ↓r_cons, ↓o_move, ↓o_assign, ↓o_load, ↓o_binOp, nextE_app, putK_app, putG_bool, normK_app, evalE_tmp, evalE_const, upd_some, bindO_ok, bindV_ok, reduceIte, map_three, ↓reg_lit l6, ↓reg_lit l7, ↓reg_lit l9, ↓reg_lit l11, ↓reg_lit l13, ↓reg_lit l14, ↓reg_lit l15, e5, e6, e7, binA_eql, h46, h33, h61, h60, hq, load_b1 hv, ↓o_callv 65 _ _ 56 #[] #[.pointer (some ⟨H.next + 1, 0, none⟩), .pointer (some ⟨H.next + 2, 0, none⟩), .pointer (some ⟨H.next, 0, none⟩)], app33, callK_fn Tryd.func56 rfl rfl hcall]
    refine ⟨_, h2, ?_⟩
    rw [← hF, finE_ret (l := [.bool ((23 : Int) != 0)]) (by simp (decide := true) [Tryd.f42, resE, upd_some])]
    rfl
  obtain ⟨R0, m1, H', m2, m3⟩ := main
  exact ⟨H', m2, m1.trans m3⟩
theorem sg_d2 (x : Ctx H a c s b) (hb : H.get b = some (cur a s.length c i)) (ht : H.get t = some (tok 0 nn .empty f0 t0)) (hbt : t ≠ b) (htl : t < H.next) (htg : GE.next ≤ t) (hrt : ∀ q, a = some q → q.block ≠ t) (hi : i < s.length) (hh : ∀ f args H, okC f = true → hk f args H = none) (hsl : s.length < 9223372036854775000) (h46 : ((s[i].toNat : Int) == 46) = false) (h33 : ((s[i].toNat : Int) == 33) = false) (h61 : ((s[i].toNat : Int) == 61) = false) (h60 : ((s[i].toNat : Int) == 60) = true) (hq : ((if i + 1 < s.length then ((s.getD (i + 1) 0).toNat : Int) else 0) == 60) = false) (hn : ((if i + 1 < s.length then ((s.getD (i + 1) 0).toNat : Int) else 0) == 61) = true) :
    ∃ H', Lexd H H' b (cur a s.length c (i + 1 + 1)) t (tok 17 nn .empty f0 t0) ∧ CG N hk (d + 2) 42 #[.pointer (some ⟨b, 0, none⟩), .pointer (some ⟨t, 0, none⟩)] H = some (.ret (.bool true), H') := by
  have main : ∃ R0 : R, CG N hk (d + 2) 42 #[.pointer (some ⟨b, 0, none⟩), .pointer (some ⟨t, 0, none⟩)] H = R0 ∧ ∃ H', Lexd H H' b (cur a s.length c (i + 1 + 1)) t (tok 17 nn .empty f0 t0) ∧ R0 = some (.ret (.bool true), H') := by
    refine ⟨_, callG_fn (hh _ _ _ rfl) Tryd.func42 (c := codeOf Tryd.f42) rfl rfl rfl (pr := pr1) rfl, ?_⟩
    rw [code42]
    generalize hF : finE PP Tryd.f42 = F
    refine sign_head (Q := fun r => ∃ H', Lexd H H' b (cur a s.length c (i + 1 + 1)) t (tok 17 nn .empty f0 t0) ∧ r = some (.ret (.bool true), H')) x hb ht hbt htl htg hrt hi hh fun E H' e5 e7 e3 e6 hL hnx own hv => ?_
    have hbl := x.lt
    have hsm := x.row.small
    obtain ⟨H2, h2, hcall⟩ := call_two2 (N := N) (hk := hk) (d := d) hL hbt (by omega) (by omega) own.c0 own.c1 _ hv (by omega) (by omega) 61 17 16 hn (by omega) (by omega) (by omega) hh
    have l6 := tl (rgn Tryd.f42 6)
    conv at l6 => rhs; simp only [rgn, opsAt, codeOf, Tryd.f42, gS, gN, reduceIte, Nat.reduceEqDiff, tA]
    have l7 := tl (rgn Tryd.f42 7)
    conv at l7 => rhs; simp only [rgn, opsAt, codeOf, Tryd.f42, gS, gN, reduceIte, Nat.reduceEqDiff, tA]
    have l9 := tl (rgn Tryd.f42 9)
    conv at l9 => rhs; simp only [rgn, opsAt, codeOf, Tryd.f42, gS, gN, reduceIte, Nat.reduceEqDiff, tA]
    have l11 := tl (rgn Tryd.f42 11)
    conv at l11 => rhs; simp only [rgn, opsAt, codeOf, Tryd.f42, gS, gN, reduceIte, Nat.reduceEqDiff, tA]
    have l13 := tl (rgn Tryd.f42 13)
    conv at l13 => rhs; simp only [rgn, opsAt, codeOf, Tryd.f42, gS, gN, reduceIte, Nat.reduceEqDiff, tA]
    have l14 := tl (rgn Tryd.f42 14)
    conv at l14 => rhs; simp only [rgn, opsAt, codeOf, Tryd.f42, gS, gN, reduceIte, Nat.reduceEqDiff, tA]
    have l16 := tl (rgn Tryd.f42 16)
    conv at l16 => rhs; simp only [rgn, opsAt, codeOf, Tryd.f42, gS, gN, reduceIte, Nat.reduceEqDiff, tA]
    simp (decide := true) only [↓g_plain, ↓execG_seq, ↓execG_block, ↓execG_ret, ↓execG_skip, ↓g_if, ↓g_else, thenE_norm, thenE_ret, leaveB_ret, ↓r_nil, ↓r_cons, ↓o_move, ↓o_assign, ↓o_load, ↓o_binOp, nextE_app, putK_app, putG_bool, normK_app, evalE_tmp, evalE_const, upd_some, bindO_ok, bindV_ok, reduceIte, map_three, ↓reg_lit l6, ↓reg_lit l7, ↓reg_lit l9, ↓reg_lit l11, ↓reg_lit l13, ↓reg_lit l14, ↓reg_lit l16, e5, e6, e7, binA_eql, h46, h33, h61, h60, hq, load_b1 hv, ↓o_callv 67 _ _ 56 #[] #[.pointer (some ⟨H.next + 1, 0, none⟩), .pointer (some ⟨H.next + 2, 0, none⟩), .pointer (some ⟨H.next, 0, none⟩)], app33, callK_fn Tryd.func56 rfl rfl hcall]
    refine ⟨_, h2, ?_⟩
    rw [← hF, finE_ret (l := [.bool ((17 : Int) != 0)]) (by simp (decide := true) [Tryd.f42, resE, upd_some])]
    rfl
  obtain ⟨R0, m1, H', m2, m3⟩ := main
  exact ⟨H', m2, m1.trans m3⟩
theorem sg_d3 (x : Ctx H a c s b) (hb : H.get b = some (cur a s.length c i)) (ht : H.get t = some (tok 0 nn .empty f0 t0)) (hbt : t ≠ b) (htl : t < H.next) (htg : GE.next ≤ t) (hrt : ∀ q, a = some q → q.block ≠ t) (hi : i < s.length) (hh : ∀ f args H, okC f = true → hk f args H = none) (hsl : s.length < 9223372036854775000) (h46 : ((s[i].toNat : Int) == 46) = false) (h33 : ((s[i].toNat : Int) == 33) = false) (h61 : ((s[i].toNat : Int) == 61) = false) (h60 : ((s[i].toNat : Int) == 60) = true) (hq : ((if i + 1 < s.length then ((s.getD (i + 1) 0).toNat : Int) else 0) == 60) = false) (hn : ((if i + 1 < s.length then ((s.getD (i + 1) 0).toNat : Int) else 0) == 61) = false) :
    ∃ H', Lexd H H' b (cur a s.length c (i + 1)) t (tok 16 nn .empty f0 t0) ∧ CG N hk (d + 2) 42 #[.pointer (some ⟨b, 0, none⟩), .pointer (some ⟨t, 0, none⟩)] H = some (.ret (.bool true), H') := by
  have main : ∃ R0 : R, CG N hk (d + 2) 42 #[.pointer (some ⟨b, 0, none⟩), .pointer (some ⟨t, 0, none⟩)] H = R0 ∧ ∃ H', Lexd H H' b (cur a s.length c (i + 1)) t (tok 16 nn .empty f0 t0) ∧ R0 = some (.ret (.bool true), H') := by
    refine ⟨_, callG_fn (hh _ _ _ rfl) Tryd.func42 (c := codeOf Tryd.f42) rfl rfl rfl (pr := pr1) rfl, ?_⟩
    rw [code42]
    generalize hF : finE PP Tryd.f42 = F
    refine sign_head (Q := fun r => ∃ H', Lexd H H' b (cur a s.length c (i + 1)) t (tok 16 nn .empty f0 t0) ∧ r = some (.ret (.bool true), H')) x hb ht hbt htl htg hrt hi hh fun E H' e5 e7 e3 e6 hL hnx own hv => ?_
    have hbl := x.lt
    have hsm := x.row.small
    obtain ⟨H2, h2, hcall⟩ := call_two (N := N) (hk := hk) (d := d) hL hbt (by omega) (by omega) own.c0 own.c1 _ hv (by omega) (by omega) 61 17 16 hn hh
    have l6 := tl (rgn Tryd.f42 6)
    conv at l6 => rhs; simp only [rgn, opsAt, codeOf, Tryd.f42, gS, gN, reduceIte, Nat.reduceEqDiff, tA]
    have l7 := tl (rgn Tryd.f42 7)
    conv at l7 => rhs; simp only [rgn, opsAt, codeOf, Tryd.f42, gS, gN, reduceIte, Nat.reduceEqDiff, tA]
    have l9 := tl (rgn Tryd.f42 9)
    conv at l9 => rhs; simp only [rgn, opsAt, codeOf, Tryd.f42, gS, gN, reduceIte, Nat.reduceEqDiff, tA]
    have l11 := tl (rgn Tryd.f42 11)
    conv at l11 => rhs; simp only [rgn, opsAt, codeOf, Tryd.f42, gS, gN, reduceIte, Nat.reduceEqDiff, tA]
    have l13 := tl (rgn Tryd.f42 13)
    conv at l13 => rhs; simp only [rgn, opsAt, codeOf, Tryd.f42, gS, gN, reduceIte, Nat.reduceEqDiff, tA]
    have l14 := tl (rgn Tryd.f42 14)
    conv at l14 => rhs; simp only [rgn, opsAt, codeOf, Tryd.f42, gS, gN, reduceIte, Nat.reduceEqDiff, tA]
    have l16 := tl (rgn Tryd.f42 16)
    conv at l16 => rhs; simp only [rgn, opsAt, codeOf, Tryd.f42, gS, gN, reduceIte, Nat.reduceEqDiff, tA]
    simp (decide := true) only [↓g_plain, ↓execG_seq, ↓execG_block, ↓execG_ret, ↓execG_skip, ↓g_if, ↓g_else, thenE_norm, thenE_ret, leaveB_ret, ↓r_nil, ↓r_cons, ↓o_move, ↓o_assign, ↓o_load, ↓o_binOp, nextE_app, putK_app, putG_bool, normK_app, evalE_tmp, evalE_const, upd_some, bindO_ok, bindV_ok, reduceIte, map_three, ↓reg_lit l6, ↓reg_lit l7, ↓reg_lit l9, ↓reg_lit l11, ↓reg_lit l13, ↓reg_lit l14, ↓reg_lit l16, e5, e6, e7, binA_eql, h46, h33, h61, h60, hq, load_b1 hv, ↓o_callv 67 _ _ 56 #[] #[.pointer (some ⟨H.next + 1, 0, none⟩), .pointer (some ⟨H.next + 2, 0, none⟩), .pointer (some ⟨H.next, 0, none⟩)], app33, callK_fn Tryd.func56 rfl rfl hcall]
    refine ⟨_, h2, ?_⟩
    rw [← hF, finE_ret (l := [.bool ((16 : Int) != 0)]) (by simp (decide := true) [Tryd.f42, resE, upd_some])]
    rfl
  obtain ⟨R0, m1, H', m2, m3⟩ := main
  exact ⟨H', m2, m1.trans m3⟩
theorem sg_e1 (x : Ctx H a c s b) (hb : H.get b = some (cur a s.length c i)) (ht : H.get t = some (tok 0 nn .empty f0 t0)) (hbt : t ≠ b) (htl : t < H.next) (htg : GE.next ≤ t) (hrt : ∀ q, a = some q → q.block ≠ t) (hi : i < s.length) (hh : ∀ f args H, okC f = true → hk f args H = none) (hsl : s.length < 9223372036854775000) (h46 : ((s[i].toNat : Int) == 46) = false) (h33 : ((s[i].toNat : Int) == 33) = false) (h61 : ((s[i].toNat : Int) == 61) = false) (h60 : ((s[i].toNat : Int) == 60) = false) (h62 : ((s[i].toNat : Int) == 62) = true) (hq : ((if i + 1 < s.length then ((s.getD (i + 1) 0).toNat : Int) else 0) == 62) = true) :
    ∃ H', Lexd H H' b (cur a s.length c (i + 1 + 1)) t (tok 24 nn .empty f0 t0) ∧ CG N hk (d + 2) 42 #[.pointer (some ⟨b, 0, none⟩), .pointer (some ⟨t, 0, none⟩)] H = some (.ret (.bool true), H') := by
  have main : ∃ R0 : R, CG N hk (d + 2) 42 #[.pointer (some ⟨b, 0, none⟩), .pointer (some ⟨t, 0, none⟩)] H = R0 ∧ ∃ H', Lexd H H' b (cur a s.length c (i + 1 + 1)) t (tok 24 nn .empty f0 t0) ∧ R0 = some (.ret (.bool true), H') := by
    refine ⟨_, callG_fn (hh _ _ _ rfl) Tryd.func42 (c := codeOf Tryd.f42) rfl rfl rfl (pr := pr1) rfl, ?_⟩
    rw [code42]
    generalize hF : finE PP Tryd.f42 = F
    refine sign_head (Q := fun r => ∃ H', Lexd H H' b (cur a s.length c (i + 1 + 1)) t (tok 24 nn .empty f0 t0) ∧ r = some (.ret (.bool true), H')) x hb ht hbt htl htg hrt hi hh fun E H' e5 e7 e3 e6 hL hnx own hv => ?_
    have hbl := x.lt
    have hsm := x.row.small
    obtain ⟨H2, h2, hcall⟩ := call_two2 (N := N) (hk := hk) (d := d) hL hbt (by omega) (by omega) own.c0 own.c1 _ hv (by omega) (by omega) 62 24 0 hq (by omega) (by omega) (by omega) hh
    have l6 := tl (rgn Tryd.f42 6)
    conv at l6 => rhs; simp only [rgn, opsAt, codeOf, Tryd.f42, gS, gN, reduceIte, Nat.reduceEqDiff, tA]
    have l7 := tl (rgn Tryd.f42 7)
    conv at l7 => rhs; simp only [rgn, opsAt, codeOf, Tryd.f42, gS, gN, reduceIte, Nat.reduceEqDiff, tA]
    have l9 := tl (rgn Tryd.f42 9)
    conv at l9 => rhs; simp only [rgn, opsAt, codeOf, Tryd.f42, gS, gN, reduceIte, Nat.reduceEqDiff, tA]
    have l11 := tl (rgn Tryd.f42 11)
    conv at l11 => rhs; simp only [rgn, opsAt, codeOf, Tryd.f42, gS, gN, reduceIte, Nat.reduceEqDiff, tA]
    have l13 := tl (rgn Tryd.f42 13)
    conv at l13 => rhs; simp only [rgn, opsAt, codeOf, Tryd.f42, gS, gN, reduceIte, Nat.reduceEqDiff, tA]
    have l17 := tl (rgn Tryd.f42 17)
    conv at l17 => rhs; simp only [rgn, opsAt, codeOf, Tryd.f42, gS, gN, reduceIte, Nat.reduceEqDiff, tA]
    have l18 := tl (rgn Tryd.f42 18)
    conv at l18 => rhs; simp only [rgn, opsAt, codeOf, Tryd.f42, gS, gN, reduceIte, Nat.reduceEqDiff, tA]
    have l19 := tl (rgn Tryd.f42 19)
    conv at l19 => rhs; simp only [rgn, opsAt, codeOf, Tryd.f42, gS, gN, reduceIte, Nat.reduceEqDiff, tA]
    simp (decide := true) only [↓g_plain, ↓execG_seq, ↓execG_block, ↓execG_ret, ↓g_if, ↓g_else, thenE_norm, thenE_ret, leaveB_ret, ↓r_nil, ↓r_cons, ↓o_move, ↓o_assign, ↓o_load, ↓o_binOp, nextE_app, putK_app, putG_bool, normK_app, evalE_tmp, evalE_const, upd_some, bindO_ok, bindV_ok, reduceIte, map_three, ↓reg_lit l6, ↓reg_lit l7, ↓reg_lit l9, ↓reg_lit l11, ↓reg_lit l13, ↓reg_lit l17, ↓reg_lit l18, ↓reg_lit l19, e5, e6, e7, binA_eql, h46, h33, h61, h60, h62, hq, load_b1 hv, ↓o_callv 73 _ _ 56 #[] #[.pointer (some ⟨H.next + 1, 0, none⟩), .pointer (some ⟨H.next + 2, 0, none⟩), .pointer (some ⟨H.next, 0, none⟩)], app33, callK_fn Tryd.func56 rfl rfl hcall]
    refine ⟨_, h2, ?_⟩
    rw [← hF, finE_ret (l := [.bool ((24 : Int) != 0)]) (by simp (decide := true) [Tryd.f42, resE, upd_some])]
    rfl
  obtain ⟨R0, m1, H', m2, m3⟩ := main
  exact ⟨H', m2, m1.trans m3⟩
theorem sg_e2 (x : Ctx H a c s b) (hb : H.get b = some (cur a s.length c i)) (ht : H.get t = some (tok 0 nn .empty f0 t0)) (hbt : t ≠ b) (htl : t < H.next) (htg : GE.next ≤ t) (hrt : ∀ q, a = some q → q.block ≠ t) (hi : i < s.length) (hh : ∀ f args H, okC f = true → hk f args H = none) (hsl : s.length < 9223372036854775000) (h46 : ((s[i].toNat : Int) == 46) = false) (h33 : ((s[i].toNat : Int) == 33) = false) (h61 : ((s[i].toNat : Int) == 61) = false) (h60 : ((s[i].toNat : Int) == 60) = false) (h62 : ((s[i].toNat : Int) == 62) = true) (hq : ((if i + 1 < s.length then ((s.getD (i + 1) 0).toNat : Int) else 0) == 62) = false) (hn : ((if i + 1 < s.length then ((s.getD (i + 1) 0).toNat : Int) else 0) == 61) = true) :
    ∃ H', Lexd H H' b (cur a s.length c (i + 1 + 1)) t (tok 19 nn .empty f0 t0) ∧ CG N hk (d + 2) 42 #[.pointer (some ⟨b, 0, none⟩), .pointer (some ⟨t, 0, none⟩)] H = some (.ret (.bool true), H') := by
  have main : ∃ R0 : R, CG N hk (d + 2) 42 #[.pointer (some ⟨b, 0, none⟩), .pointer (some ⟨t, 0, none⟩)] H = R0 ∧ ∃ H', Lexd H H' b (cur a s.length c (i + 1 + 1)) t (tok 19 nn .empty f0 t0) ∧ R0 = some (.ret (.bool true), H') := by
    refine ⟨_, callG_fn (hh _ _ _ rfl) Tryd.func42 (c := codeOf Tryd.f42) rfl rfl rfl (pr := pr1) rfl, ?_⟩
    rw [code42]
    generalize hF : finE PP Tryd.f42 = F
    refine sign_head (Q := fun r => ∃ H', Lexd H H' b (cur a s.length c (i + 1 + 1)) t (tok 19 nn .empty f0 t0) ∧ r = some (.ret (.bool true), H')) x hb ht hbt htl htg hrt hi hh fun E H' e5 e7 e3 e6 hL hnx own hv => ?_
    have hbl := x.lt
    have hsm := x.row.small
    obtain ⟨H2, h2, hcall⟩ := call_two2 (N := N) (hk := hk) (d := d) hL hbt (by omega) (by omega) own.c0 own.c1 _ hv (by omega) (by omega) 61 19 18 hn (by omega) (by omega) (by omega) hh
    have l6 := tl (rgn Tryd.f42 6)
    conv at l6 => rhs; simp only [rgn, opsAt, codeOf, Tryd.f42, gS, gN, reduceIte, Nat.reduceEqDiff, tA]
    have l7 := tl (rgn Tryd.f42 7)
    conv at l7 => rhs; simp only [rgn, opsAt, codeOf, Tryd.f42, gS, gN, reduceIte, Nat.reduceEqDiff, tA]
    have l9 := tl (rgn Tryd.f42 9)
    conv at l9 => rhs; simp only [rgn, opsAt, codeOf, Tryd.f42, gS, gN, reduceIte, Nat.reduceEqDiff, tA]
    have l11 := tl (rgn Tryd.f42 11)
    conv at l11 => rhs; simp only [rgn, opsAt, codeOf, Tryd.f42, gS, gN, reduceIte, Nat.reduceEqDiff, tA]
    have l13 := tl (rgn Tryd.f42 13)
    conv at l13 => rhs; simp only [rgn, opsAt, codeOf, Tryd.f42, gS, gN, reduceIte, Nat.reduceEqDiff, tA]
    have l17 := tl (rgn Tryd.f42 17)
    conv at l17 => rhs; simp only [rgn, opsAt, codeOf, Tryd.f42, gS, gN, reduceIte, Nat.reduceEqDiff, tA]
    have l18 := tl (rgn Tryd.f42 18)
    conv at l18 => rhs; simp only [rgn, opsAt, codeOf, Tryd.f42, gS, gN, reduceIte, Nat.reduceEqDiff, tA]
    have l20 := tl (rgn Tryd.f42 20)
    conv at l20 => rhs; simp only [rgn, opsAt, codeOf, Tryd.f42, gS, gN, reduceIte, Nat.reduceEqDiff, tA]
    simp (decide := true) only [↓g_plain, ↓execG_seq, ↓execG_block, ↓execG_ret, ↓execG_skip, ↓g_if, ↓g_else, thenE_norm, thenE_ret, leaveB_ret, ↓r_nil, ↓r_cons, ↓o_move, ↓o_assign, ↓o_load, ↓o_binOp, nextE_app, putK_app, putG_bool, normK_app, evalE_tmp, evalE_const, upd_some, bindO_ok, bindV_ok, reduceIte, map_three, ↓reg_lit l6, ↓reg_lit l7, ↓reg_lit l9, ↓reg_lit l11, ↓reg_lit l13, ↓reg_lit l17, ↓reg_lit l18, ↓reg_lit l20, e5, e6, e7, binA_eql, h46, h33, h61, h60, h62, hq, load_b1 hv, ↓o_callv 75 _ _ 56 #[] #[.pointer (some ⟨H.next + 1, 0, none⟩), .pointer (some ⟨H.next + 2, 0, none⟩), .pointer (some ⟨H.next, 0, none⟩)], app33, callK_fn Tryd.func56 rfl rfl hcall]
    refine ⟨_, h2, ?_⟩
    rw [← hF, finE_ret (l := [.bool ((19 : Int) != 0)]) (by simp (decide := true) [Tryd.f42, resE, upd_some])]
    rfl
  obtain ⟨R0, m1, H', m2, m3⟩ := main
  exact ⟨H', m2, m1.trans m3⟩
theorem sg_e3 (x : Ctx H a c s b) (hb : H.get b = some (cur a s.length c i)) (ht : H.get t = some (tok 0 nn .empty f0 t0)) (hbt : t ≠ b) (htl : t < H.next) (htg : GE.next ≤ t) (hrt : ∀ q, a = some q → q.block ≠ t) (hi : i < s.length) (hh : ∀ f args H, okC f = true → hk f args H = none) (hsl : s.length < 9223372036854775000) (h46 : ((s[i].toNat : Int) == 46) = false) (h33 : ((s[i].toNat : Int) == 33) = false) (h61 : ((s[i].toNat : Int) == 61) = false) (h60 : ((s[i].toNat : Int) == 60) = false) (h62 : ((s[i].toNat : Int) == 62) = true) (hq : ((if i + 1 < s.length then ((s.getD (i + 1) 0).toNat : Int) else 0) == 62) = false) (hn : ((if i + 1 < s.length then ((s.getD (i + 1) 0).toNat : Int) else 0) == 61) = false) :
    ∃ H', Lexd H H' b (cur a s.length c (i + 1)) t (tok 18 nn .empty f0 t0) ∧ CG N hk (d + 2) 42 #[.pointer (some ⟨b, 0, none⟩), .pointer (some ⟨t, 0, none⟩)] H = some (.ret (.bool true), H') := by
  have main : ∃ R0 : R, CG N hk (d + 2) 42 #[.pointer (some ⟨b, 0, none⟩), .pointer (some ⟨t, 0, none⟩)] H = R0 ∧ ∃ H', Lexd H H' b (cur a s.length c (i + 1)) t (tok 18 nn .empty f0 t0) ∧ R0 = some (.ret (.bool true), H') := by
    refine ⟨_, callG_fn (hh _ _ _ rfl) Tryd.func42 (c := codeOf Tryd.f42) rfl rfl rfl (pr := pr1) rfl, ?_⟩
    rw [code42]
    generalize hF : finE PP Tryd.f42 = F
    refine sign_head (Q := fun r => ∃ H', Lexd H H' b (cur a s.length c (i + 1)) t (tok 18 nn .empty f0 t0) ∧ r = some (.ret (.bool true), H')) x hb ht hbt htl htg hrt hi hh fun E H' e5 e7 e3 e6 hL hnx own hv => ?_
    have hbl := x.lt
    have hsm := x.row.small
    obtain ⟨H2, h2, hcall⟩ := call_two (N := N) (hk := hk) (d := d) hL hbt (by omega) (by omega) own.c0 own.c1 _ hv (by omega) (by omega) 61 19 18 hn hh
    have l6 := tl (rgn Tryd.f42 6)
    conv at l6 => rhs; simp only [rgn, opsAt, codeOf, Tryd.f42, gS, gN, reduceIte, Nat.reduceEqDiff, tA]
    have l7 := tl (rgn Tryd.f42 7)
    conv at l7 => rhs; simp only [rgn, opsAt, codeOf, Tryd.f42, gS, gN, reduceIte, Nat.reduceEqDiff, tA]
    have l9 := tl (rgn Tryd.f42 9)
    conv at l9 => rhs; simp only [rgn, opsAt, codeOf, Tryd.f42, gS, gN, reduceIte, Nat.reduceEqDiff, tA]
    have l11 := tl (rgn Tryd.f42 11)
    conv at l11 => rhs; simp only [rgn, opsAt, codeOf, Tryd.f42, gS, gN, reduceIte, Nat.reduceEqDiff, tA]
    have l13 := tl (rgn Tryd.f42 13)
    conv at l13 => rhs; simp only [rgn, opsAt, codeOf, Tryd.f42, gS, gN, reduceIte, Nat.reduceEqDiff, tA]
    have l17 := tl (rgn Tryd.f42 17)
    conv at l17 => rhs; simp only [rgn, opsAt, codeOf, Tryd.f42, gS, gN, reduceIte, Nat.reduceEqDiff, tA]
    have l18 := tl (rgn Tryd.f42 18)
    conv at l18 => rhs; simp only [rgn, opsAt, codeOf, Tryd.f42, gS, gN, reduceIte, Nat.reduceEqDiff, tA]
    have l20 := tl (rgn Tryd.f42 20)
    conv at l20 => rhs; simp only [rgn, opsAt, codeOf, Tryd.f42, gS, gN, reduceIte, Nat.reduceEqDiff, tA]
    simp (decide := true) only [↓g_plain, ↓execG_seq, ↓execG_block, ↓execG_ret, ↓execG_skip, ↓g_if, ↓g_else, thenE_norm, thenE_ret, leaveB_ret, ↓r_nil, ↓r_cons, ↓o_move, ↓o_assign, ↓o_load, ↓o_binOp, nextE_app, putK_app, putG_bool, normK_app, evalE_tmp, evalE_const, upd_some, bindO_ok, bindV_ok, reduceIte, map_three, ↓reg_lit l6, ↓reg_lit l7, ↓reg_lit l9, ↓reg_lit l11, ↓reg_lit l13, ↓reg_lit l17, ↓reg_lit l18, ↓reg_lit l20, e5, e6, e7, binA_eql, h46, h33, h61, h60, h62, hq, load_b1 hv, ↓o_callv 75 _ _ 56 #[] #[.pointer (some ⟨H.next + 1, 0, none⟩), .pointer (some ⟨H.next + 2, 0, none⟩), .pointer (some ⟨H.next, 0, none⟩)], app33, callK_fn Tryd.func56 rfl rfl hcall]
    refine ⟨_, h2, ?_⟩
    rw [← hF, finE_ret (l := [.bool ((18 : Int) != 0)]) (by simp (decide := true) [Tryd.f42, resE, upd_some])]
    rfl
  obtain ⟨R0, m1, H', m2, m3⟩ := main
  exact ⟨H', m2, m1.trans m3⟩

end
/-- The kind of the sign at a place, by its byte and the next; and its length. Kind 0: it is none. -/
def signR (u v : Int) : Int × Nat :=
  if u = 46 then (if v = 46 then (12, 2) else (0, 1))
  else if u = 33 then (if v = 61 then (15, 2) else (0, 1))
  else if u = 61 then (if v = 61 then (14, 2) else (13, 1))
  else if u = 60 then (if v = 60 then (23, 2) else if v = 61 then (17, 2) else (16, 1))
  else if u = 62 then (if v = 62 then (24, 2) else if v = 61 then (19, 2) else (18, 1))
  else (singleT u.toNat, 1)
def nextB (s : List UInt8) (i : Nat) : Int := if i + 1 < s.length then ((s.getD (i + 1) 0).toNat : Int) else 0
theorem singleT_ne (u : Nat) : singleT u ≠ 0 := by unfold singleT; split <;> decide
theorem call_sign {N : Nat} {hk : Hook} {d : Nat} {H : Heap} {a : Option Addr} {c : Nat} {s : List UInt8} {b t i : Nat} {nn f0 t0 : Int} (x : Ctx H a c s b) (hb : H.get b = some (cur a s.length c i)) (ht : H.get t = some (tok 0 nn .empty f0 t0)) (hbt : t ≠ b) (htl : t < H.next) (htg : GE.next ≤ t) (hrt : ∀ q, a = some q → q.block ≠ t) (hi : i < s.length) (hh : ∀ f args H, okC f = true → hk f args H = none) (hsl : s.length < 9223372036854775000)
    (hs : ∀ (u : UInt8) H, Ext GE H → hk 57 #[.int .u8 (u.toNat : Int)] H = some (some (.ret (.int .i64 (singleT u.toNat)), H))) :
    ∃ H', Lexd H H' b (cur a s.length c (i + (signR (s[i].toNat : Int) (nextB s i)).2)) t (tok (signR (s[i].toNat : Int) (nextB s i)).1 nn .empty f0 t0) ∧ CG N hk (d + 2) 42 #[.pointer (some ⟨b, 0, none⟩), .pointer (some ⟨t, 0, none⟩)] H = some (.ret (.bool ((signR (s[i].toNat : Int) (nextB s i)).1 != 0)), H') := by
  have bt : ∀ (x y : Int), x = y → (x == y) = true := fun x y h => by simp [h]
  have bf : ∀ (x y : Int), ¬ x = y → (x == y) = false := fun x y h => by simp [h]
  unfold signR
  by_cases h46 : (s[i].toNat : Int) = 46
  · rw [if_pos h46]
    by_cases hn : nextB s i = 46
    · rw [if_pos hn]; exact sg_a1 x hb ht hbt htl htg hrt hi hh hsl (bt _ _ h46) (bt _ _ hn)
    · rw [if_neg hn]; exact sg_a2 x hb ht hbt htl htg hrt hi hh hsl (bt _ _ h46) (bf _ _ hn)
  rw [if_neg h46]
  by_cases h33 : (s[i].toNat : Int) = 33
  · rw [if_pos h33]
    by_cases hn : nextB s i = 61
    · rw [if_pos hn]; exact sg_b1 x hb ht hbt htl htg hrt hi hh hsl (bf _ _ h46) (bt _ _ h33) (bt _ _ hn)
    · rw [if_neg hn]; exact call_bang x hb ht hbt htl htg hrt hi hh (bf _ _ h46) (bt _ _ h33) (bf _ _ hn)
  rw [if_neg h33]
  by_cases h61 : (s[i].toNat : Int) = 61
  · rw [if_pos h61]
    by_cases hn : nextB s i = 61
    · rw [if_pos hn]; exact sg_c1 x hb ht hbt htl htg hrt hi hh hsl (bf _ _ h46) (bf _ _ h33) (bt _ _ h61) (bt _ _ hn)
    · rw [if_neg hn]; exact sg_c2 x hb ht hbt htl htg hrt hi hh hsl (bf _ _ h46) (bf _ _ h33) (bt _ _ h61) (bf _ _ hn)
  rw [if_neg h61]
  by_cases h60 : (s[i].toNat : Int) = 60
  · rw [if_pos h60]
    by_cases hn : nextB s i = 60
    · rw [if_pos hn]; exact sg_d1 x hb ht hbt htl htg hrt hi hh hsl (bf _ _ h46) (bf _ _ h33) (bf _ _ h61) (bt _ _ h60) (bt _ _ hn)
    · rw [if_neg hn]
      by_cases hn2 : nextB s i = 61
      · rw [if_pos hn2]; exact sg_d2 x hb ht hbt htl htg hrt hi hh hsl (bf _ _ h46) (bf _ _ h33) (bf _ _ h61) (bt _ _ h60) (bf _ _ hn) (bt _ _ hn2)
      · rw [if_neg hn2]; exact sg_d3 x hb ht hbt htl htg hrt hi hh hsl (bf _ _ h46) (bf _ _ h33) (bf _ _ h61) (bt _ _ h60) (bf _ _ hn) (bf _ _ hn2)
  rw [if_neg h60]
  by_cases h62 : (s[i].toNat : Int) = 62
  · rw [if_pos h62]
    by_cases hn : nextB s i = 62
    · rw [if_pos hn]; exact sg_e1 x hb ht hbt htl htg hrt hi hh hsl (bf _ _ h46) (bf _ _ h33) (bf _ _ h61) (bf _ _ h60) (bt _ _ h62) (bt _ _ hn)
    · rw [if_neg hn]
      by_cases hn2 : nextB s i = 61
      · rw [if_pos hn2]; exact sg_e2 x hb ht hbt htl htg hrt hi hh hsl (bf _ _ h46) (bf _ _ h33) (bf _ _ h61) (bf _ _ h60) (bt _ _ h62) (bf _ _ hn) (bt _ _ hn2)
      · rw [if_neg hn2]; exact sg_e3 x hb ht hbt htl htg hrt hi hh hsl (bf _ _ h46) (bf _ _ h33) (bf _ _ h61) (bf _ _ h60) (bt _ _ h62) (bf _ _ hn) (bf _ _ hn2)
  rw [if_neg h62]
  have hz : (singleT (s[i].toNat : Int).toNat != 0) = true := by simp [singleT_ne]
  rw [hz]
  have hu : ((s[i].toNat : Int)).toNat = s[i].toNat := by omega
  rw [hu]
  exact call_plain x hb ht hbt htl htg hrt hi hh (bf _ _ h46) (bf _ _ h33) (bf _ _ h61) (bf _ _ h60) (bf _ _ h62) (hs s[i])
end Go.Am
/- A word: all of them. -/
open Go.Proofs
namespace Go.Am
theorem w_full {N : Nat} {H0 H : Heap} {a : Option Addr} {c : Nat} {s : List UInt8} {b t i j : Nat} {E : Env} {Q : R → Prop} {k : KOE} {hk : Hook} {d : Nat} (x : Ctx H0 a c s b) (h : Curs H0 H b a s.length c i) (e0 : E 0 = .pointer (some ⟨b, 0, none⟩)) (e5 : E 5 = .int .i64 (j : Int)) (hh : ∀ f args H, okC f = true → hk f args H = none) (hw : isW s i = true) (hi : i = j + 32) (hl : i < s.length) (hx : ∀ E', E' 4 = .bool false → Q (k .ret E' [] H)) :
    Q (execG PP XX (CG N hk (d + 2)) N noPr (.seq (.seq (.region 2 (rgn Tryd.f40 2) false) (.cond (.tmp 16) (.skip) (.exit 0))) (.block 1 (.seq (.seq (.region 3 (rgn Tryd.f40 3) false) (.cond (.tmp 23) (.seq (.region 4 (rgn Tryd.f40 4) false) (.ret)) (.skip))) (.region 5 (rgn Tryd.f40 5) false)))) none E [] H k) := by
  have r1 := call_is (N := N) (hk := hk) (d := d) (h.gg x) (h.row x) h.here 4 hh
  have r2 := call_is (N := N) (hk := hk) (d := d) (h.gg x) (h.row x) h.here 3 hh
  have hsm := x.row.small
  have w2 : IntKind.i64.wrap ((i : Int) - (j : Int)) = 32 := by rw [wrap_i64 (by omega) (by omega)]; omega
  have heq : ((32 : Int) == 32) = true := rfl
  have l2 := tl (rgn Tryd.f40 2)
  conv at l2 => rhs; simp only [rgn, opsAt, codeOf, Tryd.f40, gS, gN, reduceIte, Nat.reduceEqDiff, tA]
  have l3 := tl (rgn Tryd.f40 3)
  conv at l3 => rhs; simp only [rgn, opsAt, codeOf, Tryd.f40, gS, gN, reduceIte, Nat.reduceEqDiff, tA]
  have l4 := tl (rgn Tryd.f40 4)
  conv at l4 => rhs; simp only [rgn, opsAt, codeOf, Tryd.f40, gS, gN, reduceIte, Nat.reduceEqDiff, tA]
  cases h4 : isI s i 4 with
  | true =>
    rw [h4] at r1
    simp (decide := true) only [↓execG_seq, ↓g_region, ↓execG_block, ↓execG_ret, ↓execG_skip, ↓g_if, thenE_norm, thenE_ret, leaveB_ret, ↓r_nil, ↓r_cons, ↓o_move, ↓o_assign, ↓o_pickt, ↓o_load, ↓o_nilCheck, ↓o_binOp, ↓o_fieldAddr, ↓o_callf, nextE_app, putK_app, putO_app, putG_bool, putG_int, normK_app, nilCheckA_ok, evalE_tmp, evalE_const, upd_some, bindO_ok, bindV_ok, reduceIte, map_two, Bool.not_false, ↓reg_lit l2, ↓reg_lit l3, ↓reg_lit l4, ↓r_no _ 2 false 13 _ gd40_2_2, e0, e5, callK_fn Tryd.func38 rfl rfl r1, fld1, load_at h.here, binA_sub, binA_eql, w2, heq]
    exact hx _ (by simp (decide := true) only [upd_some, reduceIte])
  | false =>
    have h3 : isI s i 3 = true := by simpa [isW, h4] using hw
    rw [h4] at r1
    rw [h3] at r2
    simp (decide := true) only [↓execG_seq, ↓g_region, ↓execG_block, ↓execG_ret, ↓execG_skip, ↓g_if, thenE_norm, thenE_ret, leaveB_ret, ↓r_nil, ↓r_cons, ↓o_move, ↓o_assign, ↓o_pickf, ↓o_load, ↓o_nilCheck, ↓o_binOp, ↓o_fieldAddr, ↓o_callf, nextE_app, putK_app, putO_app, putG_bool, putG_int, normK_app, nilCheckA_ok, evalE_tmp, evalE_const, upd_some, bindO_ok, bindV_ok, reduceIte, map_two, ↓reg_lit l2, ↓reg_lit l3, ↓reg_lit l4, ↓r_yes _ 2 false 13 _ gd40_2_2, e0, e5, callK_fn Tryd.func38 rfl rfl r1, callK_fn Tryd.func38 rfl rfl r2, fld1, load_at h.here, binA_sub, binA_eql, w2, heq]
    exact hx _ (by simp (decide := true) only [upd_some, reduceIte])
theorem wl_then {N : Nat} {H0 : Heap} {a : Option Addr} {c : Nat} {s : List UInt8} {b t j : Nat} {Q : R → Prop} {k : KOE} {hk : Hook} {d : Nat} (x : Ctx H0 a c s b) (hh : ∀ f args H, okC f = true → hk f args H = none) :
    ∀ (n i m : Nat) (_ : j ≤ i) (_ : i ≤ j + 32) (_ : i + n = s.length) (_ : n < m) (_ : j + 32 < runTo s n i) {H : Heap} {E : Env} (_ : Curs H0 H b a s.length c i) (_ : E 0 = .pointer (some ⟨b, 0, none⟩) ∧ E 1 = .pointer (some ⟨t, 0, none⟩) ∧ E 5 = .int .i64 (j : Int)) (_ : ∀ E' H', E' 4 = .bool false → Curs H0 H' b a s.length c (j + 32) → Q (k .ret E' [] H')),
      Q (loopE (execG PP XX (CG N hk (d + 2)) N noPr (.seq (.seq (.region 2 (rgn Tryd.f40 2) false) (.cond (.tmp 16) (.skip) (.exit 0))) (.block 1 (.seq (.seq (.region 3 (rgn Tryd.f40 3) false) (.cond (.tmp 23) (.seq (.region 4 (rgn Tryd.f40 4) false) (.ret)) (.skip))) (.region 5 (rgn Tryd.f40 5) false)))) none) m E [] H k)
  | 0, i, m + 1, hj, hj2, hn, hm, hr, H, E, h, ⟨e0, e1, e5⟩, hx => by
    have : runTo s 0 i = i := rfl
    omega
  | n + 1, i, m + 1, hj, hj2, hn, hm, hr, H, E, h, ⟨e0, e1, e5⟩, hx => by
    rw [loopE_succ]
    by_cases hw : isW s i = true
    · by_cases hf : i = j + 32
      · refine w_full (t := t) x h e0 e5 hh hw hf (by omega) fun E' e' => ?_
        rw [thenE_ret]
        exact hx E' H e' (by rw [← hf]; exact h)
      · have e : runTo s (n + 1) i = runTo s n (i + 1) := by rw [runTo, if_pos hw]
        rw [e] at hr
        refine w_step x h e0 e1 e5 hh hw hj (by omega) (by omega) fun E' e' => ?_
        rw [thenE_norm]
        exact wl_then x hh n (i + 1) m (by omega) (by omega) (by omega) (by omega) hr (h.set (i + 1)) e' hx
    · have e : runTo s (n + 1) i = i := by rw [runTo, if_neg hw]
      omega
theorem Lexd.ext {A B C : Heap} {b t : Nat} {x y : Blk} (h : Lexd A B b x t y) (k : Ext B C) : Lexd A C b x t y :=
  ⟨Nat.le_trans h.next k.next, k.keep _ _ h.one, k.keep _ _ h.two, fun z w h1 h2 hz => k.keep _ _ (h.there z w h1 h2 hz), k.fresh⟩
/-- A word that is too long. -/
theorem call_long {N : Nat} {hk : Hook} {d : Nat} {H0 H : Heap} {a : Option Addr} {c : Nat} {s : List UInt8} {b t i : Nat} (x : Ctx H0 a c s b) (h : Curs H0 H b a s.length c i)
    (hh : ∀ f args H, okC f = true → hk f args H = none) (hi : i < s.length) (hN : s.length < N) (he2 : i + 32 < runTo s (s.length - i) i) :
    ∃ H', Curs H0 H' b a s.length c (i + 32) ∧ CG N hk (d + 3) 40 #[.pointer (some ⟨b, 0, none⟩), .pointer (some ⟨t, 0, none⟩)] H = some (.ret (.bool false), H') := by
  have main : ∃ R0 : R, CG N hk (d + 3) 40 #[.pointer (some ⟨b, 0, none⟩), .pointer (some ⟨t, 0, none⟩)] H = R0 ∧ ∃ H', Curs H0 H' b a s.length c (i + 32) ∧ R0 = some (.ret (.bool false), H') := by
    refine ⟨_, callG_fn (hh _ _ _ rfl) Tryd.func40 (c := codeOf Tryd.f40) rfl rfl rfl (pr := noPr) rfl, ?_⟩
    rw [code40]
    generalize hF : finE PP Tryd.f40 = F
    have l0 := tl (rgn Tryd.f40 0)
    conv at l0 => rhs; simp only [rgn, opsAt, codeOf, Tryd.f40, gS, gN, reduceIte, Nat.reduceEqDiff, tA]
    have l1 := tl (rgn Tryd.f40 1)
    conv at l1 => rhs; simp only [rgn, opsAt, codeOf, Tryd.f40, gS, gN, reduceIte, Nat.reduceEqDiff, tA]
    simp (decide := true) only [↓execG_seq, ↓g_region, ↓execG_block, thenE_norm, ↓r_nil, ↓r_cons, ↓o_move, ↓o_assign, ↓o_load, ↓o_nilCheck, ↓o_fieldAddr, nextE_app, putK_app, putO_app, normK_app, nilCheckA_ok, evalE_tmp, evalE_const, upd_some, bindO_ok, bindV_ok, reduceIte, startE_0, ↓reg_lit l0, ↓reg_lit l1, ↓execG_loop, fld1, load_at h.here]
    refine wl_then (Q := fun r => ∃ H', Curs H0 H' b a s.length c (i + 32) ∧ r = some (.ret (.bool false), H')) (j := i) (t := t) x hh (s.length - i) i N (Nat.le_refl _) (by omega) (by omega) (by omega) he2 h ?_ fun E' H' e' h' => ?_
    · exact ⟨by simp (decide := true) only [upd_some, reduceIte, startE_0], by simp (decide := true) only [upd_some, reduceIte, startE_1], by simp (decide := true) only [upd_some, reduceIte]⟩
    refine ⟨H', h', ?_⟩
    simp (decide := true) only [thenE_ret, leaveB_ret]
    rw [← hF, finE_ret (l := [.bool false]) (by simp (decide := true) [Tryd.f40, resE, e'])]
    rfl
  obtain ⟨R0, m1, H', m2, m3⟩ := main
  exact ⟨H', m2, m1.trans m3⟩
/-- What a word is: its kind and its text. -/
def wordKT (w : List UInt8) : Int × List UInt8 := if resI w = 0 then (1, w) else (resI w, [])
theorem call_word2 {N : Nat} {hk : Hook} {d : Nat} {H0 H : Heap} {a : Option Addr} {c : Nat} {s : List UInt8} {b t i e : Nat} {f0 t0 n0 : Int} (x : Ctx H0 a c s b) (h : Curs H0 H b a s.length c i) (hbt : t ≠ b) (htl : t < H0.next) (ht : H0.get t = some (tok 0 n0 .empty f0 t0))
    (hh : ∀ f args H, okC f = true → hk f args H = none) (hi : i < s.length) (hc : s.length ≤ c) (hN : s.length < N) (hN2 : 60 < N) (he : e = runTo s (s.length - i) i) (he2 : e ≤ i + 32) (w : List UInt8) (hw : w = (s.drop i).take (e - i))
    (hfld : ∀ H, Ext GE H → hk 36 #[strV wordsB] H = some (some (.ret (.slice (some ⟨H.next, 0, none⟩) 50 50), H.alloc 1 wordsV))) :
    ∃ H', Lexd H0 H' b (cur a s.length c e) t (tok (wordKT w).1 n0 ⟨⟨(wordKT w).2⟩⟩ f0 t0) ∧ CG N hk (d + 3) 40 #[.pointer (some ⟨b, 0, none⟩), .pointer (some ⟨t, 0, none⟩)] H = some (.ret (.bool true), H') := by
  have main : ∃ R0 : R, CG N hk (d + 3) 40 #[.pointer (some ⟨b, 0, none⟩), .pointer (some ⟨t, 0, none⟩)] H = R0 ∧ ∃ H', Lexd H0 H' b (cur a s.length c e) t (tok (wordKT w).1 n0 ⟨⟨(wordKT w).2⟩⟩ f0 t0) ∧ R0 = some (.ret (.bool true), H') := by
    refine ⟨_, callG_fn (hh _ _ _ rfl) Tryd.func40 (c := codeOf Tryd.f40) rfl rfl rfl (pr := noPr) rfl, ?_⟩
    rw [code40]
    generalize hF : finE PP Tryd.f40 = F
    have l0 := tl (rgn Tryd.f40 0)
    conv at l0 => rhs; simp only [rgn, opsAt, codeOf, Tryd.f40, gS, gN, reduceIte, Nat.reduceEqDiff, tA]
    have l1 := tl (rgn Tryd.f40 1)
    conv at l1 => rhs; simp only [rgn, opsAt, codeOf, Tryd.f40, gS, gN, reduceIte, Nat.reduceEqDiff, tA]
    have l6 := tl (rgn Tryd.f40 6)
    conv at l6 => rhs; simp only [rgn, opsAt, codeOf, Tryd.f40, gS, gN, reduceIte, Nat.reduceEqDiff, tA]
    have l7 := tl (rgn Tryd.f40 7)
    conv at l7 => rhs; simp only [rgn, opsAt, codeOf, Tryd.f40, gS, gN, reduceIte, Nat.reduceEqDiff, tA]
    have l8 := tl (rgn Tryd.f40 8)
    conv at l8 => rhs; simp only [rgn, opsAt, codeOf, Tryd.f40, gS, gN, reduceIte, Nat.reduceEqDiff, tA]
    have l9 := tl (rgn Tryd.f40 9)
    conv at l9 => rhs; simp only [rgn, opsAt, codeOf, Tryd.f40, gS, gN, reduceIte, Nat.reduceEqDiff, tA]
    have l10 := tl (rgn Tryd.f40 10)
    conv at l10 => rhs; simp only [rgn, opsAt, codeOf, Tryd.f40, gS, gN, reduceIte, Nat.reduceEqDiff, tA]
    simp (decide := true) only [↓execG_seq, ↓g_region, ↓execG_block, thenE_norm, ↓r_nil, ↓r_cons, ↓o_move, ↓o_assign, ↓o_load, ↓o_nilCheck, ↓o_fieldAddr, nextE_app, putK_app, putO_app, normK_app, nilCheckA_ok, evalE_tmp, evalE_const, upd_some, bindO_ok, bindV_ok, reduceIte, startE_0, ↓reg_lit l0, ↓reg_lit l1, ↓execG_loop, fld1, load_at h.here]
    refine w_then (Q := fun r => ∃ H', Lexd H0 H' b (cur a s.length c e) t (tok (wordKT w).1 n0 ⟨⟨(wordKT w).2⟩⟩ f0 t0) ∧ r = some (.ret (.bool true), H')) (j := i) (t := t) x hh (s.length - i) i N (Nat.le_refl _) (by omega) (by omega) (by rw [← he]; exact he2) h ?_ fun E' H' e' h' => ?_
    · exact ⟨by simp (decide := true) only [upd_some, reduceIte, startE_0], by simp (decide := true) only [upd_some, reduceIte, startE_1], by simp (decide := true) only [upd_some, reduceIte]⟩
    rw [← he] at h'
    obtain ⟨e0, e1, e5⟩ := e'
    have hle := runTo_ge s (s.length - i) i
    rw [← he] at hle
    have hel : e ≤ s.length := by omega
    have two := h'.two hbt ht
    have row := h'.row x
    obtain ⟨y, rfl⟩ : ∃ y, a = some y := by
      cases a with
      | none => exact absurd (row.nil rfl) (by intro e; rw [e] at hi; simp at hi)
      | some y => exact ⟨y, rfl⟩
    obtain ⟨q, hsl⟩ := slice_mid row hle.1 hel hc
    have hcv := conv_str (q := q) (row.mid hle.1 hel)
    have hlen : ((s.drop i).take (e - i)).length = e - i := by simp; omega
    rw [hlen, ← hw] at hcv
    have hcv : convertA PP 26 9 (.slice (some (y.add i)) (e - i) q) H' = some (.string ⟨⟨w⟩⟩, H') := hcv
    obtain ⟨H2, x2, hcall⟩ := call_res (N := N) (hk := hk) (d := d) (h'.gg x) w hN2 hh hfld
    have lx := (two.lexd x.gg.fresh x.lt htl).ext x2
    have l2 : t < H2.next := Nat.lt_of_lt_of_le htl lx.next
    have lx1 := lx.set2 hbt l2 (tok (resI w) n0 .empty f0 t0)
    by_cases hr : resI w = 0
    · have z0 : ((resI w) == 0) = true := by simp [hr]
      have lx2 := lx1.set2 hbt (by exact l2) (tok 1 n0 .empty f0 t0)
      have lx3 := lx2.set2 hbt (by exact l2) (tok 1 n0 ⟨⟨w⟩⟩ f0 t0)
      have ek : wordKT w = (1, w) := by rw [wordKT, if_pos hr]
      rw [ek]
      refine ⟨_, lx3, ?_⟩
      simp (decide := true) only [↓execG_seq, ↓g_region, ↓execG_ret, ↓g_if, thenE_norm, g_leave, ↓r_nil, ↓r_cons, ↓o_move, ↓o_assign, ↓o_load, ↓o_store, ↓o_nilCheck, ↓o_binOp, ↓o_convert, ↓o_slice, ↓o_fieldAddr, ↓o_callf, nextE_app, putK_app, putO_app, putG_bool, normK_app, nilCheckA_ok, evalE_tmp, evalE_const, upd_some, upd_none, bindO_ok, bindV_ok, reduceIte, map_one, ↓reg_lit l6, ↓reg_lit l7, ↓reg_lit l8, ↓reg_lit l9, ↓reg_lit l10, e0, e1, e5, fld0, fld1, tf0, tf2, load_src h'.here, load_at h'.here, Option.map_some, Option.map_none, hsl, hcv, callK_fn Tryd.func16 rfl rfl hcall, store_kind lx.two, load_kind lx1.two, binA_eql, z0, store_kind lx1.two, store_text lx2.two]
      rw [← hF, finE_ret (l := [.bool true]) (by simp (decide := true) [Tryd.f40, resE, upd_some])]
      rfl
    · have z0 : ((resI w) == 0) = false := by simp [hr]
      have ek : wordKT w = (resI w, []) := by rw [wordKT, if_neg hr]
      rw [ek]
      refine ⟨_, lx1, ?_⟩
      simp (decide := true) only [↓execG_seq, ↓g_region, ↓execG_ret, ↓execG_skip, ↓g_else, thenE_norm, g_leave, ↓r_nil, ↓r_cons, ↓o_move, ↓o_assign, ↓o_load, ↓o_store, ↓o_nilCheck, ↓o_binOp, ↓o_convert, ↓o_slice, ↓o_fieldAddr, ↓o_callf, nextE_app, putK_app, putO_app, putG_bool, normK_app, nilCheckA_ok, evalE_tmp, evalE_const, upd_some, upd_none, bindO_ok, bindV_ok, reduceIte, map_one, ↓reg_lit l6, ↓reg_lit l7, ↓reg_lit l8, ↓reg_lit l10, e0, e1, e5, fld0, fld1, tf0, load_src h'.here, load_at h'.here, Option.map_some, Option.map_none, hsl, hcv, callK_fn Tryd.func16 rfl rfl hcall, store_kind lx.two, load_kind lx1.two, binA_eql, z0]
      rw [← hF, finE_ret (l := [.bool true]) (by simp (decide := true) [Tryd.f40, resE, upd_some])]
      rfl
  obtain ⟨R0, m1, H', m2, m3⟩ := main
  exact ⟨H', m2, m1.trans m3⟩
end Go.Am
/- One digit more. -/
open Go.Proofs
namespace Go.Am
def m64 : Nat := 18446744073709551616
theorem add_run (x y : Nat) (H : Heap) : XX 74 #[.int .u64 (x : Int), .int .u64 (y : Int), .int .u64 0] H = some (.tuple #[.int .u64 (((x + y) % m64 : Nat) : Int), .int .u64 (((x + y) / m64 : Nat) : Int)], H) := by
  have h : XX 74 #[.int .u64 (x : Int), .int .u64 (y : Int), .int .u64 0] H = some (.tuple #[.int .u64 (Int.ofNat (((x : Int).toNat + (y : Int).toNat + (0 : Int).toNat) % 18446744073709551616)), .int .u64 (Int.ofNat (((x : Int).toNat + (y : Int).toNat + (0 : Int).toNat) / 18446744073709551616))], H) := by kernel_rfl
  rw [h]
  simp [m64]
theorem code54 : codeOf Tryd.f54 = .seq (.region 0 (rgn Tryd.f54 0) false) (.seq (.region 1 (rgn Tryd.f54 1) false) (.seq (.region 2 (rgn Tryd.f54 2) false) (.seq (.region 3 (rgn Tryd.f54 3) false) (.ret)))) := by kernel_rfl
theorem gd54_3_3 : ((rgn Tryd.f54 3)[3]?).bind (·.dst) = some 27 := by kernel_rfl

theorem call_more {N : Nat} {hk : Hook} {d : Nat} {H : Heap} (n f g : Nat) (hn : n < m64) (hf : f < m64) (hg : g < m64) (hh : ∀ f args H, okC f = true → hk f args H = none)
    (hm : ∀ x y H, x < m64 → y < m64 → hk 73 #[.int .u64 ((x : Nat) : Int), .int .u64 ((y : Nat) : Int)] H = some (some (.ret (mulV x y), H))) :
    CG N hk (d + 2) 54 #[.int .u64 (n : Int), .int .u64 (f : Int), .int .u64 (g : Int)] H = some (.ret (.tuple #[.int .u64 (((n * f + g) % m64 : Nat) : Int), .bool (decide (n * f + g < m64))]), H) := by
  have hmul : CG N hk (d + 1) 73 #[.int .u64 (n : Int), .int .u64 (f : Int)] H = some (.ret (mulV n f), H) := callG_hook (hm n f H hn hf)
  unfold mulV at hmul
  have hadd := add_run (n * f % 18446744073709551616) g H
  have e0 : ∀ (u v : Value), extractA (.tuple #[u, v]) 0 = some u := fun _ _ => rfl
  have e1 : ∀ (u v : Value), extractA (.tuple #[u, v]) 1 = some v := fun _ _ => rfl
  refine (callG_fn (hh _ _ _ rfl) Tryd.func54 (c := codeOf Tryd.f54) rfl rfl rfl (pr := noPr) rfl).trans ?_
  rw [code54]
  generalize hF : finE PP Tryd.f54 = F
  have hs : (n * f % 18446744073709551616 + g) % m64 = (n * f + g) % m64 := by unfold m64; omega
  have z : ∀ q : Nat, (((q : Nat) : Int) == 0) = decide (q = 0) := fun q => by
    rw [Bool.eq_iff_iff, beq_iff_eq, decide_eq_true_eq]; omega
  unfold m64 at hn hf hg
  have l0 := tl (rgn Tryd.f54 0)
  conv at l0 => rhs; simp only [rgn, opsAt, codeOf, Tryd.f54, gS, gN, reduceIte, Nat.reduceEqDiff, tA]
  have l1 := tl (rgn Tryd.f54 1)
  conv at l1 => rhs; simp only [rgn, opsAt, codeOf, Tryd.f54, gS, gN, reduceIte, Nat.reduceEqDiff, tA]
  have l2 := tl (rgn Tryd.f54 2)
  conv at l2 => rhs; simp only [rgn, opsAt, codeOf, Tryd.f54, gS, gN, reduceIte, Nat.reduceEqDiff, tA]
  have l3 := tl (rgn Tryd.f54 3)
  conv at l3 => rhs; simp only [rgn, opsAt, codeOf, Tryd.f54, gS, gN, reduceIte, Nat.reduceEqDiff, tA]
  by_cases h1 : n * f / 18446744073709551616 = 0
  · have z1 := z (n * f / 18446744073709551616)
    rw [decide_eq_true h1] at z1
    have z2 := z ((n * f % 18446744073709551616 + g) / m64)
    simp (decide := true) only [↓execG_seq, ↓g_region, ↓execG_ret, thenE_norm, ↓r_nil, ↓r_cons, ↓o_move, ↓o_assign, ↓o_pickt, ↓o_binOp, ↓o_extract, ↓o_callf, nextE_app, putK_app, putO_app, putG_bool, normK_app, evalE_tmp, evalE_const, upd_some, bindO_ok, reduceIte, map_two, map_three, startE_0, startE_1, ↓reg_lit l0, ↓reg_lit l1, ↓reg_lit l2, ↓reg_lit l3, ↓r_yes _ 3 true 27 _ gd54_3_3, startE_2, callK_fn Tryd.func73 rfl rfl hmul, e0, e1, callK_ext Tryd.func74 rfl rfl hadd, binA_eql, z1, z2, hs]
    rw [← hF, finE_ret (l := [.int .u64 (((n * f + g) % m64 : Nat) : Int), .bool (decide ((n * f % 18446744073709551616 + g) / m64 = 0))]) (by simp (decide := true) [Tryd.f54, resE, upd_some])]
    have e : decide ((n * f % 18446744073709551616 + g) / m64 = 0) = decide (n * f + g < m64) := by
      unfold m64
      by_cases q : n * f + g < 18446744073709551616
      · rw [decide_eq_true q]; exact decide_eq_true (by omega)
      · rw [decide_eq_false q]; exact decide_eq_false (by omega)
    rw [e]; rfl
  · have z1 := z (n * f / 18446744073709551616)
    rw [decide_eq_false h1] at z1
    simp (decide := true) only [↓execG_seq, ↓g_region, ↓execG_ret, thenE_norm, ↓r_nil, ↓r_cons, ↓o_move, ↓o_assign, ↓o_pickf, ↓o_binOp, ↓o_extract, ↓o_callf, nextE_app, putK_app, putO_app, putG_bool, normK_app, evalE_tmp, evalE_const, upd_some, bindO_ok, reduceIte, map_two, map_three, startE_0, startE_1, Bool.not_true, ↓reg_lit l0, ↓reg_lit l1, ↓reg_lit l2, ↓reg_lit l3, ↓r_no _ 3 true 27 _ gd54_3_3, startE_2, callK_fn Tryd.func73 rfl rfl hmul, e0, e1, callK_ext Tryd.func74 rfl rfl hadd, binA_eql, z1, hs]
    rw [← hF, finE_ret (l := [.int .u64 (((n * f + g) % m64 : Nat) : Int), .bool false]) (by simp (decide := true) [Tryd.f54, resE, upd_some])]
    have e : decide (n * f + g < m64) = false := decide_eq_false (by unfold m64; omega)
    rw [e]; rfl
end Go.Am
