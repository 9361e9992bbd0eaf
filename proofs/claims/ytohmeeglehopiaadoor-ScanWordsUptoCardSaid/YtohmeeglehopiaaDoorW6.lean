/- A number spelled by the library; is a text a flat name? -/
import Derived.Test.YtohmeeglehopiaaDoorW5
import Derived.Test.YtohmeeglehopiaaDoorU2
open Go.Proofs
namespace Go.Am
/-- What else is asked of the functions that are looked up. -/
structure HkW (hk : Hook) : Prop where
  cut : ∀ (s : List UInt8) H, s.length < 4294967281 → maxOk H = true → hk 31 #[.string ⟨⟨s⟩⟩, .string ⟨#[46]⟩] H = some (some (.ret (.slice (some ⟨H.next, 0, none⟩) (cutV ⟨⟨s⟩⟩).length (cutV ⟨⟨s⟩⟩).length), H.alloc 1 (cutV ⟨⟨s⟩⟩)))
  good : ∀ (p : List UInt8) (u : Nat) H, Ext GE H → p.length ≤ 281474976710656 → Lib.parseUintB 64 p = .ok u → hk 32 #[.string ⟨⟨p⟩⟩, .int .i64 10, .int .i64 64] H = some (some (.ret (.tuple #[.int .u64 (u : Int), .nilIface]), H))
  bad : ∀ (p : List UInt8) H, Ext GE H → p.length ≤ 281474976710656 → (∀ u, Lib.parseUintB 64 p ≠ .ok u) → ∃ z, hk 32 #[.string ⟨⟨p⟩⟩, .int .i64 10, .int .i64 64] H = some (badV H z)
  small : ∀ (u : Nat) H, u < 100 → hk 68 #[.int .i64 (u : Int)] H = some (some (.ret (.string ⟨(Lib.decDigits u).toArray⟩), H))
  nd : ∀ (u : Nat) H, 1 ≤ u → u < 18446744073709551616 → Ext GE H → hk 69 #[.int .u64 (u : Int)] H = some (some (.ret (.int .i64 (Lib.nDigits u : Int)), H))
  fb : ∀ (u b c : Nat) H, u < 18446744073709551616 → H.get b = some ⟨zs24, true, 1, none⟩ → hk 70 #[.slice (some ⟨b, 0, none⟩) (Lib.nDigits u) c, .int .u64 (u : Int)] H = some (some (.ret (.tuple #[]), H.set b ⟨over zs24 0 (digV u), true, 1, none⟩))
theorem conv_64i (x : Int) (H : Heap) : convertA PP 27 3 (.int .u64 x) H = some (.int .i64 (IntKind.i64.wrap x), H) := by kernel_rfl
theorem alloc24 (H : Heap) : allocA PP 83 H = some (.pointer (some ⟨H.next, 0, none⟩), H.alloc 1 zs24) := by kernel_rfl
theorem und83 : PP.underlying 83 = some (.array 24 5) := Tryd.underlying83
def rw1 (l : List Value) : Blk := ⟨l, true, 1, none⟩
theorem slice24 {H : Heap} {q n : Nat} {l : List Value} (h : H.get q = some (rw1 l)) (hl : l.length = 24) (hn : n ≤ 24) : sliceOpA PP 83 (.pointer (some ⟨q, 0, none⟩)) none (some (.int .i64 (n : Int))) none H = some (.slice (some ⟨q, 0, none⟩) n 24) := by
  have e : (⟨q, 0, none⟩ : Addr).add 0 = ⟨q, 0, none⟩ := by rw [Addr.add_lit]
  have hk : look H ⟨q, 0, none⟩ = some (rw1 l) := by simp only [look, h]; rfl
  simp only [sliceOpA, und83, size5, sliceP, hk]
  rw [if_pos ⟨by omega, by omega, by omega⟩, if_pos ⟨rfl, by show 0 + 24 * 1 ≤ l.length; omega⟩]
  simp [e]
theorem conv24 {H : Heap} {q : Nat} {o : List UInt8} {l : List Value} (h : H.get q = some (rw1 l)) (ho : o ≠ []) (hl : l.take o.length = o.map f8) (hle : o.length ≤ l.length) : convertA PP 26 9 (.slice (some ⟨q, 0, none⟩) o.length 24) H = some (.string ⟨⟨o⟩⟩, H) := by
  have hk : look H ⟨q, 0, none⟩ = some (rw1 l) := by simp only [look, h]; rfl
  have hne : o.length ≠ 0 := by simpa using ho
  have hb : bytesOf (o.map f8) = some o := bytesOf_map o
  have e : strOf H (some ⟨q, 0, none⟩) o.length = some ⟨⟨o⟩⟩ := by
    simp only [strOf, hk, hne, if_false, rw1, List.drop_zero, hl, hb, Nat.zero_add]
    rw [if_pos hle]
  simp only [convertA, und34, undStr, undU8, e]
theorem code33 : codeOf Tryd.f33 = .seq (.region 0 (rgn Tryd.f33 0) false) (.seq (.region 1 (rgn Tryd.f33 1) false) (.ret)) := by kernel_rfl
theorem code49 : codeOf Tryd.f49 = .seq (.region 0 (rgn Tryd.f49 0) false) (.seq (.seq (.region 1 (rgn Tryd.f49 1) false) (.cond (.tmp 10) (.seq (.seq (.region 2 (rgn Tryd.f49 2) false) (.cond (.tmp 12) (.seq (.region 3 (rgn Tryd.f49 3) false) (.ret)) (.skip))) (.seq (.region 4 (rgn Tryd.f49 4) false) (.seq (.region 5 (rgn Tryd.f49 5) false) (.seq (.region 6 (rgn Tryd.f49 6) false) (.seq (.region 7 (rgn Tryd.f49 7) false) (.ret)))))) (.skip))) (.seq (.region 8 (rgn Tryd.f49 8) false) (.seq (.region 9 (rgn Tryd.f49 9) false) (.ret)))) := by kernel_rfl
theorem code14 : codeOf Tryd.f14 = .seq (.region 0 (rgn Tryd.f14 0) false) (.seq (.region 1 (rgn Tryd.f14 1) false) (.seq (.seq (.region 2 (rgn Tryd.f14 2) false) (.cond (.tmp 19) (.seq (.region 3 (rgn Tryd.f14 3) false) (.ret)) (.skip))) (.seq (.seq (.region 4 (rgn Tryd.f14 4) false) (.block 0 (.loop (.seq (.region 5 (rgn Tryd.f14 5) false) (.seq (.cond (.tmp 24) (.skip) (.exit 0)) (.seq (.block 1 (.seq (.region 6 (rgn Tryd.f14 6) false) (.seq (.region 7 (rgn Tryd.f14 7) false) (.seq (.region 8 (rgn Tryd.f14 8) false) (.cond (.tmp 39) (.seq (.region 9 (rgn Tryd.f14 9) false) (.ret)) (.skip)))))) (.region 10 (rgn Tryd.f14 10) false))))))) (.seq (.region 11 (rgn Tryd.f14 11) false) (.ret))))) := by kernel_rfl
theorem gd14_2_3 : ((rgn Tryd.f14 2)[3]?).bind (·.dst) = some 13 := by kernel_rfl
theorem gd14_8_2 : ((rgn Tryd.f14 8)[2]?).bind (·.dst) = some 34 := by kernel_rfl

section
variable {N : Nat} {hk : Hook} {d : Nat} {H : Heap}
theorem call_fmt49 (K : HkR hk) (B : HkW hk) (hG : Ext GE H) {u : Nat} (hu : u < 18446744073709551616) :
    ∃ H', Ext H H' ∧ CG N hk (d + 2) 49 #[.int .u64 (u : Int), .int .i64 10] H = some (.ret (.string ⟨⟨Lib.decDigits u⟩⟩), H') := by
  have main : ∃ R0 : R, CG N hk (d + 2) 49 #[.int .u64 (u : Int), .int .i64 10] H = R0 ∧ ∃ H', Ext H H' ∧ R0 = some (.ret (.string ⟨⟨Lib.decDigits u⟩⟩), H') := by
    refine ⟨_, callG_fn (K.nil _ _ _ rfl) Tryd.func49 (c := codeOf Tryd.f49) rfl rfl rfl (pr := noPr) rfl, ?_⟩
    rw [code49]
    generalize hF : finE PP Tryd.f49 = F
    have z10 : ((10 : Int) == 10) = true := rfl
    have l0 := tl (rgn Tryd.f49 0)
    conv at l0 => rhs; simp only [rgn, opsAt, codeOf, Tryd.f49, gS, gN, reduceIte, Nat.reduceEqDiff, tA]
    have l1 := tl (rgn Tryd.f49 1)
    conv at l1 => rhs; simp only [rgn, opsAt, codeOf, Tryd.f49, gS, gN, reduceIte, Nat.reduceEqDiff, tA]
    have l2 := tl (rgn Tryd.f49 2)
    conv at l2 => rhs; simp only [rgn, opsAt, codeOf, Tryd.f49, gS, gN, reduceIte, Nat.reduceEqDiff, tA]
    have l3 := tl (rgn Tryd.f49 3)
    conv at l3 => rhs; simp only [rgn, opsAt, codeOf, Tryd.f49, gS, gN, reduceIte, Nat.reduceEqDiff, tA]
    have l4 := tl (rgn Tryd.f49 4)
    conv at l4 => rhs; simp only [rgn, opsAt, codeOf, Tryd.f49, gS, gN, reduceIte, Nat.reduceEqDiff, tA]
    have l5 := tl (rgn Tryd.f49 5)
    conv at l5 => rhs; simp only [rgn, opsAt, codeOf, Tryd.f49, gS, gN, reduceIte, Nat.reduceEqDiff, tA]
    have l6 := tl (rgn Tryd.f49 6)
    conv at l6 => rhs; simp only [rgn, opsAt, codeOf, Tryd.f49, gS, gN, reduceIte, Nat.reduceEqDiff, tA]
    have l7 := tl (rgn Tryd.f49 7)
    conv at l7 => rhs; simp only [rgn, opsAt, codeOf, Tryd.f49, gS, gN, reduceIte, Nat.reduceEqDiff, tA]
    by_cases c : u < 100
    · have g : decide ((u : Int) < 100) = true := decide_eq_true (by omega)
      have wc : IntKind.i64.wrap (u : Int) = (u : Int) := wrap_i64 (by omega) (by omega)
      have hs : CG N hk (d + 1) 68 #[.int .i64 (u : Int)] H = some (.ret (.string ⟨⟨Lib.decDigits u⟩⟩), H) := callG_hook (B.small u H c)
      refine ⟨H, ⟨Nat.le_refl _, fun _ _ h => h, hG.fresh⟩, ?_⟩
      simp (decide := true) only [↓execG_seq, ↓g_region, ↓execG_ret, ↓g_if, thenE_norm, thenE_ret, ↓r_nil, ↓r_cons, ↓o_move, ↓o_assign, ↓o_binOp, ↓o_convert, ↓o_callf, nextE_app, putK_app, putG_bool, normK_app, evalE_tmp, evalE_const, upd_some, bindO_ok, bindV_ok, reduceIte, map_one, startE_0, startE_1, ↓reg_lit l0, ↓reg_lit l1, ↓reg_lit l2, ↓reg_lit l3, startE_0, startE_1, binA_eql, z10, binA_lss, g, conv_64i, wc, callK_fn Tryd.func68 rfl rfl hs]
      rw [← hF, finE_ret (l := [.string ⟨⟨Lib.decDigits u⟩⟩]) (by simp (decide := true) [Tryd.f49, resE, upd_some])]
      rfl
    · have g : decide ((u : Int) < 100) = false := decide_eq_false (by omega)
      have x1 : Ext H (H.alloc 1 zs24) := Ext.alloc hG.fresh 1 _
      have hq : (H.alloc 1 zs24).get H.next = some (rw1 zs24) := by rw [Heap.get_alloc, if_pos rfl]; rfl
      have hn20 := digits_le hu
      have hdl : (digV u).length = Lib.nDigits u := by rw [← Lib.decDigits_length]; exact Lib.byteCells_length _
      have h69 : CG N hk (d + 1) 69 #[.int .u64 (u : Int)] (H.alloc 1 zs24) = some (.ret (.int .i64 (Lib.nDigits u : Int)), H.alloc 1 zs24) := callG_hook (B.nd u _ (by omega) hu (hG.trans x1))
      have sl1 := slice24 (n := Lib.nDigits u) hq rfl (by omega)
      have h70 : CG N hk (d + 1) 70 #[.slice (some ⟨H.next, 0, none⟩) (Lib.nDigits u) 24, .int .u64 (u : Int)] (H.alloc 1 zs24) = some (.ret (.tuple #[]), (H.alloc 1 zs24).set H.next (rw1 (over zs24 0 (digV u)))) := callG_hook (B.fb u H.next 24 _ hu hq)
      have hq2 : ((H.alloc 1 zs24).set H.next (rw1 (over zs24 0 (digV u)))).get H.next = some (rw1 (over zs24 0 (digV u))) := by rw [Heap.get_set, if_pos rfl]
      have hol : (over zs24 0 (digV u)).length = 24 := by
        rw [over_length (by rw [hdl]; show 0 + Lib.nDigits u ≤ 24; omega)]; rfl
      have sl2 := slice24 (n := Lib.nDigits u) hq2 hol (by omega)
      have htk : (over zs24 0 (digV u)).take (Lib.decDigits u).length = (Lib.decDigits u).map f8 := by
        have e1 : over zs24 0 (digV u) = digV u ++ zs24.drop (digV u).length := by simp [over]
        rw [e1, Lib.decDigits_length, ← hdl, List.take_left]
        rfl
      have hcv := conv24 hq2 (decDigits_ne u) htk (by rw [hol, Lib.decDigits_length]; omega)
      rw [Lib.decDigits_length] at hcv
      have x2 : Ext H ((H.alloc 1 zs24).set H.next (rw1 (over zs24 0 (digV u)))) := set_ext x1 (Nat.le_refl _) (Nat.lt_succ_self _) hG.fresh _
      refine ⟨_, x2, ?_⟩
      simp (decide := true) only [↓execG_seq, ↓g_region, ↓execG_ret, ↓execG_skip, ↓g_if, ↓g_else, thenE_norm, thenE_ret, ↓r_nil, ↓r_cons, ↓o_move, ↓o_assign, ↓o_alloc, ↓o_binOp, ↓o_convert, ↓o_slice, ↓o_callf, nextE_app, putK_app, putO_app, putG_bool, normK_app, evalE_tmp, evalE_const, upd_some, bindO_ok, bindV_ok, reduceIte, map_one, map_two, startE_0, startE_1, ↓reg_lit l0, ↓reg_lit l1, ↓reg_lit l2, ↓reg_lit l4, ↓reg_lit l5, ↓reg_lit l6, ↓reg_lit l7, startE_0, startE_1, binA_eql, z10, binA_lss, g, alloc24, callK_fn Tryd.func69 rfl rfl h69, ↓Option.map_some, ↓Option.map_none, sl1, callK_fn Tryd.func70 rfl rfl h70, sl2, hcv]
      rw [← hF, finE_ret (l := [.string ⟨⟨Lib.decDigits u⟩⟩]) (by simp (decide := true) [Tryd.f49, resE, upd_some])]
      rfl
  obtain ⟨R0, m1, H', m2, m3⟩ := main
  exact ⟨H', m2, m1.trans m3⟩
theorem call_fmt (K : HkR hk) (B : HkW hk) (hG : Ext GE H) {u : Nat} (hu : u < 18446744073709551616) :
    ∃ H', Ext H H' ∧ CG N hk (d + 3) 33 #[.int .u64 (u : Int), .int .i64 10] H = some (.ret (.string ⟨⟨Lib.decDigits u⟩⟩), H') := by
  obtain ⟨H', x1, hc⟩ := call_fmt49 (N := N) (hk := hk) (d := d) K B hG hu
  have main : ∃ R0 : R, CG N hk (d + 3) 33 #[.int .u64 (u : Int), .int .i64 10] H = R0 ∧ R0 = some (.ret (.string ⟨⟨Lib.decDigits u⟩⟩), H') := by
    refine ⟨_, callG_fn (K.nil _ _ _ rfl) Tryd.func33 (c := codeOf Tryd.f33) rfl rfl rfl (pr := noPr) rfl, ?_⟩
    rw [code33]
    generalize hF : finE PP Tryd.f33 = F
    have l0 := tl (rgn Tryd.f33 0)
    conv at l0 => rhs; simp only [rgn, opsAt, codeOf, Tryd.f33, gS, gN, reduceIte, Nat.reduceEqDiff, tA]
    have l1 := tl (rgn Tryd.f33 1)
    conv at l1 => rhs; simp only [rgn, opsAt, codeOf, Tryd.f33, gS, gN, reduceIte, Nat.reduceEqDiff, tA]
    simp (decide := true) only [↓execG_seq, ↓g_region, ↓execG_ret, thenE_norm, ↓r_nil, ↓r_cons, ↓o_move, ↓o_assign, ↓o_callf, nextE_app, putK_app, normK_app, evalE_tmp, evalE_const, upd_some, reduceIte, map_two, startE_0, startE_1, ↓reg_lit l0, ↓reg_lit l1, startE_0, startE_1, callK_fn Tryd.func49 rfl rfl hc]
    rw [← hF, finE_ret (l := [.string ⟨⟨Lib.decDigits u⟩⟩]) (by simp (decide := true) [Tryd.f33, resE, upd_some])]
    rfl
  obtain ⟨R0, m1, m2⟩ := main
  exact ⟨H', x1, m1.trans m2⟩
end
theorem cut_eq (s : List UInt8) : cutV ⟨⟨s⟩⟩ = (hd1 s :: rest s).map fun l => Value.string ⟨⟨l⟩⟩ := by
  have h1 := Lib.splitB_data dotS 0 (Lib.countB ⟨⟨s⟩⟩ dotS) ⟨⟨s⟩⟩
  have hc : Lib.countB ⟨⟨s⟩⟩ dotS = s.count 46 := Lib.count_one 46 s
  have h2 : (Lib.splitB dotS 0 (Lib.countB ⟨⟨s⟩⟩ dotS) ⟨⟨s⟩⟩).map (·.data.toList) = hd1 s :: rest s := by
    rw [h1, hc]
    exact (split_pcs _ s rfl).trans (pcs_rest s)
  rw [← h2, List.map_map]
  unfold cutV
  rfl
theorem neq_nil : binA PP .neq 53 (.tmp 32) (.const .nilIface) .nilIface .nilIface = some (.bool false) := by kernel_rfl
theorem neq_err (q : Nat) : binA PP .neq 53 (.tmp 32) (.const .nilIface) (.iface 79 (.pointer (some ⟨q, 0, none⟩))) .nilIface = some (.bool true) := by kernel_rfl
theorem index_str {q n c i j : Nat} (h : i < n) : indexAddrA PP 39 (.slice (some ⟨q, j, none⟩) n c) (.int .i64 (i : Int)) = some (.pointer (some ⟨q, j + i, none⟩)) := by
  have e : (⟨q, j, none⟩ : Addr).add i = ⟨q, j + i, none⟩ := by rw [Addr.add_lit]
  simp [indexAddrA, sizeS, at_, e]
  omega
def strL (l : List (List UInt8)) : List Value := l.map fun l => Value.string ⟨⟨l⟩⟩
theorem load_str {H : Heap} {q i : Nat} {l : List (List UInt8)} (h : H.get q = some (rw1 (strL l))) (hi : i < l.length) : loadA PP 9 (.pointer (some ⟨q, i, none⟩)) H = some (.string ⟨⟨l.getD i []⟩⟩, H) := by
  simp only [loadA, aggS]
  simp only [ld1, look, h]
  simp [rw1, strL, List.getD, hi]
theorem slice_one {H : Heap} {q n : Nat} {l : List Value} (h : H.get q = some (rw1 l)) (hl : l.length = n + 1) : sliceOpA PP 39 (.slice (some ⟨q, 0, none⟩) (n + 1) (n + 1)) (some (.int .i64 1)) none none H = some (.slice (some ⟨q, 1, none⟩) n n) := by
  have e : (⟨q, 0, none⟩ : Addr).add 1 = ⟨q, 1, none⟩ := by rw [Addr.add_lit]
  have hk : look H ⟨q, 0, none⟩ = some (rw1 l) := by simp only [look, h]; rfl
  simp only [sliceOpA, und39, sizeS, sliceA, hk]
  rw [if_pos ⟨by omega, by omega, by omega⟩, if_pos (show (rw1 l).es = 1 from rfl)]
  simp [e]
section
variable {N : Nat} {hk : Hook} {d : Nat} {H0 : Heap} {q : Nat} {p0 : List UInt8} {ps : List (List UInt8)} {Q : R → Prop} {k : KOE}
set_option maxRecDepth 100000 in
theorem nd_then (K : HkR hk) (B : HkW hk) (hG : Ext GE H0) (hq : H0.get q = some (rw1 (strL (p0 :: ps)))) (hps : ps.length ≤ 2000000) (hpl : ∀ p ∈ ps, p.length ≤ 281474976710656) :
    ∀ (n i m : Nat) (_ : i + n = ps.length) (_ : n < m) {E : Env} {H : Heap} (_ : E 21 = .slice (some ⟨q, 1, none⟩) ps.length ps.length) (_ : E 22 = .int .i64 (ps.length : Int)) (_ : E 23 = .int .i64 (i : Int)) (_ : Ext H0 H)
      (_ : (ps.drop i).all canonB = true → ∀ E' H', Ext H0 H' → Q (k (.exit 0) E' [] H')) (_ : (ps.drop i).all canonB = false → ∀ E' H', E' 2 = .bool false → Ext H0 H' → Q (k .ret E' [] H')), Q (loopE (execG PP XX (CG N hk (d + 3)) N noPr (.seq (.region 5 (rgn Tryd.f14 5) false) (.seq (.cond (.tmp 24) (.skip) (.exit 0)) (.seq (.block 1 (.seq (.region 6 (rgn Tryd.f14 6) false) (.seq (.region 7 (rgn Tryd.f14 7) false) (.seq (.region 8 (rgn Tryd.f14 8) false) (.cond (.tmp 39) (.seq (.region 9 (rgn Tryd.f14 9) false) (.ret)) (.skip)))))) (.region 10 (rgn Tryd.f14 10) false)))) none) m E [] H k)
  | 0, i, m + 1, hn, hm, E, H, e21, e22, e23, hE, h1, h2 => by
    rw [loopE_succ]
    have hlt : decide ((i : Int) < (ps.length : Int)) = false := decide_eq_false (by omega)
    have l5 := tl (rgn Tryd.f14 5)
    conv at l5 => rhs; simp only [rgn, opsAt, codeOf, Tryd.f14, gS, gN, reduceIte, Nat.reduceEqDiff, tA]
    simp (decide := true) only [↓execG_seq, ↓g_region, ↓execG_exit, ↓g_else, thenE_norm, thenE_exit, ↓r_nil, ↓r_cons, ↓o_binOp, nextE_app, putG_bool, normK_app, evalE_tmp, upd_some, bindO_ok, reduceIte, ↓reg_lit l5, e22, e23, binA_lss, hlt]
    exact h1 (by rw [List.drop_eq_nil_of_le (by omega)]; rfl) _ _ hE
  | n + 1, i, m + 1, hn, hm, E, H, e21, e22, e23, hE, h1, h2 => by
    rw [loopE_succ]
    have hi : i < ps.length := by omega
    have hlt : decide ((i : Int) < (ps.length : Int)) = true := decide_eq_true (by omega)
    have w : IntKind.i64.wrap ((i : Int) + 1) = ((i + 1 : Nat) : Int) := by rw [wrap_i64 (by omega) (by omega)]; omega
    have hix := index_str (q := q) (n := ps.length) (c := ps.length) (i := i) (j := 1) hi
    have hld := load_str (hE.keep q _ hq) (i := 1 + i) (by rw [List.length_cons]; omega)
    have hgd : (p0 :: ps).getD (1 + i) [] = ps[i] := by simp [List.getD, Nat.add_comm 1 i, hi]
    rw [hgd] at hld
    rw [List.drop_eq_getElem_cons hi, List.all_cons] at h1 h2
    have hpl' := hpl ps[i] (List.getElem_mem hi)
    generalize ps[i] = p at hld h1 h2 hpl'
    have q0 : ∀ (x y : Value), extractA (.tuple #[x, y]) 0 = some x := fun _ _ => rfl
    have q1 : ∀ (x y : Value), extractA (.tuple #[x, y]) 1 = some y := fun _ _ => rfl
    have l5 := tl (rgn Tryd.f14 5)
    conv at l5 => rhs; simp only [rgn, opsAt, codeOf, Tryd.f14, gS, gN, reduceIte, Nat.reduceEqDiff, tA]
    have l6 := tl (rgn Tryd.f14 6)
    conv at l6 => rhs; simp only [rgn, opsAt, codeOf, Tryd.f14, gS, gN, reduceIte, Nat.reduceEqDiff, tA]
    have l7 := tl (rgn Tryd.f14 7)
    conv at l7 => rhs; simp only [rgn, opsAt, codeOf, Tryd.f14, gS, gN, reduceIte, Nat.reduceEqDiff, tA]
    have l8 := tl (rgn Tryd.f14 8)
    conv at l8 => rhs; simp only [rgn, opsAt, codeOf, Tryd.f14, gS, gN, reduceIte, Nat.reduceEqDiff, tA]
    have l9 := tl (rgn Tryd.f14 9)
    conv at l9 => rhs; simp only [rgn, opsAt, codeOf, Tryd.f14, gS, gN, reduceIte, Nat.reduceEqDiff, tA]
    have l10 := tl (rgn Tryd.f14 10)
    conv at l10 => rhs; simp only [rgn, opsAt, codeOf, Tryd.f14, gS, gN, reduceIte, Nat.reduceEqDiff, tA]
    by_cases hok : ∃ u, Lib.parseUintB 64 p = .ok u
    · obtain ⟨u, hu⟩ := hok
      have hult := parse_lt hu
      have hc : canonB p = decide (Lib.decDigits u = p) := by unfold canonB; rw [hu]
      rw [hc] at h1 h2
      have hp32 : CG N hk (d + 3) 32 #[.string ⟨⟨p⟩⟩, .int .i64 10, .int .i64 64] H = some (.ret (.tuple #[.int .u64 (u : Int), .nilIface]), H) := callG_hook (B.good p u H (hG.trans hE) hpl' hu)
      obtain ⟨H2, x2, hf⟩ := call_fmt (N := N) (hk := hk) (d := d) K B (hG.trans hE) hult
      by_cases he : Lib.decDigits u = p
      · have hd : decide (Lib.decDigits u = p) = true := decide_eq_true he
        rw [hd, Bool.true_and] at h1 h2
        simp (decide := true) only [↓execG_seq, ↓g_region, ↓execG_block, ↓execG_skip, ↓g_if, ↓g_else, thenE_norm, leaveB_norm, ↓r_nil, ↓r_cons, ↓o_move, ↓o_assign, ↓o_pickf, ↓o_load, ↓o_binOp, ↓o_indexAddr, ↓o_extract, ↓o_callf, nextE_app, putK_app, putO_app, putG_bool, putG_int, normK_app, evalE_tmp, evalE_const, upd_some, bindO_ok, bindV_ok, reduceIte, map_two, map_three, Bool.not_true, ↓reg_lit l5, ↓reg_lit l6, ↓reg_lit l7, ↓reg_lit l8, ↓reg_lit l10, ↓r_yes _ 2 false 34 _ gd14_8_2, e21, e22, e23, binA_lss, hlt, hix, hld, callK_fn Tryd.func32 rfl rfl hp32, q0, q1, neq_nil, callK_fn Tryd.func33 rfl rfl hf, binA_neqL, hd, binA_add, w]
        exact nd_then K B hG hq hps hpl n (i + 1) m (by omega) (by omega) (by simp (decide := true) only [upd_some, reduceIte, e21]) (by simp (decide := true) only [upd_some, reduceIte, e22]) (by simp (decide := true) only [upd_some, reduceIte, e23]) (hE.trans x2) h1 h2
      · have hd : decide (Lib.decDigits u = p) = false := decide_eq_false he
        rw [hd, Bool.false_and] at h2
        simp (decide := true) only [↓execG_seq, ↓g_region, ↓execG_block, ↓execG_ret, ↓execG_skip, ↓g_if, thenE_norm, thenE_ret, leaveB_ret, ↓r_nil, ↓r_cons, ↓o_move, ↓o_assign, ↓o_pickf, ↓o_load, ↓o_binOp, ↓o_indexAddr, ↓o_extract, ↓o_callf, nextE_app, putK_app, putO_app, putG_bool, normK_app, evalE_tmp, evalE_const, upd_some, bindO_ok, bindV_ok, reduceIte, map_two, map_three, Bool.not_false, ↓reg_lit l5, ↓reg_lit l6, ↓reg_lit l7, ↓reg_lit l8, ↓reg_lit l9, ↓r_yes _ 2 false 34 _ gd14_8_2, e21, e22, e23, binA_lss, hlt, hix, hld, callK_fn Tryd.func32 rfl rfl hp32, q0, q1, neq_nil, callK_fn Tryd.func33 rfl rfl hf, binA_neqL, hd]
        exact h2 rfl _ _ (by simp (decide := true) only [upd_some, reduceIte]) (hE.trans x2)
    · have hno : ∀ u, Lib.parseUintB 64 p ≠ .ok u := fun u h => hok ⟨u, h⟩
      have hc : canonB p = false := by
        cases hz : canonB p with
        | false => rfl
        | true =>
          obtain ⟨u, hu, rfl⟩ := canon_of hz
          exact absurd (parse_dec (u := u) hu) (hno u)
      rw [hc, Bool.false_and] at h2
      obtain ⟨z, hb⟩ := B.bad p H (hG.trans hE) hpl' hno
      have hp32 : CG N hk (d + 3) 32 #[.string ⟨⟨p⟩⟩, .int .i64 10, .int .i64 64] H = some (.ret (.tuple #[.int .u64 z, .iface 79 (.pointer (some ⟨H.next, 0, none⟩))]), H.alloc 1 []) := callG_hook hb
      simp (decide := true) only [↓execG_seq, ↓g_region, ↓execG_block, ↓execG_ret, ↓execG_skip, ↓g_if, thenE_norm, thenE_ret, leaveB_ret, ↓r_nil, ↓r_cons, ↓o_move, ↓o_assign, ↓o_pickt, ↓o_load, ↓o_binOp, ↓o_indexAddr, ↓o_extract, ↓o_callf, nextE_app, putK_app, putO_app, putG_bool, normK_app, evalE_tmp, evalE_const, upd_some, bindO_ok, bindV_ok, reduceIte, map_three, Bool.not_false, ↓reg_lit l5, ↓reg_lit l6, ↓reg_lit l7, ↓reg_lit l8, ↓reg_lit l9, ↓r_no _ 2 false 34 _ gd14_8_2, e21, e22, e23, binA_lss, hlt, hix, hld, callK_fn Tryd.func32 rfl rfl hp32, q0, q1, neq_err]
      exact h2 rfl _ _ (by simp (decide := true) only [upd_some, reduceIte]) (hE.trans (Ext.alloc hE.fresh 1 []))
end
theorem maxOk_ext {H H' : Heap} (h : maxOk H = true) (x : Ext H H') : maxOk H' = true := by
  unfold maxOk at h ⊢
  cases hg : H.get 7 with
  | none => rw [hg] at h; cases h
  | some y => rw [hg] at h; rw [x.keep 7 y hg]; exact h
theorem rest_len (s : List UInt8) : (rest s).length ≤ s.length := by
  have h1 := congrArg List.length (cut_eq s)
  rw [cutV_len] at h1
  have hc : Lib.countB ⟨⟨s⟩⟩ dotS = s.count 46 := Lib.count_one 46 s
  have h2 := List.count_le_length (a := (46 : UInt8)) (l := s)
  simp only [List.length_map, List.length_cons] at h1
  omega
theorem pcs_small : ∀ (f : Nat) (s p : List UInt8), p ∈ pcs f s → p.length ≤ s.length
  | 0, s, p, h => by
    rw [pcs, List.mem_singleton] at h
    subst h; exact hd_le s
  | f + 1, s, p, h => by
    rw [pcs, List.mem_cons] at h
    rcases h with rfl | h
    · exact hd_le s
    · have ht : (tl1 s).length ≤ s.length := by rw [tl_drop, List.length_drop]; omega
      cases he : tl1 s with
      | nil => rw [he] at h; cases h
      | cons c r =>
        rw [he] at h
        have := pcs_small f r p h
        rw [he, List.length_cons] at ht
        omega
theorem rest_small (s : List UInt8) : ∀ p ∈ rest s, p.length ≤ s.length := fun p h => pcs_small _ s p (by rw [pcs_rest]; exact List.mem_cons_of_mem _ h)
set_option maxRecDepth 100000 in
theorem call_named {N : Nat} {hk : Hook} {d : Nat} {s : List UInt8} {H : Heap} (K0 : HkOk hk) (K : HkR hk) (B : HkW hk) (hG : Ext GE H) (hm : maxOk H = true) (hsm : s.length ≤ 1048576) (hN : 2000000 < N) :
    ∃ H', Ext H H' ∧ CG N hk (d + 8) 14 #[.string ⟨⟨s⟩⟩] H = some (.ret (.bool (namedI s)), H') := by
  have main : ∃ R0 : R, CG N hk (d + 8) 14 #[.string ⟨⟨s⟩⟩] H = R0 ∧ ∃ H', Ext H H' ∧ R0 = some (.ret (.bool (namedI s)), H') := by
    refine ⟨_, callG_fn (K.nil _ _ _ rfl) Tryd.func14 (c := codeOf Tryd.f14) rfl rfl rfl (pr := noPr) rfl, ?_⟩
    rw [code14]
    generalize hF : finE PP Tryd.f14 = F
    have hcut : CG N hk (d + 7) 31 #[.string ⟨⟨s⟩⟩, .string ⟨#[46]⟩] H = _ := callG_hook (B.cut s H (by omega) hm)
    have hce : cutV ⟨⟨s⟩⟩ = strL (hd1 s :: rest s) := cut_eq s
    have hcl : (cutV ⟨⟨s⟩⟩).length = (rest s).length + 1 := by rw [hce]; simp [strL]
    rw [hcl, hce] at hcut
    have x1 : Ext H (H.alloc 1 (strL (hd1 s :: rest s))) := Ext.alloc hG.fresh 1 _
    have hq1 : (H.alloc 1 (strL (hd1 s :: rest s))).get H.next = some (rw1 (strL (hd1 s :: rest s))) := by rw [Heap.get_alloc, if_pos rfl]; rfl
    have hix0 : indexAddrA PP 39 (.slice (some ⟨H.next, 0, none⟩) ((rest s).length + 1) ((rest s).length + 1)) (.int .i64 0) = some (.pointer (some ⟨H.next, 0, none⟩)) := index_str (q := H.next) (i := 0) (j := 0) (by omega)
    have hld0 := load_str hq1 (i := 0) (by simp)
    have hg0 : (hd1 s :: rest s).getD 0 [] = hd1 s := rfl
    rw [hg0] at hld0
    have hhl := hd_le s
    have l0 := tl (rgn Tryd.f14 0)
    conv at l0 => rhs; simp only [rgn, opsAt, codeOf, Tryd.f14, gS, gN, reduceIte, Nat.reduceEqDiff, tA]
    have l1 := tl (rgn Tryd.f14 1)
    conv at l1 => rhs; simp only [rgn, opsAt, codeOf, Tryd.f14, gS, gN, reduceIte, Nat.reduceEqDiff, tA]
    have l2 := tl (rgn Tryd.f14 2)
    conv at l2 => rhs; simp only [rgn, opsAt, codeOf, Tryd.f14, gS, gN, reduceIte, Nat.reduceEqDiff, tA]
    have l3 := tl (rgn Tryd.f14 3)
    conv at l3 => rhs; simp only [rgn, opsAt, codeOf, Tryd.f14, gS, gN, reduceIte, Nat.reduceEqDiff, tA]
    have l4 := tl (rgn Tryd.f14 4)
    conv at l4 => rhs; simp only [rgn, opsAt, codeOf, Tryd.f14, gS, gN, reduceIte, Nat.reduceEqDiff, tA]
    have l11 := tl (rgn Tryd.f14 11)
    conv at l11 => rhs; simp only [rgn, opsAt, codeOf, Tryd.f14, gS, gN, reduceIte, Nat.reduceEqDiff, tA]
    by_cases h64 : s.length ≤ 64
    · have g : decide ((s.length : Int) > 64) = false := decide_eq_false (by omega)
      obtain ⟨H2, hleg, x2⟩ := call_legal (N := N) (hk := hk) (d := d) (H := H.alloc 1 (strL (hd1 s :: rest s))) (s := hd1 s) K0 (hG.trans x1) (by omega) (by omega)
      have hq2 := x2.keep H.next _ hq1
      cases hc : legalI (hd1 s) with
      | false =>
        rw [hc] at hleg
        have hn : namedI s = false := by unfold namedI; rw [hc, Bool.and_false]; rfl
        refine ⟨H2, x1.trans x2, ?_⟩
        simp (decide := true) only [↓execG_seq, ↓g_region, ↓execG_ret, ↓g_if, thenE_norm, thenE_ret, ↓r_nil, ↓r_cons, ↓o_move, ↓o_assign, ↓o_pickf, ↓o_load, ↓o_binOp, ↓o_unOp, ↓o_indexAddr, ↓o_builtin, ↓o_callf, nextE_app, putK_app, putO_app, putG_bool, normK_app, evalE_tmp, evalE_const, upd_some, bindO_ok, bindV_ok, reduceIte, map_one, map_two, startE_0, ↓reg_lit l0, ↓reg_lit l1, ↓reg_lit l2, ↓reg_lit l3, ↓r_yes _ 3 false 13 _ gd14_2_3, callK_fn Tryd.func31 rfl rfl hcut, len_str, binA_gtr, g, hix0, hld0, callK_fn Tryd.func12 rfl rfl hleg, not_f]
        rw [← hF, finE_ret (l := [.bool false]) (by simp (decide := true) [Tryd.f14, resE, upd_some])]
        rw [hn]; rfl
      | true =>
        rw [hc] at hleg
        have hn : namedI s = (rest s).all canonB := by unfold namedI; rw [hc, decide_eq_true h64]; rfl
        have hsl := slice_one (n := (rest s).length) hq2 (by simp [strL])
        have hrl := rest_len s
        have hrs := rest_small s
        simp (decide := true) only [↓execG_seq, ↓g_region, ↓execG_block, ↓execG_skip, ↓g_else, thenE_norm, ↓r_nil, ↓r_cons, ↓o_move, ↓o_assign, ↓o_pickf, ↓o_load, ↓o_binOp, ↓o_unOp, ↓o_slice, ↓o_indexAddr, ↓o_builtin, ↓o_callf, nextE_app, putK_app, putO_app, putG_bool, normK_app, evalE_tmp, evalE_const, upd_some, bindO_ok, bindV_ok, reduceIte, map_one, map_two, startE_0, ↓reg_lit l0, ↓reg_lit l1, ↓reg_lit l2, ↓reg_lit l4, ↓r_yes _ 3 false 13 _ gd14_2_3, callK_fn Tryd.func31 rfl rfl hcut, len_str, binA_gtr, g, hix0, hld0, callK_fn Tryd.func12 rfl rfl hleg, not_t, ↓Option.map_some, ↓Option.map_none, hsl, len_slice (ts := #[39]) rfl und39, ↓execG_loop]
        refine nd_then (ps := rest s) (p0 := hd1 s) (q := H.next) (H0 := H2) (d := d + 4) (Q := fun r => ∃ H', Ext H H' ∧ r = some (.ret (.bool (namedI s)), H')) K B ((hG.trans x1).trans x2) hq2 (by omega) (fun p hp => by have := hrs p hp; omega) (rest s).length 0 N (by omega) (by omega) ?_ ?_ ?_ ⟨Nat.le_refl _, fun _ _ h => h, x2.fresh⟩ (fun hf E' H' hE => ?_) (fun hf E' H' e2 hE => ?_)
        · simp (decide := true) only [upd_some, reduceIte]
        · simp (decide := true) only [upd_some, reduceIte]
        · simp (decide := true) only [upd_some, reduceIte]; rfl
        · rw [List.drop_zero] at hf
          refine ⟨H', (x1.trans x2).trans hE, ?_⟩
          simp (decide := true) only [↓execG_seq, ↓g_region, ↓execG_ret, thenE_norm, g_leave, ↓r_nil, ↓r_cons, ↓o_assign, nextE_app, normK_app, evalE_const, ↓reg_lit l11]
          rw [← hF, finE_ret (l := [.bool true]) (by simp (decide := true) [Tryd.f14, resE, upd_some])]
          rw [hn, hf]; rfl
        · rw [List.drop_zero] at hf
          refine ⟨H', (x1.trans x2).trans hE, ?_⟩
          simp (decide := true) only [thenE_ret, leaveB_ret]
          rw [← hF, finE_ret (l := [.bool false]) (by simp (decide := true) [Tryd.f14, resE, e2])]
          rw [hn, hf]; rfl
    · have g : decide ((s.length : Int) > 64) = true := decide_eq_true (by omega)
      have hn : namedI s = false := by unfold namedI; rw [decide_eq_false h64]; rfl
      refine ⟨_, x1, ?_⟩
      simp (decide := true) only [↓execG_seq, ↓g_region, ↓execG_ret, ↓g_if, thenE_norm, thenE_ret, ↓r_nil, ↓r_cons, ↓o_move, ↓o_assign, ↓o_pickt, ↓o_binOp, ↓o_builtin, ↓o_callf, nextE_app, putK_app, putG_bool, normK_app, evalE_tmp, evalE_const, upd_some, bindO_ok, reduceIte, map_one, map_two, startE_0, Bool.not_false, ↓reg_lit l0, ↓reg_lit l1, ↓reg_lit l2, ↓reg_lit l3, ↓r_no _ 3 false 13 _ gd14_2_3, callK_fn Tryd.func31 rfl rfl hcut, len_str, binA_gtr, g]
      rw [← hF, finE_ret (l := [.bool false]) (by simp (decide := true) [Tryd.f14, resE, upd_some])]
      rw [hn]; rfl
  obtain ⟨R0, m1, H', m2, m3⟩ := main
  exact ⟨H', m2, m1.trans m3⟩
end Go.Am
/- The law on words: the two sides answer the same. -/
open Go.Proofs
namespace Go.Am
theorem binA_neqb (x y : Operand) (a b : Bool) : binA PP .neq 4 x y (.bool a) (.bool b) = some (.bool (a != b)) := by cases a <;> cases b <;> kernel_rfl
theorem laid_row {H : Heap} {w : List UInt8} (hw : w.length < 9223372036854775808) : Brow (H.alloc 1 (w.map f8)) (some ⟨H.next, 0, none⟩) w := by
  refine ⟨fun b hb => ?_, fun e => (by cases e), hw⟩
  obtain rfl := Option.some.inj hb
  refine ⟨⟨w.map f8, true, 1, none⟩, ?_, rfl, by simp, ?_⟩
  · simp only [look]
    rw [Heap.get_alloc, if_pos rfl]
  · simp only [List.drop_zero]
    rw [List.take_of_length_le (by simp)]
    rfl
theorem code5 : codeOf Tryd.f5 = .seq (.region 0 (rgn Tryd.f5 0) false) (.seq (.seq (.region 1 (rgn Tryd.f5 1) false) (.cond (.tmp 9) (.seq (.region 2 (rgn Tryd.f5 2) false) (.ret)) (.skip))) (.seq (.seq (.region 3 (rgn Tryd.f5 3) false) (.cond (.tmp 29) (.seq (.region 4 (rgn Tryd.f5 4) false) (.ret)) (.skip))) (.seq (.region 5 (rgn Tryd.f5 5) false) (.ret)))) := by kernel_rfl
theorem gd5_3_5 : ((rgn Tryd.f5 3)[5]?).bind (·.dst) = some 16 := by kernel_rfl
theorem gd5_3_12 : ((rgn Tryd.f5 3)[12]?).bind (·.dst) = some 23 := by kernel_rfl
theorem gd5_5_5 : ((rgn Tryd.f5 5)[5]?).bind (·.dst) = some 35 := by kernel_rfl
theorem gd5_5_12 : ((rgn Tryd.f5 5)[12]?).bind (·.dst) = some 42 := by kernel_rfl

set_option maxRecDepth 100000 in
set_option maxHeartbeats 2000000 in
theorem call_words {N : Nat} {hk : Hook} {d : Nat} {H : Heap} {n : Nat} {w t : List UInt8} (K0 : HkOk hk) (B0 : HkB hk) (K : HkR hk) (B : HkW hk) (hkn : ∀ H, Ext GE H → hk 10 #[] H = some (some (.ret (.bool true), H))) (hG : Ext GE H) (hm : maxOk H = true) (hw : w.length ≤ 1048576) (ht : t.length ≤ 16777216) (hn : n < 18446744073709551616) (hN : 80000000 < N) :
    ∃ H', Ext H H' ∧ CG N hk (d + 9) 5 #[.string ⟨⟨w⟩⟩, .int .u64 (n : Int), .string ⟨⟨t⟩⟩] H = some (.ret (.bool true), H') := by
  have main : ∃ R0 : R, CG N hk (d + 9) 5 #[.string ⟨⟨w⟩⟩, .int .u64 (n : Int), .string ⟨⟨t⟩⟩] H = R0 ∧ ∃ H', Ext H H' ∧ R0 = some (.ret (.bool true), H') := by
    refine ⟨_, callG_fn (K.nil _ _ _ rfl) Tryd.func5 (c := codeOf Tryd.f5) rfl rfl rfl (pr := noPr) rfl, ?_⟩
    rw [code5]
    generalize hF : finE PP Tryd.f5 = F
    obtain ⟨H1, lg1, x1⟩ := call_legal (N := N) (hk := hk) (d := d + 1) (H := H) (s := w) K0 hG (by omega) (by omega)
    have lg1 : CG N hk (d + 8) 12 #[.string ⟨⟨w⟩⟩] H = some (.ret (.bool (legalI w)), H1) := lg1
    have lg2 := call_rlegal (N := N) (hk := hk) (d := d + 5) (H := H1) (s := w) K (hG.trans x1) (by omega) (by omega)
    have lg2 : CG N hk (d + 8) 13 #[.string ⟨⟨w⟩⟩] H1 = some (.ret (.bool (legalI w)), H1) := lg2
    obtain ⟨H2, x2, n1⟩ := call_named (N := N) (hk := hk) (d := d) (H := H1) (s := w) K0 K B (hG.trans x1) (maxOk_ext hm x1) hw (by omega)
    obtain ⟨H3, x3, n2⟩ := call_rnamed (N := N) (hk := hk) (d := d + 4) (H := H2) (s := w) K ((hG.trans x1).trans x2) (by omega) (by omega)
    have n2 : CG N hk (d + 8) 15 #[.string ⟨⟨w⟩⟩] H2 = some (.ret (.bool (namedI w)), H3) := n2
    have g3 := ((hG.trans x1).trans x2).trans x3
    obtain ⟨H4, x4, r1⟩ := call_res (N := N) (hk := hk) (d := d + 6) (H := H3) g3 w (by omega) K0.nil K0.fields
    have r1 : CG N hk (d + 8) 16 #[.string ⟨⟨w⟩⟩] H3 = some (.ret (.int .i64 (resI w)), H4) := r1
    have g4 := g3.trans x4
    have r2 := call_rres (N := N) (hk := hk) (d := d + 7) (H := H4) g4 w (by omega) K.nil
    have r2 : CG N hk (d + 8) 17 #[.string ⟨⟨w⟩⟩] H4 = some (.ret (.int .i64 (resI w)), H4) := r2
    have hlen : (digV n).length = (Lib.decDigits n).length := Lib.byteCells_length _
    have hnum : CG N hk (d + 8) 19 #[.int .u64 (n : Int)] H4 = _ := callG_hook (B0.num n H4 hn g4)
    rw [hlen] at hnum
    have hdm : digV n = (Lib.decDigits n).map f8 := rfl
    rw [hdm] at hnum
    have hsz : (Lib.decDigits n).length ≤ 20 := by
      rw [Lib.decDigits_length]; exact digits_le hn
    have x5 : Ext H4 (H4.alloc 1 ((Lib.decDigits n).map f8)) := Ext.alloc g4.fresh 1 _
    have b5 : Brow (H4.alloc 1 ((Lib.decDigits n).map f8)) (some ⟨H4.next, 0, none⟩) (Lib.decDigits n) := laid_row (by omega)
    obtain ⟨v6, H6, x6, br6, hnum2⟩ := call_rnum (N := N) (hk := hk) (d := d + 7) (n := n) (H := H4.alloc 1 ((Lib.decDigits n).map f8)) K.nil (g4.trans x5) hn (by omega)
    have hnum2 : CG N hk (d + 8) 20 #[.int .u64 (n : Int)] (H4.alloc 1 ((Lib.decDigits n).map f8)) = some (.ret v6, H6) := hnum2
    obtain ⟨a6, rfl, b6⟩ := br6.brow (by omega)
    have g6 := (g4.trans x5).trans x6
    have s1 := call_sameb (N := N) (hk := hk) (d := d + 7) (H := H6) (c := (Lib.decDigits n).length) (c' := (Lib.decDigits n).length) K.nil (b5.ext x6) b6 (by omega) (by omega)
    have s1 : CG N hk (d + 8) 18 #[.slice (some ⟨H4.next, 0, none⟩) (Lib.decDigits n).length (Lib.decDigits n).length, .slice a6 (Lib.decDigits n).length (Lib.decDigits n).length] H6 = some (.ret (.bool true), H6) := s1
    have hbl := body_len t
    have hql : (quoteB t).length = (bodyB t).length + 2 := by simp [quoteB]
    obtain ⟨v7, H7, x7, br7, q1⟩ := call_quote (N := N) (hk := hk) (d := d + 3) (t := t) (H := H6) K0 B0 g6 (by omega) (by omega)
    have q1 : CG N hk (d + 8) 21 #[.string ⟨⟨t⟩⟩] H6 = some (.ret v7, H7) := q1
    obtain ⟨a7, rfl, b7⟩ := br7.brow (by omega)
    obtain ⟨v8, H8, x8, br8, q2⟩ := call_rquote (N := N) (hk := hk) (d := d + 7) (t := t) (H := H7) K.nil (g6.trans x7) (by omega) (by omega)
    have q2 : CG N hk (d + 8) 22 #[.string ⟨⟨t⟩⟩] H7 = some (.ret v8, H8) := q2
    obtain ⟨a8, rfl, b8⟩ := br8.brow (by omega)
    have g8 := (g6.trans x7).trans x8
    have s2 := call_sameb (N := N) (hk := hk) (d := d + 7) (H := H8) (c := (quoteB t).length) (c' := (quoteB t).length) K.nil (b7.ext x8) b8 (by omega) (by omega)
    have s2 : CG N hk (d + 8) 18 #[.slice a7 (quoteB t).length (quoteB t).length, .slice a8 (quoteB t).length (quoteB t).length] H8 = some (.ret (.bool true), H8) := s2
    have kn : CG N hk (d + 8) 10 #[] H8 = some (.ret (.bool true), H8) := callG_hook (hkn H8 g8)
    have g : decide ((t.length : Int) > 16777216) = false := decide_eq_false (by omega)
    have z1 : (legalI w != legalI w) = false := by simp
    have z2 : (namedI w != namedI w) = false := by simp
    have z3 : (resI w != resI w) = false := by simp
    refine ⟨H8, ((((((x1.trans x2).trans x3).trans x4).trans x5).trans x6).trans x7).trans x8, ?_⟩
    have l0 := tl (rgn Tryd.f5 0)
    conv at l0 => rhs; simp only [rgn, opsAt, codeOf, Tryd.f5, gS, gN, reduceIte, Nat.reduceEqDiff, tA]
    have l1 := tl (rgn Tryd.f5 1)
    conv at l1 => rhs; simp only [rgn, opsAt, codeOf, Tryd.f5, gS, gN, reduceIte, Nat.reduceEqDiff, tA]
    have l3 := tl (rgn Tryd.f5 3)
    conv at l3 => rhs; simp only [rgn, opsAt, codeOf, Tryd.f5, gS, gN, reduceIte, Nat.reduceEqDiff, tA]
    have l5 := tl (rgn Tryd.f5 5)
    conv at l5 => rhs; simp only [rgn, opsAt, codeOf, Tryd.f5, gS, gN, reduceIte, Nat.reduceEqDiff, tA]
    simp (decide := true) only [↓execG_seq, ↓g_region, ↓execG_ret, ↓execG_skip, ↓g_else, thenE_norm, ↓r_nil, ↓r_cons, ↓o_move, ↓o_assign, ↓o_pickt, ↓o_pickf, ↓o_binOp, ↓o_builtin, ↓o_callf, nextE_app, putK_app, putG_bool, normK_app, evalE_tmp, evalE_const, upd_some, bindO_ok, reduceIte, map_one, map_two, map_nil, startE_0, startE_1, ↓reg_lit l0, ↓reg_lit l1, ↓reg_lit l3, ↓reg_lit l5, ↓r_yes _ 5 false 16 _ gd5_3_5, ↓r_yes _ 12 false 23 _ gd5_3_12, ↓r_yes _ 5 true 35 _ gd5_5_5, ↓r_yes _ 12 true 42 _ gd5_5_12, startE_0, startE_1, startE_2, len_str, binA_gtr, g, callK_fn Tryd.func12 rfl rfl lg1, callK_fn Tryd.func13 rfl rfl lg2, binA_neqb, z1, callK_fn Tryd.func14 rfl rfl n1, callK_fn Tryd.func15 rfl rfl n2, z2, callK_fn Tryd.func16 rfl rfl r1, callK_fn Tryd.func17 rfl rfl r2, binA_neq, z3, callK_fn Tryd.func19 rfl rfl hnum, callK_fn Tryd.func20 rfl rfl hnum2, callK_fn Tryd.func18 rfl rfl s1, callK_fn Tryd.func21 rfl rfl q1, callK_fn Tryd.func22 rfl rfl q2, callK_fn Tryd.func18 rfl rfl s2, callK_fn Tryd.func10 rfl rfl kn]
    rw [← hF, finE_ret (l := [.bool true]) (by simp (decide := true) [Tryd.f5, resE, upd_some])]
    rfl
  obtain ⟨R0, m1, H', m2, m3⟩ := main
  exact ⟨H', m2, m1.trans m3⟩
end Go.Am
