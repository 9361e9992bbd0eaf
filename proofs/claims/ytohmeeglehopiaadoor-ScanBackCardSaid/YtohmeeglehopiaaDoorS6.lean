/- An integer: hex digits, and all of it. -/
import Derived.Test.YtohmeeglehopiaaDoorS5
open Go.Proofs
namespace Go.Am
theorem hex_ok {s : List UInt8} {fr f i n : Nat} {u : UInt8} (hu : s.getD i 0 = u) (hq : hexT u.toNat < 16) (ov : n * 16 + (hexT u.toNat).toNat < m64) : hexI s fr (f + 1) i n = hexI s fr f (i + 1) (n * 16 + (hexT u.toNat).toNat) := by
  subst hu
  rw [hexI, if_pos hq, if_pos ov]
theorem hex_no {s : List UInt8} {fr f i n : Nat} {u : UInt8} (hu : s.getD i 0 = u) (hq : hexT u.toNat < 16) (ov : ¬ n * 16 + (hexT u.toNat).toNat < m64) : hexI s fr (f + 1) i n = .bad i := by
  subst hu
  rw [hexI, if_pos hq, if_neg ov]
set_option maxRecDepth 100000 in
theorem h_end {N : Nat} {H0 : Heap} {a : Option Addr} {c : Nat} {s : List UInt8} {b t : Nat} {Q : R → Prop} {k : KOE} {hk : Hook} {d : Nat} {kd f0 t0 : Int} {w : ByteArray} {n0 : Int} {fr : Nat} (x : Ctx H0 a c s b) (hbt : t ≠ b) (ht : H0.get t = some (tok kd n0 w f0 t0)) (hh : ∀ f args H, okC f = true → hk f args H = none) (htl : t < H0.next) (htg : GE.next ≤ t) (hrt : ∀ q, a = some q → q.block ≠ t) (hm : ∀ x y H, x < m64 → y < m64 → hk 73 #[.int .u64 ((x : Nat) : Int), .int .u64 ((y : Nat) : Int)] H = some (some (.ret (mulV x y), H))) {H : Heap} {E : Env} {i n m : Nat} (h : Curs H0 H b a s.length c i) (hn : n < m64) (hnh : ¬ (i < s.length ∧ hexT (s.getD i 0).toNat < 16)) (hhex : ∀ (u : UInt8) H, Ext GE H → hk 55 #[.int .u8 (u.toNat : Int)] H = some (some (.ret (.int .u64 (hexT u.toNat)), H))) (he : (E 0 = .pointer (some ⟨b, 0, none⟩) ∧ E 1 = .pointer (some ⟨t, 0, none⟩) ∧ E 6 = .int .i64 (fr : Int) ∧ E 7 = .int .u64 (n : Int)))
    (hx : ∀ E' H', Fin H0 a s.length c b t kd w f0 t0 (endH s fr i n) E' H' → Q (k .ret E' [] H')) : Q (execG PP XX (CG N hk (d + 2)) N noPr (.seq (.seq (.region 11 (rgn Tryd.f39 11) true) (.cond (.tmp 113) (.seq (.seq (.region 12 (rgn Tryd.f39 12) true) (.seq (.region 13 (rgn Tryd.f39 13) false) (.cond (.tmp 131) (.seq (.region 14 (rgn Tryd.f39 14) false) (.ret)) (.skip)))) (.seq (.region 15 (rgn Tryd.f39 15) false) (.goto 0))) (.skip))) (.seq (.seq (.region 16 (rgn Tryd.f39 16) false) (.cond (.tmp 144) (.seq (.region 17 (rgn Tryd.f39 17) false) (.ret)) (.skip))) (.seq (.label 2) (.seq (.seq (.region 18 (rgn Tryd.f39 18) false) (.cond (.tmp 146) (.seq (.region 19 (rgn Tryd.f39 19) false) (.seq (.seq (.region 20 (rgn Tryd.f39 20) true) (.block 0 (.seq (.block 3 (.seq (.block 2 (.seq (.block 1 (.seq (.seq (.seq (.region 21 (rgn Tryd.f39 21) false) (.cond (.tmp 157) (.exit 1) (.skip))) (.seq (.region 22 (rgn Tryd.f39 22) false) (.cond (.tmp 159) (.exit 2) (.skip)))) (.exit 3))) (.region 23 (rgn Tryd.f39 23) false))) (.seq (.region 24 (rgn Tryd.f39 24) false) (.exit 0)))) (.seq (.seq (.region 25 (rgn Tryd.f39 25) false) (.ret)) (.exit 0))))) (.seq (.seq (.region 26 (rgn Tryd.f39 26) false) (.seq (.region 27 (rgn Tryd.f39 27) false) (.cond (.tmp 172) (.seq (.region 28 (rgn Tryd.f39 28) false) (.ret)) (.skip)))) (.region 29 (rgn Tryd.f39 29) false)))) (.skip))) (.seq (.region 30 (rgn Tryd.f39 30) false) (.seq (.region 31 (rgn Tryd.f39 31) false) (.ret))))))) none E [] H (scopeK (.seq (.region 1 (rgn Tryd.f39 1) true) (.seq (.region 2 (rgn Tryd.f39 2) false) (.seq (.seq (.region 3 (rgn Tryd.f39 3) true) (.cond (.tmp 50) (.seq (.region 4 (rgn Tryd.f39 4) false) (.seq (.region 5 (rgn Tryd.f39 5) false) (.goto 0))) (.skip))) (.seq (.label 1) (.seq (.seq (.region 6 (rgn Tryd.f39 6) false) (.cond (.tmp 63) (.seq (.seq (.region 7 (rgn Tryd.f39 7) true) (.seq (.region 8 (rgn Tryd.f39 8) false) (.cond (.tmp 82) (.seq (.region 9 (rgn Tryd.f39 9) false) (.ret)) (.skip)))) (.seq (.region 10 (rgn Tryd.f39 10) false) (.goto 1))) (.skip))) (.seq (.goto 2) (.seq (.label 0) (.seq (.seq (.region 11 (rgn Tryd.f39 11) true) (.cond (.tmp 113) (.seq (.seq (.region 12 (rgn Tryd.f39 12) true) (.seq (.region 13 (rgn Tryd.f39 13) false) (.cond (.tmp 131) (.seq (.region 14 (rgn Tryd.f39 14) false) (.ret)) (.skip)))) (.seq (.region 15 (rgn Tryd.f39 15) false) (.goto 0))) (.skip))) (.seq (.seq (.region 16 (rgn Tryd.f39 16) false) (.cond (.tmp 144) (.seq (.region 17 (rgn Tryd.f39 17) false) (.ret)) (.skip))) (.seq (.label 2) (.seq (.seq (.region 18 (rgn Tryd.f39 18) false) (.cond (.tmp 146) (.seq (.region 19 (rgn Tryd.f39 19) false) (.seq (.seq (.region 20 (rgn Tryd.f39 20) true) (.block 0 (.seq (.block 3 (.seq (.block 2 (.seq (.block 1 (.seq (.seq (.seq (.region 21 (rgn Tryd.f39 21) false) (.cond (.tmp 157) (.exit 1) (.skip))) (.seq (.region 22 (rgn Tryd.f39 22) false) (.cond (.tmp 159) (.exit 2) (.skip)))) (.exit 3))) (.region 23 (rgn Tryd.f39 23) false))) (.seq (.region 24 (rgn Tryd.f39 24) false) (.exit 0)))) (.seq (.seq (.region 25 (rgn Tryd.f39 25) false) (.ret)) (.exit 0))))) (.seq (.seq (.region 26 (rgn Tryd.f39 26) false) (.seq (.region 27 (rgn Tryd.f39 27) false) (.cond (.tmp 172) (.seq (.region 28 (rgn Tryd.f39 28) false) (.ret)) (.skip)))) (.region 29 (rgn Tryd.f39 29) false)))) (.skip))) (.seq (.region 30 (rgn Tryd.f39 30) false) (.seq (.region 31 (rgn Tryd.f39 31) false) (.ret)))))))))))))) (execG PP XX (CG N hk (d + 2)) N noPr (.seq (.region 1 (rgn Tryd.f39 1) true) (.seq (.region 2 (rgn Tryd.f39 2) false) (.seq (.seq (.region 3 (rgn Tryd.f39 3) true) (.cond (.tmp 50) (.seq (.region 4 (rgn Tryd.f39 4) false) (.seq (.region 5 (rgn Tryd.f39 5) false) (.goto 0))) (.skip))) (.seq (.label 1) (.seq (.seq (.region 6 (rgn Tryd.f39 6) false) (.cond (.tmp 63) (.seq (.seq (.region 7 (rgn Tryd.f39 7) true) (.seq (.region 8 (rgn Tryd.f39 8) false) (.cond (.tmp 82) (.seq (.region 9 (rgn Tryd.f39 9) false) (.ret)) (.skip)))) (.seq (.region 10 (rgn Tryd.f39 10) false) (.goto 1))) (.skip))) (.seq (.goto 2) (.seq (.label 0) (.seq (.seq (.region 11 (rgn Tryd.f39 11) true) (.cond (.tmp 113) (.seq (.seq (.region 12 (rgn Tryd.f39 12) true) (.seq (.region 13 (rgn Tryd.f39 13) false) (.cond (.tmp 131) (.seq (.region 14 (rgn Tryd.f39 14) false) (.ret)) (.skip)))) (.seq (.region 15 (rgn Tryd.f39 15) false) (.goto 0))) (.skip))) (.seq (.seq (.region 16 (rgn Tryd.f39 16) false) (.cond (.tmp 144) (.seq (.region 17 (rgn Tryd.f39 17) false) (.ret)) (.skip))) (.seq (.label 2) (.seq (.seq (.region 18 (rgn Tryd.f39 18) false) (.cond (.tmp 146) (.seq (.region 19 (rgn Tryd.f39 19) false) (.seq (.seq (.region 20 (rgn Tryd.f39 20) true) (.block 0 (.seq (.block 3 (.seq (.block 2 (.seq (.block 1 (.seq (.seq (.seq (.region 21 (rgn Tryd.f39 21) false) (.cond (.tmp 157) (.exit 1) (.skip))) (.seq (.region 22 (rgn Tryd.f39 22) false) (.cond (.tmp 159) (.exit 2) (.skip)))) (.exit 3))) (.region 23 (rgn Tryd.f39 23) false))) (.seq (.region 24 (rgn Tryd.f39 24) false) (.exit 0)))) (.seq (.seq (.region 25 (rgn Tryd.f39 25) false) (.ret)) (.exit 0))))) (.seq (.seq (.region 26 (rgn Tryd.f39 26) false) (.seq (.region 27 (rgn Tryd.f39 27) false) (.cond (.tmp 172) (.seq (.region 28 (rgn Tryd.f39 28) false) (.ret)) (.skip)))) (.region 29 (rgn Tryd.f39 29) false)))) (.skip))) (.seq (.region 30 (rgn Tryd.f39 30) false) (.seq (.region 31 (rgn Tryd.f39 31) false) (.ret))))))))))))))) m k)) := by
  obtain ⟨e0, e1, e6, e7⟩ := he
  have two := h.two hbt ht
  have hz : ((i : Int) == (fr : Int)) = decide (i = fr) := by
    rw [Bool.eq_iff_iff, beq_iff_eq, decide_eq_true_eq]; omega
  have l11 := tl (rgn Tryd.f39 11)
  conv at l11 => rhs; simp only [rgn, opsAt, codeOf, Tryd.f39, gS, gN, reduceIte, Nat.reduceEqDiff, tA]
  have l16 := tl (rgn Tryd.f39 16)
  conv at l16 => rhs; simp only [rgn, opsAt, codeOf, Tryd.f39, gS, gN, reduceIte, Nat.reduceEqDiff, tA]
  have l17 := tl (rgn Tryd.f39 17)
  conv at l17 => rhs; simp only [rgn, opsAt, codeOf, Tryd.f39, gS, gN, reduceIte, Nat.reduceEqDiff, tA]
  by_cases hi : i < s.length
  · have hlt : decide ((i : Int) < (s.length : Int)) = true := decide_eq_true (by omega)
    have hgd : s.getD i 0 = s[i] := by simp [List.getD, hi]
    obtain ⟨y, rfl, hl⟩ := (h.row x).bts.cell i hi
    have hix := index_row (n := s.length) (c := c) (a := y) hi
    have h16 : decide (hexT s[i].toNat < 16) = false := decide_eq_false (fun q => hnh ⟨hi, by rw [hgd]; exact q⟩)
    have hc : CG N hk (d + 2) 55 #[.int .u8 (s[i].toNat : Int)] H = some (.ret (.int .u64 (hexT s[i].toNat)), H) := callG_hook (hhex s[i] H (h.gg x))
    by_cases hf : i = fr
    · rw [decide_eq_true hf] at hz
      rw [endH, if_pos hf] at hx
      simp (decide := true) only [↓execG_seq, ↓g_region, ↓execG_ret, ↓execG_skip, ↓g_if, ↓g_else, thenE_norm, thenE_ret, ↓r_nil, ↓r_cons, ↓o_move, ↓o_assign, ↓o_pickt, ↓o_load, ↓o_nilCheck, ↓o_binOp, ↓o_fieldAddr, ↓o_indexAddr, ↓o_builtin, ↓o_callf, nextE_app, putK_app, putO_app, putG_bool, normK_app, nilCheckA_ok, evalE_tmp, evalE_const, upd_some, bindO_ok, bindV_ok, reduceIte, map_one, ↓reg_lit l11, ↓reg_lit l16, ↓reg_lit l17, ↓r_yes _ 10 true 100 _ gd39_11_10, e0, e6, fld0, fld1, load_src h.here, load_at h.here, len_slice (ts := #[26]) rfl und34, binA_lss, hlt, hix, load_byte hl, callK_fn Tryd.func55 rfl rfl hc, h16, binA_eql, hz, scopeK_ret]
      exact hx _ _ ⟨by simp (decide := true) only [upd_some, reduceIte], _, two⟩
    · rw [decide_eq_false hf] at hz
      rw [endH, if_neg hf] at hx
      simp (decide := true) only [↓execG_seq, ↓g_region, ↓execG_skip, ↓g_else, thenE_norm, ↓r_nil, ↓r_cons, ↓o_move, ↓o_pickt, ↓o_load, ↓o_nilCheck, ↓o_binOp, ↓o_fieldAddr, ↓o_indexAddr, ↓o_builtin, ↓o_callf, nextE_app, putK_app, putO_app, putG_bool, normK_app, nilCheckA_ok, evalE_tmp, evalE_const, upd_some, bindO_ok, bindV_ok, reduceIte, map_one, ↓reg_lit l11, ↓reg_lit l16, ↓r_yes _ 10 true 100 _ gd39_11_10, ↓execG_label, e0, e6, fld0, fld1, load_src h.here, load_at h.here, len_slice (ts := #[26]) rfl und34, binA_lss, hlt, hix, load_byte hl, callK_fn Tryd.func55 rfl rfl hc, h16, binA_eql, hz]
      exact to_suf x hbt ht hh htl htg hrt hm h hn ⟨by simp (decide := true) only [upd_some, reduceIte, e0], by simp (decide := true) only [upd_some, reduceIte, e1], by simp (decide := true) only [upd_some, reduceIte, e7]⟩ hx
  · have hlt : decide ((i : Int) < (s.length : Int)) = false := decide_eq_false (by omega)
    by_cases hf : i = fr
    · rw [decide_eq_true hf] at hz
      rw [endH, if_pos hf] at hx
      simp (decide := true) only [↓execG_seq, ↓g_region, ↓execG_ret, ↓execG_skip, ↓g_if, ↓g_else, thenE_norm, thenE_ret, ↓r_nil, ↓r_cons, ↓o_move, ↓o_assign, ↓o_pickf, ↓o_load, ↓o_nilCheck, ↓o_binOp, ↓o_fieldAddr, ↓o_builtin, nextE_app, putK_app, putO_app, putG_bool, normK_app, nilCheckA_ok, evalE_tmp, evalE_const, upd_some, bindO_ok, bindV_ok, reduceIte, map_one, Bool.not_true, ↓reg_lit l11, ↓reg_lit l16, ↓reg_lit l17, ↓r_no _ 10 true 100 _ gd39_11_10, e0, e6, fld0, fld1, load_src h.here, load_at h.here, len_slice (ts := #[26]) rfl und34, binA_lss, hlt, binA_eql, hz, scopeK_ret]
      exact hx _ _ ⟨by simp (decide := true) only [upd_some, reduceIte], _, two⟩
    · rw [decide_eq_false hf] at hz
      rw [endH, if_neg hf] at hx
      simp (decide := true) only [↓execG_seq, ↓g_region, ↓execG_skip, ↓g_else, thenE_norm, ↓r_nil, ↓r_cons, ↓o_move, ↓o_pickf, ↓o_load, ↓o_nilCheck, ↓o_binOp, ↓o_fieldAddr, ↓o_builtin, nextE_app, putK_app, putO_app, putG_bool, normK_app, nilCheckA_ok, evalE_tmp, evalE_const, upd_some, bindO_ok, bindV_ok, reduceIte, map_one, Bool.not_true, ↓reg_lit l11, ↓reg_lit l16, ↓r_no _ 10 true 100 _ gd39_11_10, ↓execG_label, e0, e6, fld0, fld1, load_src h.here, load_at h.here, len_slice (ts := #[26]) rfl und34, binA_lss, hlt, binA_eql, hz]
      exact to_suf x hbt ht hh htl htg hrt hm h hn ⟨by simp (decide := true) only [upd_some, reduceIte, e0], by simp (decide := true) only [upd_some, reduceIte, e1], by simp (decide := true) only [upd_some, reduceIte, e7]⟩ hx
set_option maxRecDepth 100000 in
theorem h_then {N : Nat} {H0 : Heap} {a : Option Addr} {c : Nat} {s : List UInt8} {b t : Nat} {Q : R → Prop} {k : KOE} {hk : Hook} {d : Nat} {kd f0 t0 : Int} {w : ByteArray} {n0 : Int} {fr : Nat} (x : Ctx H0 a c s b) (hbt : t ≠ b) (ht : H0.get t = some (tok kd n0 w f0 t0)) (hh : ∀ f args H, okC f = true → hk f args H = none) (htl : t < H0.next) (htg : GE.next ≤ t) (hrt : ∀ q, a = some q → q.block ≠ t) (hm : ∀ x y H, x < m64 → y < m64 → hk 73 #[.int .u64 ((x : Nat) : Int), .int .u64 ((y : Nat) : Int)] H = some (some (.ret (mulV x y), H))) (hhex : ∀ (u : UInt8) H, Ext GE H → hk 55 #[.int .u8 (u.toNat : Int)] H = some (some (.ret (.int .u64 (hexT u.toNat)), H))) :
    ∀ (f i n m : Nat) (_ : i + f = s.length) (_ : f < m) (_ : n < m64) {H : Heap} {E : Env} (_ : Curs H0 H b a s.length c i) (_ : (E 0 = .pointer (some ⟨b, 0, none⟩) ∧ E 1 = .pointer (some ⟨t, 0, none⟩) ∧ E 6 = .int .i64 (fr : Int) ∧ E 7 = .int .u64 (n : Int)))
      (_ : ∀ E' H', Fin H0 a s.length c b t kd w f0 t0 (hexI s fr f i n) E' H' → Q (k .ret E' [] H')), Q (execG PP XX (CG N hk (d + 2)) N noPr (.seq (.seq (.region 11 (rgn Tryd.f39 11) true) (.cond (.tmp 113) (.seq (.seq (.region 12 (rgn Tryd.f39 12) true) (.seq (.region 13 (rgn Tryd.f39 13) false) (.cond (.tmp 131) (.seq (.region 14 (rgn Tryd.f39 14) false) (.ret)) (.skip)))) (.seq (.region 15 (rgn Tryd.f39 15) false) (.goto 0))) (.skip))) (.seq (.seq (.region 16 (rgn Tryd.f39 16) false) (.cond (.tmp 144) (.seq (.region 17 (rgn Tryd.f39 17) false) (.ret)) (.skip))) (.seq (.label 2) (.seq (.seq (.region 18 (rgn Tryd.f39 18) false) (.cond (.tmp 146) (.seq (.region 19 (rgn Tryd.f39 19) false) (.seq (.seq (.region 20 (rgn Tryd.f39 20) true) (.block 0 (.seq (.block 3 (.seq (.block 2 (.seq (.block 1 (.seq (.seq (.seq (.region 21 (rgn Tryd.f39 21) false) (.cond (.tmp 157) (.exit 1) (.skip))) (.seq (.region 22 (rgn Tryd.f39 22) false) (.cond (.tmp 159) (.exit 2) (.skip)))) (.exit 3))) (.region 23 (rgn Tryd.f39 23) false))) (.seq (.region 24 (rgn Tryd.f39 24) false) (.exit 0)))) (.seq (.seq (.region 25 (rgn Tryd.f39 25) false) (.ret)) (.exit 0))))) (.seq (.seq (.region 26 (rgn Tryd.f39 26) false) (.seq (.region 27 (rgn Tryd.f39 27) false) (.cond (.tmp 172) (.seq (.region 28 (rgn Tryd.f39 28) false) (.ret)) (.skip)))) (.region 29 (rgn Tryd.f39 29) false)))) (.skip))) (.seq (.region 30 (rgn Tryd.f39 30) false) (.seq (.region 31 (rgn Tryd.f39 31) false) (.ret))))))) none E [] H (scopeK (.seq (.region 1 (rgn Tryd.f39 1) true) (.seq (.region 2 (rgn Tryd.f39 2) false) (.seq (.seq (.region 3 (rgn Tryd.f39 3) true) (.cond (.tmp 50) (.seq (.region 4 (rgn Tryd.f39 4) false) (.seq (.region 5 (rgn Tryd.f39 5) false) (.goto 0))) (.skip))) (.seq (.label 1) (.seq (.seq (.region 6 (rgn Tryd.f39 6) false) (.cond (.tmp 63) (.seq (.seq (.region 7 (rgn Tryd.f39 7) true) (.seq (.region 8 (rgn Tryd.f39 8) false) (.cond (.tmp 82) (.seq (.region 9 (rgn Tryd.f39 9) false) (.ret)) (.skip)))) (.seq (.region 10 (rgn Tryd.f39 10) false) (.goto 1))) (.skip))) (.seq (.goto 2) (.seq (.label 0) (.seq (.seq (.region 11 (rgn Tryd.f39 11) true) (.cond (.tmp 113) (.seq (.seq (.region 12 (rgn Tryd.f39 12) true) (.seq (.region 13 (rgn Tryd.f39 13) false) (.cond (.tmp 131) (.seq (.region 14 (rgn Tryd.f39 14) false) (.ret)) (.skip)))) (.seq (.region 15 (rgn Tryd.f39 15) false) (.goto 0))) (.skip))) (.seq (.seq (.region 16 (rgn Tryd.f39 16) false) (.cond (.tmp 144) (.seq (.region 17 (rgn Tryd.f39 17) false) (.ret)) (.skip))) (.seq (.label 2) (.seq (.seq (.region 18 (rgn Tryd.f39 18) false) (.cond (.tmp 146) (.seq (.region 19 (rgn Tryd.f39 19) false) (.seq (.seq (.region 20 (rgn Tryd.f39 20) true) (.block 0 (.seq (.block 3 (.seq (.block 2 (.seq (.block 1 (.seq (.seq (.seq (.region 21 (rgn Tryd.f39 21) false) (.cond (.tmp 157) (.exit 1) (.skip))) (.seq (.region 22 (rgn Tryd.f39 22) false) (.cond (.tmp 159) (.exit 2) (.skip)))) (.exit 3))) (.region 23 (rgn Tryd.f39 23) false))) (.seq (.region 24 (rgn Tryd.f39 24) false) (.exit 0)))) (.seq (.seq (.region 25 (rgn Tryd.f39 25) false) (.ret)) (.exit 0))))) (.seq (.seq (.region 26 (rgn Tryd.f39 26) false) (.seq (.region 27 (rgn Tryd.f39 27) false) (.cond (.tmp 172) (.seq (.region 28 (rgn Tryd.f39 28) false) (.ret)) (.skip)))) (.region 29 (rgn Tryd.f39 29) false)))) (.skip))) (.seq (.region 30 (rgn Tryd.f39 30) false) (.seq (.region 31 (rgn Tryd.f39 31) false) (.ret)))))))))))))) (execG PP XX (CG N hk (d + 2)) N noPr (.seq (.region 1 (rgn Tryd.f39 1) true) (.seq (.region 2 (rgn Tryd.f39 2) false) (.seq (.seq (.region 3 (rgn Tryd.f39 3) true) (.cond (.tmp 50) (.seq (.region 4 (rgn Tryd.f39 4) false) (.seq (.region 5 (rgn Tryd.f39 5) false) (.goto 0))) (.skip))) (.seq (.label 1) (.seq (.seq (.region 6 (rgn Tryd.f39 6) false) (.cond (.tmp 63) (.seq (.seq (.region 7 (rgn Tryd.f39 7) true) (.seq (.region 8 (rgn Tryd.f39 8) false) (.cond (.tmp 82) (.seq (.region 9 (rgn Tryd.f39 9) false) (.ret)) (.skip)))) (.seq (.region 10 (rgn Tryd.f39 10) false) (.goto 1))) (.skip))) (.seq (.goto 2) (.seq (.label 0) (.seq (.seq (.region 11 (rgn Tryd.f39 11) true) (.cond (.tmp 113) (.seq (.seq (.region 12 (rgn Tryd.f39 12) true) (.seq (.region 13 (rgn Tryd.f39 13) false) (.cond (.tmp 131) (.seq (.region 14 (rgn Tryd.f39 14) false) (.ret)) (.skip)))) (.seq (.region 15 (rgn Tryd.f39 15) false) (.goto 0))) (.skip))) (.seq (.seq (.region 16 (rgn Tryd.f39 16) false) (.cond (.tmp 144) (.seq (.region 17 (rgn Tryd.f39 17) false) (.ret)) (.skip))) (.seq (.label 2) (.seq (.seq (.region 18 (rgn Tryd.f39 18) false) (.cond (.tmp 146) (.seq (.region 19 (rgn Tryd.f39 19) false) (.seq (.seq (.region 20 (rgn Tryd.f39 20) true) (.block 0 (.seq (.block 3 (.seq (.block 2 (.seq (.block 1 (.seq (.seq (.seq (.region 21 (rgn Tryd.f39 21) false) (.cond (.tmp 157) (.exit 1) (.skip))) (.seq (.region 22 (rgn Tryd.f39 22) false) (.cond (.tmp 159) (.exit 2) (.skip)))) (.exit 3))) (.region 23 (rgn Tryd.f39 23) false))) (.seq (.region 24 (rgn Tryd.f39 24) false) (.exit 0)))) (.seq (.seq (.region 25 (rgn Tryd.f39 25) false) (.ret)) (.exit 0))))) (.seq (.seq (.region 26 (rgn Tryd.f39 26) false) (.seq (.region 27 (rgn Tryd.f39 27) false) (.cond (.tmp 172) (.seq (.region 28 (rgn Tryd.f39 28) false) (.ret)) (.skip)))) (.region 29 (rgn Tryd.f39 29) false)))) (.skip))) (.seq (.region 30 (rgn Tryd.f39 30) false) (.seq (.region 31 (rgn Tryd.f39 31) false) (.ret))))))))))))))) m k))
  | 0, i, n, m, hf, hmm, hn, H, E, h, he, hx => h_end x hbt ht hh htl htg hrt hm h hn (fun q => by omega) hhex he hx
  | f + 1, i, n, m + 1, hf, hmm, hn, H, E, h, he, hx => by
    have a1 : i + 1 + f = s.length := by omega
    have a2 : f < m := by omega
    have hi : i < s.length := by omega
    by_cases hq : hexT (s.getD i 0).toNat < 16
    · obtain ⟨e0, e1, e6, e7⟩ := he
      have hsm := x.row.small
      have hlt : decide ((i : Int) < (s.length : Int)) = true := decide_eq_true (by omega)
      have hgd : s.getD i 0 = s[i] := by simp [List.getD, hi]
      rw [hgd] at hq
      obtain ⟨y, rfl, hl⟩ := (h.row x).bts.cell i hi
      have hix := index_row (n := s.length) (c := c) (a := y) hi
      have h16 : decide (hexT s[i].toNat < 16) = true := decide_eq_true hq
      have hc : CG N hk (d + 2) 55 #[.int .u8 (s[i].toNat : Int)] H = some (.ret (.int .u64 (hexT s[i].toNat)), H) := callG_hook (hhex s[i] H (h.gg x))
      have hnn := hexT_nn s[i].toNat
      have w1 : IntKind.i64.wrap ((i : Int) + 1) = ((i + 1 : Nat) : Int) := by rw [wrap_i64 (by omega) (by omega)]; omega
      have hd : (hexT s[i].toNat).toNat < m64 := by unfold m64; omega
      have m16 : (16 : Nat) < m64 := by decide
      have q0 : ∀ (u v : Value), extractA (.tuple #[u, v]) 0 = some u := fun _ _ => rfl
      have q1 : ∀ (u v : Value), extractA (.tuple #[u, v]) 1 = some v := fun _ _ => rfl
      have hti : (((hexT s[i].toNat).toNat : Nat) : Int) = hexT s[i].toNat := by omega
      have l11 := tl (rgn Tryd.f39 11)
      conv at l11 => rhs; simp only [rgn, opsAt, codeOf, Tryd.f39, gS, gN, reduceIte, Nat.reduceEqDiff, tA]
      have l12 := tl (rgn Tryd.f39 12)
      conv at l12 => rhs; simp only [rgn, opsAt, codeOf, Tryd.f39, gS, gN, reduceIte, Nat.reduceEqDiff, tA]
      have l13 := tl (rgn Tryd.f39 13)
      conv at l13 => rhs; simp only [rgn, opsAt, codeOf, Tryd.f39, gS, gN, reduceIte, Nat.reduceEqDiff, tA]
      have l14 := tl (rgn Tryd.f39 14)
      conv at l14 => rhs; simp only [rgn, opsAt, codeOf, Tryd.f39, gS, gN, reduceIte, Nat.reduceEqDiff, tA]
      have l15 := tl (rgn Tryd.f39 15)
      conv at l15 => rhs; simp only [rgn, opsAt, codeOf, Tryd.f39, gS, gN, reduceIte, Nat.reduceEqDiff, tA]
      by_cases ov : n * 16 + (hexT s[i].toNat).toNat < m64
      · have hmo := more_ok (N := N) (hk := hk) (d := d) (H := H) n 16 (hexT s[i].toNat).toNat (n * 16 + (hexT s[i].toNat).toNat) 16 (hexT s[i].toNat) (by omega) hti hn m16 hd rfl ov hh hm
        have es : hexI s fr (f + 1) i n = hexI s fr f (i + 1) (n * 16 + (hexT s[i].toNat).toNat) := by exact hex_ok hgd hq ov
        rw [es] at hx
        simp (decide := true) only [↓execG_seq, ↓g_region, ↓execG_skip, ↓g_if, ↓g_else, thenE_norm, ↓r_nil, ↓r_cons, ↓o_move, ↓o_assign, ↓o_pickt, ↓o_load, ↓o_store, ↓o_nilCheck, ↓o_binOp, ↓o_unOp, ↓o_fieldAddr, ↓o_indexAddr, ↓o_extract, ↓o_builtin, ↓o_callf, nextE_app, putK_app, putO_app, putG_bool, putG_int, normK_app, nilCheckA_ok, evalE_tmp, evalE_const, upd_some, upd_none, bindO_ok, bindV_ok, reduceIte, map_one, map_three, ↓reg_lit l11, ↓reg_lit l12, ↓reg_lit l13, ↓reg_lit l15, ↓r_yes _ 10 true 100 _ gd39_11_10, ↓execG_goto, thenE_goto, e0, e7, fld0, fld1, load_src h.here, load_at h.here, len_slice (ts := #[26]) rfl und34, binA_lss, hlt, hix, load_byte hl, callK_fn Tryd.func55 rfl rfl hc, h16, callK_fn Tryd.func54 rfl rfl hmo, q0, q1, not_t, binA_add, w1, store_at h.here]
        clear w1 hmo
        rw [scopeK_goto lab0]
        rw [scopeE_succ, jmp0]
        exact h_then x hbt ht hh htl htg hrt hm hhex f (i + 1) (n * 16 + (hexT s[i].toNat).toNat) m a1 a2 ov (h.set (i + 1)) ⟨by simp (decide := true) only [upd_some, reduceIte, e0], by simp (decide := true) only [upd_some, reduceIte, e1], by simp (decide := true) only [upd_some, reduceIte, e6], by simp (decide := true) only [upd_some, reduceIte, e7]⟩ hx
      · obtain ⟨vv, hmo⟩ := more_no (N := N) (hk := hk) (d := d) (H := H) n 16 (hexT s[i].toNat).toNat (n * 16 + (hexT s[i].toNat).toNat) 16 (hexT s[i].toNat) (by omega) hti hn m16 hd rfl ov hh hm
        have es : hexI s fr (f + 1) i n = .bad i := by exact hex_no hgd hq ov
        rw [es] at hx
        simp (decide := true) only [↓execG_seq, ↓g_region, ↓execG_ret, ↓g_if, thenE_norm, thenE_ret, ↓r_nil, ↓r_cons, ↓o_move, ↓o_assign, ↓o_pickt, ↓o_load, ↓o_nilCheck, ↓o_binOp, ↓o_unOp, ↓o_fieldAddr, ↓o_indexAddr, ↓o_extract, ↓o_builtin, ↓o_callf, nextE_app, putK_app, putO_app, putG_bool, normK_app, nilCheckA_ok, evalE_tmp, evalE_const, upd_some, bindO_ok, bindV_ok, reduceIte, map_one, map_three, ↓reg_lit l11, ↓reg_lit l12, ↓reg_lit l13, ↓reg_lit l14, ↓r_yes _ 10 true 100 _ gd39_11_10, e0, e7, fld0, fld1, load_src h.here, load_at h.here, len_slice (ts := #[26]) rfl und34, binA_lss, hlt, hix, load_byte hl, callK_fn Tryd.func55 rfl rfl hc, h16, callK_fn Tryd.func54 rfl rfl hmo, q0, q1, not_f, scopeK_ret]
        exact hx _ _ ⟨by simp (decide := true) only [upd_some, reduceIte], _, h.two hbt ht⟩
    · have es : hexI s fr (f + 1) i n = endH s fr i n := by rw [hexI, if_neg hq]
      rw [es] at hx
      exact h_end x hbt ht hh htl htg hrt hm h hn (fun q => hq q.2) hhex he hx
/-- What an integer is. -/
def intI (s : List UInt8) (i : Nat) : IR := if s.getD i 0 = 48 ∧ i + 1 < s.length ∧ s.getD (i + 1) 0 = 120 then hexI s (i + 2) (s.length - (i + 2)) (i + 2) 0 else decI s (s.length - i) i 0
set_option maxRecDepth 100000 in
theorem call_int {N : Nat} {H0 : Heap} {a : Option Addr} {c : Nat} {s : List UInt8} {b t : Nat} {Q : R → Prop} {k : KOE} {hk : Hook} {d : Nat} {kd f0 t0 : Int} {w : ByteArray} {n0 : Int} {H : Heap} {i : Nat} (x : Ctx H0 a c s b) (hbt : t ≠ b) (ht : H0.get t = some (tok kd n0 w f0 t0)) (hh : ∀ f args H, okC f = true → hk f args H = none) (htl : t < H0.next) (htg : GE.next ≤ t) (hrt : ∀ q, a = some q → q.block ≠ t) (hm : ∀ x y H, x < m64 → y < m64 → hk 73 #[.int .u64 ((x : Nat) : Int), .int .u64 ((y : Nat) : Int)] H = some (some (.ret (mulV x y), H))) (hhex : ∀ (u : UInt8) H, Ext GE H → hk 55 #[.int .u8 (u.toNat : Int)] H = some (some (.ret (.int .u64 (hexT u.toNat)), H))) (h : Curs H0 H b a s.length c i) (hi : i < s.length) (hN : s.length + 4 < N) :
    ∃ E' H', Fin H0 a s.length c b t kd w f0 t0 (intI s i) E' H' ∧ ∃ v, E' 4 = v ∧ CG N hk (d + 3) 39 #[.pointer (some ⟨b, 0, none⟩), .pointer (some ⟨t, 0, none⟩)] H = some (.ret v, H') := by
  have main : ∃ R0 : R, CG N hk (d + 3) 39 #[.pointer (some ⟨b, 0, none⟩), .pointer (some ⟨t, 0, none⟩)] H = R0 ∧ ∃ E' H', Fin H0 a s.length c b t kd w f0 t0 (intI s i) E' H' ∧ ∃ v, E' 4 = v ∧ R0 = some (.ret v, H') := by
    refine ⟨_, callG_fn (hh _ _ _ rfl) Tryd.func39 (c := codeOf Tryd.f39) rfl rfl rfl (pr := noPr) rfl, ?_⟩
    rw [code39]
    generalize hF : finE PP Tryd.f39 = F
    obtain ⟨M, rfl⟩ : ∃ q, N = q + 1 := ⟨N - 1, by omega⟩
    have hsm := x.row.small
    obtain ⟨y, rfl, hl⟩ := (h.row x).bts.cell i hi
    have hix := index_row (n := s.length) (c := c) (a := y) hi
    have hgd : s.getD i 0 = s[i] := by simp [List.getD, hi]
    have z48 : ((s[i].toNat : Int) == 48) = decide (s[i] = 48) := toNat_eq s[i] 48
    have w1 : IntKind.i64.wrap ((i : Int) + 1) = ((i + 1 : Nat) : Int) := by rw [wrap_i64 (by omega) (by omega)]; omega
    have fin : ∀ E' H', Fin H0 (some y) s.length c b t kd w f0 t0 (intI s i) E' H' → ∃ E'' H'', Fin H0 (some y) s.length c b t kd w f0 t0 (intI s i) E'' H'' ∧ ∃ v, E'' 4 = v ∧ F .ret E' [] H' = some (.ret v, H'') := fun E' H' hf => by
      refine ⟨E', H', hf, E' 4, rfl, ?_⟩
      rw [← hF, finE_ret (l := [E' 4]) (by simp (decide := true) [Tryd.f39, resE])]
      rfl
    have m0 : (0 : Nat) < m64 := by decide
    have l0 := tl (rgn Tryd.f39 0)
    conv at l0 => rhs; simp only [rgn, opsAt, codeOf, Tryd.f39, gS, gN, reduceIte, Nat.reduceEqDiff, tA]
    have l1 := tl (rgn Tryd.f39 1)
    conv at l1 => rhs; simp only [rgn, opsAt, codeOf, Tryd.f39, gS, gN, reduceIte, Nat.reduceEqDiff, tA]
    have l2 := tl (rgn Tryd.f39 2)
    conv at l2 => rhs; simp only [rgn, opsAt, codeOf, Tryd.f39, gS, gN, reduceIte, Nat.reduceEqDiff, tA]
    have l3 := tl (rgn Tryd.f39 3)
    conv at l3 => rhs; simp only [rgn, opsAt, codeOf, Tryd.f39, gS, gN, reduceIte, Nat.reduceEqDiff, tA]
    have l4 := tl (rgn Tryd.f39 4)
    conv at l4 => rhs; simp only [rgn, opsAt, codeOf, Tryd.f39, gS, gN, reduceIte, Nat.reduceEqDiff, tA]
    have l5 := tl (rgn Tryd.f39 5)
    conv at l5 => rhs; simp only [rgn, opsAt, codeOf, Tryd.f39, gS, gN, reduceIte, Nat.reduceEqDiff, tA]
    by_cases c48 : s[i] = 48
    · rw [decide_eq_true c48] at z48
      by_cases h1 : i + 1 < s.length
      · have hlt : decide (((i + 1 : Nat) : Int) < (s.length : Int)) = true := decide_eq_true (by omega)
        obtain ⟨y2, e2, hl1⟩ := (h.row x).bts.cell (i + 1) h1
        obtain rfl := Option.some.inj e2
        have hix1 := index_row (n := s.length) (c := c) (a := y) h1
        have hgd1 : s.getD (i + 1) 0 = s[i + 1] := by simp [List.getD, h1]
        have z120 : ((s[i + 1].toNat : Int) == 120) = decide (s[i + 1] = 120) := toNat_eq s[i + 1] 120
        by_cases c120 : s[i + 1] = 120
        · rw [decide_eq_true c120] at z120
          have w2 : IntKind.i64.wrap ((i : Int) + 2) = ((i + 2 : Nat) : Int) := by rw [wrap_i64 (by omega) (by omega)]; omega
          have es : intI s i = hexI s (i + 2) (s.length - (i + 2)) (i + 2) 0 := by rw [intI, if_pos ⟨by rw [hgd]; exact c48, h1, by rw [hgd1]; exact c120⟩]
          have h2 := h.set (i + 2)
          simp (decide := true) only [↓execG_seq, ↓g_region, ↓g_if, thenE_norm, ↓r_nil, ↓r_cons, ↓o_move, ↓o_assign, ↓o_pickt, ↓o_load, ↓o_store, ↓o_nilCheck, ↓o_binOp, ↓o_fieldAddr, ↓o_indexAddr, ↓o_builtin, nextE_app, putK_app, putO_app, putG_bool, putG_int, normK_app, nilCheckA_ok, evalE_tmp, evalE_const, upd_some, upd_none, bindO_ok, bindV_ok, reduceIte, map_one, startE_0, ↓reg_lit l0, ↓reg_lit l1, ↓reg_lit l2, ↓reg_lit l3, ↓reg_lit l4, ↓reg_lit l5, ↓r_yes _ 11 true 24 _ gd39_3_11, ↓r_yes _ 24 true 37 _ gd39_3_24, ↓execG_scope, ↓execG_goto, thenE_goto, ↓scopeE_succ, fld0, fld1, load_src h.here, load_at h.here, hix, load_byte hl, binA_eql, z48, binA_add, w1, w2, len_slice (ts := #[26]) rfl und34, binA_lss, hlt, hix1, load_byte hl1, z120, store_at h.here, load_at h2.here]
          rw [scopeK_goto lab0]
          obtain ⟨M', rfl⟩ : ∃ q, M = q + 1 := ⟨M - 1, by omega⟩
          rw [scopeE_succ, jmp0]
          refine h_then (fr := i + 2) (Q := fun r => ∃ E' H', Fin H0 (some y) s.length c b t kd w f0 t0 (intI s i) E' H' ∧ ∃ v, E' 4 = v ∧ r = some (.ret v, H')) x hbt ht hh htl htg hrt hm hhex (s.length - (i + 2)) (i + 2) 0 M' (by omega) (by omega) m0 h2 ⟨?_, ?_, ?_, ?_⟩ (fun E' H' hf => ?_)
          · simp (decide := true) only [upd_some, reduceIte, startE_0]
          · simp (decide := true) only [upd_some, reduceIte, startE_1]
          · simp (decide := true) only [upd_some, reduceIte]
          · simp (decide := true) only [upd_some, reduceIte]; rfl
          · rw [← es] at hf
            try simp only [thenE_ret, scopeK_ret]
            exact fin E' H' hf
        · rw [decide_eq_false c120] at z120
          have es : intI s i = decI s (s.length - i) i 0 := by rw [intI, if_neg (fun q => c120 (by rw [← hgd1]; exact q.2.2))]
          simp (decide := true) only [↓execG_seq, ↓g_region, ↓execG_skip, ↓g_else, thenE_norm, ↓r_nil, ↓r_cons, ↓o_move, ↓o_assign, ↓o_pickt, ↓o_load, ↓o_nilCheck, ↓o_binOp, ↓o_fieldAddr, ↓o_indexAddr, ↓o_builtin, nextE_app, putK_app, putO_app, putG_bool, putG_int, normK_app, nilCheckA_ok, evalE_tmp, evalE_const, upd_some, bindO_ok, bindV_ok, reduceIte, map_one, startE_0, ↓reg_lit l0, ↓reg_lit l1, ↓reg_lit l2, ↓reg_lit l3, ↓r_yes _ 11 true 24 _ gd39_3_11, ↓r_yes _ 24 true 37 _ gd39_3_24, ↓execG_scope, ↓execG_label, ↓scopeE_succ, fld0, fld1, load_src h.here, load_at h.here, hix, load_byte hl, binA_eql, z48, binA_add, w1, len_slice (ts := #[26]) rfl und34, binA_lss, hlt, hix1, load_byte hl1, z120]
          refine d_then (Q := fun r => ∃ E' H', Fin H0 (some y) s.length c b t kd w f0 t0 (intI s i) E' H' ∧ ∃ v, E' 4 = v ∧ r = some (.ret v, H')) x hbt ht hh htl htg hrt hm (s.length - i) i 0 M (by omega) (by omega) m0 h ⟨?_, ?_, ?_⟩ (fun E' H' hf => ?_)
          · simp (decide := true) only [upd_some, reduceIte, startE_0]
          · simp (decide := true) only [upd_some, reduceIte, startE_1]
          · simp (decide := true) only [upd_some, reduceIte]; rfl
          · rw [← es] at hf
            try simp only [thenE_ret, scopeK_ret]
            exact fin E' H' hf
      · have hlt : decide (((i + 1 : Nat) : Int) < (s.length : Int)) = false := decide_eq_false (by omega)
        have es : intI s i = decI s (s.length - i) i 0 := by rw [intI, if_neg (fun q => h1 q.2.1)]
        simp (decide := true) only [↓execG_seq, ↓g_region, ↓execG_skip, ↓g_else, thenE_norm, ↓r_nil, ↓r_cons, ↓o_move, ↓o_assign, ↓o_pickt, ↓o_pickf, ↓o_load, ↓o_nilCheck, ↓o_binOp, ↓o_fieldAddr, ↓o_indexAddr, ↓o_builtin, nextE_app, putK_app, putO_app, putG_bool, putG_int, normK_app, nilCheckA_ok, evalE_tmp, evalE_const, upd_some, bindO_ok, bindV_ok, reduceIte, map_one, startE_0, Bool.not_true, ↓reg_lit l0, ↓reg_lit l1, ↓reg_lit l2, ↓reg_lit l3, ↓r_yes _ 11 true 24 _ gd39_3_11, ↓r_no _ 24 true 37 _ gd39_3_24, ↓execG_scope, ↓execG_label, ↓scopeE_succ, fld0, fld1, load_src h.here, load_at h.here, hix, load_byte hl, binA_eql, z48, binA_add, w1, len_slice (ts := #[26]) rfl und34, binA_lss, hlt]
        refine d_then (Q := fun r => ∃ E' H', Fin H0 (some y) s.length c b t kd w f0 t0 (intI s i) E' H' ∧ ∃ v, E' 4 = v ∧ r = some (.ret v, H')) x hbt ht hh htl htg hrt hm (s.length - i) i 0 M (by omega) (by omega) m0 h ⟨?_, ?_, ?_⟩ (fun E' H' hf => ?_)
        · simp (decide := true) only [upd_some, reduceIte, startE_0]
        · simp (decide := true) only [upd_some, reduceIte, startE_1]
        · simp (decide := true) only [upd_some, reduceIte]; rfl
        · rw [← es] at hf
          try simp only [thenE_ret, scopeK_ret]
          exact fin E' H' hf
    · rw [decide_eq_false c48] at z48
      have es : intI s i = decI s (s.length - i) i 0 := by rw [intI, if_neg (fun q => c48 (by rw [← hgd]; exact q.1))]
      simp (decide := true) only [↓execG_seq, ↓g_region, ↓execG_skip, ↓g_else, thenE_norm, ↓r_nil, ↓r_cons, ↓o_move, ↓o_assign, ↓o_pickf, ↓o_load, ↓o_nilCheck, ↓o_binOp, ↓o_fieldAddr, ↓o_indexAddr, nextE_app, putK_app, putO_app, putG_bool, normK_app, nilCheckA_ok, evalE_tmp, evalE_const, upd_some, bindO_ok, bindV_ok, reduceIte, startE_0, Bool.not_true, ↓reg_lit l0, ↓reg_lit l1, ↓reg_lit l2, ↓reg_lit l3, ↓r_no _ 11 true 24 _ gd39_3_11, ↓r_no _ 24 true 37 _ gd39_3_24, ↓execG_scope, ↓execG_label, ↓scopeE_succ, fld0, fld1, load_src h.here, load_at h.here, hix, load_byte hl, binA_eql, z48]
      refine d_then (Q := fun r => ∃ E' H', Fin H0 (some y) s.length c b t kd w f0 t0 (intI s i) E' H' ∧ ∃ v, E' 4 = v ∧ r = some (.ret v, H')) x hbt ht hh htl htg hrt hm (s.length - i) i 0 M (by omega) (by omega) m0 h ⟨?_, ?_, ?_⟩ (fun E' H' hf => ?_)
      · simp (decide := true) only [upd_some, reduceIte, startE_0]
      · simp (decide := true) only [upd_some, reduceIte, startE_1]
      · simp (decide := true) only [upd_some, reduceIte]; rfl
      · rw [← es] at hf
        try simp only [thenE_ret, scopeK_ret]
        exact fin E' H' hf
  obtain ⟨R0, m1, E', H', m2, v, m3, m4⟩ := main
  exact ⟨E', H', m2, v, m3, m1.trans m4⟩
end Go.Am
/- A text: its bytes. -/
open Go.Proofs
namespace Go.Am
def f8 (u : UInt8) : Value := .int .u8 (u.toNat : Int)
def BRow (H : Heap) (v : Value) (o : List UInt8) (lo : Nat) : Prop :=
  (o = [] ∧ v = .slice none 0 0) ∨ (o ≠ [] ∧ ∃ q, v = .slice (some ⟨q, 0, none⟩) o.length o.length ∧ H.get q = some ⟨o.map f8, true, 1, none⟩ ∧ lo ≤ q)
theorem f8_plain : ∀ o : List UInt8, (o.map f8).all Value.oneCell' = true
  | [] => rfl
  | u :: o => by simp only [List.map_cons, List.all_cons, f8_plain o, Bool.and_true]; rfl
theorem infoB : ∃ i, PP.info? 5 = some i ∧ i.size = 1 ∧ i.bytes = 1 := by
  have h : (PP.info? 5).map (fun i => (i.size, i.bytes)) = some (1, 1) := by kernel_rfl
  cases hi : PP.info? 5 with
  | none => rw [hi] at h; cases h
  | some i => rw [hi] at h; simp at h; exact ⟨i, rfl, h.1, h.2⟩
theorem zeroB : zeroT PP 5 = some [.int .u8 0] := by kernel_rfl
theorem brow_append {H : Heap} {v : Value} {o : List UInt8} {lo q1 : Nat} (ho : BRow H v o lo) (hf : Fresh H) (hlo : lo ≤ H.next) (u : UInt8) (hq : H.get q1 = some ⟨[f8 u], true, 1, none⟩) (hn : o.length ≤ 1048576) :
    ∃ v' H', appendA PP #[26, 26] v (.slice (some ⟨q1, 0, none⟩) 1 1) H = some (v', H') ∧ BRow H' v' (o ++ [u]) lo ∧ (∀ z w, z < lo → H.get z = some w → H'.get z = some w) ∧ H.next ≤ H'.next ∧ Fresh H' := by
  obtain ⟨i, h1, h2, h3⟩ := infoB
  have src : srcCells H 1 (.slice (some ⟨q1, 0, none⟩) 1 1) = some (1, [f8 u]) := by simp [srcCells, look, hq]
  have hA : appendA PP #[26, 26] v (.slice (some ⟨q1, 0, none⟩) 1 1) H = app H 1 1 v 1 [f8 u] := by
    simp only [appendA]
    simp [h1, h2, h3, zeroB, src]
  rw [hA]
  have al : ∀ (G : Heap) (cells : List Value), Fresh G → Fresh (G.alloc 1 cells) := fun G cells hG z hz => by
    have hz' : G.next + 1 ≤ z := hz
    rw [Heap.get_alloc, if_neg (by omega)]; exact hG z (by omega)
  rcases ho with ⟨rfl, rfl⟩ | ⟨hne, q, rfl, hg, hlq⟩
  · refine ⟨_, _, by simp only [app]; rw [if_neg (by decide), if_pos (by decide)]; rfl, .inr ⟨by simp, H.next, rfl, ?_, hlo⟩, fun z w hz hg => ?_, Nat.le_succ _, al _ _ hf⟩
    · rw [Heap.get_alloc, if_pos rfl]; simp
    · rw [Heap.get_alloc, if_neg (by omega)]; exact hg
  · have hlen : o.length ≠ 0 := by simpa using hne
    have hl1 : (o.map f8).length = o.length := by simp
    have hlk : look H ⟨q, 0, none⟩ = some ⟨o.map f8, true, 1, none⟩ := by simp [look, hg]
    have hp : [f8 u].all Value.oneCell' = true := rfl
    have fd : Fresh (H.drop q) := fun z hz => by
      have hz' : H.next ≤ z := hz
      rw [Heap.get_drop]; split
      · rfl
      · exact hf z hz'
    refine ⟨_, (H.drop q).alloc 1 ((o ++ [u]).map f8), ?_, .inr ⟨by simp, H.next, rfl, ?_, hlo⟩, fun z w hz hg => ?_, Nat.le_succ _, al (H.drop q) _ fd⟩
    · simp only [app, hlk]
      rw [if_pos ⟨trivial, trivial, by simp, hp, by unfold most; omega, by unfold most; omega⟩, if_neg (by omega)]
      have e1 : (List.drop 0 (o.map f8)).take (o.length * 1) = o.map f8 := by rw [List.drop_zero, Nat.mul_one, ← hl1, List.take_length]
      simp only [e1, mkRow, List.map_append, List.length_append, List.length_cons, List.length_nil, List.map_cons, List.map_nil]
      rfl
    · rw [Heap.get_alloc]; exact if_pos rfl
    · rw [Heap.get_alloc, if_neg (by show ¬ z = H.next; omega), Heap.get_drop, if_neg (by omega)]; exact hg
theorem bslice1 (H : Heap) (n : Int) : buildSliceA PP 26 1 #[(0, .int .u8 n)] H = some (.slice (some ⟨H.next, 0, none⟩) 1 1, H.alloc 1 [.int .u8 n]) := by
  have hf : Instr.fill (fun i => some (i * 1, 1)) (zeroRow [.int .u8 0] (1 * 1)).toArray [(0, .int .u8 n)] = some #[.int .u8 n] := by rfl
  simp only [buildSliceA, und34, size5, zeroB, mkRow, hf]
  simp
theorem app_bytes (s x : Value) (H : Heap) (k : Value → Heap → R) : builtinK PP .append #[26, 26] #[s, x] H k = bindV (appendA PP #[26, 26] s x H) k := by simp [builtinK]
theorem conv_row {H : Heap} {v : Value} {o : List UInt8} {lo : Nat} (h : BRow H v o lo) : convertA PP 26 9 v H = some (.string ⟨⟨o⟩⟩, H) := by
  rcases h with ⟨rfl, rfl⟩ | ⟨hne, q, rfl, hg, _⟩
  · simp only [convertA, und34, undStr, undU8, strOf]; rfl
  · have hl : (o.map f8).length = o.length := by simp
    have e : strOf H (some ⟨q, 0, none⟩) o.length = some ⟨⟨o⟩⟩ := by
      have hlen : o.length ≠ 0 := by simpa using hne
      have hb : bytesOf (o.map f8) = some o := bytesOf_map o
      have ht : (o.map f8).take o.length = o.map f8 := by rw [← hl, List.take_length]
      simp [strOf, hlen, look, hg, hb, ht]
    simp only [convertA, und34, undStr, undU8, e]

/-- The state of a text's reading. -/
structure Txt (H0 H : Heap) (b : Nat) (a : Option Addr) (n c i : Nat) (v : Value) (o : List UInt8) : Prop where
  next : H0.next ≤ H.next
  here : H.get b = some (cur a n c i)
  there : ∀ z w, z ≠ b → H0.get z = some w → H.get z = some w
  fresh : Fresh H
  out : BRow H v o H0.next
theorem Txt.set {H0 H : Heap} {b : Nat} {a : Option Addr} {n c i : Nat} {v : Value} {o : List UInt8} (h : Txt H0 H b a n c i v o) (hb : b < H0.next) (j : Nat) : Txt H0 (H.set b (cur a n c j)) b a n c j v o := by
  refine ⟨h.next, get_self _ _ _, fun z w h1 h2 => by rw [Heap.get_set, if_neg h1]; exact h.there z w h1 h2, fun z hz => ?_, ?_⟩
  · have hz' : H.next ≤ z := hz
    have := h.next
    rw [Heap.get_set, if_neg (by omega)]; exact h.fresh z hz'
  · rcases h.out with o1 | ⟨o1, q, o2, o3, o4⟩
    · exact .inl o1
    · exact .inr ⟨o1, q, o2, by rw [Heap.get_set, if_neg (by omega)]; exact o3, o4⟩
theorem Txt.gg {H0 H : Heap} {b : Nat} {a : Option Addr} {n c i : Nat} {v : Value} {o : List UInt8} {s : List UInt8} (h : Txt H0 H b a n c i v o) (x : Ctx H0 a c s b) : Ext GE H :=
  ⟨Nat.le_trans x.gg.next h.next, fun z w hz => h.there z w (fun e => by rw [e, fresh_GE b x.low] at hz; cases hz) (x.gg.keep z w hz), h.fresh⟩
theorem Txt.row {H0 H : Heap} {b : Nat} {a : Option Addr} {n c i : Nat} {v : Value} {o : List UInt8} {s : List UInt8} (h : Txt H0 H b a n c i v o) (x : Ctx H0 a c s b) : Brow H a s := by
  refine ⟨fun q hq => ?_, x.row.nil, x.row.small⟩
  obtain ⟨z, h1, h2⟩ := x.row.row q hq
  refine ⟨z, ?_, h2⟩
  unfold look at h1 ⊢
  split at h1
  · cases h1
  · cases hg : H0.get q.block with
    | none => rw [hg] at h1; cases h1
    | some w => rw [hg] at h1; rw [h.there _ _ (x.ne q hq) hg]; exact h1
/-- A byte more. -/
theorem Txt.add {H0 H : Heap} {b : Nat} {a : Option Addr} {n c i : Nat} {v : Value} {o : List UInt8} (h : Txt H0 H b a n c i v o) (hf : Fresh H0) (hb : b < H0.next) (u : UInt8) (hn : o.length ≤ 1048576) :
    ∃ v' H', appendA PP #[26, 26] v (.slice (some ⟨H.next, 0, none⟩) 1 1) (H.alloc 1 [.int .u8 (u.toNat : Int)]) = some (v', H') ∧ Txt H0 H' b a n c i v' (o ++ [u]) := by
  have hn0 := h.next
  have q1 : (H.alloc 1 [.int .u8 (u.toNat : Int)]).get H.next = some ⟨[f8 u], true, 1, none⟩ := by rw [Heap.get_alloc, if_pos rfl]; rfl
  have f1 : Fresh (H.alloc 1 [.int .u8 (u.toNat : Int)]) := (Ext.alloc h.fresh 1 _).fresh
  have b1 : BRow (H.alloc 1 [.int .u8 (u.toNat : Int)]) v o H0.next := by
    rcases h.out with o1 | ⟨o1, q, o2, o3, o4⟩
    · exact .inl o1
    · exact .inr ⟨o1, q, o2, (Ext.alloc h.fresh 1 _).keep _ _ o3, o4⟩
  obtain ⟨v', H', a1, a2, a3, a4, a5⟩ := brow_append (lo := H0.next) b1 f1 (by show H0.next ≤ H.next + 1; omega) u q1 hn
  refine ⟨v', H', a1, ⟨?_, ?_, fun z w h1 h2 => ?_, a5, a2⟩⟩
  · have n6 : H.next + 1 ≤ H'.next := a4
    omega
  · exact a3 b _ hb ((Ext.alloc h.fresh 1 _).keep _ _ h.here)
  · have hz : z < H0.next := by
      by_cases cz : H0.next ≤ z
      · rw [hf z cz] at h2; cases h2
      · omega
    exact a3 z w hz ((Ext.alloc h.fresh 1 _).keep _ _ (h.there z w h1 h2))
theorem code41 : codeOf Tryd.f41 = .seq (.region 0 (rgn Tryd.f41 0) false) (.scope (.seq (.region 1 (rgn Tryd.f41 1) false) (.seq (.region 2 (rgn Tryd.f41 2) false) (.seq (.label 0) (.seq (.region 3 (rgn Tryd.f41 3) false) (.seq (.seq (.region 4 (rgn Tryd.f41 4) true) (.cond (.tmp 24) (.seq (.region 5 (rgn Tryd.f41 5) false) (.ret)) (.skip))) (.seq (.seq (.region 6 (rgn Tryd.f41 6) true) (.block 0 (.seq (.region 7 (rgn Tryd.f41 7) false) (.cond (.tmp 35) (.seq (.region 8 (rgn Tryd.f41 8) false) (.seq (.region 9 (rgn Tryd.f41 9) false) (.seq (.region 10 (rgn Tryd.f41 10) false) (.ret)))) (.seq (.region 11 (rgn Tryd.f41 11) false) (.cond (.tmp 50) (.goto 1) (.seq (.region 12 (rgn Tryd.f41 12) false) (.cond (.tmp 53) (.seq (.region 13 (rgn Tryd.f41 13) false) (.ret)) (.skip))))))))) (.seq (.region 14 (rgn Tryd.f41 14) false) (.seq (.goto 0) (.seq (.label 1) (.seq (.region 15 (rgn Tryd.f41 15) false) (.seq (.seq (.region 16 (rgn Tryd.f41 16) true) (.cond (.tmp 80) (.seq (.region 17 (rgn Tryd.f41 17) false) (.ret)) (.skip))) (.seq (.seq (.region 18 (rgn Tryd.f41 18) true) (.seq (.region 19 (rgn Tryd.f41 19) false) (.block 1 (.seq (.region 21 (rgn Tryd.f41 21) false) (.cond (.tmp 92) (.region 22 (rgn Tryd.f41 22) false) (.seq (.region 23 (rgn Tryd.f41 23) false) (.cond (.tmp 94) (.region 24 (rgn Tryd.f41 24) false) (.seq (.seq (.region 25 (rgn Tryd.f41 25) false) (.cond (.tmp 96) (.skip) (.region 26 (rgn Tryd.f41 26) false))) (.cond (.tmp 96) (.skip) (.seq (.region 27 (rgn Tryd.f41 27) false) (.cond (.tmp 99) (.seq (.region 28 (rgn Tryd.f41 28) false) (.seq (.seq (.region 29 (rgn Tryd.f41 29) false) (.block 2 (.loop (.seq (.region 30 (rgn Tryd.f41 30) false) (.seq (.cond (.tmp 102) (.skip) (.exit 2)) (.seq (.block 3 (.seq (.region 31 (rgn Tryd.f41 31) false) (.seq (.seq (.region 32 (rgn Tryd.f41 32) true) (.cond (.tmp 133) (.seq (.region 33 (rgn Tryd.f41 33) false) (.ret)) (.skip))) (.region 34 (rgn Tryd.f41 34) true)))) (.region 35 (rgn Tryd.f41 35) false))))))) (.region 36 (rgn Tryd.f41 36) false))) (.seq (.region 20 (rgn Tryd.f41 20) false) (.ret))))))))))))) (.seq (.region 37 (rgn Tryd.f41 37) false) (.goto 0))))))))))))))) := by kernel_rfl
theorem gd41_12_2 : ((rgn Tryd.f41 12)[2]?).bind (·.dst) = some 56 := by kernel_rfl
theorem gd41_32_10 : ((rgn Tryd.f41 32)[10]?).bind (·.dst) = some 120 := by kernel_rfl

section
theorem t_end {N : Nat} {H0 H : Heap} {a : Option Addr} {c : Nat} {s : List UInt8} {b t i : Nat} {E : Env} {Q : R → Prop} {k : KOE} {hk : Hook} {d : Nat} {v : Value} {o : List UInt8} (x : Ctx H0 a c s b) (h : Txt H0 H b a s.length c i v o) (hi : i < s.length) (e0 : E 0 = .pointer (some ⟨b, 0, none⟩)) (e1 : E 1 = .pointer (some ⟨t, 0, none⟩)) (e5 : E 5 = v) (hj : i + 1 = s.length) (hx : ∀ E' H', E' 4 = .bool false → Txt H0 H' b a s.length c (i + 1) v o → Q (k .ret E' [] H')) :
    Q (execG PP XX (CG N hk (d + 2)) N noPr (.seq (.region 3 (rgn Tryd.f41 3) false) (.seq (.seq (.region 4 (rgn Tryd.f41 4) true) (.cond (.tmp 24) (.seq (.region 5 (rgn Tryd.f41 5) false) (.ret)) (.skip))) (.seq (.seq (.region 6 (rgn Tryd.f41 6) true) (.block 0 (.seq (.region 7 (rgn Tryd.f41 7) false) (.cond (.tmp 35) (.seq (.region 8 (rgn Tryd.f41 8) false) (.seq (.region 9 (rgn Tryd.f41 9) false) (.seq (.region 10 (rgn Tryd.f41 10) false) (.ret)))) (.seq (.region 11 (rgn Tryd.f41 11) false) (.cond (.tmp 50) (.goto 1) (.seq (.region 12 (rgn Tryd.f41 12) false) (.cond (.tmp 53) (.seq (.region 13 (rgn Tryd.f41 13) false) (.ret)) (.skip))))))))) (.seq (.region 14 (rgn Tryd.f41 14) false) (.seq (.goto 0) (.seq (.label 1) (.seq (.region 15 (rgn Tryd.f41 15) false) (.seq (.seq (.region 16 (rgn Tryd.f41 16) true) (.cond (.tmp 80) (.seq (.region 17 (rgn Tryd.f41 17) false) (.ret)) (.skip))) (.seq (.seq (.region 18 (rgn Tryd.f41 18) true) (.seq (.region 19 (rgn Tryd.f41 19) false) (.block 1 (.seq (.region 21 (rgn Tryd.f41 21) false) (.cond (.tmp 92) (.region 22 (rgn Tryd.f41 22) false) (.seq (.region 23 (rgn Tryd.f41 23) false) (.cond (.tmp 94) (.region 24 (rgn Tryd.f41 24) false) (.seq (.seq (.region 25 (rgn Tryd.f41 25) false) (.cond (.tmp 96) (.skip) (.region 26 (rgn Tryd.f41 26) false))) (.cond (.tmp 96) (.skip) (.seq (.region 27 (rgn Tryd.f41 27) false) (.cond (.tmp 99) (.seq (.region 28 (rgn Tryd.f41 28) false) (.seq (.seq (.region 29 (rgn Tryd.f41 29) false) (.block 2 (.loop (.seq (.region 30 (rgn Tryd.f41 30) false) (.seq (.cond (.tmp 102) (.skip) (.exit 2)) (.seq (.block 3 (.seq (.region 31 (rgn Tryd.f41 31) false) (.seq (.seq (.region 32 (rgn Tryd.f41 32) true) (.cond (.tmp 133) (.seq (.region 33 (rgn Tryd.f41 33) false) (.ret)) (.skip))) (.region 34 (rgn Tryd.f41 34) true)))) (.region 35 (rgn Tryd.f41 35) false))))))) (.region 36 (rgn Tryd.f41 36) false))) (.seq (.region 20 (rgn Tryd.f41 20) false) (.ret))))))))))))) (.seq (.region 37 (rgn Tryd.f41 37) false) (.goto 0))))))))))) none E [] H k) := by
  have hsm := x.row.small
  have w1 : IntKind.i64.wrap ((i : Int) + 1) = ((i + 1 : Nat) : Int) := by rw [wrap_i64 (by omega) (by omega)]; omega
  have hz : (((i + 1 : Nat) : Int) == (s.length : Int)) = decide (i + 1 = s.length) := by
    rw [Bool.eq_iff_iff, beq_iff_eq, decide_eq_true_eq]; omega
  have h1 := h.set x.lt (i + 1)
  rw [decide_eq_true hj] at hz
  have l3 := tl (rgn Tryd.f41 3)
  conv at l3 => rhs; simp only [rgn, opsAt, codeOf, Tryd.f41, gS, gN, reduceIte, Nat.reduceEqDiff, tA]
  have l4 := tl (rgn Tryd.f41 4)
  conv at l4 => rhs; simp only [rgn, opsAt, codeOf, Tryd.f41, gS, gN, reduceIte, Nat.reduceEqDiff, tA]
  have l5 := tl (rgn Tryd.f41 5)
  conv at l5 => rhs; simp only [rgn, opsAt, codeOf, Tryd.f41, gS, gN, reduceIte, Nat.reduceEqDiff, tA]
  simp (decide := true) only [↓execG_seq, ↓g_region, ↓execG_ret, ↓g_if, thenE_norm, thenE_ret, ↓r_nil, ↓r_cons, ↓o_move, ↓o_assign, ↓o_load, ↓o_store, ↓o_nilCheck, ↓o_binOp, ↓o_fieldAddr, ↓o_builtin, nextE_app, putK_app, putO_app, putG_bool, putG_int, normK_app, nilCheckA_ok, evalE_tmp, evalE_const, upd_some, upd_none, bindO_ok, bindV_ok, reduceIte, map_one, ↓reg_lit l3, ↓reg_lit l4, ↓reg_lit l5, e0, fld0, fld1, load_at h.here, binA_add, w1, store_at h.here, load_at h1.here, load_src h1.here, len_slice (ts := #[26]) rfl und34, binA_eql, hz]
  exact hx _ _ (by simp (decide := true) only [upd_some, reduceIte]) h1
theorem t_quote {N : Nat} {H0 H : Heap} {a : Option Addr} {c : Nat} {s : List UInt8} {b t i : Nat} {E : Env} {Q : R → Prop} {k : KOE} {hk : Hook} {d : Nat} {v : Value} {o : List UInt8} {kd n0 f0 t0 : Int} (x : Ctx H0 a c s b) (h : Txt H0 H b a s.length c i v o) (hi : i < s.length) (e0 : E 0 = .pointer (some ⟨b, 0, none⟩)) (e1 : E 1 = .pointer (some ⟨t, 0, none⟩)) (e5 : E 5 = v) (hj : ¬ i + 1 = s.length) (hc : s.getD (i + 1) 0 = 34) (hbt : t ≠ b) (ht : H0.get t = some (tok kd n0 .empty f0 t0))
    (hx : ∀ E' H', E' 4 = .bool true → Lexd H0 H' b (cur a s.length c (i + 2)) t (tok kd n0 ⟨⟨o⟩⟩ f0 t0) → Q (k .ret E' [] H')) :
    Q (execG PP XX (CG N hk (d + 2)) N noPr (.seq (.region 3 (rgn Tryd.f41 3) false) (.seq (.seq (.region 4 (rgn Tryd.f41 4) true) (.cond (.tmp 24) (.seq (.region 5 (rgn Tryd.f41 5) false) (.ret)) (.skip))) (.seq (.seq (.region 6 (rgn Tryd.f41 6) true) (.block 0 (.seq (.region 7 (rgn Tryd.f41 7) false) (.cond (.tmp 35) (.seq (.region 8 (rgn Tryd.f41 8) false) (.seq (.region 9 (rgn Tryd.f41 9) false) (.seq (.region 10 (rgn Tryd.f41 10) false) (.ret)))) (.seq (.region 11 (rgn Tryd.f41 11) false) (.cond (.tmp 50) (.goto 1) (.seq (.region 12 (rgn Tryd.f41 12) false) (.cond (.tmp 53) (.seq (.region 13 (rgn Tryd.f41 13) false) (.ret)) (.skip))))))))) (.seq (.region 14 (rgn Tryd.f41 14) false) (.seq (.goto 0) (.seq (.label 1) (.seq (.region 15 (rgn Tryd.f41 15) false) (.seq (.seq (.region 16 (rgn Tryd.f41 16) true) (.cond (.tmp 80) (.seq (.region 17 (rgn Tryd.f41 17) false) (.ret)) (.skip))) (.seq (.seq (.region 18 (rgn Tryd.f41 18) true) (.seq (.region 19 (rgn Tryd.f41 19) false) (.block 1 (.seq (.region 21 (rgn Tryd.f41 21) false) (.cond (.tmp 92) (.region 22 (rgn Tryd.f41 22) false) (.seq (.region 23 (rgn Tryd.f41 23) false) (.cond (.tmp 94) (.region 24 (rgn Tryd.f41 24) false) (.seq (.seq (.region 25 (rgn Tryd.f41 25) false) (.cond (.tmp 96) (.skip) (.region 26 (rgn Tryd.f41 26) false))) (.cond (.tmp 96) (.skip) (.seq (.region 27 (rgn Tryd.f41 27) false) (.cond (.tmp 99) (.seq (.region 28 (rgn Tryd.f41 28) false) (.seq (.seq (.region 29 (rgn Tryd.f41 29) false) (.block 2 (.loop (.seq (.region 30 (rgn Tryd.f41 30) false) (.seq (.cond (.tmp 102) (.skip) (.exit 2)) (.seq (.block 3 (.seq (.region 31 (rgn Tryd.f41 31) false) (.seq (.seq (.region 32 (rgn Tryd.f41 32) true) (.cond (.tmp 133) (.seq (.region 33 (rgn Tryd.f41 33) false) (.ret)) (.skip))) (.region 34 (rgn Tryd.f41 34) true)))) (.region 35 (rgn Tryd.f41 35) false))))))) (.region 36 (rgn Tryd.f41 36) false))) (.seq (.region 20 (rgn Tryd.f41 20) false) (.ret))))))))))))) (.seq (.region 37 (rgn Tryd.f41 37) false) (.goto 0))))))))))) none E [] H k) := by
  have hsm := x.row.small
  have w1 : IntKind.i64.wrap ((i : Int) + 1) = ((i + 1 : Nat) : Int) := by rw [wrap_i64 (by omega) (by omega)]; omega
  have hz : (((i + 1 : Nat) : Int) == (s.length : Int)) = decide (i + 1 = s.length) := by
    rw [Bool.eq_iff_iff, beq_iff_eq, decide_eq_true_eq]; omega
  have h1 := h.set x.lt (i + 1)
  have hj : i + 1 < s.length := by omega
  have hgd : s.getD (i + 1) 0 = s[i + 1] := by simp [List.getD, hj]
  rw [decide_eq_false (by omega)] at hz
  obtain ⟨y, rfl, hl⟩ := (h1.row x).bts.cell (i + 1) hj
  have hix := index_row (n := s.length) (c := c) (a := y) hj
  have hc34 : ((s[i + 1].toNat : Int) == 34) = true := by rw [← hgd, hc]; rfl
  have w2 : IntKind.i64.wrap (((i + 1 : Nat) : Int) + 1) = ((i + 2 : Nat) : Int) := by rw [wrap_i64 (by omega) (by omega)]; omega
  have h2 := h1.set x.lt (i + 2)
  have hcv := conv_row h2.out
  have hbl := x.lt
  have htl : t < H0.next := by
    by_cases q : H0.next ≤ t
    · rw [x.gg.fresh t q] at ht; cases ht
    · omega
  have ld2 : Lexd H0 ((H.set b (cur (some y) s.length c (i + 1))).set b (cur (some y) s.length c (i + 2))) b (cur (some y) s.length c (i + 2)) t (tok kd n0 .empty f0 t0) := ⟨h2.next, h2.here, h2.there t _ hbt ht, fun z w z1 z2 z3 => h2.there z w z1 z3, h2.fresh⟩
  have ld3 := ld2.set2 hbt (by have := h2.next; omega) (tok kd n0 ⟨⟨o⟩⟩ f0 t0)
  have l3 := tl (rgn Tryd.f41 3)
  conv at l3 => rhs; simp only [rgn, opsAt, codeOf, Tryd.f41, gS, gN, reduceIte, Nat.reduceEqDiff, tA]
  have l4 := tl (rgn Tryd.f41 4)
  conv at l4 => rhs; simp only [rgn, opsAt, codeOf, Tryd.f41, gS, gN, reduceIte, Nat.reduceEqDiff, tA]
  have l6 := tl (rgn Tryd.f41 6)
  conv at l6 => rhs; simp only [rgn, opsAt, codeOf, Tryd.f41, gS, gN, reduceIte, Nat.reduceEqDiff, tA]
  have l7 := tl (rgn Tryd.f41 7)
  conv at l7 => rhs; simp only [rgn, opsAt, codeOf, Tryd.f41, gS, gN, reduceIte, Nat.reduceEqDiff, tA]
  have l8 := tl (rgn Tryd.f41 8)
  conv at l8 => rhs; simp only [rgn, opsAt, codeOf, Tryd.f41, gS, gN, reduceIte, Nat.reduceEqDiff, tA]
  have l9 := tl (rgn Tryd.f41 9)
  conv at l9 => rhs; simp only [rgn, opsAt, codeOf, Tryd.f41, gS, gN, reduceIte, Nat.reduceEqDiff, tA]
  have l10 := tl (rgn Tryd.f41 10)
  conv at l10 => rhs; simp only [rgn, opsAt, codeOf, Tryd.f41, gS, gN, reduceIte, Nat.reduceEqDiff, tA]
  simp (decide := true) only [↓execG_seq, ↓g_region, ↓execG_block, ↓execG_ret, ↓execG_skip, ↓g_if, ↓g_else, thenE_norm, thenE_ret, leaveB_ret, ↓r_nil, ↓r_cons, ↓o_move, ↓o_assign, ↓o_load, ↓o_store, ↓o_nilCheck, ↓o_binOp, ↓o_convert, ↓o_fieldAddr, ↓o_indexAddr, ↓o_builtin, nextE_app, putK_app, putO_app, putG_bool, putG_int, normK_app, nilCheckA_ok, evalE_tmp, evalE_const, upd_some, upd_none, bindO_ok, bindV_ok, reduceIte, map_one, ↓reg_lit l3, ↓reg_lit l4, ↓reg_lit l6, ↓reg_lit l7, ↓reg_lit l8, ↓reg_lit l9, ↓reg_lit l10, e1, e5, hc34, w2, store_at h1.here, hcv, tf2, store_text ld2.two, e0, fld0, fld1, load_at h.here, binA_add, w1, store_at h.here, load_at h1.here, load_src h1.here, len_slice (ts := #[26]) rfl und34, binA_eql, hz, hix, load_byte hl]
  exact hx _ _ (by simp (decide := true) only [upd_some, reduceIte]) ld3
theorem t_bad {N : Nat} {H0 H : Heap} {a : Option Addr} {c : Nat} {s : List UInt8} {b t i : Nat} {E : Env} {Q : R → Prop} {k : KOE} {hk : Hook} {d : Nat} {v : Value} {o : List UInt8} (x : Ctx H0 a c s b) (h : Txt H0 H b a s.length c i v o) (hi : i < s.length) (e0 : E 0 = .pointer (some ⟨b, 0, none⟩)) (e1 : E 1 = .pointer (some ⟨t, 0, none⟩)) (e5 : E 5 = v) (hj : ¬ i + 1 = s.length) (hc : ¬ s.getD (i + 1) 0 = 34) (hc2 : ¬ s.getD (i + 1) 0 = 92) (hr : (s.getD (i + 1) 0).toNat < 32 ∨ 126 < (s.getD (i + 1) 0).toNat)
    (hx : ∀ E' H', E' 4 = .bool false → Txt H0 H' b a s.length c (i + 1) v o → Q (k .ret E' [] H')) :
    Q (execG PP XX (CG N hk (d + 2)) N noPr (.seq (.region 3 (rgn Tryd.f41 3) false) (.seq (.seq (.region 4 (rgn Tryd.f41 4) true) (.cond (.tmp 24) (.seq (.region 5 (rgn Tryd.f41 5) false) (.ret)) (.skip))) (.seq (.seq (.region 6 (rgn Tryd.f41 6) true) (.block 0 (.seq (.region 7 (rgn Tryd.f41 7) false) (.cond (.tmp 35) (.seq (.region 8 (rgn Tryd.f41 8) false) (.seq (.region 9 (rgn Tryd.f41 9) false) (.seq (.region 10 (rgn Tryd.f41 10) false) (.ret)))) (.seq (.region 11 (rgn Tryd.f41 11) false) (.cond (.tmp 50) (.goto 1) (.seq (.region 12 (rgn Tryd.f41 12) false) (.cond (.tmp 53) (.seq (.region 13 (rgn Tryd.f41 13) false) (.ret)) (.skip))))))))) (.seq (.region 14 (rgn Tryd.f41 14) false) (.seq (.goto 0) (.seq (.label 1) (.seq (.region 15 (rgn Tryd.f41 15) false) (.seq (.seq (.region 16 (rgn Tryd.f41 16) true) (.cond (.tmp 80) (.seq (.region 17 (rgn Tryd.f41 17) false) (.ret)) (.skip))) (.seq (.seq (.region 18 (rgn Tryd.f41 18) true) (.seq (.region 19 (rgn Tryd.f41 19) false) (.block 1 (.seq (.region 21 (rgn Tryd.f41 21) false) (.cond (.tmp 92) (.region 22 (rgn Tryd.f41 22) false) (.seq (.region 23 (rgn Tryd.f41 23) false) (.cond (.tmp 94) (.region 24 (rgn Tryd.f41 24) false) (.seq (.seq (.region 25 (rgn Tryd.f41 25) false) (.cond (.tmp 96) (.skip) (.region 26 (rgn Tryd.f41 26) false))) (.cond (.tmp 96) (.skip) (.seq (.region 27 (rgn Tryd.f41 27) false) (.cond (.tmp 99) (.seq (.region 28 (rgn Tryd.f41 28) false) (.seq (.seq (.region 29 (rgn Tryd.f41 29) false) (.block 2 (.loop (.seq (.region 30 (rgn Tryd.f41 30) false) (.seq (.cond (.tmp 102) (.skip) (.exit 2)) (.seq (.block 3 (.seq (.region 31 (rgn Tryd.f41 31) false) (.seq (.seq (.region 32 (rgn Tryd.f41 32) true) (.cond (.tmp 133) (.seq (.region 33 (rgn Tryd.f41 33) false) (.ret)) (.skip))) (.region 34 (rgn Tryd.f41 34) true)))) (.region 35 (rgn Tryd.f41 35) false))))))) (.region 36 (rgn Tryd.f41 36) false))) (.seq (.region 20 (rgn Tryd.f41 20) false) (.ret))))))))))))) (.seq (.region 37 (rgn Tryd.f41 37) false) (.goto 0))))))))))) none E [] H k) := by
  have hsm := x.row.small
  have w1 : IntKind.i64.wrap ((i : Int) + 1) = ((i + 1 : Nat) : Int) := by rw [wrap_i64 (by omega) (by omega)]; omega
  have hz : (((i + 1 : Nat) : Int) == (s.length : Int)) = decide (i + 1 = s.length) := by
    rw [Bool.eq_iff_iff, beq_iff_eq, decide_eq_true_eq]; omega
  have h1 := h.set x.lt (i + 1)
  have hj : i + 1 < s.length := by omega
  have hgd : s.getD (i + 1) 0 = s[i + 1] := by simp [List.getD, hj]
  rw [decide_eq_false (by omega)] at hz
  obtain ⟨y, rfl, hl⟩ := (h1.row x).bts.cell (i + 1) hj
  have hix := index_row (n := s.length) (c := c) (a := y) hj
  rw [hgd] at hc hc2 hr
  have z1 : ((s[i + 1].toNat : Int) == 34) = false := (toNat_eq s[i + 1] 34).trans (decide_eq_false hc)
  have z2 : ((s[i + 1].toNat : Int) == 92) = false := (toNat_eq s[i + 1] 92).trans (decide_eq_false hc2)
  have l3 := tl (rgn Tryd.f41 3)
  conv at l3 => rhs; simp only [rgn, opsAt, codeOf, Tryd.f41, gS, gN, reduceIte, Nat.reduceEqDiff, tA]
  have l4 := tl (rgn Tryd.f41 4)
  conv at l4 => rhs; simp only [rgn, opsAt, codeOf, Tryd.f41, gS, gN, reduceIte, Nat.reduceEqDiff, tA]
  have l6 := tl (rgn Tryd.f41 6)
  conv at l6 => rhs; simp only [rgn, opsAt, codeOf, Tryd.f41, gS, gN, reduceIte, Nat.reduceEqDiff, tA]
  have l7 := tl (rgn Tryd.f41 7)
  conv at l7 => rhs; simp only [rgn, opsAt, codeOf, Tryd.f41, gS, gN, reduceIte, Nat.reduceEqDiff, tA]
  have l11 := tl (rgn Tryd.f41 11)
  conv at l11 => rhs; simp only [rgn, opsAt, codeOf, Tryd.f41, gS, gN, reduceIte, Nat.reduceEqDiff, tA]
  have l12 := tl (rgn Tryd.f41 12)
  conv at l12 => rhs; simp only [rgn, opsAt, codeOf, Tryd.f41, gS, gN, reduceIte, Nat.reduceEqDiff, tA]
  have l13 := tl (rgn Tryd.f41 13)
  conv at l13 => rhs; simp only [rgn, opsAt, codeOf, Tryd.f41, gS, gN, reduceIte, Nat.reduceEqDiff, tA]
  by_cases lo : s[i + 1].toNat < 32
  · have z3 : decide ((s[i + 1].toNat : Int) < 32) = true := decide_eq_true (by omega)
    simp (decide := true) only [↓execG_seq, ↓g_region, ↓execG_block, ↓execG_ret, ↓execG_skip, ↓g_if, ↓g_else, thenE_norm, thenE_ret, leaveB_ret, ↓r_nil, ↓r_cons, ↓o_move, ↓o_assign, ↓o_pickt, ↓o_load, ↓o_store, ↓o_nilCheck, ↓o_binOp, ↓o_fieldAddr, ↓o_indexAddr, ↓o_builtin, nextE_app, putK_app, putO_app, putG_bool, putG_int, normK_app, nilCheckA_ok, evalE_tmp, evalE_const, upd_some, upd_none, bindO_ok, bindV_ok, reduceIte, map_one, Bool.not_false, ↓reg_lit l3, ↓reg_lit l4, ↓reg_lit l6, ↓reg_lit l7, ↓reg_lit l11, ↓reg_lit l12, ↓reg_lit l13, ↓r_no _ 2 false 56 _ gd41_12_2, z1, z2, binA_lss, z3, e0, fld0, fld1, load_at h.here, binA_add, w1, store_at h.here, load_at h1.here, load_src h1.here, len_slice (ts := #[26]) rfl und34, binA_eql, hz, hix, load_byte hl]
    exact hx _ _ (by simp (decide := true) only [upd_some, reduceIte]) h1
  · have z3 : decide ((s[i + 1].toNat : Int) < 32) = false := decide_eq_false (by omega)
    have z4 : decide ((s[i + 1].toNat : Int) > 126) = true := decide_eq_true (by omega)
    simp (decide := true) only [↓execG_seq, ↓g_region, ↓execG_block, ↓execG_ret, ↓execG_skip, ↓g_if, ↓g_else, thenE_norm, thenE_ret, leaveB_ret, ↓r_nil, ↓r_cons, ↓o_move, ↓o_assign, ↓o_pickf, ↓o_load, ↓o_store, ↓o_nilCheck, ↓o_binOp, ↓o_fieldAddr, ↓o_indexAddr, ↓o_builtin, nextE_app, putK_app, putO_app, putG_bool, putG_int, normK_app, nilCheckA_ok, evalE_tmp, evalE_const, upd_some, upd_none, bindO_ok, bindV_ok, reduceIte, map_one, ↓reg_lit l3, ↓reg_lit l4, ↓reg_lit l6, ↓reg_lit l7, ↓reg_lit l11, ↓reg_lit l12, ↓reg_lit l13, ↓r_yes _ 2 false 56 _ gd41_12_2, z1, z2, binA_lss, binA_gtr, z3, z4, e0, fld0, fld1, load_at h.here, binA_add, w1, store_at h.here, load_at h1.here, load_src h1.here, len_slice (ts := #[26]) rfl und34, binA_eql, hz, hix, load_byte hl]
    exact hx _ _ (by simp (decide := true) only [upd_some, reduceIte]) h1
theorem t_char {N : Nat} {H0 H : Heap} {a : Option Addr} {c : Nat} {s : List UInt8} {b t i : Nat} {E : Env} {Q : R → Prop} {k : KOE} {hk : Hook} {d : Nat} {v : Value} {o : List UInt8} (x : Ctx H0 a c s b) (h : Txt H0 H b a s.length c i v o) (hi : i < s.length) (e0 : E 0 = .pointer (some ⟨b, 0, none⟩)) (e1 : E 1 = .pointer (some ⟨t, 0, none⟩)) (e5 : E 5 = v) (hj : ¬ i + 1 = s.length) (hc : ¬ s.getD (i + 1) 0 = 34) (hc2 : ¬ s.getD (i + 1) 0 = 92) (hr : ¬ ((s.getD (i + 1) 0).toNat < 32 ∨ 126 < (s.getD (i + 1) 0).toNat)) (hn : o.length ≤ 1048576)
    (hx : ∀ E' H' v', E' 0 = .pointer (some ⟨b, 0, none⟩) → E' 1 = .pointer (some ⟨t, 0, none⟩) → E' 5 = v' → Txt H0 H' b a s.length c (i + 1) v' (o ++ [s.getD (i + 1) 0]) → Q (k (.goto 0) E' [] H')) :
    Q (execG PP XX (CG N hk (d + 2)) N noPr (.seq (.region 3 (rgn Tryd.f41 3) false) (.seq (.seq (.region 4 (rgn Tryd.f41 4) true) (.cond (.tmp 24) (.seq (.region 5 (rgn Tryd.f41 5) false) (.ret)) (.skip))) (.seq (.seq (.region 6 (rgn Tryd.f41 6) true) (.block 0 (.seq (.region 7 (rgn Tryd.f41 7) false) (.cond (.tmp 35) (.seq (.region 8 (rgn Tryd.f41 8) false) (.seq (.region 9 (rgn Tryd.f41 9) false) (.seq (.region 10 (rgn Tryd.f41 10) false) (.ret)))) (.seq (.region 11 (rgn Tryd.f41 11) false) (.cond (.tmp 50) (.goto 1) (.seq (.region 12 (rgn Tryd.f41 12) false) (.cond (.tmp 53) (.seq (.region 13 (rgn Tryd.f41 13) false) (.ret)) (.skip))))))))) (.seq (.region 14 (rgn Tryd.f41 14) false) (.seq (.goto 0) (.seq (.label 1) (.seq (.region 15 (rgn Tryd.f41 15) false) (.seq (.seq (.region 16 (rgn Tryd.f41 16) true) (.cond (.tmp 80) (.seq (.region 17 (rgn Tryd.f41 17) false) (.ret)) (.skip))) (.seq (.seq (.region 18 (rgn Tryd.f41 18) true) (.seq (.region 19 (rgn Tryd.f41 19) false) (.block 1 (.seq (.region 21 (rgn Tryd.f41 21) false) (.cond (.tmp 92) (.region 22 (rgn Tryd.f41 22) false) (.seq (.region 23 (rgn Tryd.f41 23) false) (.cond (.tmp 94) (.region 24 (rgn Tryd.f41 24) false) (.seq (.seq (.region 25 (rgn Tryd.f41 25) false) (.cond (.tmp 96) (.skip) (.region 26 (rgn Tryd.f41 26) false))) (.cond (.tmp 96) (.skip) (.seq (.region 27 (rgn Tryd.f41 27) false) (.cond (.tmp 99) (.seq (.region 28 (rgn Tryd.f41 28) false) (.seq (.seq (.region 29 (rgn Tryd.f41 29) false) (.block 2 (.loop (.seq (.region 30 (rgn Tryd.f41 30) false) (.seq (.cond (.tmp 102) (.skip) (.exit 2)) (.seq (.block 3 (.seq (.region 31 (rgn Tryd.f41 31) false) (.seq (.seq (.region 32 (rgn Tryd.f41 32) true) (.cond (.tmp 133) (.seq (.region 33 (rgn Tryd.f41 33) false) (.ret)) (.skip))) (.region 34 (rgn Tryd.f41 34) true)))) (.region 35 (rgn Tryd.f41 35) false))))))) (.region 36 (rgn Tryd.f41 36) false))) (.seq (.region 20 (rgn Tryd.f41 20) false) (.ret))))))))))))) (.seq (.region 37 (rgn Tryd.f41 37) false) (.goto 0))))))))))) none E [] H k) := by
  have hsm := x.row.small
  have w1 : IntKind.i64.wrap ((i : Int) + 1) = ((i + 1 : Nat) : Int) := by rw [wrap_i64 (by omega) (by omega)]; omega
  have hz : (((i + 1 : Nat) : Int) == (s.length : Int)) = decide (i + 1 = s.length) := by
    rw [Bool.eq_iff_iff, beq_iff_eq, decide_eq_true_eq]; omega
  have h1 := h.set x.lt (i + 1)
  have hj : i + 1 < s.length := by omega
  have hgd : s.getD (i + 1) 0 = s[i + 1] := by simp [List.getD, hj]
  rw [decide_eq_false (by omega)] at hz
  obtain ⟨y, rfl, hl⟩ := (h1.row x).bts.cell (i + 1) hj
  have hix := index_row (n := s.length) (c := c) (a := y) hj
  rw [hgd] at hc hc2 hr hx
  have z1 : ((s[i + 1].toNat : Int) == 34) = false := (toNat_eq s[i + 1] 34).trans (decide_eq_false hc)
  have z2 : ((s[i + 1].toNat : Int) == 92) = false := (toNat_eq s[i + 1] 92).trans (decide_eq_false hc2)
  have z3 : decide ((s[i + 1].toNat : Int) < 32) = false := decide_eq_false (by omega)
  have z4 : decide ((s[i + 1].toNat : Int) > 126) = false := decide_eq_false (by omega)
  obtain ⟨v', H', a1, a2⟩ := h1.add x.gg.fresh x.lt s[i + 1] hn
  have l3 := tl (rgn Tryd.f41 3)
  conv at l3 => rhs; simp only [rgn, opsAt, codeOf, Tryd.f41, gS, gN, reduceIte, Nat.reduceEqDiff, tA]
  have l4 := tl (rgn Tryd.f41 4)
  conv at l4 => rhs; simp only [rgn, opsAt, codeOf, Tryd.f41, gS, gN, reduceIte, Nat.reduceEqDiff, tA]
  have l6 := tl (rgn Tryd.f41 6)
  conv at l6 => rhs; simp only [rgn, opsAt, codeOf, Tryd.f41, gS, gN, reduceIte, Nat.reduceEqDiff, tA]
  have l7 := tl (rgn Tryd.f41 7)
  conv at l7 => rhs; simp only [rgn, opsAt, codeOf, Tryd.f41, gS, gN, reduceIte, Nat.reduceEqDiff, tA]
  have l11 := tl (rgn Tryd.f41 11)
  conv at l11 => rhs; simp only [rgn, opsAt, codeOf, Tryd.f41, gS, gN, reduceIte, Nat.reduceEqDiff, tA]
  have l12 := tl (rgn Tryd.f41 12)
  conv at l12 => rhs; simp only [rgn, opsAt, codeOf, Tryd.f41, gS, gN, reduceIte, Nat.reduceEqDiff, tA]
  have l14 := tl (rgn Tryd.f41 14)
  conv at l14 => rhs; simp only [rgn, opsAt, codeOf, Tryd.f41, gS, gN, reduceIte, Nat.reduceEqDiff, tA]
  simp (decide := true) only [↓execG_seq, ↓g_region, ↓execG_block, ↓execG_skip, ↓g_else, thenE_norm, leaveB_norm, ↓r_nil, ↓r_cons, ↓o_move, ↓o_assign, ↓o_pickf, ↓o_buildSlice, ↓o_load, ↓o_store, ↓o_nilCheck, ↓o_binOp, ↓o_fieldAddr, ↓o_indexAddr, ↓o_builtin, nextE_app, putK_app, putO_app, putG_bool, putG_int, normK_app, nilCheckA_ok, evalE_tmp, evalE_const, upd_some, upd_none, bindO_ok, bindV_ok, reduceIte, map_one, map_two, ↓reg_lit l3, ↓reg_lit l4, ↓reg_lit l6, ↓reg_lit l7, ↓reg_lit l11, ↓reg_lit l12, ↓reg_lit l14, ↓r_yes _ 2 false 56 _ gd41_12_2, ↓execG_goto, thenE_goto, e5, z1, z2, binA_lss, binA_gtr, z3, z4, bslice1, app_bytes, a1, e0, fld0, fld1, load_at h.here, binA_add, w1, store_at h.here, load_at h1.here, load_src h1.here, len_slice (ts := #[26]) rfl und34, binA_eql, hz, hix, load_byte hl]
  exact hx _ H' v' (by simp (decide := true) only [upd_some, reduceIte, e0]) (by simp (decide := true) only [upd_some, reduceIte, e1]) (by simp (decide := true) only [upd_some, reduceIte]) a2
theorem t_esc {N : Nat} {H0 H : Heap} {a : Option Addr} {c : Nat} {s : List UInt8} {b t i : Nat} {E : Env} {Q : R → Prop} {k : KOE} {hk : Hook} {d : Nat} {v : Value} {o : List UInt8} (x : Ctx H0 a c s b) (h : Txt H0 H b a s.length c i v o) (hi : i < s.length) (e0 : E 0 = .pointer (some ⟨b, 0, none⟩)) (e1 : E 1 = .pointer (some ⟨t, 0, none⟩)) (e5 : E 5 = v) (hj : ¬ i + 1 = s.length) (hc : ¬ s.getD (i + 1) 0 = 34) (hc2 : s.getD (i + 1) 0 = 92)
    (hx : ∀ E' H', E' 0 = .pointer (some ⟨b, 0, none⟩) → E' 1 = .pointer (some ⟨t, 0, none⟩) → E' 5 = v → Txt H0 H' b a s.length c (i + 1) v o → Q (k (.goto 1) E' [] H')) :
    Q (execG PP XX (CG N hk (d + 2)) N noPr (.seq (.region 3 (rgn Tryd.f41 3) false) (.seq (.seq (.region 4 (rgn Tryd.f41 4) true) (.cond (.tmp 24) (.seq (.region 5 (rgn Tryd.f41 5) false) (.ret)) (.skip))) (.seq (.seq (.region 6 (rgn Tryd.f41 6) true) (.block 0 (.seq (.region 7 (rgn Tryd.f41 7) false) (.cond (.tmp 35) (.seq (.region 8 (rgn Tryd.f41 8) false) (.seq (.region 9 (rgn Tryd.f41 9) false) (.seq (.region 10 (rgn Tryd.f41 10) false) (.ret)))) (.seq (.region 11 (rgn Tryd.f41 11) false) (.cond (.tmp 50) (.goto 1) (.seq (.region 12 (rgn Tryd.f41 12) false) (.cond (.tmp 53) (.seq (.region 13 (rgn Tryd.f41 13) false) (.ret)) (.skip))))))))) (.seq (.region 14 (rgn Tryd.f41 14) false) (.seq (.goto 0) (.seq (.label 1) (.seq (.region 15 (rgn Tryd.f41 15) false) (.seq (.seq (.region 16 (rgn Tryd.f41 16) true) (.cond (.tmp 80) (.seq (.region 17 (rgn Tryd.f41 17) false) (.ret)) (.skip))) (.seq (.seq (.region 18 (rgn Tryd.f41 18) true) (.seq (.region 19 (rgn Tryd.f41 19) false) (.block 1 (.seq (.region 21 (rgn Tryd.f41 21) false) (.cond (.tmp 92) (.region 22 (rgn Tryd.f41 22) false) (.seq (.region 23 (rgn Tryd.f41 23) false) (.cond (.tmp 94) (.region 24 (rgn Tryd.f41 24) false) (.seq (.seq (.region 25 (rgn Tryd.f41 25) false) (.cond (.tmp 96) (.skip) (.region 26 (rgn Tryd.f41 26) false))) (.cond (.tmp 96) (.skip) (.seq (.region 27 (rgn Tryd.f41 27) false) (.cond (.tmp 99) (.seq (.region 28 (rgn Tryd.f41 28) false) (.seq (.seq (.region 29 (rgn Tryd.f41 29) false) (.block 2 (.loop (.seq (.region 30 (rgn Tryd.f41 30) false) (.seq (.cond (.tmp 102) (.skip) (.exit 2)) (.seq (.block 3 (.seq (.region 31 (rgn Tryd.f41 31) false) (.seq (.seq (.region 32 (rgn Tryd.f41 32) true) (.cond (.tmp 133) (.seq (.region 33 (rgn Tryd.f41 33) false) (.ret)) (.skip))) (.region 34 (rgn Tryd.f41 34) true)))) (.region 35 (rgn Tryd.f41 35) false))))))) (.region 36 (rgn Tryd.f41 36) false))) (.seq (.region 20 (rgn Tryd.f41 20) false) (.ret))))))))))))) (.seq (.region 37 (rgn Tryd.f41 37) false) (.goto 0))))))))))) none E [] H k) := by
  have hsm := x.row.small
  have w1 : IntKind.i64.wrap ((i : Int) + 1) = ((i + 1 : Nat) : Int) := by rw [wrap_i64 (by omega) (by omega)]; omega
  have hz : (((i + 1 : Nat) : Int) == (s.length : Int)) = decide (i + 1 = s.length) := by
    rw [Bool.eq_iff_iff, beq_iff_eq, decide_eq_true_eq]; omega
  have h1 := h.set x.lt (i + 1)
  have hj : i + 1 < s.length := by omega
  have hgd : s.getD (i + 1) 0 = s[i + 1] := by simp [List.getD, hj]
  rw [decide_eq_false (by omega)] at hz
  obtain ⟨y, rfl, hl⟩ := (h1.row x).bts.cell (i + 1) hj
  have hix := index_row (n := s.length) (c := c) (a := y) hj
  rw [hgd] at hc hc2
  have z1 : ((s[i + 1].toNat : Int) == 34) = false := (toNat_eq s[i + 1] 34).trans (decide_eq_false hc)
  have z2 : ((s[i + 1].toNat : Int) == 92) = true := (toNat_eq s[i + 1] 92).trans (decide_eq_true hc2)
  have l3 := tl (rgn Tryd.f41 3)
  conv at l3 => rhs; simp only [rgn, opsAt, codeOf, Tryd.f41, gS, gN, reduceIte, Nat.reduceEqDiff, tA]
  have l4 := tl (rgn Tryd.f41 4)
  conv at l4 => rhs; simp only [rgn, opsAt, codeOf, Tryd.f41, gS, gN, reduceIte, Nat.reduceEqDiff, tA]
  have l6 := tl (rgn Tryd.f41 6)
  conv at l6 => rhs; simp only [rgn, opsAt, codeOf, Tryd.f41, gS, gN, reduceIte, Nat.reduceEqDiff, tA]
  have l7 := tl (rgn Tryd.f41 7)
  conv at l7 => rhs; simp only [rgn, opsAt, codeOf, Tryd.f41, gS, gN, reduceIte, Nat.reduceEqDiff, tA]
  have l11 := tl (rgn Tryd.f41 11)
  conv at l11 => rhs; simp only [rgn, opsAt, codeOf, Tryd.f41, gS, gN, reduceIte, Nat.reduceEqDiff, tA]
  simp (decide := true) only [↓execG_seq, ↓g_region, ↓execG_block, ↓execG_skip, ↓g_if, ↓g_else, thenE_norm, ↓r_nil, ↓r_cons, ↓o_move, ↓o_assign, ↓o_load, ↓o_store, ↓o_nilCheck, ↓o_binOp, ↓o_fieldAddr, ↓o_indexAddr, ↓o_builtin, nextE_app, putK_app, putO_app, putG_bool, putG_int, normK_app, nilCheckA_ok, evalE_tmp, evalE_const, upd_some, upd_none, bindO_ok, bindV_ok, reduceIte, map_one, ↓reg_lit l3, ↓reg_lit l4, ↓reg_lit l6, ↓reg_lit l7, ↓reg_lit l11, ↓execG_goto, thenE_goto, leaveB_goto, z1, z2, e0, fld0, fld1, load_at h.here, binA_add, w1, store_at h.here, load_at h1.here, load_src h1.here, len_slice (ts := #[26]) rfl und34, binA_eql, hz, hix, load_byte hl]
  exact hx _ _ (by simp (decide := true) only [upd_some, reduceIte, e0]) (by simp (decide := true) only [upd_some, reduceIte, e1]) (by simp (decide := true) only [upd_some, reduceIte, e5]) h1
end
end Go.Am
