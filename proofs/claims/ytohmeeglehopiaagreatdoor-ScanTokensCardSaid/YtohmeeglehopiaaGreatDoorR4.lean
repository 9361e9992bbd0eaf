/- The reference: a text's contract. -/
import Derived.Test.YtohmeeglehopiaaGreatDoorR3
import Derived.Laws.StructEq
open Go.Proofs
namespace Go.Am
def OutT (r : TR) (E' : Env) : Prop := match r with
  | .bad e => E' 4 = .string ⟨#[]⟩ ∧ E' 5 = .int .i64 (e : Int) ∧ E' 6 = .int .i64 (e : Int)
  | .good w e => E' 4 = .string ⟨⟨w⟩⟩ ∧ E' 5 = .int .i64 (e : Int) ∧ E' 6 = .int .i64 (-1)
theorem rt_then {N : Nat} {H0 : Heap} {s : List UInt8} {Q : R → Prop} {k : KOE} {hk : Hook} {d : Nat} (K : HkR hk) (hG : Ext GE H0) (hsm : s.length ≤ 1048576) (hN : 4 < N) :
    ∀ (f i : Nat) (o : List UInt8) (m : Nat) (_ : i < s.length) (_ : s.length ≤ i + f) (_ : o.length ≤ i) (_ : f < m) {H : Heap} {E : Env} {v : Value} (_ : RS H0 H v o) (_ : E 0 = .string ⟨⟨s⟩⟩) (_ : E 7 = v) (_ : E 8 = .int .i64 ((i + 1 : Nat) : Int))
      (_ : ∀ E' H', OutT (textI s f i o) E' → Ext H0 H' → Q (k .ret E' [] H')), Q (loopE (execG PP XX (CG N hk (d + 1)) N noPr (.block 1 (.seq (.seq (.region 3 (rgn Tryz.f53 3) false) (.cond (.tmp 17) (.seq (.region 4 (rgn Tryz.f53 4) false) (.ret)) (.skip))) (.seq (.region 5 (rgn Tryz.f53 5) false) (.seq (.seq (.region 6 (rgn Tryz.f53 6) false) (.cond (.tmp 24) (.seq (.region 7 (rgn Tryz.f53 7) false) (.ret)) (.skip))) (.seq (.seq (.region 8 (rgn Tryz.f53 8) false) (.cond (.tmp 34) (.seq (.region 9 (rgn Tryz.f53 9) false) (.ret)) (.skip))) (.seq (.region 10 (rgn Tryz.f53 10) false) (.seq (.seq (.region 11 (rgn Tryz.f53 11) false) (.cond (.tmp 40) (.seq (.region 12 (rgn Tryz.f53 12) false) (.exit 1)) (.skip))) (.seq (.seq (.region 13 (rgn Tryz.f53 13) false) (.cond (.tmp 48) (.seq (.region 14 (rgn Tryz.f53 14) false) (.ret)) (.skip))) (.seq (.seq (.region 15 (rgn Tryz.f53 15) false) (.block 2 (.seq (.region 17 (rgn Tryz.f53 17) false) (.cond (.tmp 56) (.region 18 (rgn Tryz.f53 18) false) (.seq (.region 19 (rgn Tryz.f53 19) false) (.cond (.tmp 61) (.region 20 (rgn Tryz.f53 20) false) (.seq (.seq (.region 21 (rgn Tryz.f53 21) false) (.cond (.tmp 66) (.skip) (.region 22 (rgn Tryz.f53 22) false))) (.cond (.tmp 66) (.region 23 (rgn Tryz.f53 23) false) (.seq (.region 24 (rgn Tryz.f53 24) false) (.cond (.tmp 75) (.seq (.region 25 (rgn Tryz.f53 25) false) (.seq (.seq (.region 26 (rgn Tryz.f53 26) false) (.block 3 (.loop (.seq (.seq (.region 27 (rgn Tryz.f53 27) false) (.cond (.tmp 78) (.skip) (.exit 3))) (.seq (.block 4 (.seq (.seq (.region 29 (rgn Tryz.f53 29) false) (.cond (.tmp 95) (.seq (.region 30 (rgn Tryz.f53 30) false) (.ret)) (.skip))) (.region 31 (rgn Tryz.f53 31) false))) (.region 28 (rgn Tryz.f53 28) false)))))) (.seq (.region 32 (rgn Tryz.f53 32) false) (.region 33 (rgn Tryz.f53 33) false)))) (.seq (.region 16 (rgn Tryz.f53 16) false) (.ret)))))))))))) (.region 34 (rgn Tryz.f53 34) false)))))))))) none) m E [] H k)
  | 0, i, o, m, hi, hf, ho, hm, H, E, v, h, e0, e7, e8, hx => by omega
  | f + 1, i, o, m + 1, hi, hf, ho, hm, H, E, v, h, e0, e7, e8, hx => by
    have hol : o.length ≤ 1048576 := by omega
    have next : ∀ (j : Nat) (u : UInt8), i < j → j < s.length → (∀ E' H', OutT (textI s f j (o ++ [u])) E' → Ext H0 H' → Q (k .ret E' [] H')) → ∀ E' H' v', E' 0 = .string ⟨⟨s⟩⟩ → E' 7 = v' → E' 8 = .int .i64 ((j + 1 : Nat) : Int) → RS H0 H' v' (o ++ [u]) →
        Q (thenE (fun E ds H k => loopE (execG PP XX (CG N hk (d + 1)) N noPr (.block 1 (.seq (.seq (.region 3 (rgn Tryz.f53 3) false) (.cond (.tmp 17) (.seq (.region 4 (rgn Tryz.f53 4) false) (.ret)) (.skip))) (.seq (.region 5 (rgn Tryz.f53 5) false) (.seq (.seq (.region 6 (rgn Tryz.f53 6) false) (.cond (.tmp 24) (.seq (.region 7 (rgn Tryz.f53 7) false) (.ret)) (.skip))) (.seq (.seq (.region 8 (rgn Tryz.f53 8) false) (.cond (.tmp 34) (.seq (.region 9 (rgn Tryz.f53 9) false) (.ret)) (.skip))) (.seq (.region 10 (rgn Tryz.f53 10) false) (.seq (.seq (.region 11 (rgn Tryz.f53 11) false) (.cond (.tmp 40) (.seq (.region 12 (rgn Tryz.f53 12) false) (.exit 1)) (.skip))) (.seq (.seq (.region 13 (rgn Tryz.f53 13) false) (.cond (.tmp 48) (.seq (.region 14 (rgn Tryz.f53 14) false) (.ret)) (.skip))) (.seq (.seq (.region 15 (rgn Tryz.f53 15) false) (.block 2 (.seq (.region 17 (rgn Tryz.f53 17) false) (.cond (.tmp 56) (.region 18 (rgn Tryz.f53 18) false) (.seq (.region 19 (rgn Tryz.f53 19) false) (.cond (.tmp 61) (.region 20 (rgn Tryz.f53 20) false) (.seq (.seq (.region 21 (rgn Tryz.f53 21) false) (.cond (.tmp 66) (.skip) (.region 22 (rgn Tryz.f53 22) false))) (.cond (.tmp 66) (.region 23 (rgn Tryz.f53 23) false) (.seq (.region 24 (rgn Tryz.f53 24) false) (.cond (.tmp 75) (.seq (.region 25 (rgn Tryz.f53 25) false) (.seq (.seq (.region 26 (rgn Tryz.f53 26) false) (.block 3 (.loop (.seq (.seq (.region 27 (rgn Tryz.f53 27) false) (.cond (.tmp 78) (.skip) (.exit 3))) (.seq (.block 4 (.seq (.seq (.region 29 (rgn Tryz.f53 29) false) (.cond (.tmp 95) (.seq (.region 30 (rgn Tryz.f53 30) false) (.ret)) (.skip))) (.region 31 (rgn Tryz.f53 31) false))) (.region 28 (rgn Tryz.f53 28) false)))))) (.seq (.region 32 (rgn Tryz.f53 32) false) (.region 33 (rgn Tryz.f53 33) false)))) (.seq (.region 16 (rgn Tryz.f53 16) false) (.ret)))))))))))) (.region 34 (rgn Tryz.f53 34) false)))))))))) none) m E ds H k) k .norm E' [] H') := fun j u h1 h2 hx' E' H' v' z0 z7 z8 h' => by
      rw [thenE_norm]
      exact rt_then K hG hsm hN f j (o ++ [u]) m h2 (by omega) (by simp; omega) (by omega) h' z0 z7 z8 hx'
    rw [loopE_succ]
    unfold textI at hx
    by_cases hj : i + 1 = s.length
    · rw [if_pos hj] at hx
      exact rt_end h e0 e7 e8 hi hsm (by omega) fun E' q4 q5 q6 => hx E' H ⟨q4, q5, q6⟩ h.ext
    rw [if_neg hj] at hx
    have hj1 : i + 1 < s.length := by omega
    by_cases c34 : s.getD (i + 1) 0 = 34
    · rw [if_pos c34] at hx
      exact rt_quote h e0 e7 e8 hi hsm hj1 c34 fun E' q4 q5 q6 => hx E' H ⟨q4, q5, q6⟩ h.ext
    rw [if_neg c34] at hx
    by_cases c92 : s.getD (i + 1) 0 = 92
    · rw [if_pos c92] at hx
      by_cases hj2 : i + 2 = s.length
      · rw [if_pos hj2] at hx
        exact rt_eend h e0 e7 e8 hi hsm hj1 (by omega) c92 fun E' q4 q5 q6 => hx E' H ⟨q4, q5, q6⟩ h.ext
      rw [if_neg hj2] at hx
      have hj3 : i + 2 < s.length := by omega
      by_cases c110 : s.getD (i + 2) 0 = 110
      · rw [if_pos c110] at hx
        exact rt_n h e0 e7 e8 hi hsm hj1 hj3 c92 c110 hol (next (i + 2) 10 (by omega) hj3 hx)
      rw [if_neg c110] at hx
      by_cases c116 : s.getD (i + 2) 0 = 116
      · rw [if_pos c116] at hx
        exact rt_t h e0 e7 e8 hi hsm hj1 hj3 c92 c116 hol (next (i + 2) 9 (by omega) hj3 hx)
      rw [if_neg c116] at hx
      by_cases d34 : s.getD (i + 2) 0 = 34
      · rw [if_pos d34] at hx
        exact rt_q h e0 e7 e8 hi hsm hj1 hj3 c92 d34 hol (next (i + 2) 34 (by omega) hj3 hx)
      rw [if_neg d34] at hx
      by_cases d92 : s.getD (i + 2) 0 = 92
      · rw [if_pos d92] at hx
        exact rt_b h e0 e7 e8 hi hsm hj1 hj3 c92 d92 hol (next (i + 2) 92 (by omega) hj3 hx)
      rw [if_neg d92] at hx
      by_cases d120 : s.getD (i + 2) 0 = 120
      · rw [if_pos d120] at hx
        refine rt_x h e0 e7 e8 hi hsm K (hG.trans h.ext) hN hj1 hj3 c92 d120 hol (fun e E' he q4 q5 q6 => ?_) (fun n1 n2 => ?_)
        · by_cases n1 : i + 3 = s.length ∨ hexT (s.getD (i + 3) 0).toNat = 16
          · rw [if_pos n1] at hx he
            subst he
            exact hx E' H ⟨q4, q5, q6⟩ h.ext
          · rw [if_neg n1] at hx he
            rw [if_pos he.1] at hx
            obtain ⟨_, rfl⟩ := he
            exact hx E' H ⟨q4, q5, q6⟩ h.ext
        · rw [if_neg n1, if_neg n2] at hx
          have g0 : ∀ j, s.length ≤ j → s.getD j 0 = 0 := fun j hj => by simp [List.getD, List.getElem?_eq_none hj]
          have hz : hexT (0 : UInt8).toNat = 16 := by decide
          have q3 : i + 3 < s.length := by
            by_cases q : i + 3 < s.length
            · exact q
            · exact absurd (.inr (by rw [g0 _ (by omega)]; exact hz)) n1
          have m2 : ¬ i + 4 = s.length := fun q => n2 (.inl q)
          exact next (i + 4) _ (by omega) (by omega) hx
      rw [if_neg d120] at hx
      exact rt_ebad h e0 e7 e8 hi hsm hj1 hj3 c92 c110 c116 d34 d92 d120 fun E' q4 q5 q6 => hx E' H ⟨q4, q5, q6⟩ h.ext
    rw [if_neg c92] at hx
    by_cases hr : (s.getD (i + 1) 0).toNat < 32 ∨ 126 < (s.getD (i + 1) 0).toNat
    · rw [if_pos hr] at hx
      exact rt_bad h e0 e7 e8 hi hsm hj1 c34 hr fun E' q4 q5 q6 => hx E' H ⟨q4, q5, q6⟩ h.ext
    · rw [if_neg hr] at hx
      exact rt_char h e0 e7 e8 hi hsm hj1 c34 c92 hr hol (next (i + 1) _ (by omega) hj1 hx)
def textV : TR → Value
  | .bad e => .tuple #[.string ⟨#[]⟩, .int .i64 (e : Int), .int .i64 (e : Int)]
  | .good w e => .tuple #[.string ⟨⟨w⟩⟩, .int .i64 (e : Int), .int .i64 (-1)]
theorem call_rtext {N : Nat} {hk : Hook} {d : Nat} {H : Heap} {s : List UInt8} {i : Nat} (K : HkR hk) (hG : Ext GE H) (hi : i < s.length) (hsm : s.length ≤ 1048576) (hN : s.length + 4 < N) :
    ∃ H', Ext H H' ∧ CG N hk (d + 2) 53 #[.string ⟨⟨s⟩⟩, .int .i64 (i : Int)] H = some (.ret (textV (textI s (s.length - i) i [])), H') := by
  have main : ∃ R0 : R, CG N hk (d + 2) 53 #[.string ⟨⟨s⟩⟩, .int .i64 (i : Int)] H = R0 ∧ ∃ H', Ext H H' ∧ R0 = some (.ret (textV (textI s (s.length - i) i [])), H') := by
    refine ⟨_, callG_fn (K.nil _ _ _ rfl) Tryz.func53 (c := codeOf Tryz.f53) rfl rfl rfl (pr := noPr) rfl, ?_⟩
    rw [code53]
    generalize hF : finE PP Tryz.f53 = F
    have w1 : IntKind.i64.wrap ((i : Int) + 1) = ((i + 1 : Nat) : Int) := by rw [wrap_i64 (by omega) (by omega)]; omega
    have l0 := tl (rgn Tryz.f53 0)
    conv at l0 => rhs; simp only [rgn, opsAt, codeOf, Tryz.f53, gS, gN, reduceIte, Nat.reduceEqDiff, tA]
    have l1 := tl (rgn Tryz.f53 1)
    conv at l1 => rhs; simp only [rgn, opsAt, codeOf, Tryz.f53, gS, gN, reduceIte, Nat.reduceEqDiff, tA]
    have l2 := tl (rgn Tryz.f53 2)
    conv at l2 => rhs; simp only [rgn, opsAt, codeOf, Tryz.f53, gS, gN, reduceIte, Nat.reduceEqDiff, tA]
    simp (decide := true) only [↓execG_seq, ↓g_region, ↓execG_block, thenE_norm, ↓r_nil, ↓r_cons, ↓o_move, ↓o_assign, ↓o_binOp, nextE_app, putG_int, normK_app, evalE_tmp, evalE_const, upd_some, bindO_ok, reduceIte, startE_1, ↓reg_lit l0, ↓reg_lit l1, ↓reg_lit l2, ↓execG_loop, binA_add, w1]
    refine rt_then (H0 := H) (s := s) (v := .slice none 0 0) (Q := fun r => ∃ H', Ext H H' ∧ r = some (.ret (textV (textI s (s.length - i) i [])), H')) K hG hsm (by omega) (s.length - i) i [] N hi (by omega) (Nat.zero_le _) (by omega) ⟨⟨Nat.le_refl _, fun _ _ h => h, hG.fresh⟩, hG.fresh, .inl ⟨rfl, rfl⟩⟩ ?_ ?_ ?_ fun E' H' h x => ?_
    · simp (decide := true) only [upd_some, reduceIte, startE_0]
    · simp (decide := true) only [upd_some, reduceIte]
    · simp (decide := true) only [upd_some, reduceIte]
    · simp (decide := true) only [leaveB_ret]
      refine ⟨H', x, ?_⟩
      cases hq : textI s (s.length - i) i [] with
      | bad e =>
        rw [hq] at h
        obtain ⟨a, b, c⟩ := h
        rw [← hF, finE_ret (l := [.string ⟨#[]⟩, .int .i64 (e : Int), .int .i64 (e : Int)]) (by simp (decide := true) [Tryz.f53, resE, a, b, c])]; rfl
      | good w e =>
        rw [hq] at h
        obtain ⟨a, b, c⟩ := h
        rw [← hF, finE_ret (l := [.string ⟨⟨w⟩⟩, .int .i64 (e : Int), .int .i64 (-1)]) (by simp (decide := true) [Tryz.f53, resE, a, b, c])]; rfl
  obtain ⟨R0, m1, H', m2, m3⟩ := main
  exact ⟨H', m2, m1.trans m3⟩
end Go.Am
/- The reference: a lexeme. -/
open Go.Proofs
namespace Go.Am
structure LS (H G : Heap) (a t : Nat) (k n : Int) (w : ByteArray) (f e : Int) : Prop where
  ext : Ext H G
  cell : G.get a = some (tok 0 0 .empty 0 0)
  here : G.get t = some (tok k n w f e)
  ne : a ≠ t
  la : H.next ≤ a
  lt : H.next ≤ t
  ba : a < G.next
  bt : t < G.next
theorem LS.set {H G : Heap} {a t : Nat} {k n f e : Int} {w : ByteArray} (h : LS H G a t k n w f e) (hf : Fresh H) (k' n' : Int) (w' : ByteArray) (f' e' : Int) : LS H (G.set t (tok k' n' w' f' e')) a t k' n' w' f' e' :=
  ⟨h.ext.set h.lt hf h.bt _, by rw [Heap.get_set, if_neg h.ne]; exact h.cell, get_self _ _ _, h.ne, h.la, h.lt, h.ba, h.bt⟩
theorem LS.up {H G G' : Heap} {a t : Nat} {k n f e : Int} {w : ByteArray} (h : LS H G a t k n w f e) (x : Ext G G') : LS H G' a t k n w f e :=
  ⟨h.ext.trans x, x.keep _ _ h.cell, x.keep _ _ h.here, h.ne, h.la, h.lt, Nat.lt_of_lt_of_le h.ba x.next, Nat.lt_of_lt_of_le h.bt x.next⟩
def OutL (H : Heap) (r : LR) (E' : Env) (G' : Heap) : Prop := Ext H G' ∧ match r with
  | .bad e => loadA PP 42 (E' 4) G' = some (.agg #[.int .i64 0, .int .u64 0, .string .empty, .int .i64 0, .int .i64 0], G') ∧ E' 5 = .int .i64 (e : Int)
  | .good k => loadA PP 42 (E' 4) G' = some (.agg k.cells.toArray, G') ∧ E' 5 = .int .i64 (-1)
theorem load_end {H : Heap} {b : Nat} {k n f e : Int} {w : ByteArray} (h : H.get b = some (tok k n w f e)) : loadA PP 3 (.pointer (some ⟨b, 4, none⟩)) H = some (.int .i64 e, H) := by
  simp only [loadA, agg3]
  simp [ld1, look, h, tok]
theorem build_zero : buildA PP 42 #[] = some (.agg #[.int .i64 0, .int .u64 0, .string .empty, .int .i64 0, .int .i64 0]) := by kernel_rfl
theorem parts_nil (E : Env) : (#[] : Array (Nat × Operand)).map (fun (i, x) => (i, evalE E x)) = #[] := by simp
theorem code30 : codeOf Tryz.f30 = .seq (.region 0 (rgn Tryz.f30 0) false) (.seq (.region 1 (rgn Tryz.f30 1) false) (.seq (.region 2 (rgn Tryz.f30 2) false) (.seq (.region 3 (rgn Tryz.f30 3) false) (.seq (.block 0 (.seq (.region 5 (rgn Tryz.f30 5) false) (.cond (.tmp 24) (.seq (.region 6 (rgn Tryz.f30 6) false) (.seq (.region 7 (rgn Tryz.f30 7) false) (.seq (.region 8 (rgn Tryz.f30 8) false) (.seq (.region 9 (rgn Tryz.f30 9) false) (.cond (.tmp 43) (.region 10 (rgn Tryz.f30 10) false) (.skip)))))) (.seq (.region 11 (rgn Tryz.f30 11) false) (.cond (.tmp 47) (.seq (.region 12 (rgn Tryz.f30 12) false) (.seq (.region 13 (rgn Tryz.f30 13) false) (.seq (.region 14 (rgn Tryz.f30 14) false) (.seq (.seq (.region 15 (rgn Tryz.f30 15) false) (.cond (.tmp 64) (.seq (.region 16 (rgn Tryz.f30 16) false) (.region 17 (rgn Tryz.f30 17) false)) (.skip))) (.seq (.region 18 (rgn Tryz.f30 18) false) (.cond (.tmp 70) (.region 19 (rgn Tryz.f30 19) false) (.skip))))))) (.seq (.region 20 (rgn Tryz.f30 20) false) (.cond (.tmp 73) (.seq (.region 21 (rgn Tryz.f30 21) false) (.region 22 (rgn Tryz.f30 22) false)) (.region 4 (rgn Tryz.f30 4) false)))))))) (.seq (.seq (.region 23 (rgn Tryz.f30 23) false) (.cond (.tmp 87) (.seq (.region 24 (rgn Tryz.f30 24) false) (.ret)) (.skip))) (.seq (.region 25 (rgn Tryz.f30 25) false) (.ret))))))) := by kernel_rfl

section
theorem rl_bad {K : Kf} {N : Nat} {H G : Heap} {a t : Nat} {E : Env} {Q : R → Prop} {k : KOE} {kd n f e : Int} {w : ByteArray} (h : LS H G a t kd n w f e) (hf : Fresh H) {x : Nat} (e4 : E 4 = .pointer (some ⟨a, 0, none⟩)) (e6 : E 6 = .pointer (some ⟨t, 0, none⟩)) (e8 : E 8 = .int .i64 (x : Int))
    (hx : ∀ E' G', OutL H (.bad x) E' G' → Q (k .ret E' [] G')) : Q (execG PP XX K N noPr (.seq (.seq (.region 23 (rgn Tryz.f30 23) false) (.cond (.tmp 87) (.seq (.region 24 (rgn Tryz.f30 24) false) (.ret)) (.skip))) (.seq (.region 25 (rgn Tryz.f30 25) false) (.ret))) none E [] G k) := by
  have hge : decide ((x : Int) ≥ 0) = true := decide_eq_true (by omega)
  have l23 := tl (rgn Tryz.f30 23)
  conv at l23 => rhs; simp only [rgn, opsAt, codeOf, Tryz.f30, gS, gN, reduceIte, Nat.reduceEqDiff, tA]
  have l24 := tl (rgn Tryz.f30 24)
  conv at l24 => rhs; simp only [rgn, opsAt, codeOf, Tryz.f30, gS, gN, reduceIte, Nat.reduceEqDiff, tA]
  simp (decide := true) only [↓execG_seq, ↓g_region, ↓execG_ret, ↓g_if, thenE_norm, thenE_ret, ↓r_nil, ↓r_cons, ↓o_move, ↓o_assign, ↓o_build, ↓o_store, ↓o_binOp, nextE_app, putK_app, putO_app, putG_bool, normK_app, evalE_tmp, evalE_const, upd_some, upd_none, bindO_ok, bindV_ok, reduceIte, map_nil, ↓reg_lit l23, ↓reg_lit l24, e4, e8, binA_geq, hge, build_zero, store_tok h.cell]
  refine hx _ _ ⟨h.ext.set h.la hf h.ba _, ?_, by simp (decide := true) only [upd_some, reduceIte]⟩
  have e4' : ∀ v w, upd (upd (upd (upd (upd E (some 86) (.int .i64 (x : Int))) (some 87) (.bool true)) (some 88) v) (some 89) (.int .i64 (x : Int))) w undef 4 = .pointer (some ⟨a, 0, none⟩) ∨ True := fun _ _ => .inr trivial
  simp (decide := true) only [upd_some, reduceIte, e4]
  exact load_tok (get_self _ _ _)
theorem rl_good {K : Kf} {N : Nat} {H G : Heap} {a t : Nat} {E : Env} {Q : R → Prop} {k : KOE} {kd n f e : Int} {w : ByteArray} (h : LS H G a t kd n w f e) (hf : Fresh H) {tk : Tk} (ht : tok kd n w f e = tok tk.kind tk.n tk.w (tk.from_ : Int) (tk.to_ : Int)) (e4 : E 4 = .pointer (some ⟨a, 0, none⟩)) (e6 : E 6 = .pointer (some ⟨t, 0, none⟩)) (e8 : E 8 = .int .i64 (-1))
    (hx : ∀ E' G', OutL H (.good tk) E' G' → Q (k .ret E' [] G')) : Q (execG PP XX K N noPr (.seq (.seq (.region 23 (rgn Tryz.f30 23) false) (.cond (.tmp 87) (.seq (.region 24 (rgn Tryz.f30 24) false) (.ret)) (.skip))) (.seq (.region 25 (rgn Tryz.f30 25) false) (.ret))) none E [] G k) := by
  have hge : decide ((-1 : Int) ≥ 0) = false := rfl
  have hh := h.here
  rw [ht] at hh
  have l23 := tl (rgn Tryz.f30 23)
  conv at l23 => rhs; simp only [rgn, opsAt, codeOf, Tryz.f30, gS, gN, reduceIte, Nat.reduceEqDiff, tA]
  have l25 := tl (rgn Tryz.f30 25)
  conv at l25 => rhs; simp only [rgn, opsAt, codeOf, Tryz.f30, gS, gN, reduceIte, Nat.reduceEqDiff, tA]
  simp (decide := true) only [↓execG_seq, ↓g_region, ↓execG_ret, ↓execG_skip, ↓g_else, thenE_norm, ↓r_nil, ↓r_cons, ↓o_move, ↓o_assign, ↓o_load, ↓o_store, ↓o_binOp, nextE_app, putK_app, putG_bool, normK_app, evalE_tmp, evalE_const, upd_some, upd_none, bindO_ok, bindV_ok, reduceIte, ↓reg_lit l23, ↓reg_lit l25, e4, e6, e8, binA_geq, dF, load_tok hh, store_tok h.cell]
  refine hx _ _ ⟨h.ext.set h.la hf h.ba _, ?_, by simp (decide := true) only [upd_some, reduceIte]⟩
  simp (decide := true) only [upd_some, reduceIte, e4]
  exact load_tok (get_self _ _ _)
set_option maxRecDepth 100000 in
theorem rl_int {N : Nat} {hk : Hook} {d : Nat} {H G : Heap} {a t : Nat} {s : List UInt8} {i : Nat} {E : Env} {Q : R → Prop} {k : KOE} (K : HkR hk) (hG : Ext GE H) (h : LS H G a t 0 0 .empty (i : Int) 0) (hf : Fresh H) (hi : i < s.length) (hsm : s.length ≤ 1048576) (hN : s.length + 100 < N) (e0 : E 0 = .string ⟨⟨s⟩⟩) (e1 : E 1 = .int .i64 (i : Int)) (e4 : E 4 = .pointer (some ⟨a, 0, none⟩)) (e6 : E 6 = .pointer (some ⟨t, 0, none⟩)) (e7 : E 7 = .int .u8 (s[i].toNat : Int)) (e8 : E 8 = .int .i64 (-1)) (h3 : clsI s[i] = 3) (hx : ∀ E' G', OutL H (lexI s i) E' G' → Q (k .ret E' [] G')) :
    Q (execG PP XX (CG N hk (d + 2)) N noPr (.seq (.block 0 (.seq (.region 5 (rgn Tryz.f30 5) false) (.cond (.tmp 24) (.seq (.region 6 (rgn Tryz.f30 6) false) (.seq (.region 7 (rgn Tryz.f30 7) false) (.seq (.region 8 (rgn Tryz.f30 8) false) (.seq (.region 9 (rgn Tryz.f30 9) false) (.cond (.tmp 43) (.region 10 (rgn Tryz.f30 10) false) (.skip)))))) (.seq (.region 11 (rgn Tryz.f30 11) false) (.cond (.tmp 47) (.seq (.region 12 (rgn Tryz.f30 12) false) (.seq (.region 13 (rgn Tryz.f30 13) false) (.seq (.region 14 (rgn Tryz.f30 14) false) (.seq (.seq (.region 15 (rgn Tryz.f30 15) false) (.cond (.tmp 64) (.seq (.region 16 (rgn Tryz.f30 16) false) (.region 17 (rgn Tryz.f30 17) false)) (.skip))) (.seq (.region 18 (rgn Tryz.f30 18) false) (.cond (.tmp 70) (.region 19 (rgn Tryz.f30 19) false) (.skip))))))) (.seq (.region 20 (rgn Tryz.f30 20) false) (.cond (.tmp 73) (.seq (.region 21 (rgn Tryz.f30 21) false) (.region 22 (rgn Tryz.f30 22) false)) (.region 4 (rgn Tryz.f30 4) false)))))))) (.seq (.seq (.region 23 (rgn Tryz.f30 23) false) (.cond (.tmp 87) (.seq (.region 24 (rgn Tryz.f30 24) false) (.ret)) (.skip))) (.seq (.region 25 (rgn Tryz.f30 25) false) (.ret)))) none E [] G k) := by
  have i3 : isI s i 3 = true := by rw [isI, clsI_of s hi, h3, decide_eq_true hi]; rfl
  have iw : isW s i = true := by rw [isW, i3, Bool.or_true]
  have hd : CG N hk (d + 2) 48 #[.int .u8 (s[i].toNat : Int)] G = some (.ret (.bool (digN s[i].toNat)), G) := callG_hook (K.dig s[i] G (hG.trans h.ext))
  have hw : CG N hk (d + 2) 51 #[.int .u8 (s[i].toNat : Int)] G = some (.ret (.bool (wbN s[i].toNat)), G) := callG_hook (K.wb s[i] G (hG.trans h.ext))
  rw [← isI_dig hi, i3] at hd
  rw [← isW_wb hi, iw] at hw
  obtain ⟨hr, hrl⟩ := run_of s (i := i) (by omega)
  have g := runTo_ge s (s.length - i) i
  have h1 := h.set hf 2 0 .empty (i : Int) 0
  have he1 := call_rend (N := N) (hk := hk) (d := d) K (hG.trans h1.ext) (by omega : i ≤ s.length) (by omega) (by omega)
  have r3 : isI ((s.take (runTo s (s.length - i) i)).drop i) 0 3 = true := by rw [hr.isI (Nat.zero_le _) 3 (.inl rfl)]; exact i3
  have hle : lexI s i = match shI i (intI ((s.take (runTo s (s.length - i) i)).drop i) 0) with | .bad e => .bad e | .good n e => .good ⟨2, (n : Int), .empty, i, e⟩ := by
    rw [lexI, clsI_of s hi, if_pos h3, sh_int hr i3]; rfl
  have hend : ∀ n x, intI s i = .good n x → x = runTo s (s.length - i) i := fun n x q => int_end hi i3 q
  rw [sh_int hr i3] at hend
  rw [hle] at hx
  have hint := call_rint (N := N) (hk := hk) (d := d) K (hG.trans (h1.set hf 2 0 .empty (i : Int) (runTo s (s.length - i) i : Int)).ext) (r := (s.take (runTo s (s.length - i) i)).drop i) (by omega) (by omega) hr.words r3
  generalize runTo s (s.length - i) i = e at *
  have h2 := h1.set hf 2 0 .empty (i : Int) (e : Int)
  have hsl := sl_str (s := s) (i := i) (j := e) (by omega) (by omega) ((G.set t (tok 2 0 .empty (i : Int) 0)).set t (tok 2 0 .empty (i : Int) (e : Int)))
  have q0 : ∀ (u v : Value), extractA (.tuple #[u, v]) 0 = some u := fun _ _ => rfl
  have q1 : ∀ (u v : Value), extractA (.tuple #[u, v]) 1 = some v := fun _ _ => rfl
  have l5 := tl (rgn Tryz.f30 5)
  conv at l5 => rhs; simp only [rgn, opsAt, codeOf, Tryz.f30, gS, gN, reduceIte, Nat.reduceEqDiff, tA]
  have l6 := tl (rgn Tryz.f30 6)
  conv at l6 => rhs; simp only [rgn, opsAt, codeOf, Tryz.f30, gS, gN, reduceIte, Nat.reduceEqDiff, tA]
  have l7 := tl (rgn Tryz.f30 7)
  conv at l7 => rhs; simp only [rgn, opsAt, codeOf, Tryz.f30, gS, gN, reduceIte, Nat.reduceEqDiff, tA]
  have l8 := tl (rgn Tryz.f30 8)
  conv at l8 => rhs; simp only [rgn, opsAt, codeOf, Tryz.f30, gS, gN, reduceIte, Nat.reduceEqDiff, tA]
  have l9 := tl (rgn Tryz.f30 9)
  conv at l9 => rhs; simp only [rgn, opsAt, codeOf, Tryz.f30, gS, gN, reduceIte, Nat.reduceEqDiff, tA]
  have l10 := tl (rgn Tryz.f30 10)
  conv at l10 => rhs; simp only [rgn, opsAt, codeOf, Tryz.f30, gS, gN, reduceIte, Nat.reduceEqDiff, tA]
  generalize hp : (.seq (.seq (.region 23 (rgn Tryz.f30 23) false) (.cond (.tmp 87) (.seq (.region 24 (rgn Tryz.f30 24) false) (.ret)) (.skip))) (.seq (.region 25 (rgn Tryz.f30 25) false) (.ret)) : Code) = p0
  cases hq : intI ((s.take e).drop i) 0 with
  | bad x =>
    rw [hq] at hint hx
    have hge : decide ((x : Int) ≥ 0) = true := decide_eq_true (by omega)
    have hxb : x ≤ 2000000 := by
      by_cases c : x ≤ 2000000
      · exact c
      · exfalso
        have := intI_bad_le (isI_lt r3) hq
        omega
    have w3 : IntKind.i64.wrap ((i : Int) + (x : Int)) = ((i + x : Nat) : Int) := by rw [wrap_i64 (by omega) (by omega)]; omega
    have h3' := h2.set hf 2 0 .empty (i : Int) (e : Int)
    simp (decide := true) only [↓execG_seq, ↓g_region, ↓execG_block, ↓g_if, thenE_norm, leaveB_norm, ↓r_nil, ↓r_cons, ↓o_move, ↓o_assign, ↓o_load, ↓o_store, ↓o_binOp, ↓o_slice, ↓o_fieldAddr, ↓o_extract, ↓o_callf, nextE_app, putK_app, putO_app, putG_bool, putG_int, normK_app, evalE_tmp, evalE_const, upd_some, upd_none, bindO_ok, bindV_ok, reduceIte, map_one, map_two, ↓reg_lit l5, ↓reg_lit l6, ↓reg_lit l7, ↓reg_lit l8, ↓reg_lit l9, ↓reg_lit l10, e0, e1, e6, e7, e8, callK_fn Tryz.func48 rfl rfl hd, tf0, store_kind h.here, callK_fn Tryz.func49 rfl rfl he1, tf4, store_end h1.here, load_end h2.here, ↓Option.map_some, ↓Option.map_none, hsl, callK_fn Tryz.func50 rfl rfl hint, intV, q0, q1, tf1, store_n h2.here, binA_geq, hge, binA_add, w3]
    subst hp
    exact rl_bad h3' hf (x := i + x) (by simp (decide := true) only [upd_some, reduceIte, e4]) (by simp (decide := true) only [upd_some, reduceIte, e6]) (by simp (decide := true) only [upd_some, reduceIte, e8]) hx
  | good n x =>
    rw [hq] at hint hx hend
    have hxe := hend n (i + x) rfl
    have hge : decide ((-1 : Int) ≥ 0) = false := rfl
    have h3' := h2.set hf 2 (n : Int) .empty (i : Int) (e : Int)
    simp (decide := true) only [↓execG_seq, ↓g_region, ↓execG_block, ↓execG_skip, ↓g_if, ↓g_else, thenE_norm, leaveB_norm, ↓r_nil, ↓r_cons, ↓o_move, ↓o_assign, ↓o_load, ↓o_store, ↓o_binOp, ↓o_slice, ↓o_fieldAddr, ↓o_extract, ↓o_callf, nextE_app, putK_app, putO_app, putG_bool, normK_app, evalE_tmp, evalE_const, upd_some, upd_none, bindO_ok, bindV_ok, reduceIte, map_one, map_two, ↓reg_lit l5, ↓reg_lit l6, ↓reg_lit l7, ↓reg_lit l8, ↓reg_lit l9, e0, e1, e6, e7, e8, callK_fn Tryz.func48 rfl rfl hd, tf0, store_kind h.here, callK_fn Tryz.func49 rfl rfl he1, tf4, store_end h1.here, load_end h2.here, ↓Option.map_some, ↓Option.map_none, hsl, callK_fn Tryz.func50 rfl rfl hint, intV, q0, q1, tf1, store_n h2.here, binA_geq, dF]
    subst hp
    exact rl_good h3' hf (tk := ⟨2, (n : Int), .empty, i, i + x⟩) (by rw [hxe]) (by simp (decide := true) only [upd_some, reduceIte, e4]) (by simp (decide := true) only [upd_some, reduceIte, e6]) (by simp (decide := true) only [upd_some, reduceIte, e8]) hx
set_option maxRecDepth 100000 in
theorem rl_word {N : Nat} {hk : Hook} {d : Nat} {H G : Heap} {a t : Nat} {s : List UInt8} {i : Nat} {E : Env} {Q : R → Prop} {k : KOE} (K : HkR hk) (hG : Ext GE H) (h : LS H G a t 0 0 .empty (i : Int) 0) (hf : Fresh H) (hi : i < s.length) (hsm : s.length ≤ 1048576) (hN : s.length + 100 < N) (e0 : E 0 = .string ⟨⟨s⟩⟩) (e1 : E 1 = .int .i64 (i : Int)) (e4 : E 4 = .pointer (some ⟨a, 0, none⟩)) (e6 : E 6 = .pointer (some ⟨t, 0, none⟩)) (e7 : E 7 = .int .u8 (s[i].toNat : Int)) (e8 : E 8 = .int .i64 (-1)) (h4' : clsI s[i] = 4) (hx : ∀ E' G', OutL H (lexI s i) E' G' → Q (k .ret E' [] G')) :
    Q (execG PP XX (CG N hk (d + 2)) N noPr (.seq (.block 0 (.seq (.region 5 (rgn Tryz.f30 5) false) (.cond (.tmp 24) (.seq (.region 6 (rgn Tryz.f30 6) false) (.seq (.region 7 (rgn Tryz.f30 7) false) (.seq (.region 8 (rgn Tryz.f30 8) false) (.seq (.region 9 (rgn Tryz.f30 9) false) (.cond (.tmp 43) (.region 10 (rgn Tryz.f30 10) false) (.skip)))))) (.seq (.region 11 (rgn Tryz.f30 11) false) (.cond (.tmp 47) (.seq (.region 12 (rgn Tryz.f30 12) false) (.seq (.region 13 (rgn Tryz.f30 13) false) (.seq (.region 14 (rgn Tryz.f30 14) false) (.seq (.seq (.region 15 (rgn Tryz.f30 15) false) (.cond (.tmp 64) (.seq (.region 16 (rgn Tryz.f30 16) false) (.region 17 (rgn Tryz.f30 17) false)) (.skip))) (.seq (.region 18 (rgn Tryz.f30 18) false) (.cond (.tmp 70) (.region 19 (rgn Tryz.f30 19) false) (.skip))))))) (.seq (.region 20 (rgn Tryz.f30 20) false) (.cond (.tmp 73) (.seq (.region 21 (rgn Tryz.f30 21) false) (.region 22 (rgn Tryz.f30 22) false)) (.region 4 (rgn Tryz.f30 4) false)))))))) (.seq (.seq (.region 23 (rgn Tryz.f30 23) false) (.cond (.tmp 87) (.seq (.region 24 (rgn Tryz.f30 24) false) (.ret)) (.skip))) (.seq (.region 25 (rgn Tryz.f30 25) false) (.ret)))) none E [] G k) := by
  have i3 : isI s i 3 = false := by rw [isI, clsI_of s hi, h4', decide_eq_true hi]; rfl
  have iw : isW s i = true := by rw [isW, isI, clsI_of s hi, h4', decide_eq_true hi]; rfl
  have hd : CG N hk (d + 2) 48 #[.int .u8 (s[i].toNat : Int)] G = some (.ret (.bool (digN s[i].toNat)), G) := callG_hook (K.dig s[i] G (hG.trans h.ext))
  have hw : CG N hk (d + 2) 51 #[.int .u8 (s[i].toNat : Int)] G = some (.ret (.bool (wbN s[i].toNat)), G) := callG_hook (K.wb s[i] G (hG.trans h.ext))
  rw [← isI_dig hi, i3] at hd
  rw [← isW_wb hi, iw] at hw
  have g := runTo_ge s (s.length - i) i
  have he1 := call_rend (N := N) (hk := hk) (d := d) (H := G) K (hG.trans h.ext) (by omega : i ≤ s.length) (by omega) (by omega)
  have hgood : runTo s (s.length - i) i ≤ i + 32 → lexI s i = .good (if resI ((s.take (runTo s (s.length - i) i)).drop i) = 0 then ⟨1, 0, ⟨⟨(s.take (runTo s (s.length - i) i)).drop i⟩⟩, i, runTo s (s.length - i) i⟩ else ⟨resI ((s.take (runTo s (s.length - i) i)).drop i), 0, .empty, i, runTo s (s.length - i) i⟩) := fun q => by
    rw [lexI, clsI_of s hi, if_neg (by rw [h4']; decide), if_pos h4', wordI, if_pos q, ← List.drop_take, wordKT]
    split <;> rfl
  have hbad : ¬ runTo s (s.length - i) i ≤ i + 32 → lexI s i = .bad (i + 32) := fun q => by
    rw [lexI, clsI_of s hi, if_neg (by rw [h4']; decide), if_pos h4', wordI, if_neg q]
  generalize runTo s (s.length - i) i = e at *
  have hlen : ((s.take e).drop i).length = e - i := by simp; omega
  have h1 := h.set hf 0 0 .empty (i : Int) (e : Int)
  have hsl := sl_str (s := s) (i := i) (j := e) (by omega) (by omega) (G.set t (tok 0 0 .empty (i : Int) (e : Int)))
  have hre : CG N hk (d + 2) 52 #[.string ⟨⟨(s.take e).drop i⟩⟩] (G.set t (tok 0 0 .empty (i : Int) (e : Int))) = some (.ret (.int .i64 (resI ((s.take e).drop i))), (G.set t (tok 0 0 .empty (i : Int) (e : Int)))) := call_rres (d := d + 1) (hG.trans h1.ext) _ (by omega) K.nil
  have h2 := h1.set hf (resI ((s.take e).drop i)) 0 .empty (i : Int) (e : Int)
  have h3 := h2.set hf 1 0 .empty (i : Int) (e : Int)
  have h4 := h3.set hf 1 0 ⟨⟨(s.take e).drop i⟩⟩ (i : Int) (e : Int)
  have w32 : IntKind.i64.wrap ((i : Int) + 32) = ((i + 32 : Nat) : Int) := by rw [wrap_i64 (by omega) (by omega)]; omega
  have l5 := tl (rgn Tryz.f30 5)
  conv at l5 => rhs; simp only [rgn, opsAt, codeOf, Tryz.f30, gS, gN, reduceIte, Nat.reduceEqDiff, tA]
  have l11 := tl (rgn Tryz.f30 11)
  conv at l11 => rhs; simp only [rgn, opsAt, codeOf, Tryz.f30, gS, gN, reduceIte, Nat.reduceEqDiff, tA]
  have l12 := tl (rgn Tryz.f30 12)
  conv at l12 => rhs; simp only [rgn, opsAt, codeOf, Tryz.f30, gS, gN, reduceIte, Nat.reduceEqDiff, tA]
  have l13 := tl (rgn Tryz.f30 13)
  conv at l13 => rhs; simp only [rgn, opsAt, codeOf, Tryz.f30, gS, gN, reduceIte, Nat.reduceEqDiff, tA]
  have l14 := tl (rgn Tryz.f30 14)
  conv at l14 => rhs; simp only [rgn, opsAt, codeOf, Tryz.f30, gS, gN, reduceIte, Nat.reduceEqDiff, tA]
  have l15 := tl (rgn Tryz.f30 15)
  conv at l15 => rhs; simp only [rgn, opsAt, codeOf, Tryz.f30, gS, gN, reduceIte, Nat.reduceEqDiff, tA]
  have l16 := tl (rgn Tryz.f30 16)
  conv at l16 => rhs; simp only [rgn, opsAt, codeOf, Tryz.f30, gS, gN, reduceIte, Nat.reduceEqDiff, tA]
  have l17 := tl (rgn Tryz.f30 17)
  conv at l17 => rhs; simp only [rgn, opsAt, codeOf, Tryz.f30, gS, gN, reduceIte, Nat.reduceEqDiff, tA]
  have l18 := tl (rgn Tryz.f30 18)
  conv at l18 => rhs; simp only [rgn, opsAt, codeOf, Tryz.f30, gS, gN, reduceIte, Nat.reduceEqDiff, tA]
  have l19 := tl (rgn Tryz.f30 19)
  conv at l19 => rhs; simp only [rgn, opsAt, codeOf, Tryz.f30, gS, gN, reduceIte, Nat.reduceEqDiff, tA]
  generalize hp : (.seq (.seq (.region 23 (rgn Tryz.f30 23) false) (.cond (.tmp 87) (.seq (.region 24 (rgn Tryz.f30 24) false) (.ret)) (.skip))) (.seq (.region 25 (rgn Tryz.f30 25) false) (.ret)) : Code) = p0
  by_cases hr : resI ((s.take e).drop i) = 0
  · by_cases hl : e ≤ i + 32
    · have hk0 : (resI ((s.take e).drop i) == 0) = true := by rw [hr]; rfl
      have hgt : decide (((e - i : Nat) : Int) > 32) = false := decide_eq_false (by omega)
      simp (decide := true) only [↓execG_seq, ↓g_region, ↓execG_block, ↓execG_skip, ↓g_if, ↓g_else, thenE_norm, leaveB_norm, ↓r_nil, ↓r_cons, ↓o_move, ↓o_assign, ↓o_load, ↓o_store, ↓o_binOp, ↓o_slice, ↓o_fieldAddr, ↓o_builtin, ↓o_callf, nextE_app, putK_app, putO_app, putG_bool, normK_app, evalE_tmp, evalE_const, upd_some, upd_none, bindO_ok, bindV_ok, reduceIte, map_one, map_two, ↓reg_lit l5, ↓reg_lit l11, ↓reg_lit l12, ↓reg_lit l13, ↓reg_lit l14, ↓reg_lit l15, ↓reg_lit l16, ↓reg_lit l17, ↓reg_lit l18, e0, e1, e6, e7, callK_fn Tryz.func48 rfl rfl hd, callK_fn Tryz.func51 rfl rfl hw, callK_fn Tryz.func49 rfl rfl he1, tf4, store_end h.here, load_end h1.here, ↓Option.map_some, ↓Option.map_none, hsl, callK_fn Tryz.func52 rfl rfl hre, tf0, store_kind h1.here, load_kind h2.here, binA_eql, hk0, len_str, hlen, binA_gtr, hgt, store_kind h2.here, tf2, store_text h3.here]
      subst hp
      refine rl_good h4 hf (tk := ⟨1, 0, ⟨⟨(s.take e).drop i⟩⟩, i, e⟩) rfl (by simp (decide := true) only [upd_some, reduceIte, e4]) (by simp (decide := true) only [upd_some, reduceIte, e6]) (by simp (decide := true) only [upd_some, reduceIte, e8]) fun E' G' o => hx E' G' ?_
      rw [hgood (by omega), if_pos hr]; exact o
    · have hk0 : (resI ((s.take e).drop i) == 0) = true := by rw [hr]; rfl
      have hgt : decide (((e - i : Nat) : Int) > 32) = true := decide_eq_true (by omega)
      simp (decide := true) only [↓execG_seq, ↓g_region, ↓execG_block, ↓g_if, ↓g_else, thenE_norm, leaveB_norm, ↓r_nil, ↓r_cons, ↓o_move, ↓o_assign, ↓o_load, ↓o_store, ↓o_binOp, ↓o_slice, ↓o_fieldAddr, ↓o_builtin, ↓o_callf, nextE_app, putK_app, putO_app, putG_bool, putG_int, normK_app, evalE_tmp, evalE_const, upd_some, upd_none, bindO_ok, bindV_ok, reduceIte, map_one, map_two, ↓reg_lit l5, ↓reg_lit l11, ↓reg_lit l12, ↓reg_lit l13, ↓reg_lit l14, ↓reg_lit l15, ↓reg_lit l16, ↓reg_lit l17, ↓reg_lit l18, ↓reg_lit l19, e0, e1, e6, e7, callK_fn Tryz.func48 rfl rfl hd, callK_fn Tryz.func51 rfl rfl hw, callK_fn Tryz.func49 rfl rfl he1, tf4, store_end h.here, load_end h1.here, ↓Option.map_some, ↓Option.map_none, hsl, callK_fn Tryz.func52 rfl rfl hre, tf0, store_kind h1.here, load_kind h2.here, binA_eql, hk0, len_str, hlen, binA_gtr, hgt, store_kind h2.here, tf2, store_text h3.here, binA_add, w32]
      subst hp
      refine rl_bad h4 hf (x := i + 32) (by simp (decide := true) only [upd_some, reduceIte, e4]) (by simp (decide := true) only [upd_some, reduceIte, e6]) (by simp (decide := true) only [upd_some, reduceIte, e8]) fun E' G' o => hx E' G' ?_
      rw [hbad (by omega)]; exact o
  · by_cases hl : e ≤ i + 32
    · have hk0 : (resI ((s.take e).drop i) == 0) = false := by simp [hr]
      have hgt : decide (((e - i : Nat) : Int) > 32) = false := decide_eq_false (by omega)
      simp (decide := true) only [↓execG_seq, ↓g_region, ↓execG_block, ↓execG_skip, ↓g_if, ↓g_else, thenE_norm, leaveB_norm, ↓r_nil, ↓r_cons, ↓o_move, ↓o_assign, ↓o_load, ↓o_store, ↓o_binOp, ↓o_slice, ↓o_fieldAddr, ↓o_builtin, ↓o_callf, nextE_app, putK_app, putO_app, putG_bool, normK_app, evalE_tmp, evalE_const, upd_some, upd_none, bindO_ok, bindV_ok, reduceIte, map_one, map_two, ↓reg_lit l5, ↓reg_lit l11, ↓reg_lit l12, ↓reg_lit l13, ↓reg_lit l14, ↓reg_lit l15, ↓reg_lit l18, e0, e1, e6, e7, callK_fn Tryz.func48 rfl rfl hd, callK_fn Tryz.func51 rfl rfl hw, callK_fn Tryz.func49 rfl rfl he1, tf4, store_end h.here, load_end h1.here, ↓Option.map_some, ↓Option.map_none, hsl, callK_fn Tryz.func52 rfl rfl hre, tf0, store_kind h1.here, load_kind h2.here, binA_eql, hk0, len_str, hlen, binA_gtr, hgt]
      subst hp
      refine rl_good h2 hf (tk := ⟨resI ((s.take e).drop i), 0, .empty, i, e⟩) rfl (by simp (decide := true) only [upd_some, reduceIte, e4]) (by simp (decide := true) only [upd_some, reduceIte, e6]) (by simp (decide := true) only [upd_some, reduceIte, e8]) fun E' G' o => hx E' G' ?_
      rw [hgood (by omega), if_neg hr]; exact o
    · have hk0 : (resI ((s.take e).drop i) == 0) = false := by simp [hr]
      have hgt : decide (((e - i : Nat) : Int) > 32) = true := decide_eq_true (by omega)
      simp (decide := true) only [↓execG_seq, ↓g_region, ↓execG_block, ↓execG_skip, ↓g_if, ↓g_else, thenE_norm, leaveB_norm, ↓r_nil, ↓r_cons, ↓o_move, ↓o_assign, ↓o_load, ↓o_store, ↓o_binOp, ↓o_slice, ↓o_fieldAddr, ↓o_builtin, ↓o_callf, nextE_app, putK_app, putO_app, putG_bool, putG_int, normK_app, evalE_tmp, evalE_const, upd_some, upd_none, bindO_ok, bindV_ok, reduceIte, map_one, map_two, ↓reg_lit l5, ↓reg_lit l11, ↓reg_lit l12, ↓reg_lit l13, ↓reg_lit l14, ↓reg_lit l15, ↓reg_lit l18, ↓reg_lit l19, e0, e1, e6, e7, callK_fn Tryz.func48 rfl rfl hd, callK_fn Tryz.func51 rfl rfl hw, callK_fn Tryz.func49 rfl rfl he1, tf4, store_end h.here, load_end h1.here, ↓Option.map_some, ↓Option.map_none, hsl, callK_fn Tryz.func52 rfl rfl hre, tf0, store_kind h1.here, load_kind h2.here, binA_eql, hk0, len_str, hlen, binA_gtr, hgt, binA_add, w32]
      subst hp
      refine rl_bad h2 hf (x := i + 32) (by simp (decide := true) only [upd_some, reduceIte, e4]) (by simp (decide := true) only [upd_some, reduceIte, e6]) (by simp (decide := true) only [upd_some, reduceIte, e8]) fun E' G' o => hx E' G' ?_
      rw [hbad (by omega)]; exact o
set_option maxRecDepth 100000 in
theorem rl_text {N : Nat} {hk : Hook} {d : Nat} {H G : Heap} {a t : Nat} {s : List UInt8} {i : Nat} {E : Env} {Q : R → Prop} {k : KOE} (K : HkR hk) (hG : Ext GE H) (h : LS H G a t 0 0 .empty (i : Int) 0) (hf : Fresh H) (hi : i < s.length) (hsm : s.length ≤ 1048576) (hN : s.length + 100 < N) (e0 : E 0 = .string ⟨⟨s⟩⟩) (e1 : E 1 = .int .i64 (i : Int)) (e4 : E 4 = .pointer (some ⟨a, 0, none⟩)) (e6 : E 6 = .pointer (some ⟨t, 0, none⟩)) (e7 : E 7 = .int .u8 (s[i].toNat : Int)) (e8 : E 8 = .int .i64 (-1)) (h5 : clsI s[i] = 5) (hx : ∀ E' G', OutL H (lexI s i) E' G' → Q (k .ret E' [] G')) :
    Q (execG PP XX (CG N hk (d + 2)) N noPr (.seq (.block 0 (.seq (.region 5 (rgn Tryz.f30 5) false) (.cond (.tmp 24) (.seq (.region 6 (rgn Tryz.f30 6) false) (.seq (.region 7 (rgn Tryz.f30 7) false) (.seq (.region 8 (rgn Tryz.f30 8) false) (.seq (.region 9 (rgn Tryz.f30 9) false) (.cond (.tmp 43) (.region 10 (rgn Tryz.f30 10) false) (.skip)))))) (.seq (.region 11 (rgn Tryz.f30 11) false) (.cond (.tmp 47) (.seq (.region 12 (rgn Tryz.f30 12) false) (.seq (.region 13 (rgn Tryz.f30 13) false) (.seq (.region 14 (rgn Tryz.f30 14) false) (.seq (.seq (.region 15 (rgn Tryz.f30 15) false) (.cond (.tmp 64) (.seq (.region 16 (rgn Tryz.f30 16) false) (.region 17 (rgn Tryz.f30 17) false)) (.skip))) (.seq (.region 18 (rgn Tryz.f30 18) false) (.cond (.tmp 70) (.region 19 (rgn Tryz.f30 19) false) (.skip))))))) (.seq (.region 20 (rgn Tryz.f30 20) false) (.cond (.tmp 73) (.seq (.region 21 (rgn Tryz.f30 21) false) (.region 22 (rgn Tryz.f30 22) false)) (.region 4 (rgn Tryz.f30 4) false)))))))) (.seq (.seq (.region 23 (rgn Tryz.f30 23) false) (.cond (.tmp 87) (.seq (.region 24 (rgn Tryz.f30 24) false) (.ret)) (.skip))) (.seq (.region 25 (rgn Tryz.f30 25) false) (.ret)))) none E [] G k) := by
  have i3 : isI s i 3 = false := by rw [isI, clsI_of s hi, h5, decide_eq_true hi]; rfl
  have iw : isW s i = false := by rw [isW, isI, isI, clsI_of s hi, h5, decide_eq_true hi]; rfl
  have hd : CG N hk (d + 2) 48 #[.int .u8 (s[i].toNat : Int)] G = some (.ret (.bool (digN s[i].toNat)), G) := callG_hook (K.dig s[i] G (hG.trans h.ext))
  have hw : CG N hk (d + 2) 51 #[.int .u8 (s[i].toNat : Int)] G = some (.ret (.bool (wbN s[i].toNat)), G) := callG_hook (K.wb s[i] G (hG.trans h.ext))
  rw [← isI_dig hi, i3] at hd
  rw [← isW_wb hi, iw] at hw
  have c34 : s[i] = 34 := by
    have := cls_text s[i]
    rw [decide_eq_true h5] at this
    simpa using this
  have z34 : ((s[i].toNat : Int) == 34) = true := (toNat_eq s[i] 34).trans (decide_eq_true c34)
  have h1 := h.set hf 3 0 .empty (i : Int) 0
  obtain ⟨G2, x2, ht⟩ := call_rtext (N := N) (hk := hk) (d := d) K (hG.trans h1.ext) hi hsm (by omega)
  have h2 := h1.up x2
  have hle : lexI s i = match textI s (s.length - i) i [] with | .bad e => .bad e | .good w e => .good ⟨3, 0, ⟨⟨w⟩⟩, i, e⟩ := by
    rw [lexI, clsI_of s hi, if_neg (by rw [h5]; decide), if_neg (by rw [h5]; decide), if_pos h5]; rfl
  rw [hle] at hx
  have q0 : ∀ (u v w : Value), extractA (.tuple #[u, v, w]) 0 = some u := fun _ _ _ => rfl
  have q1 : ∀ (u v w : Value), extractA (.tuple #[u, v, w]) 1 = some v := fun _ _ _ => rfl
  have q2 : ∀ (u v w : Value), extractA (.tuple #[u, v, w]) 2 = some w := fun _ _ _ => rfl
  have l5 := tl (rgn Tryz.f30 5)
  conv at l5 => rhs; simp only [rgn, opsAt, codeOf, Tryz.f30, gS, gN, reduceIte, Nat.reduceEqDiff, tA]
  have l11 := tl (rgn Tryz.f30 11)
  conv at l11 => rhs; simp only [rgn, opsAt, codeOf, Tryz.f30, gS, gN, reduceIte, Nat.reduceEqDiff, tA]
  have l20 := tl (rgn Tryz.f30 20)
  conv at l20 => rhs; simp only [rgn, opsAt, codeOf, Tryz.f30, gS, gN, reduceIte, Nat.reduceEqDiff, tA]
  have l21 := tl (rgn Tryz.f30 21)
  conv at l21 => rhs; simp only [rgn, opsAt, codeOf, Tryz.f30, gS, gN, reduceIte, Nat.reduceEqDiff, tA]
  have l22 := tl (rgn Tryz.f30 22)
  conv at l22 => rhs; simp only [rgn, opsAt, codeOf, Tryz.f30, gS, gN, reduceIte, Nat.reduceEqDiff, tA]
  generalize hp : (.seq (.seq (.region 23 (rgn Tryz.f30 23) false) (.cond (.tmp 87) (.seq (.region 24 (rgn Tryz.f30 24) false) (.ret)) (.skip))) (.seq (.region 25 (rgn Tryz.f30 25) false) (.ret)) : Code) = p0
  cases hq : textI s (s.length - i) i [] with
  | bad x =>
    rw [hq] at ht hx
    have h3 := h2.set hf 3 0 ⟨#[]⟩ (i : Int) 0
    have h4 := h3.set hf 3 0 ⟨#[]⟩ (i : Int) (x : Int)
    simp (decide := true) only [↓execG_seq, ↓g_region, ↓execG_block, ↓g_if, ↓g_else, thenE_norm, leaveB_norm, ↓r_nil, ↓r_cons, ↓o_move, ↓o_assign, ↓o_store, ↓o_binOp, ↓o_fieldAddr, ↓o_extract, ↓o_callf, nextE_app, putK_app, putO_app, putG_bool, normK_app, evalE_tmp, evalE_const, upd_some, upd_none, bindO_ok, bindV_ok, reduceIte, map_one, map_two, ↓reg_lit l5, ↓reg_lit l11, ↓reg_lit l20, ↓reg_lit l21, ↓reg_lit l22, e0, e1, e6, e7, callK_fn Tryz.func48 rfl rfl hd, callK_fn Tryz.func51 rfl rfl hw, binA_eql, z34, tf0, store_kind h.here, callK_fn Tryz.func53 rfl rfl ht, textV, q0, q1, q2, tf2, store_text h2.here, tf4, store_end h3.here]
    subst hp
    exact rl_bad h4 hf (x := x) (by simp (decide := true) only [upd_some, reduceIte, e4]) (by simp (decide := true) only [upd_some, reduceIte, e6]) (by simp (decide := true) only [upd_some, reduceIte, e8]) hx
  | good w x =>
    rw [hq] at ht hx
    have h3 := h2.set hf 3 0 ⟨⟨w⟩⟩ (i : Int) 0
    have h4 := h3.set hf 3 0 ⟨⟨w⟩⟩ (i : Int) (x : Int)
    simp (decide := true) only [↓execG_seq, ↓g_region, ↓execG_block, ↓g_if, ↓g_else, thenE_norm, leaveB_norm, ↓r_nil, ↓r_cons, ↓o_move, ↓o_assign, ↓o_store, ↓o_binOp, ↓o_fieldAddr, ↓o_extract, ↓o_callf, nextE_app, putK_app, putO_app, putG_bool, normK_app, evalE_tmp, evalE_const, upd_some, upd_none, bindO_ok, bindV_ok, reduceIte, map_one, map_two, ↓reg_lit l5, ↓reg_lit l11, ↓reg_lit l20, ↓reg_lit l21, ↓reg_lit l22, e0, e1, e6, e7, callK_fn Tryz.func48 rfl rfl hd, callK_fn Tryz.func51 rfl rfl hw, binA_eql, z34, tf0, store_kind h.here, callK_fn Tryz.func53 rfl rfl ht, textV, q0, q1, q2, tf2, store_text h2.here, tf4, store_end h3.here]
    subst hp
    exact rl_good h4 hf (tk := ⟨3, 0, ⟨⟨w⟩⟩, i, x⟩) rfl (by simp (decide := true) only [upd_some, reduceIte, e4]) (by simp (decide := true) only [upd_some, reduceIte, e6]) (by simp (decide := true) only [upd_some, reduceIte, e8]) hx
set_option maxRecDepth 100000 in
theorem rl_sign {N : Nat} {hk : Hook} {d : Nat} {H G : Heap} {a t : Nat} {s : List UInt8} {i : Nat} {E : Env} {Q : R → Prop} {k : KOE} (K : HkR hk) (hG : Ext GE H) (h : LS H G a t 0 0 .empty (i : Int) 0) (hf : Fresh H) (hi : i < s.length) (hsm : s.length ≤ 1048576) (hN : s.length + 100 < N) (e0 : E 0 = .string ⟨⟨s⟩⟩) (e1 : E 1 = .int .i64 (i : Int)) (e4 : E 4 = .pointer (some ⟨a, 0, none⟩)) (e6 : E 6 = .pointer (some ⟨t, 0, none⟩)) (e7 : E 7 = .int .u8 (s[i].toNat : Int)) (e8 : E 8 = .int .i64 (-1)) (h3 : ¬ clsI s[i] = 3) (h4 : ¬ clsI s[i] = 4) (h5 : ¬ clsI s[i] = 5) (hx : ∀ E' G', OutL H (lexI s i) E' G' → Q (k .ret E' [] G')) :
    Q (execG PP XX (CG N hk (d + 2)) N noPr (.seq (.block 0 (.seq (.region 5 (rgn Tryz.f30 5) false) (.cond (.tmp 24) (.seq (.region 6 (rgn Tryz.f30 6) false) (.seq (.region 7 (rgn Tryz.f30 7) false) (.seq (.region 8 (rgn Tryz.f30 8) false) (.seq (.region 9 (rgn Tryz.f30 9) false) (.cond (.tmp 43) (.region 10 (rgn Tryz.f30 10) false) (.skip)))))) (.seq (.region 11 (rgn Tryz.f30 11) false) (.cond (.tmp 47) (.seq (.region 12 (rgn Tryz.f30 12) false) (.seq (.region 13 (rgn Tryz.f30 13) false) (.seq (.region 14 (rgn Tryz.f30 14) false) (.seq (.seq (.region 15 (rgn Tryz.f30 15) false) (.cond (.tmp 64) (.seq (.region 16 (rgn Tryz.f30 16) false) (.region 17 (rgn Tryz.f30 17) false)) (.skip))) (.seq (.region 18 (rgn Tryz.f30 18) false) (.cond (.tmp 70) (.region 19 (rgn Tryz.f30 19) false) (.skip))))))) (.seq (.region 20 (rgn Tryz.f30 20) false) (.cond (.tmp 73) (.seq (.region 21 (rgn Tryz.f30 21) false) (.region 22 (rgn Tryz.f30 22) false)) (.region 4 (rgn Tryz.f30 4) false)))))))) (.seq (.seq (.region 23 (rgn Tryz.f30 23) false) (.cond (.tmp 87) (.seq (.region 24 (rgn Tryz.f30 24) false) (.ret)) (.skip))) (.seq (.region 25 (rgn Tryz.f30 25) false) (.ret)))) none E [] G k) := by
  have i3 : isI s i 3 = false := by rw [isI, clsI_of s hi, decide_eq_true hi]; simp [h3]
  have iw : isW s i = false := by rw [isW, isI, isI, clsI_of s hi, decide_eq_true hi]; simp [h3, h4]
  have hd : CG N hk (d + 2) 48 #[.int .u8 (s[i].toNat : Int)] G = some (.ret (.bool (digN s[i].toNat)), G) := callG_hook (K.dig s[i] G (hG.trans h.ext))
  have hw : CG N hk (d + 2) 51 #[.int .u8 (s[i].toNat : Int)] G = some (.ret (.bool (wbN s[i].toNat)), G) := callG_hook (K.wb s[i] G (hG.trans h.ext))
  rw [← isI_dig hi, i3] at hd
  rw [← isW_wb hi, iw] at hw
  have c34 : ¬ s[i] = 34 := fun q => by
    have := cls_text s[i]
    rw [decide_eq_false h5, q] at this
    cases this
  have z34 : ((s[i].toNat : Int) == 34) = false := (toNat_eq s[i] 34).trans (decide_eq_false c34)
  have hs : CG N hk (d + 2) 54 #[.string ⟨⟨s⟩⟩, .int .i64 (i : Int)] G = some (.ret (sgV i (signF (mtS s i) s[i])), G) := call_rsign (d := d + 1) (hG.trans h.ext) hi (by omega) (by omega) K.nil
  have q0 : ∀ (u v w : Value), extractA (.tuple #[u, v, w]) 0 = some u := fun _ _ _ => rfl
  have q1 : ∀ (u v w : Value), extractA (.tuple #[u, v, w]) 1 = some v := fun _ _ _ => rfl
  have q2 : ∀ (u v w : Value), extractA (.tuple #[u, v, w]) 2 = some w := fun _ _ _ => rfl
  have l4 := tl (rgn Tryz.f30 4)
  conv at l4 => rhs; simp only [rgn, opsAt, codeOf, Tryz.f30, gS, gN, reduceIte, Nat.reduceEqDiff, tA]
  have l5 := tl (rgn Tryz.f30 5)
  conv at l5 => rhs; simp only [rgn, opsAt, codeOf, Tryz.f30, gS, gN, reduceIte, Nat.reduceEqDiff, tA]
  have l11 := tl (rgn Tryz.f30 11)
  conv at l11 => rhs; simp only [rgn, opsAt, codeOf, Tryz.f30, gS, gN, reduceIte, Nat.reduceEqDiff, tA]
  have l20 := tl (rgn Tryz.f30 20)
  conv at l20 => rhs; simp only [rgn, opsAt, codeOf, Tryz.f30, gS, gN, reduceIte, Nat.reduceEqDiff, tA]
  generalize hp : (.seq (.seq (.region 23 (rgn Tryz.f30 23) false) (.cond (.tmp 87) (.seq (.region 24 (rgn Tryz.f30 24) false) (.ret)) (.skip))) (.seq (.region 25 (rgn Tryz.f30 25) false) (.ret)) : Code) = p0
  rcases sign_law hi h3 h4 h5 with ⟨kd, l, e1', e2⟩ | ⟨l, e1', e2⟩
  · rw [e2] at hs
    rw [e1'] at hx
    have hv : sgV i (kd, l, true) = .tuple #[.int .i64 kd, .int .i64 ((i + l : Nat) : Int), .int .i64 (-1)] := rfl
    rw [hv] at hs
    have h1 := h.set hf kd 0 .empty (i : Int) 0
    have h2 := h1.set hf kd 0 .empty (i : Int) ((i + l : Nat) : Int)
    simp (decide := true) only [↓execG_seq, ↓g_region, ↓execG_block, ↓g_else, thenE_norm, leaveB_norm, ↓r_nil, ↓r_cons, ↓o_move, ↓o_assign, ↓o_store, ↓o_binOp, ↓o_fieldAddr, ↓o_extract, ↓o_callf, nextE_app, putK_app, putO_app, putG_bool, normK_app, evalE_tmp, evalE_const, upd_some, upd_none, bindO_ok, bindV_ok, reduceIte, map_one, map_two, ↓reg_lit l4, ↓reg_lit l5, ↓reg_lit l11, ↓reg_lit l20, e0, e1, e6, e7, callK_fn Tryz.func48 rfl rfl hd, callK_fn Tryz.func51 rfl rfl hw, binA_eql, z34, callK_fn Tryz.func54 rfl rfl hs, q0, q1, q2, tf0, store_kind h.here, tf4, store_end h1.here]
    subst hp
    exact rl_good h2 hf (tk := ⟨kd, 0, .empty, i, i + l⟩) rfl (by simp (decide := true) only [upd_some, reduceIte, e4]) (by simp (decide := true) only [upd_some, reduceIte, e6]) (by simp (decide := true) only [upd_some, reduceIte, e8]) hx
  · rw [e2] at hs
    rw [e1'] at hx
    have hv : sgV i (0, l, false) = .tuple #[.int .i64 0, .int .i64 0, .int .i64 ((i + l : Nat) : Int)] := rfl
    rw [hv] at hs
    have h1 := h.set hf 0 0 .empty (i : Int) 0
    have h2 := h1.set hf 0 0 .empty (i : Int) 0
    simp (decide := true) only [↓execG_seq, ↓g_region, ↓execG_block, ↓g_else, thenE_norm, leaveB_norm, ↓r_nil, ↓r_cons, ↓o_move, ↓o_assign, ↓o_store, ↓o_binOp, ↓o_fieldAddr, ↓o_extract, ↓o_callf, nextE_app, putK_app, putO_app, putG_bool, normK_app, evalE_tmp, evalE_const, upd_some, upd_none, bindO_ok, bindV_ok, reduceIte, map_one, map_two, ↓reg_lit l4, ↓reg_lit l5, ↓reg_lit l11, ↓reg_lit l20, e0, e1, e6, e7, callK_fn Tryz.func48 rfl rfl hd, callK_fn Tryz.func51 rfl rfl hw, binA_eql, z34, callK_fn Tryz.func54 rfl rfl hs, q0, q1, q2, tf0, store_kind h.here, tf4, store_end h1.here]
    subst hp
    exact rl_bad h2 hf (x := i + l) (by simp (decide := true) only [upd_some, reduceIte, e4]) (by simp (decide := true) only [upd_some, reduceIte, e6]) (by simp (decide := true) only [upd_some, reduceIte, e8]) hx
end
def lexV : LR → Value
  | .bad e => .tuple #[.agg #[.int .i64 0, .int .u64 0, .string .empty, .int .i64 0, .int .i64 0], .int .i64 (e : Int)]
  | .good k => .tuple #[.agg k.cells.toArray, .int .i64 (-1)]
theorem call_rlex {N : Nat} {hk : Hook} {d : Nat} {H : Heap} {s : List UInt8} {i : Nat} (K : HkR hk) (hG : Ext GE H) (hi : i < s.length) (hsm : s.length ≤ 1048576) (hN : s.length + 100 < N) :
    ∃ H', Ext H H' ∧ CG N hk (d + 3) 30 #[.string ⟨⟨s⟩⟩, .int .i64 (i : Int)] H = some (.ret (lexV (lexI s i)), H') := by
  have main : ∃ R0 : R, CG N hk (d + 3) 30 #[.string ⟨⟨s⟩⟩, .int .i64 (i : Int)] H = R0 ∧ ∃ H', Ext H H' ∧ R0 = some (.ret (lexV (lexI s i)), H') := by
    refine ⟨_, callG_fn (K.nil _ _ _ rfl) Tryz.func30 (c := codeOf Tryz.f30) rfl rfl rfl (pr := noPr) rfl, ?_⟩
    rw [code30]
    generalize hF : finE PP Tryz.f30 = F
    have hf := hG.fresh
    have hix := idx_str (s := s) hi
    generalize hH1 : H.alloc 1 [.int .i64 0, .int .u64 0, .string .empty, .int .i64 0, .int .i64 0] = H1
    have x1 : Ext H H1 := hH1 ▸ Ext.alloc hf 1 _
    have n1 : H1.next = H.next + 1 := by rw [← hH1]; rfl
    have g1 : H1.get H.next = some (tok 0 0 .empty 0 0) := by rw [← hH1, Heap.get_alloc]; exact if_pos rfl
    have x2 : Ext H1 (H1.alloc 1 [.int .i64 0, .int .u64 0, .string .empty, .int .i64 0, .int .i64 0]) := Ext.alloc x1.fresh 1 _
    have g2 : (H1.alloc 1 [.int .i64 0, .int .u64 0, .string .empty, .int .i64 0, .int .i64 0]).get H1.next = some (tok 0 0 .empty 0 0) := by rw [Heap.get_alloc]; exact if_pos rfl
    have h0 : LS H (H1.alloc 1 [.int .i64 0, .int .u64 0, .string .empty, .int .i64 0, .int .i64 0]) H.next H1.next 0 0 .empty 0 0 :=
      ⟨x1.trans x2, x2.keep _ _ g1, g2, by omega, Nat.le_refl _, by omega, by show H.next < H1.next + 1; omega, by show H1.next < H1.next + 1; omega⟩
    have h1 := h0.set hf 0 0 .empty (i : Int) 0
    have l0 := tl (rgn Tryz.f30 0)
    conv at l0 => rhs; simp only [rgn, opsAt, codeOf, Tryz.f30, gS, gN, reduceIte, Nat.reduceEqDiff, tA]
    have l1 := tl (rgn Tryz.f30 1)
    conv at l1 => rhs; simp only [rgn, opsAt, codeOf, Tryz.f30, gS, gN, reduceIte, Nat.reduceEqDiff, tA]
    have l2 := tl (rgn Tryz.f30 2)
    conv at l2 => rhs; simp only [rgn, opsAt, codeOf, Tryz.f30, gS, gN, reduceIte, Nat.reduceEqDiff, tA]
    have l3 := tl (rgn Tryz.f30 3)
    conv at l3 => rhs; simp only [rgn, opsAt, codeOf, Tryz.f30, gS, gN, reduceIte, Nat.reduceEqDiff, tA]
    generalize hp : (.seq (.block 0 (.seq (.region 5 (rgn Tryz.f30 5) false) (.cond (.tmp 24) (.seq (.region 6 (rgn Tryz.f30 6) false) (.seq (.region 7 (rgn Tryz.f30 7) false) (.seq (.region 8 (rgn Tryz.f30 8) false) (.seq (.region 9 (rgn Tryz.f30 9) false) (.cond (.tmp 43) (.region 10 (rgn Tryz.f30 10) false) (.skip)))))) (.seq (.region 11 (rgn Tryz.f30 11) false) (.cond (.tmp 47) (.seq (.region 12 (rgn Tryz.f30 12) false) (.seq (.region 13 (rgn Tryz.f30 13) false) (.seq (.region 14 (rgn Tryz.f30 14) false) (.seq (.seq (.region 15 (rgn Tryz.f30 15) false) (.cond (.tmp 64) (.seq (.region 16 (rgn Tryz.f30 16) false) (.region 17 (rgn Tryz.f30 17) false)) (.skip))) (.seq (.region 18 (rgn Tryz.f30 18) false) (.cond (.tmp 70) (.region 19 (rgn Tryz.f30 19) false) (.skip))))))) (.seq (.region 20 (rgn Tryz.f30 20) false) (.cond (.tmp 73) (.seq (.region 21 (rgn Tryz.f30 21) false) (.region 22 (rgn Tryz.f30 22) false)) (.region 4 (rgn Tryz.f30 4) false)))))))) (.seq (.seq (.region 23 (rgn Tryz.f30 23) false) (.cond (.tmp 87) (.seq (.region 24 (rgn Tryz.f30 24) false) (.ret)) (.skip))) (.seq (.region 25 (rgn Tryz.f30 25) false) (.ret))) : Code) = p0
    simp (decide := true) only [↓execG_seq, ↓g_region, thenE_norm, ↓r_nil, ↓r_cons, ↓o_move, ↓o_assign, ↓o_alloc, ↓o_build, ↓o_store, ↓o_index, nextE_app, putK_app, putO_app, normK_app, evalE_tmp, evalE_const, upd_some, upd_none, bindO_ok, bindV_ok, reduceIte, map_one, startE_0, startE_1, ↓reg_lit l0, ↓reg_lit l1, ↓reg_lit l2, ↓reg_lit l3, alloc_tok, hH1, build_tok, store_tok g2, hix]
    subst hp
    have fin : ∀ E' G', OutL H (lexI s i) E' G' → ∃ H', Ext H H' ∧ F .ret E' [] G' = some (.ret (lexV (lexI s i)), H') := fun E' G' h => by
      refine ⟨G', h.1, ?_⟩
      obtain ⟨_, h⟩ := h
      cases hq : lexI s i with
      | bad e =>
        rw [hq] at h
        rw [← hF, finE_ret (l := [.agg #[.int .i64 0, .int .u64 0, .string .empty, .int .i64 0, .int .i64 0], .int .i64 (e : Int)]) (by simp (decide := true) [Tryz.f30, resE, h.1, h.2])]; rfl
      | good k =>
        rw [hq] at h
        rw [← hF, finE_ret (l := [.agg k.cells.toArray, .int .i64 (-1)]) (by simp (decide := true) [Tryz.f30, resE, h.1, h.2])]; rfl
    have S0 := startE_0
    by_cases c3 : clsI s[i] = 3
    · exact rl_int (d := d) (Q := fun r => ∃ H', Ext H H' ∧ r = some (.ret (lexV (lexI s i)), H')) K hG h1 hf hi hsm hN (by simp (decide := true) only [upd_some, reduceIte, startE_0]) (by simp (decide := true) only [upd_some, reduceIte, startE_1]) (by simp (decide := true) only [upd_some, reduceIte]) (by simp (decide := true) only [upd_some, reduceIte]) (by simp (decide := true) only [upd_some, reduceIte]) (by simp (decide := true) only [upd_some, reduceIte]) c3 fin
    by_cases c4 : clsI s[i] = 4
    · exact rl_word (d := d) (Q := fun r => ∃ H', Ext H H' ∧ r = some (.ret (lexV (lexI s i)), H')) K hG h1 hf hi hsm hN (by simp (decide := true) only [upd_some, reduceIte, startE_0]) (by simp (decide := true) only [upd_some, reduceIte, startE_1]) (by simp (decide := true) only [upd_some, reduceIte]) (by simp (decide := true) only [upd_some, reduceIte]) (by simp (decide := true) only [upd_some, reduceIte]) (by simp (decide := true) only [upd_some, reduceIte]) c4 fin
    by_cases c5 : clsI s[i] = 5
    · exact rl_text (d := d) (Q := fun r => ∃ H', Ext H H' ∧ r = some (.ret (lexV (lexI s i)), H')) K hG h1 hf hi hsm hN (by simp (decide := true) only [upd_some, reduceIte, startE_0]) (by simp (decide := true) only [upd_some, reduceIte, startE_1]) (by simp (decide := true) only [upd_some, reduceIte]) (by simp (decide := true) only [upd_some, reduceIte]) (by simp (decide := true) only [upd_some, reduceIte]) (by simp (decide := true) only [upd_some, reduceIte]) c5 fin
    exact rl_sign (d := d) (Q := fun r => ∃ H', Ext H H' ∧ r = some (.ret (lexV (lexI s i)), H')) K hG h1 hf hi hsm hN (by simp (decide := true) only [upd_some, reduceIte, startE_0]) (by simp (decide := true) only [upd_some, reduceIte, startE_1]) (by simp (decide := true) only [upd_some, reduceIte]) (by simp (decide := true) only [upd_some, reduceIte]) (by simp (decide := true) only [upd_some, reduceIte]) (by simp (decide := true) only [upd_some, reduceIte]) c3 c4 c5 fin
  obtain ⟨R0, m1, H', m2, m3⟩ := main
  exact ⟨H', m2, m1.trans m3⟩
end Go.Am
/- The reference: all lexemes of a text. -/
open Go.Proofs
namespace Go.Am
theorem TkRow.ext {H H' : Heap} {v : Value} {ts : List Tk} {lo : Nat} (h : TkRow H v ts lo) (x : Ext H H') : TkRow H' v ts lo := by
  rcases h with o | ⟨o1, q, o2, o3, o4⟩
  · exact .inl o
  · exact .inr ⟨o1, q, o2, x.keep _ _ o3, o4⟩
theorem conv_row' {H : Heap} {a : Option Addr} {s : List UInt8} {c : Nat} (h : Brow H a s) : convertA PP 22 9 (.slice a s.length c) H = some (.string ⟨⟨s⟩⟩, H) := by
  simp only [convertA, und34, undStr, undU8, h.bts.str]
theorem row_append {H : Heap} {v : Value} {ts : List Tk} {lo q1 : Nat} (ho : TkRow H v ts lo) (hf : Fresh H) (hlo : lo ≤ H.next) (tk : Tk) (hq : H.get q1 = some ⟨tk.cells, true, 5, none⟩) (hn : ts.length ≤ 1048576) :
    ∃ v' H', appendA PP #[33, 33] v (.slice (some ⟨q1, 0, none⟩) 1 1) H = some (v', H') ∧ TkRow H' v' (ts ++ [tk]) lo ∧ (∀ z w, H.get z = some w → (v = .slice (some ⟨z, 0, none⟩) ts.length ts.length → False) → H'.get z = some w) ∧ H.next ≤ H'.next ∧ Fresh H' := by
  obtain ⟨i, h1, h2, h3⟩ := infoT
  have src : srcCells H 5 (.slice (some ⟨q1, 0, none⟩) 1 1) = some (1, tk.cells) := by simp [srcCells, look, hq, Tk.cells]
  have hA : appendA PP #[33, 33] v (.slice (some ⟨q1, 0, none⟩) 1 1) H = app H 5 48 v 1 tk.cells := by
    simp only [appendA]
    simp [h1, h2, h3, zeroT29, src]
  rw [hA]
  have al : ∀ (G : Heap) (cells : List Value), Fresh G → Fresh (G.alloc 5 cells) := fun G cells hG z hz => by
    have hz' : G.next + 1 ≤ z := hz
    rw [Heap.get_alloc, if_neg (by omega)]; exact hG z (by omega)
  have lt : ∀ z w, H.get z = some w → z < H.next := fun z w hz => by
    by_cases c : H.next ≤ z
    · rw [hf z c] at hz; cases hz
    · omega
  rcases ho with ⟨rfl, rfl⟩ | ⟨hne, q, rfl, hg, hlq⟩
  · refine ⟨_, _, by simp only [app]; rw [if_neg (by decide), if_pos (by decide)]; rfl, .inr ⟨by simp, H.next, rfl, ?_, hlo⟩, fun z w hg _ => ?_, Nat.le_succ _, al _ _ hf⟩
    · rw [Heap.get_alloc, if_pos rfl]; simp
    · have := lt z w hg
      rw [Heap.get_alloc, if_neg (by omega)]; exact hg
  · have hlen : ts.length ≠ 0 := by simpa using hne
    have hl5 := cells_len ts
    have hlk : look H ⟨q, 0, none⟩ = some ⟨ts.flatMap Tk.cells, true, 5, none⟩ := by simp [look, hg]
    have hp : tk.cells.all Value.oneCell' = true := rfl
    have fd : Fresh (H.drop q) := fun z hz => by
      have hz' : H.next ≤ z := hz
      rw [Heap.get_drop]; split
      · rfl
      · exact hf z hz'
    refine ⟨_, (H.drop q).alloc 5 ((ts ++ [tk]).flatMap Tk.cells), ?_, .inr ⟨by simp, H.next, rfl, ?_, hlo⟩, fun z w hg no => ?_, Nat.le_succ _, al (H.drop q) _ fd⟩
    · simp only [app, hlk]
      rw [if_pos ⟨trivial, trivial, by simp only [Nat.zero_add]; rw [hl5]; exact Nat.le_refl _, hp, by unfold most; omega, by unfold most; omega⟩, if_neg (by omega)]
      have e1 : (List.drop 0 (ts.flatMap Tk.cells)).take (ts.length * 5) = ts.flatMap Tk.cells := by rw [List.drop_zero, ← hl5, List.take_length]
      simp only [e1, mkRow, List.flatMap_append, List.length_append, List.length_cons, List.length_nil]
      have e2 : List.flatMap Tk.cells [tk] = tk.cells := by simp
      rw [e2]; rfl
    · rw [Heap.get_alloc]; exact if_pos rfl
    · have := lt z w hg
      have hzq : ¬ z = q := fun e => no (by rw [e])
      rw [Heap.get_alloc, if_neg (by show ¬ z = H.next; omega), Heap.get_drop, if_neg hzq]; exact hg
theorem code9 : codeOf Tryz.f9 = .seq (.region 0 (rgn Tryz.f9 0) false) (.seq (.seq (.region 1 (rgn Tryz.f9 1) false) (.cond (.tmp 12) (.seq (.region 2 (rgn Tryz.f9 2) false) (.ret)) (.skip))) (.seq (.region 3 (rgn Tryz.f9 3) false) (.seq (.region 4 (rgn Tryz.f9 4) false) (.seq (.region 5 (rgn Tryz.f9 5) false) (.seq (.block 0 (.loop (.seq (.seq (.region 6 (rgn Tryz.f9 6) false) (.cond (.tmp 20) (.skip) (.exit 0))) (.block 1 (.seq (.region 7 (rgn Tryz.f9 7) false) (.seq (.seq (.region 8 (rgn Tryz.f9 8) false) (.cond (.tmp 28) (.seq (.region 9 (rgn Tryz.f9 9) false) (.ret)) (.skip))) (.seq (.region 10 (rgn Tryz.f9 10) false) (.region 11 (rgn Tryz.f9 11) false)))))))) (.seq (.region 12 (rgn Tryz.f9 12) false) (.ret))))))) := by kernel_rfl

section
variable {N : Nat} {hk : Hook} {d : Nat} {H0 : Heap} {s : List UInt8} {Q : R → Prop} {k : KOE}
theorem rk_then (K : HkR hk) (hG : Ext GE H0) (hsm : s.length ≤ 1048576) (hN : s.length + 100 < N) :
    ∀ (f i m : Nat) (_ : i ≤ s.length) (_ : s.length ≤ i + f) (_ : f < m) {H : Heap} {E : Env} {v : Value} {ts : List Tk} (_ : Ext H0 H) (_ : TkRow H v ts H0.next) (_ : ts.length ≤ i) (_ : E 5 = .string ⟨⟨s⟩⟩) (_ : E 6 = v) (_ : E 7 = .int .i64 (skipTo s (s.length - i) i : Int))
      (_ : (toksI s (f + 1) i).2 = none → ∀ E' H' v', E' 6 = v' → Ext H0 H' → TkRow H' v' (ts ++ (toksI s (f + 1) i).1) H0.next → Q (k (.exit 0) E' [] H'))
      (_ : ∀ e : Nat, (toksI s (f + 1) i).2 = some e → ∀ E' H', E' 2 = .slice none 0 0 → E' 3 = .int .i64 (e : Int) → E' 4 = .int .i64 60 → Ext H0 H' → Q (k .ret E' [] H')),
      Q (loopE (execG PP XX (CG N hk (d + 3)) N noPr (.seq (.seq (.region 6 (rgn Tryz.f9 6) false) (.cond (.tmp 20) (.skip) (.exit 0))) (.block 1 (.seq (.region 7 (rgn Tryz.f9 7) false) (.seq (.seq (.region 8 (rgn Tryz.f9 8) false) (.cond (.tmp 28) (.seq (.region 9 (rgn Tryz.f9 9) false) (.ret)) (.skip))) (.seq (.region 10 (rgn Tryz.f9 10) false) (.region 11 (rgn Tryz.f9 11) false)))))) none) m E [] H k) := by
  intro f
  induction f with
  | zero =>
    intro i m hi hf hm H E v ts x hr hts e5 e6 e7 hx hy
    obtain ⟨m, rfl⟩ : ∃ q, m = q + 1 := ⟨m - 1, by omega⟩
    have g := skipTo_ge s (s.length - i) i hi
    have hlt : decide ((skipTo s (s.length - i) i : Int) < (s.length : Int)) = false := decide_eq_false (by omega)
    have ht : toksI s (0 + 1) i = ([], none) := by rw [toksI, if_neg (by omega)]
    rw [ht] at hx
    rw [loopE_succ]
    have l6 := tl (rgn Tryz.f9 6)
    conv at l6 => rhs; simp only [rgn, opsAt, codeOf, Tryz.f9, gS, gN, reduceIte, Nat.reduceEqDiff, tA]
    simp (decide := true) only [↓execG_seq, ↓g_region, ↓execG_exit, ↓g_else, thenE_norm, thenE_exit, ↓r_nil, ↓r_cons, ↓o_move, ↓o_binOp, ↓o_builtin, nextE_app, putK_app, putG_bool, normK_app, evalE_tmp, upd_some, bindO_ok, reduceIte, map_one, ↓reg_lit l6, e5, e7, len_str, binA_lss, hlt]
    exact hx rfl _ H v (by simp (decide := true) only [upd_some, reduceIte, e6]) x (by rw [List.append_nil]; exact hr)
  | succ f ih =>
    intro i m hi hf hm H E v ts x hr hts e5 e6 e7 hx hy
    obtain ⟨m, rfl⟩ : ∃ q, m = q + 1 := ⟨m - 1, by omega⟩
    have g := skipTo_ge s (s.length - i) i hi
    rw [loopE_succ]
    have q0 : ∀ (u v : Value), extractA (.tuple #[u, v]) 0 = some u := fun _ _ => rfl
    have q1 : ∀ (u v : Value), extractA (.tuple #[u, v]) 1 = some v := fun _ _ => rfl
    by_cases hp : skipTo s (s.length - i) i < s.length
    · have hlt : decide ((skipTo s (s.length - i) i : Int) < (s.length : Int)) = true := decide_eq_true (by omega)
      obtain ⟨H1, x1, hlex⟩ := call_rlex (N := N) (hk := hk) (d := d) K (hG.trans x) hp hsm (by omega)
      have xa : Ext H1 (H1.alloc 1 [.int .i64 0, .int .u64 0, .string .empty, .int .i64 0, .int .i64 0]) := Ext.alloc x1.fresh 1 _
      have ga : (H1.alloc 1 [.int .i64 0, .int .u64 0, .string .empty, .int .i64 0, .int .i64 0]).get H1.next = some (tok 0 0 .empty 0 0) := by rw [Heap.get_alloc]; exact if_pos rfl
      have l6 := tl (rgn Tryz.f9 6)
      conv at l6 => rhs; simp only [rgn, opsAt, codeOf, Tryz.f9, gS, gN, reduceIte, Nat.reduceEqDiff, tA]
      have l7 := tl (rgn Tryz.f9 7)
      conv at l7 => rhs; simp only [rgn, opsAt, codeOf, Tryz.f9, gS, gN, reduceIte, Nat.reduceEqDiff, tA]
      have l8 := tl (rgn Tryz.f9 8)
      conv at l8 => rhs; simp only [rgn, opsAt, codeOf, Tryz.f9, gS, gN, reduceIte, Nat.reduceEqDiff, tA]
      have l9 := tl (rgn Tryz.f9 9)
      conv at l9 => rhs; simp only [rgn, opsAt, codeOf, Tryz.f9, gS, gN, reduceIte, Nat.reduceEqDiff, tA]
      have l10 := tl (rgn Tryz.f9 10)
      conv at l10 => rhs; simp only [rgn, opsAt, codeOf, Tryz.f9, gS, gN, reduceIte, Nat.reduceEqDiff, tA]
      have l11 := tl (rgn Tryz.f9 11)
      conv at l11 => rhs; simp only [rgn, opsAt, codeOf, Tryz.f9, gS, gN, reduceIte, Nat.reduceEqDiff, tA]
      cases hq : lexI s (skipTo s (s.length - i) i) with
      | bad e =>
        have ht : toksI s (f + 1 + 1) i = ([], some e) := by rw [toksI, if_pos hp, hq]
        rw [ht] at hy
        have hv : lexV (.bad e) = .tuple #[.agg #[.int .i64 0, .int .u64 0, .string .empty, .int .i64 0, .int .i64 0], .int .i64 (e : Int)] := rfl
        rw [hq, hv] at hlex
        have hge : decide ((e : Int) ≥ 0) = true := decide_eq_true (by omega)
        simp (decide := true) only [↓execG_seq, ↓g_region, ↓execG_block, ↓execG_ret, ↓execG_skip, ↓g_if, thenE_norm, thenE_ret, leaveB_ret, ↓r_nil, ↓r_cons, ↓o_move, ↓o_assign, ↓o_alloc, ↓o_store, ↓o_binOp, ↓o_extract, ↓o_builtin, ↓o_callf, nextE_app, putK_app, putO_app, putG_bool, normK_app, evalE_tmp, evalE_const, upd_some, upd_none, bindO_ok, bindV_ok, reduceIte, map_one, map_two, ↓reg_lit l6, ↓reg_lit l7, ↓reg_lit l8, ↓reg_lit l9, e5, e7, len_str, binA_lss, hlt, callK_fn Tryz.func30 rfl rfl hlex, q0, q1, alloc_tok, store_tok ga, binA_geq, hge]
        exact hy e rfl _ _ (by simp (decide := true) only [upd_some, reduceIte]) (by simp (decide := true) only [upd_some, reduceIte]) (by simp (decide := true) only [upd_some, reduceIte]) ((x.trans x1).trans (xa.set (Nat.le_refl _) x1.fresh (by show H1.next < H1.next + 1; omega) _))
      | good tk =>
        obtain ⟨f1, f2, f3⟩ := lexI_good hp hq
        have ht : toksI s (f + 1 + 1) i = (tk :: (toksI s (f + 1) tk.to_).1, (toksI s (f + 1) tk.to_).2) := by rw [toksI, if_pos hp, hq]
        rw [ht] at hx hy
        have hv : lexV (.good tk) = .tuple #[.agg #[.int .i64 tk.kind, .int .u64 tk.n, .string tk.w, .int .i64 (tk.from_ : Int), .int .i64 (tk.to_ : Int)], .int .i64 (-1)] := rfl
        rw [hq, hv] at hlex
        have hge : decide ((-1 : Int) ≥ 0) = false := rfl
        have x2 : Ext H1 ((H1.alloc 1 [.int .i64 0, .int .u64 0, .string .empty, .int .i64 0, .int .i64 0]).set H1.next (tok tk.kind tk.n tk.w (tk.from_ : Int) (tk.to_ : Int))) := xa.set (Nat.le_refl _) x1.fresh (by show H1.next < H1.next + 1; omega) _
        have g2 : ((H1.alloc 1 [.int .i64 0, .int .u64 0, .string .empty, .int .i64 0, .int .i64 0]).set H1.next (tok tk.kind tk.n tk.w (tk.from_ : Int) (tk.to_ : Int))).get H1.next = some (tok tk.kind tk.n tk.w (tk.from_ : Int) (tk.to_ : Int)) := get_self _ _ _
        have m2 : H1.next < ((H1.alloc 1 [.int .i64 0, .int .u64 0, .string .empty, .int .i64 0, .int .i64 0]).set H1.next (tok tk.kind tk.n tk.w (tk.from_ : Int) (tk.to_ : Int))).next := by show H1.next < H1.next + 1; omega
        generalize hH2 : (H1.alloc 1 [.int .i64 0, .int .u64 0, .string .empty, .int .i64 0, .int .i64 0]).set H1.next (tok tk.kind tk.n tk.w (tk.from_ : Int) (tk.to_ : Int)) = H2 at *
        have x3 : Ext H2 (H2.alloc 5 [.int .i64 tk.kind, .int .u64 tk.n, .string tk.w, .int .i64 (tk.from_ : Int), .int .i64 (tk.to_ : Int)]) := Ext.alloc x2.fresh 5 _
        have g3 : (H2.alloc 5 [.int .i64 tk.kind, .int .u64 tk.n, .string tk.w, .int .i64 (tk.from_ : Int), .int .i64 (tk.to_ : Int)]).get H2.next = some ⟨tk.cells, true, 5, none⟩ := by rw [Heap.get_alloc, if_pos rfl]; rfl
        have xx := ((x.trans x1).trans x2).trans x3
        -- the row, and the cell of the lexeme, lie apart
        have hr3 : TkRow (H2.alloc 5 [.int .i64 tk.kind, .int .u64 tk.n, .string tk.w, .int .i64 (tk.from_ : Int), .int .i64 (tk.to_ : Int)]) v ts H0.next := hr.ext ((x1.trans x2).trans x3)
        obtain ⟨v', H7, a1, a2, a3, a4, a5⟩ := row_append hr3 x3.fresh xx.next tk g3 (by omega)
        have xh : Ext H0 H7 := ⟨Nat.le_trans xx.next a4, fun z w hz => by
          have hz0 : z < H0.next := by
            by_cases cz : H0.next ≤ z
            · rw [hG.fresh z cz] at hz; cases hz
            · omega
          exact a3 z w (xx.keep z w hz) (fun q => by
            rcases hr with o | ⟨o1, q', o2, o3, o4⟩
            · rw [o.2] at q; cases q
            · rw [o2] at q
              simp only [Value.slice.injEq, Option.some.injEq, Addr.mk.injEq] at q
              omega), a5⟩
        have g7 : H7.get H1.next = some (tok tk.kind tk.n tk.w (tk.from_ : Int) (tk.to_ : Int)) := a3 _ _ (x3.keep _ _ g2) (fun q => by
            rcases hr with o | ⟨o1, q', o2, o3, o4⟩
            · rw [o.2] at q; cases q
            · rw [o2] at q
              simp only [Value.slice.injEq, Option.some.injEq, Addr.mk.injEq] at q
              have hq' : q' = H1.next := q.1.1
              rw [hq'] at o3
              have := x1.next
              rw [x.fresh H1.next this] at o3
              cases o3)
        have hbl := call_rblank (N := N) (hk := hk) (d := d + 2) (H := H7) (s := s) K.nil f3 (by omega) (by omega)
        simp (decide := true) only [↓execG_seq, ↓g_region, ↓execG_block, ↓execG_skip, ↓g_if, ↓g_else, thenE_norm, leaveB_norm, ↓r_nil, ↓r_cons, ↓o_move, ↓o_assign, ↓o_alloc, ↓o_buildSlice, ↓o_load, ↓o_store, ↓o_binOp, ↓o_fieldAddr, ↓o_extract, ↓o_builtin, ↓o_callf, nextE_app, putK_app, putO_app, putG_bool, normK_app, evalE_tmp, evalE_const, upd_some, upd_none, bindO_ok, bindV_ok, reduceIte, map_one, map_two, ↓reg_lit l6, ↓reg_lit l7, ↓reg_lit l8, ↓reg_lit l10, ↓reg_lit l11, e5, e6, e7, len_str, binA_lss, hlt, callK_fn Tryz.func30 rfl rfl hlex, q0, q1, alloc_tok, store_tok ga, hH2, binA_geq, dF, load_tok g2, bslice_tok, app_builtin, a1, tf4, load_end g7, callK_fn Tryz.func29 rfl rfl hbl]
        refine ih tk.to_ m f3 (by omega) (by omega) xh a2 (by simp only [List.length_append, List.length_cons, List.length_nil]; omega) (by simp (decide := true) only [upd_some, reduceIte, e5]) (by simp (decide := true) only [upd_some, reduceIte, e6]) (by simp (decide := true) only [upd_some, reduceIte, e7]) (fun hn E2 H3 v2 z1 z2 z3 => hx hn E2 H3 v2 z1 z2 ?_) hy
        rw [List.append_assoc] at z3
        exact z3
    · have hlt : decide ((skipTo s (s.length - i) i : Int) < (s.length : Int)) = false := decide_eq_false (by omega)
      have ht : toksI s (f + 1 + 1) i = ([], none) := by rw [toksI, if_neg hp]
      rw [ht] at hx
      have l6 := tl (rgn Tryz.f9 6)
      conv at l6 => rhs; simp only [rgn, opsAt, codeOf, Tryz.f9, gS, gN, reduceIte, Nat.reduceEqDiff, tA]
      simp (decide := true) only [↓execG_seq, ↓g_region, ↓execG_exit, ↓g_else, thenE_norm, thenE_exit, ↓r_nil, ↓r_cons, ↓o_move, ↓o_binOp, ↓o_builtin, nextE_app, putK_app, putG_bool, normK_app, evalE_tmp, upd_some, bindO_ok, reduceIte, map_one, ↓reg_lit l6, e5, e7, len_str, binA_lss, hlt]
      exact hx rfl _ H v (by simp (decide := true) only [upd_some, reduceIte, e6]) x (by rw [List.append_nil]; exact hr)
end
/-- What the reference's 'Tokens' answers, whatever the text. -/
theorem call_rtokens {N : Nat} {hk : Hook} {d : Nat} {H0 : Heap} {a : Option Addr} {c : Nat} {s : List UInt8} (K : HkR hk) (hG : Ext GE H0) (hr : Brow H0 a s) (hN : s.length + 100 < N) (hs : s.length ≤ 1048576) :
    ∃ H', Ext H0 H' ∧ ∃ v e q, CG N hk (d + 4) 9 #[.slice a s.length c] H0 = some (.ret (.tuple #[v, .int .i64 e, .int .i64 q]), H') ∧
      (((toksI s (s.length + 1) 0).2 = none ∧ TkRow H' v (toksI s (s.length + 1) 0).1 H0.next ∧ e = 0 ∧ q = 0) ∨ (∃ w : Nat, (toksI s (s.length + 1) 0).2 = some w ∧ v = .slice none 0 0 ∧ e = (w : Int) ∧ q = 60)) := by
  have main : ∃ R0 : R, CG N hk (d + 4) 9 #[.slice a s.length c] H0 = R0 ∧ ∃ H', Ext H0 H' ∧ ∃ v e q, R0 = some (.ret (.tuple #[v, .int .i64 e, .int .i64 q]), H') ∧
      (((toksI s (s.length + 1) 0).2 = none ∧ TkRow H' v (toksI s (s.length + 1) 0).1 H0.next ∧ e = 0 ∧ q = 0) ∨ (∃ w : Nat, (toksI s (s.length + 1) 0).2 = some w ∧ v = .slice none 0 0 ∧ e = (w : Int) ∧ q = 60)) := by
    refine ⟨_, callG_fn (K.nil _ _ _ rfl) Tryz.func9 (c := codeOf Tryz.f9) rfl rfl rfl (pr := noPr) rfl, ?_⟩
    rw [code9]
    generalize hF : finE PP Tryz.f9 = F
    have hgt : decide ((s.length : Int) > 1048576) = false := decide_eq_false (by omega)
    have hcv := conv_row' (c := c) hr
    have hbl : CG N hk (d + 3) 29 #[.string ⟨⟨s⟩⟩, .int .i64 0] H0 = some (.ret (.int .i64 (skipTo s (s.length - 0) 0 : Int)), H0) := call_rblank (d := d + 2) (i := 0) K.nil (Nat.zero_le _) (by omega) (by omega)
    have l0 := tl (rgn Tryz.f9 0)
    conv at l0 => rhs; simp only [rgn, opsAt, codeOf, Tryz.f9, gS, gN, reduceIte, Nat.reduceEqDiff, tA]
    have l1 := tl (rgn Tryz.f9 1)
    conv at l1 => rhs; simp only [rgn, opsAt, codeOf, Tryz.f9, gS, gN, reduceIte, Nat.reduceEqDiff, tA]
    have l2 := tl (rgn Tryz.f9 2)
    conv at l2 => rhs; simp only [rgn, opsAt, codeOf, Tryz.f9, gS, gN, reduceIte, Nat.reduceEqDiff, tA]
    have l3 := tl (rgn Tryz.f9 3)
    conv at l3 => rhs; simp only [rgn, opsAt, codeOf, Tryz.f9, gS, gN, reduceIte, Nat.reduceEqDiff, tA]
    have l4 := tl (rgn Tryz.f9 4)
    conv at l4 => rhs; simp only [rgn, opsAt, codeOf, Tryz.f9, gS, gN, reduceIte, Nat.reduceEqDiff, tA]
    have l5 := tl (rgn Tryz.f9 5)
    conv at l5 => rhs; simp only [rgn, opsAt, codeOf, Tryz.f9, gS, gN, reduceIte, Nat.reduceEqDiff, tA]
    have l12 := tl (rgn Tryz.f9 12)
    conv at l12 => rhs; simp only [rgn, opsAt, codeOf, Tryz.f9, gS, gN, reduceIte, Nat.reduceEqDiff, tA]
    simp (decide := true) only [↓execG_seq, ↓g_region, ↓execG_block, ↓execG_skip, ↓g_else, thenE_norm, ↓r_nil, ↓r_cons, ↓o_move, ↓o_assign, ↓o_binOp, ↓o_convert, ↓o_builtin, ↓o_callf, nextE_app, putK_app, putG_bool, normK_app, evalE_tmp, evalE_const, upd_some, bindO_ok, bindV_ok, reduceIte, map_one, map_two, startE_0, ↓reg_lit l0, ↓reg_lit l1, ↓reg_lit l3, ↓reg_lit l4, ↓reg_lit l5, ↓execG_loop, len_slice (ts := #[22]) rfl und34, binA_gtr, hgt, hcv, callK_fn Tryz.func29 rfl rfl hbl]
    refine rk_then (d := d) (s := s) (H0 := H0) (v := .slice none 0 0) (ts := []) (Q := fun x => ∃ H', Ext H0 H' ∧ ∃ v e q, x = some (.ret (.tuple #[v, .int .i64 e, .int .i64 q]), H') ∧ (((toksI s (s.length + 1) 0).2 = none ∧ TkRow H' v (toksI s (s.length + 1) 0).1 H0.next ∧ e = 0 ∧ q = 0) ∨ (∃ w : Nat, (toksI s (s.length + 1) 0).2 = some w ∧ v = .slice none 0 0 ∧ e = (w : Int) ∧ q = 60)))
      K hG hs hN s.length 0 N (Nat.zero_le _) (by omega) (by omega) ⟨Nat.le_refl _, fun _ _ h => h, hG.fresh⟩ (.inl ⟨rfl, rfl⟩) (Nat.le_refl _) ?_ ?_ ?_ (fun hn E' H' v' e6 x h => ?_) (fun e he E' H' e2 e3 e4 x => ?_)
    · simp (decide := true) only [upd_some, reduceIte]
    · simp (decide := true) only [upd_some, reduceIte]
    · simp (decide := true) only [upd_some, reduceIte]
    · simp (decide := true) only [↓execG_seq, ↓g_region, ↓execG_ret, thenE_norm, g_leave, ↓r_nil, ↓r_cons, ↓o_move, ↓o_assign, nextE_app, normK_app, evalE_tmp, evalE_const, upd_some, reduceIte, ↓reg_lit l12, e6]
      refine ⟨H', x, v', 0, 0, ?_, .inl ⟨hn, h, rfl, rfl⟩⟩
      rw [← hF, finE_ret (l := [v', .int .i64 0, .int .i64 0]) (by simp (decide := true) [Tryz.f9, resE, upd_some])]
      rfl
    · simp (decide := true) only [thenE_ret, leaveB_ret]
      refine ⟨H', x, .slice none 0 0, (e : Int), 60, ?_, .inr ⟨e, he, rfl, rfl, rfl⟩⟩
      rw [← hF, finE_ret (l := [.slice none 0 0, .int .i64 (e : Int), .int .i64 60]) (by simp (decide := true) [Tryz.f9, resE, e2, e3, e4])]
      rfl
  obtain ⟨R0, m1, H', m2, v, e, q, m3, m4⟩ := main
  exact ⟨H', m2, v, e, q, m1.trans m3, m4⟩
theorem call_rtokens_long {N : Nat} {hk : Hook} {d : Nat} {H0 : Heap} {a : Option Addr} {n c : Nat} (hh : ∀ f args H, okC f = true → hk f args H = none) (hl : 1048576 < n) :
    CG N hk (d + 1) 9 #[.slice a n c] H0 = some (.ret (.tuple #[.slice none 0 0, .int .i64 0, .int .i64 3]), H0) := by
  refine (callG_fn (hh _ _ _ rfl) Tryz.func9 (c := codeOf Tryz.f9) rfl rfl rfl (pr := noPr) rfl).trans ?_
  rw [code9]
  generalize hF : finE PP Tryz.f9 = F
  have hgt : decide ((n : Int) > 1048576) = true := decide_eq_true (by omega)
  have l0 := tl (rgn Tryz.f9 0)
  conv at l0 => rhs; simp only [rgn, opsAt, codeOf, Tryz.f9, gS, gN, reduceIte, Nat.reduceEqDiff, tA]
  have l1 := tl (rgn Tryz.f9 1)
  conv at l1 => rhs; simp only [rgn, opsAt, codeOf, Tryz.f9, gS, gN, reduceIte, Nat.reduceEqDiff, tA]
  have l2 := tl (rgn Tryz.f9 2)
  conv at l2 => rhs; simp only [rgn, opsAt, codeOf, Tryz.f9, gS, gN, reduceIte, Nat.reduceEqDiff, tA]
  simp (decide := true) only [↓execG_seq, ↓g_region, ↓execG_ret, ↓g_if, thenE_norm, thenE_ret, ↓r_nil, ↓r_cons, ↓o_move, ↓o_assign, ↓o_binOp, ↓o_builtin, nextE_app, putK_app, putG_bool, normK_app, evalE_tmp, evalE_const, upd_some, bindO_ok, reduceIte, map_one, startE_0, ↓reg_lit l0, ↓reg_lit l1, ↓reg_lit l2, len_slice (ts := #[22]) rfl und34, binA_gtr, hgt]
  rw [← hF, finE_ret (l := [.slice none 0 0, .int .i64 0, .int .i64 3]) (by simp (decide := true) [Tryz.f9, resE, upd_some])]
  rfl
end Go.Am
/- Two lexemes are compared. -/
open Go.Proofs
namespace Go.Am
theorem pr_und {P : Program} {t : TypeId} {u : TypeDesc} (h : P.underlying t = some u) : pureRun P (Go.underlying t) = some u := by
  simp [Go.underlying, pureRun_bind, pureRun_prog, pureRun_pure, h]

theorem pr_int {P : Program} {t : TypeId} (d : Nat) {k k' : IntKind} (a b : Int) (h : P.underlying t = some (.int k')) : pureRun P (Op.equalIn (d + 1) t (.int k a) (.int k b)) = some (a == b) := by
  simp [Op.equalIn, pureRun_bind, pr_und h, pureRun_pure]
theorem pr_str {P : Program} {t : TypeId} (d : Nat) (a b : ByteArray) (h : P.underlying t = some .string) : pureRun P (Op.equalIn (d + 1) t (.string a) (.string b)) = some (a == b) := by
  simp [Op.equalIn, pureRun_bind, pr_und h, pureRun_pure]
theorem pr_struct {P : Program} (d : Nat) (t : TypeId) (xs ys : Array Value) (ht : P.underlying t = some (.struct (P.fieldsOf t))) (hp : P.stoodInHeld t = false) :
    pureRun P (Op.equalIn (d + 1) t (.agg xs) (.agg ys)) = pureRun P (Op.eqFields d xs ys (P.fieldsOf t).toList) := by
  simp only [Op.equalIn, pureRun_bind, pr_und ht, Option.bind_some, pureRun_prog, hp, Bool.false_eq_true, if_false]
  rw [← Array.forIn_toList]
  generalize (P.fieldsOf t).toList = fs
  clear ht
  induction fs with
  | nil => simp [Op.eqFields, pureRun_pure]
  | cons f fs ih =>
    simp only [List.forIn_cons, Op.eqFields, pureRun_bind]
    split
    · simp only [pureRun_bind]
      generalize pureRun P (part f.type xs f.offset) = r1
      cases r1 with
      | none => rfl
      | some a =>
        simp only [Option.bind_some]
        generalize pureRun P (part f.type ys f.offset) = r2
        cases r2 with
        | none => rfl
        | some b =>
          simp only [Option.bind_some]
          generalize pureRun P (Op.equalIn d f.type a b) = r3
          cases r3 with
          | none => rfl
          | some r =>
            cases r
            · simp [pureRun_pure]
            · simp [pureRun_pure]
              simpa [pureRun_bind] using ih
    · simp only [pureRun_pure, Option.bind_some]
      simpa [pureRun_bind] using ih
theorem pr_agg {P : Program} {t : TypeId} {b : Bool} (ha : aggT P t = some b) : pureRun P (isAgg t) = some b := by
  unfold aggT at ha
  split at ha
  all_goals first
    | (rename_i h; simp [isAgg, pureRun_bind, pr_und h, pureRun_pure]; injection ha with ha; exact ha.symm)
    | cases ha
theorem pr_part {P : Program} {t : TypeId} {cs : Array Value} {off : Nat} {v : Value} (ha : aggT P t = some false) (hv : cs[off]? = some v) : pureRun P (part t cs off) = some v := by
  simp [part, pureRun_bind, pr_agg ha, hv, pureRun_pure]
theorem fieldsTok : PP.fieldsOf 42 = #[{ name := "Kind", type := 3, offset := 0, embedded := false, tag := "", pkgPath := "", byteOffset := 0 }, { name := "N", type := 40, offset := 1, embedded := false, tag := "", pkgPath := "", byteOffset := 8 }, { name := "S", type := 9, offset := 2, embedded := false, tag := "", pkgPath := "", byteOffset := 16 }, { name := "At", type := 3, offset := 3, embedded := false, tag := "", pkgPath := "", byteOffset := 32 }, { name := "End", type := 3, offset := 4, embedded := false, tag := "", pkgPath := "", byteOffset := 40 }] := by kernel_rfl
theorem undTok : PP.underlying 42 = some (.struct (PP.fieldsOf 42)) := by kernel_rfl
theorem stoodTok : PP.stoodInHeld 42 = false := by kernel_rfl
theorem guardTok : PP.eqGuardType PP.depth 42 = false := by kernel_rfl
theorem undI : PP.underlying 3 = some (.int .i64) := Tryz.underlying3
theorem undU : PP.underlying 40 = some (.int .u64) := Tryz.underlying40
theorem aggI : aggT PP 3 = some false := by decide +kernel
theorem aggU : aggT PP 40 = some false := by decide +kernel
theorem binA_toks (o1 o2 : Operand) (k n f e : Int) (w : ByteArray) : binA PP .neq 42 o1 o2 (.agg #[.int .i64 k, .int .u64 n, .string w, .int .i64 f, .int .i64 e]) (.agg #[.int .i64 k, .int .u64 n, .string w, .int .i64 f, .int .i64 e]) = some (.bool false) := by
  unfold binA
  rw [if_pos (by simp [ground, atomic])]
  have heq : pureRun PP (Op.equalIn 10000 42 (.agg #[.int .i64 k, .int .u64 n, .string w, .int .i64 f, .int .i64 e]) (.agg #[.int .i64 k, .int .u64 n, .string w, .int .i64 f, .int .i64 e])) = some true := by
    have p0 : ∀ c : Value, pureRun PP (part 3 #[.int .i64 k, .int .u64 n, .string w, .int .i64 f, .int .i64 e] 0) = some (.int .i64 k) := fun _ => pr_part aggI rfl
    have p1 : pureRun PP (part 40 #[.int .i64 k, .int .u64 n, .string w, .int .i64 f, .int .i64 e] 1) = some (.int .u64 n) := pr_part aggU rfl
    have p2 : pureRun PP (part 9 #[.int .i64 k, .int .u64 n, .string w, .int .i64 f, .int .i64 e] 2) = some (.string w) := pr_part aggS rfl
    have p3 : pureRun PP (part 3 #[.int .i64 k, .int .u64 n, .string w, .int .i64 f, .int .i64 e] 3) = some (.int .i64 f) := pr_part aggI rfl
    have p4 : pureRun PP (part 3 #[.int .i64 k, .int .u64 n, .string w, .int .i64 f, .int .i64 e] 4) = some (.int .i64 e) := pr_part aggI rfl
    have p0 := p0 undef
    have hw : (w == w) = true := by
      obtain ⟨⟨x⟩⟩ := w
      show ((⟨x⟩ : Array UInt8) == ⟨x⟩) = true
      simp
    rw [pr_struct 9999 42 _ _ undTok stoodTok, fieldsTok]
    simp only [Op.eqFields]
    simp [pureRun_bind, p0, p1, p2, p3, p4, pr_int 9998 _ _ undI, pr_int 9998 _ _ undU, pr_str 9998 _ _ undStr, pureRun_pure, hw]
  simp only [eqGuard, pureRun_bind, binOp, Op.equal, Op.maxDepth]
  simp [pureRun_bind, pureRun_prog, pureRun_pure, heq]
end Go.Am
