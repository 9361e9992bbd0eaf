/- A lexeme: all of them. -/
import Derived.Test.YtohmeeglehopiaaDoorS7
import Derived.Test.YtohmeeglehopiaaDoorS3
open Go.Proofs
namespace Go.Am
theorem eq33 : (((3 : Int)) == 3) = true := rfl
theorem eq53 : (((5 : Int)) == 3) = false := rfl
theorem eq54 : (((5 : Int)) == 4) = false := rfl
theorem eq55 : (((5 : Int)) == 5) = true := rfl
theorem lex_int {N : Nat} {hk : Hook} {d : Nat} {H H' : Heap} {a : Option Addr} {c : Nat} {s : List UInt8} {b t i : Nat} {v : Value} {k0 n0 f0 t0 : Int} {w : ByteArray} (x : Ctx H a c s b) (hb : H.get b = some (cur a s.length c i)) (ht : H.get t = some (tok k0 n0 w f0 t0)) (hi : i < s.length) (hcl : clsI s[i] = 3) (hh : ∀ f args H, okC f = true → hk f args H = none)
    (hr : CG N hk (d + 1) 39 #[.pointer (some ⟨b, 0, none⟩), .pointer (some ⟨t, 0, none⟩)] (H.set t (tok 2 n0 w f0 t0)) = some (.ret v, H')) :
    CG N hk (d + 2) 25 #[.pointer (some ⟨b, 0, none⟩), .pointer (some ⟨t, 0, none⟩)] H = some (.ret v, H') := by
  refine (callG_fn (hh _ _ _ rfl) Tryd.func25 (c := codeOf Tryd.f25) rfl rfl rfl (pr := noPr) rfl).trans ?_
  rw [code25]
  generalize hF : finE PP Tryd.f25 = F
  have hcls := call_cls (N := N) (hk := hk) (d := d) x.gg s[i] (fun _ _ => hh _ _ _ rfl)
  rw [hcl] at hcls
  obtain ⟨y, rfl, hl⟩ := x.row.bts.cell i hi
  have hix := index_row (n := s.length) (c := c) (a := y) hi
  have l0 := tl (rgn Tryd.f25 0)
  conv at l0 => rhs; simp only [rgn, opsAt, codeOf, Tryd.f25, gS, gN, reduceIte, Nat.reduceEqDiff, tA]
  have l1 := tl (rgn Tryd.f25 1)
  conv at l1 => rhs; simp only [rgn, opsAt, codeOf, Tryd.f25, gS, gN, reduceIte, Nat.reduceEqDiff, tA]
  have l2 := tl (rgn Tryd.f25 2)
  conv at l2 => rhs; simp only [rgn, opsAt, codeOf, Tryd.f25, gS, gN, reduceIte, Nat.reduceEqDiff, tA]
  have l3 := tl (rgn Tryd.f25 3)
  conv at l3 => rhs; simp only [rgn, opsAt, codeOf, Tryd.f25, gS, gN, reduceIte, Nat.reduceEqDiff, tA]
  have l4 := tl (rgn Tryd.f25 4)
  conv at l4 => rhs; simp only [rgn, opsAt, codeOf, Tryd.f25, gS, gN, reduceIte, Nat.reduceEqDiff, tA]
  simp (decide := true) only [↓execG_seq, ↓g_region, ↓execG_block, ↓execG_ret, ↓g_if, thenE_norm, thenE_ret, leaveB_ret, ↓r_nil, ↓r_cons, ↓o_move, ↓o_assign, ↓o_load, ↓o_store, ↓o_nilCheck, ↓o_binOp, ↓o_fieldAddr, ↓o_indexAddr, ↓o_callf, nextE_app, putK_app, putO_app, putG_bool, normK_app, nilCheckA_ok, evalE_tmp, evalE_const, upd_some, upd_none, bindO_ok, bindV_ok, reduceIte, map_one, map_two, startE_0, startE_1, ↓reg_lit l0, ↓reg_lit l1, ↓reg_lit l2, ↓reg_lit l3, ↓reg_lit l4, fld0, fld1, load_src hb, load_at hb, hix, load_byte hl, callK_fn Tryd.func26 rfl rfl hcls, binA_eql, eq33, tf0, store_kind ht, callK_fn Tryd.func39 rfl rfl hr]
  rw [← hF, finE_ret (l := [v]) (by simp (decide := true) [Tryd.f25, resE, upd_some])]
  rfl

theorem lex_text {N : Nat} {hk : Hook} {d : Nat} {H H' : Heap} {a : Option Addr} {c : Nat} {s : List UInt8} {b t i : Nat} {v : Value} {k0 n0 f0 t0 : Int} {w : ByteArray} (x : Ctx H a c s b) (hb : H.get b = some (cur a s.length c i)) (ht : H.get t = some (tok k0 n0 w f0 t0)) (hi : i < s.length) (hcl : clsI s[i] = 5) (hh : ∀ f args H, okC f = true → hk f args H = none)
    (hr : CG N hk (d + 1) 41 #[.pointer (some ⟨b, 0, none⟩), .pointer (some ⟨t, 0, none⟩)] (H.set t (tok 3 n0 w f0 t0)) = some (.ret v, H')) :
    CG N hk (d + 2) 25 #[.pointer (some ⟨b, 0, none⟩), .pointer (some ⟨t, 0, none⟩)] H = some (.ret v, H') := by
  refine (callG_fn (hh _ _ _ rfl) Tryd.func25 (c := codeOf Tryd.f25) rfl rfl rfl (pr := noPr) rfl).trans ?_
  rw [code25]
  generalize hF : finE PP Tryd.f25 = F
  have hcls := call_cls (N := N) (hk := hk) (d := d) x.gg s[i] (fun _ _ => hh _ _ _ rfl)
  rw [hcl] at hcls
  obtain ⟨y, rfl, hl⟩ := x.row.bts.cell i hi
  have hix := index_row (n := s.length) (c := c) (a := y) hi
  have l0 := tl (rgn Tryd.f25 0)
  conv at l0 => rhs; simp only [rgn, opsAt, codeOf, Tryd.f25, gS, gN, reduceIte, Nat.reduceEqDiff, tA]
  have l1 := tl (rgn Tryd.f25 1)
  conv at l1 => rhs; simp only [rgn, opsAt, codeOf, Tryd.f25, gS, gN, reduceIte, Nat.reduceEqDiff, tA]
  have l2 := tl (rgn Tryd.f25 2)
  conv at l2 => rhs; simp only [rgn, opsAt, codeOf, Tryd.f25, gS, gN, reduceIte, Nat.reduceEqDiff, tA]
  have l5 := tl (rgn Tryd.f25 5)
  conv at l5 => rhs; simp only [rgn, opsAt, codeOf, Tryd.f25, gS, gN, reduceIte, Nat.reduceEqDiff, tA]
  have l7 := tl (rgn Tryd.f25 7)
  conv at l7 => rhs; simp only [rgn, opsAt, codeOf, Tryd.f25, gS, gN, reduceIte, Nat.reduceEqDiff, tA]
  have l8 := tl (rgn Tryd.f25 8)
  conv at l8 => rhs; simp only [rgn, opsAt, codeOf, Tryd.f25, gS, gN, reduceIte, Nat.reduceEqDiff, tA]
  have l9 := tl (rgn Tryd.f25 9)
  conv at l9 => rhs; simp only [rgn, opsAt, codeOf, Tryd.f25, gS, gN, reduceIte, Nat.reduceEqDiff, tA]
  simp (decide := true) only [↓execG_seq, ↓g_region, ↓execG_block, ↓execG_ret, ↓g_if, ↓g_else, thenE_norm, thenE_ret, leaveB_ret, ↓r_nil, ↓r_cons, ↓o_move, ↓o_assign, ↓o_load, ↓o_store, ↓o_nilCheck, ↓o_binOp, ↓o_fieldAddr, ↓o_indexAddr, ↓o_callf, nextE_app, putK_app, putO_app, putG_bool, normK_app, nilCheckA_ok, evalE_tmp, evalE_const, upd_some, upd_none, bindO_ok, bindV_ok, reduceIte, map_one, map_two, startE_0, startE_1, ↓reg_lit l0, ↓reg_lit l1, ↓reg_lit l2, ↓reg_lit l5, ↓reg_lit l7, ↓reg_lit l8, ↓reg_lit l9, fld0, fld1, load_src hb, load_at hb, hix, load_byte hl, callK_fn Tryd.func26 rfl rfl hcls, binA_eql, eq53, eq54, eq55, tf0, store_kind ht, callK_fn Tryd.func41 rfl rfl hr]
  rw [← hF, finE_ret (l := [v]) (by simp (decide := true) [Tryd.f25, resE, upd_some])]
  rfl

theorem lex_none {N : Nat} {hk : Hook} {d : Nat} {H : Heap} {a : Option Addr} {c : Nat} {s : List UInt8} {b t i : Nat} (x : Ctx H a c s b) (hb : H.get b = some (cur a s.length c i)) (hi : i < s.length) (h3 : ¬ clsI s[i] = 3) (h4 : ¬ clsI s[i] = 4) (h5 : ¬ clsI s[i] = 5) (h6 : ¬ clsI s[i] = 6) (hh : ∀ f args H, okC f = true → hk f args H = none) :
    CG N hk (d + 2) 25 #[.pointer (some ⟨b, 0, none⟩), .pointer (some ⟨t, 0, none⟩)] H = some (.ret (.bool false), H) := by
  refine (callG_fn (hh _ _ _ rfl) Tryd.func25 (c := codeOf Tryd.f25) rfl rfl rfl (pr := noPr) rfl).trans ?_
  rw [code25]
  generalize hF : finE PP Tryd.f25 = F
  have hcls := call_cls (N := N) (hk := hk) (d := d) x.gg s[i] (fun _ _ => hh _ _ _ rfl)
  have z3 : (clsI s[i] == 3) = false := by simp [h3]
  have z4 : (clsI s[i] == 4) = false := by simp [h4]
  have z5 : (clsI s[i] == 5) = false := by simp [h5]
  have z6 : (clsI s[i] == 6) = false := by simp [h6]
  obtain ⟨y, rfl, hl⟩ := x.row.bts.cell i hi
  have hix := index_row (n := s.length) (c := c) (a := y) hi
  have l0 := tl (rgn Tryd.f25 0)
  conv at l0 => rhs; simp only [rgn, opsAt, codeOf, Tryd.f25, gS, gN, reduceIte, Nat.reduceEqDiff, tA]
  have l1 := tl (rgn Tryd.f25 1)
  conv at l1 => rhs; simp only [rgn, opsAt, codeOf, Tryd.f25, gS, gN, reduceIte, Nat.reduceEqDiff, tA]
  have l2 := tl (rgn Tryd.f25 2)
  conv at l2 => rhs; simp only [rgn, opsAt, codeOf, Tryd.f25, gS, gN, reduceIte, Nat.reduceEqDiff, tA]
  have l5 := tl (rgn Tryd.f25 5)
  conv at l5 => rhs; simp only [rgn, opsAt, codeOf, Tryd.f25, gS, gN, reduceIte, Nat.reduceEqDiff, tA]
  have l7 := tl (rgn Tryd.f25 7)
  conv at l7 => rhs; simp only [rgn, opsAt, codeOf, Tryd.f25, gS, gN, reduceIte, Nat.reduceEqDiff, tA]
  have l10 := tl (rgn Tryd.f25 10)
  conv at l10 => rhs; simp only [rgn, opsAt, codeOf, Tryd.f25, gS, gN, reduceIte, Nat.reduceEqDiff, tA]
  have l12 := tl (rgn Tryd.f25 12)
  conv at l12 => rhs; simp only [rgn, opsAt, codeOf, Tryd.f25, gS, gN, reduceIte, Nat.reduceEqDiff, tA]
  simp (decide := true) only [↓execG_seq, ↓g_region, ↓execG_block, ↓execG_ret, ↓execG_skip, ↓g_else, thenE_norm, leaveB_norm, ↓r_nil, ↓r_cons, ↓o_move, ↓o_assign, ↓o_load, ↓o_nilCheck, ↓o_binOp, ↓o_fieldAddr, ↓o_indexAddr, ↓o_callf, nextE_app, putK_app, putO_app, putG_bool, normK_app, nilCheckA_ok, evalE_tmp, evalE_const, upd_some, bindO_ok, bindV_ok, reduceIte, map_one, startE_0, ↓reg_lit l0, ↓reg_lit l1, ↓reg_lit l2, ↓reg_lit l5, ↓reg_lit l7, ↓reg_lit l10, ↓reg_lit l12, fld0, fld1, load_src hb, load_at hb, hix, load_byte hl, callK_fn Tryd.func26 rfl rfl hcls, binA_eql, z3, z4, z5, z6]
  rw [← hF, finE_ret (l := [.bool false]) (by simp (decide := true) [Tryd.f25, resE, upd_some])]
  rfl
/-- What stands at a place. -/
inductive LR where
  | bad (e : Nat)
  | good (k : Tk)
def wordI (s : List UInt8) (i : Nat) : LR :=
  if runTo s (s.length - i) i ≤ i + 32 then .good ⟨(wordKT ((s.drop i).take (runTo s (s.length - i) i - i))).1, 0, ⟨⟨(wordKT ((s.drop i).take (runTo s (s.length - i) i - i))).2⟩⟩, i, runTo s (s.length - i) i⟩ else .bad (i + 32)
def signI (s : List UInt8) (i : Nat) : LR :=
  if (signR ((s.getD i 0).toNat : Int) (nextB s i)).1 = 0 then .bad (i + (signR ((s.getD i 0).toNat : Int) (nextB s i)).2) else .good ⟨(signR ((s.getD i 0).toNat : Int) (nextB s i)).1, 0, .empty, i, i + (signR ((s.getD i 0).toNat : Int) (nextB s i)).2⟩
def lexI (s : List UInt8) (i : Nat) : LR :=
  if clsI (s.getD i 0) = 3 then (match intI s i with | .bad e => .bad e | .good n e => .good ⟨2, (n : Int), .empty, i, e⟩)
  else if clsI (s.getD i 0) = 4 then wordI s i
  else if clsI (s.getD i 0) = 5 then (match textI s (s.length - i) i [] with | .bad e => .bad e | .good w e => .good ⟨3, 0, ⟨⟨w⟩⟩, i, e⟩)
  else if clsI (s.getD i 0) = 6 then signI s i
  else .bad i
/-- What is asked of the functions that are looked up. -/
structure HkOk (hk : Hook) : Prop where
  nil : ∀ f args H, okC f = true → hk f args H = none
  single : ∀ (u : UInt8) H, Ext GE H → hk 57 #[.int .u8 (u.toNat : Int)] H = some (some (.ret (.int .i64 (singleT u.toNat)), H))
  hex : ∀ (u : UInt8) H, Ext GE H → hk 55 #[.int .u8 (u.toNat : Int)] H = some (some (.ret (.int .u64 (hexT u.toNat)), H))
  mul : ∀ x y H, x < m64 → y < m64 → hk 73 #[.int .u64 ((x : Nat) : Int), .int .u64 ((y : Nat) : Int)] H = some (some (.ret (mulV x y), H))
  fields : ∀ H, Ext GE H → hk 36 #[strV wordsB] H = some (some (.ret (.slice (some ⟨H.next, 0, none⟩) 50 50), H.alloc 1 wordsV))
theorem clsI_of (s : List UInt8) {i : Nat} (hi : i < s.length) : s.getD i 0 = s[i] := by simp [List.getD, hi]
set_option maxRecDepth 100000 in
/-- The lexeme at a place, whatever the text. -/
theorem lex_any {N : Nat} {hk : Hook} {d : Nat} {a : Option Addr} {c : Nat} {s : List UInt8} (K : HkOk hk) (hN : 2 * s.length + 100 < N) (hs : s.length ≤ 1048576) (hc : s.length ≤ c) {i : Nat} (hi : i < s.length) :
    (∀ tk, lexI s i = .good tk → LexOk N hk (d + 4) a c s tk) ∧ (∀ e, lexI s i = .bad e → LexBad N hk (d + 4) a c s i e) := by
  have hgd := clsI_of s hi
  unfold lexI
  rw [hgd]
  by_cases c3 : clsI s[i] = 3
  · rw [if_pos c3]
    have key : ∀ H b t, Ctx H a c s b → H.get b = some (cur a s.length c i) → H.get t = some (tok 0 0 .empty (i : Int) 0) → t ≠ b → t < H.next → GE.next ≤ t → (∀ q, a = some q → q.block ≠ t) →
        ∃ E' H', Fin (H.set t (tok 2 0 .empty (i : Int) 0)) a s.length c b t 2 .empty (i : Int) 0 (intI s i) E' H' ∧ CG N hk (d + 4) 25 #[.pointer (some ⟨b, 0, none⟩), .pointer (some ⟨t, 0, none⟩)] H = some (.ret (E' 4), H') := fun H b t x hb ht hbt htl htg hrt => by
      have two : Two H (H.set t (tok 2 0 .empty (i : Int) 0)) b (cur a s.length c i) t (tok 2 0 .empty (i : Int) 0) := (Curs.two ⟨rfl, hb, fun _ _ => rfl⟩ hbt ht).set hbt _
      have x1 : Ctx (H.set t (tok 2 0 .empty (i : Int) 0)) a c s b := ⟨two.gg x htl htg, x.low, x.lt, two.row x hrt, x.ne⟩
      obtain ⟨E', H', h1, v, h2, h3⟩ := call_int (Q := fun _ => True) (k := fun _ _ _ _ => none) (N := N) (hk := hk) (d := d) (H := H.set t (tok 2 0 .empty (i : Int) 0)) x1 hbt two.two K.nil htl htg hrt K.mul K.hex ⟨rfl, two.one, fun _ _ => rfl⟩ hi (by omega)
      refine ⟨E', H', h1, ?_⟩
      rw [h2]
      exact lex_int (d := d + 2) x hb ht hi c3 K.nil h3
    refine ⟨fun tk h => ?_, fun e h => ?_⟩
    · intro H b t x hb ht hbt htl htg hrt
      cases hq : intI s i with
      | bad e => rw [hq] at h; cases h
      | good n e =>
        rw [hq] at h
        injection h with h
        subst h
        obtain ⟨E', H', h1, h2⟩ := key H b t x hb ht hbt htl htg hrt
        rw [hq] at h1
        obtain ⟨g1, g2⟩ := h1
        rw [g1] at h2
        have l1 : Lexd H (H.set t (tok 2 0 .empty (i : Int) 0)) b (cur a s.length c i) t (tok 2 0 .empty (i : Int) 0) := (((Curs.two ⟨rfl, hb, fun _ _ => rfl⟩ hbt ht).set hbt _).lexd x.gg.fresh x.lt htl)
        exact ⟨H', l1.trans (g2.lexd l1.fresh x.lt htl), h2⟩
    · intro H b t x hb ht hbt htl htg hrt
      cases hq : intI s i with
      | good n e => rw [hq] at h; cases h
      | bad e' =>
        rw [hq] at h
        injection h with h
        subst h
        obtain ⟨E', H', h1, h2⟩ := key H b t x hb ht hbt htl htg hrt
        rw [hq] at h1
        obtain ⟨g1, y, g2⟩ := h1
        rw [g1] at h2
        have l1 : Lexd H (H.set t (tok 2 0 .empty (i : Int) 0)) b (cur a s.length c i) t (tok 2 0 .empty (i : Int) 0) := (((Curs.two ⟨rfl, hb, fun _ _ => rfl⟩ hbt ht).set hbt _).lexd x.gg.fresh x.lt htl)
        exact ⟨H', y, l1.trans (g2.lexd l1.fresh x.lt htl), h2⟩
  rw [if_neg c3]
  by_cases c4 : clsI s[i] = 4
  · rw [if_pos c4]
    unfold wordI
    by_cases hl : runTo s (s.length - i) i ≤ i + 32
    · rw [if_pos hl]
      refine ⟨fun tk h => ?_, fun e h => (by cases h)⟩
      injection h with h
      subst h
      intro H b t x hb ht hbt htl htg hrt
      have hb : H.get b = some (cur a s.length c i) := hb
      have ht : H.get t = some (tok 0 0 .empty (i : Int) 0) := ht
      obtain ⟨H', h1, h2⟩ := call_word2 (N := N) (hk := hk) (d := d) (H0 := H) (H := H) x ⟨rfl, hb, fun _ _ => rfl⟩ hbt htl ht K.nil hi hc (by omega) (by omega) rfl hl _ rfl K.fields
      exact ⟨H', h1, lex_word (d := d + 2) x hb hi c4 K.nil h2⟩
    · rw [if_neg hl]
      refine ⟨fun tk h => (by cases h), fun e h => ?_⟩
      injection h with h
      subst h
      intro H b t x hb ht hbt htl htg hrt
      obtain ⟨H', h1, h2⟩ := call_long (N := N) (hk := hk) (d := d) (t := t) (H0 := H) (H := H) x ⟨rfl, hb, fun _ _ => rfl⟩ K.nil hi (by omega) (by omega)
      exact ⟨H', _, (h1.two hbt ht).lexd x.gg.fresh x.lt htl, lex_word (d := d + 2) x hb hi c4 K.nil h2⟩
  rw [if_neg c4]
  by_cases c5 : clsI s[i] = 5
  · rw [if_pos c5]
    have key : ∀ H b t, Ctx H a c s b → H.get b = some (cur a s.length c i) → H.get t = some (tok 0 0 .empty (i : Int) 0) → t ≠ b → t < H.next → GE.next ≤ t → (∀ q, a = some q → q.block ≠ t) →
        ∃ E' H', FinT (H.set t (tok 3 0 .empty (i : Int) 0)) a s.length c b t 3 0 (i : Int) 0 (textI s (s.length - i) i []) E' H' ∧ CG N hk (d + 4) 25 #[.pointer (some ⟨b, 0, none⟩), .pointer (some ⟨t, 0, none⟩)] H = some (.ret (E' 4), H') := fun H b t x hb ht hbt htl htg hrt => by
      have two : Two H (H.set t (tok 3 0 .empty (i : Int) 0)) b (cur a s.length c i) t (tok 3 0 .empty (i : Int) 0) := (Curs.two ⟨rfl, hb, fun _ _ => rfl⟩ hbt ht).set hbt _
      have x1 : Ctx (H.set t (tok 3 0 .empty (i : Int) 0)) a c s b := ⟨two.gg x htl htg, x.low, x.lt, two.row x hrt, x.ne⟩
      obtain ⟨E', H', h1, v, h2, h3⟩ := call_text (N := N) (hk := hk) (d := d) (H := H.set t (tok 3 0 .empty (i : Int) 0)) x1 two.one hbt two.two K.hex (by omega) hs hi K.nil
      refine ⟨E', H', h1, ?_⟩
      rw [h2]
      exact lex_text (d := d + 2) x hb ht hi c5 K.nil h3
    refine ⟨fun tk h => ?_, fun e h => ?_⟩
    · intro H b t x hb ht hbt htl htg hrt
      cases hq : textI s (s.length - i) i [] with
      | bad e => rw [hq] at h; cases h
      | good w e =>
        rw [hq] at h
        injection h with h
        subst h
        obtain ⟨E', H', h1, h2⟩ := key H b t x hb ht hbt htl htg hrt
        rw [hq] at h1
        obtain ⟨g1, g2⟩ := h1
        rw [g1] at h2
        have l1 : Lexd H (H.set t (tok 3 0 .empty (i : Int) 0)) b (cur a s.length c i) t (tok 3 0 .empty (i : Int) 0) := (((Curs.two ⟨rfl, hb, fun _ _ => rfl⟩ hbt ht).set hbt _).lexd x.gg.fresh x.lt htl)
        exact ⟨H', l1.trans g2, h2⟩
    · intro H b t x hb ht hbt htl htg hrt
      cases hq : textI s (s.length - i) i [] with
      | good w e => rw [hq] at h; cases h
      | bad e' =>
        rw [hq] at h
        injection h with h
        subst h
        obtain ⟨E', H', h1, h2⟩ := key H b t x hb ht hbt htl htg hrt
        rw [hq] at h1
        obtain ⟨g1, v, o, g2⟩ := h1
        rw [g1] at h2
        have l1 : Lexd H (H.set t (tok 3 0 .empty (i : Int) 0)) b (cur a s.length c i) t (tok 3 0 .empty (i : Int) 0) := (((Curs.two ⟨rfl, hb, fun _ _ => rfl⟩ hbt ht).set hbt _).lexd x.gg.fresh x.lt htl)
        have l2 : Lexd (H.set t (tok 3 0 .empty (i : Int) 0)) H' b (cur a s.length c e') t (tok 3 0 .empty (i : Int) 0) := ⟨g2.next, g2.here, g2.there t _ hbt l1.two, fun z w z1 z2 z3 => g2.there z w z1 z3, g2.fresh⟩
        exact ⟨H', _, l1.trans l2, h2⟩
  rw [if_neg c5]
  by_cases c6 : clsI s[i] = 6
  · rw [if_pos c6]
    have key : ∀ H b t, Ctx H a c s b → H.get b = some (cur a s.length c i) → H.get t = some (tok 0 0 .empty (i : Int) 0) → t ≠ b → t < H.next → GE.next ≤ t → (∀ q, a = some q → q.block ≠ t) → _ := fun H b t x hb ht hbt htl htg hrt =>
      call_sign (N := N) (hk := hk) (d := d + 1) x hb ht hbt htl htg hrt hi K.nil (by omega) K.single
    unfold signI
    rw [hgd]
    by_cases hz : (signR (s[i].toNat : Int) (nextB s i)).1 = 0
    · rw [if_pos hz]
      refine ⟨fun tk h => (by cases h), fun e h => ?_⟩
      injection h with h
      subst h
      intro H b t x hb ht hbt htl htg hrt
      obtain ⟨H', h1, h2⟩ := key H b t x hb ht hbt htl htg hrt
      have e : ((signR (s[i].toNat : Int) (nextB s i)).1 != 0) = false := by simp [hz]
      rw [e] at h2
      exact ⟨H', _, h1, lex_sign (d := d + 2) x hb hi c6 K.nil h2⟩
    · rw [if_neg hz]
      refine ⟨fun tk h => ?_, fun e h => (by cases h)⟩
      injection h with h
      subst h
      intro H b t x hb ht hbt htl htg hrt
      obtain ⟨H', h1, h2⟩ := key H b t x hb ht hbt htl htg hrt
      have e : ((signR (s[i].toNat : Int) (nextB s i)).1 != 0) = true := by simp [hz]
      rw [e] at h2
      exact ⟨H', h1, lex_sign (d := d + 2) x hb hi c6 K.nil h2⟩
  rw [if_neg c6]
  refine ⟨fun tk h => (by cases h), fun e h => ?_⟩
  injection h with h
  subst h
  intro H b t x hb ht hbt htl htg hrt
  exact ⟨H, _, ⟨Nat.le_refl _, hb, ht, fun z w _ _ hz => hz, x.gg.fresh⟩, lex_none (d := d + 2) x hb hi c3 c4 c5 c6 K.nil⟩
end Go.Am
/- Tokens, for all texts. -/
open Go.Proofs
namespace Go.Am
theorem isI_lt {s : List UInt8} {i : Nat} {q : Int} (h : isI s i q = true) : i < s.length := by
  unfold isI at h
  simp only [Bool.and_eq_true, decide_eq_true_eq] at h
  exact h.1
theorem skipTo_ge (s : List UInt8) : ∀ n i, i ≤ s.length → i ≤ skipTo s n i ∧ skipTo s n i ≤ s.length
  | 0, i, h => by simp [skipTo]; exact h
  | n + 1, i, h => by
    unfold skipTo
    split
    · rename_i h1
      have := skipTo_ge s n (i + 1) (isI_lt h1)
      omega
    · split
      · have l := lineEnd_ge s (s.length - i) i
        have := skipTo_ge s n (lineEnd s (s.length - i) i) (by omega)
        omega
      · omega
theorem endI_good {s : List UInt8} {i n m e : Nat} (h : endI s i n = .good m e) : e = i := by
  unfold endI at h
  split at h
  · cases h
  · injection h with h1 h2; exact h2.symm
theorem mulI_good {s : List UInt8} {i n f m e : Nat} (h : mulI s i n f = .good m e) : e = i + 1 := by
  unfold mulI at h
  split at h
  · exact endI_good h
  · cases h
theorem sufI_good {s : List UInt8} {i n m e : Nat} (hi : i ≤ s.length) (h : sufI s i n = .good m e) : i ≤ e ∧ e ≤ s.length := by
  unfold sufI at h
  split at h
  · rename_i h4
    have := isI_lt h4
    split at h
    · have := mulI_good h; omega
    · split at h
      · have := mulI_good h; omega
      · cases h
  · have := endI_good h; omega
theorem decI_good {s : List UInt8} : ∀ (f i n m e : Nat), i ≤ s.length → decI s f i n = .good m e → i ≤ e ∧ e ≤ s.length
  | 0, i, n, m, e, hi, h => sufI_good hi h
  | f + 1, i, n, m, e, hi, h => by
    unfold decI at h
    split at h
    · rename_i h3
      have := isI_lt h3
      split at h
      · have := decI_good f (i + 1) _ m e (by omega) h
        omega
      · cases h
    · exact sufI_good hi h
theorem hexI_good {s : List UInt8} {fr : Nat} : ∀ (f i n m e : Nat), i + f ≤ s.length → hexI s fr f i n = .good m e → i ≤ e ∧ e ≤ s.length
  | 0, i, n, m, e, hi, h => by
    unfold hexI endH at h
    split at h
    · cases h
    · exact sufI_good (by omega) h
  | f + 1, i, n, m, e, hi, h => by
    unfold hexI at h
    split at h
    · split at h
      · have := hexI_good f (i + 1) _ m e (by omega) h
        omega
      · cases h
    · unfold endH at h
      split at h
      · cases h
      · exact sufI_good (by omega) h
theorem decI_first {s : List UInt8} {i n m e : Nat} (hi : i < s.length) (h3 : isI s i 3 = true) (h : decI s (s.length - i) i n = .good m e) : i < e ∧ e ≤ s.length := by
  obtain ⟨f, hf⟩ : ∃ f, s.length - i = f + 1 := ⟨s.length - i - 1, by omega⟩
  rw [hf] at h
  unfold decI at h
  rw [if_pos h3] at h
  split at h
  · have := decI_good f (i + 1) _ m e (by omega) h
    omega
  · cases h
theorem intI_good {s : List UInt8} {i m e : Nat} (hi : i < s.length) (h3 : isI s i 3 = true) (h : intI s i = .good m e) : i < e ∧ e ≤ s.length := by
  unfold intI at h
  split at h
  · rename_i hq
    by_cases h2 : i + 2 ≤ s.length
    · have := hexI_good (s.length - (i + 2)) (i + 2) 0 m e (by omega) h
      omega
    · omega
  · exact decI_first hi h3 h
theorem textI_good {s : List UInt8} : ∀ (k i : Nat) (o w : List UInt8) (e : Nat), i < s.length → textI s k i o = .good w e → i < e ∧ e ≤ s.length
  | 0, i, o, w, e, hi, h => by cases h
  | k + 1, i, o, w, e, hi, h => by
    have g0 : ∀ j, s.length ≤ j → s.getD j 0 = 0 := fun j hj => by simp [List.getD, List.getElem?_eq_none hj]
    have hz : hexT (0 : UInt8).toNat = 16 := by decide
    unfold textI at h
    by_cases hj : i + 1 = s.length
    · rw [if_pos hj] at h; cases h
    rw [if_neg hj] at h
    by_cases c34 : s.getD (i + 1) 0 = 34
    · rw [if_pos c34] at h
      injection h with h1 h2
      omega
    rw [if_neg c34] at h
    by_cases c92 : s.getD (i + 1) 0 = 92
    · rw [if_pos c92] at h
      by_cases hj2 : i + 2 = s.length
      · rw [if_pos hj2] at h; cases h
      rw [if_neg hj2] at h
      by_cases c110 : s.getD (i + 2) 0 = 110
      · rw [if_pos c110] at h
        have := textI_good k (i + 2) _ w e (by omega) h; omega
      rw [if_neg c110] at h
      by_cases c116 : s.getD (i + 2) 0 = 116
      · rw [if_pos c116] at h
        have := textI_good k (i + 2) _ w e (by omega) h; omega
      rw [if_neg c116] at h
      by_cases d34 : s.getD (i + 2) 0 = 34
      · rw [if_pos d34] at h
        have := textI_good k (i + 2) _ w e (by omega) h; omega
      rw [if_neg d34] at h
      by_cases d92 : s.getD (i + 2) 0 = 92
      · rw [if_pos d92] at h
        have := textI_good k (i + 2) _ w e (by omega) h; omega
      rw [if_neg d92] at h
      by_cases d120 : s.getD (i + 2) 0 = 120
      · rw [if_pos d120] at h
        by_cases n1 : i + 3 = s.length ∨ hexT (s.getD (i + 3) 0).toNat = 16
        · rw [if_pos n1] at h; cases h
        rw [if_neg n1] at h
        by_cases n2 : i + 4 = s.length ∨ hexT (s.getD (i + 4) 0).toNat = 16
        · rw [if_pos n2] at h; cases h
        rw [if_neg n2] at h
        have m1 : ¬ i + 3 = s.length := fun q => n1 (.inl q)
        have m2 : ¬ i + 4 = s.length := fun q => n2 (.inl q)
        have q3 : i + 3 < s.length := by
          by_cases q : i + 3 < s.length
          · exact q
          · exact absurd (.inr (by rw [g0 _ (by omega)]; exact hz)) n1
        have := textI_good k (i + 4) _ w e (by omega) h; omega
      rw [if_neg d120] at h
      cases h
    rw [if_neg c92] at h
    by_cases hr : (s.getD (i + 1) 0).toNat < 32 ∨ 126 < (s.getD (i + 1) 0).toNat
    · rw [if_pos hr] at h; cases h
    · rw [if_neg hr] at h
      have := textI_good k (i + 1) _ w e (by omega) h; omega
theorem signR_len (u v : Int) : 1 ≤ (signR u v).2 ∧ (signR u v).2 ≤ 2 := by
  unfold signR
  repeat' split
  all_goals omega
theorem signR_two {u v : Int} (h : (signR u v).2 = 2) : v ≠ 0 := by
  intro hv
  subst hv
  unfold signR at h
  repeat' split at h
  all_goals first
    | omega
    | exact absurd h (by decide)
theorem clsW {s : List UInt8} {i : Nat} {q : Int} (hi : i < s.length) (h : clsI (s.getD i 0) = q) : isI s i q = true := by
  unfold isI
  rw [decide_eq_true hi, h]; simp
/-- A lexeme goes on, within the text. -/
theorem lexI_good {s : List UInt8} {i : Nat} {tk : Tk} (hi : i < s.length) (h : lexI s i = .good tk) : tk.from_ = i ∧ i < tk.to_ ∧ tk.to_ ≤ s.length := by
  unfold lexI at h
  split at h
  · rename_i c3
    cases hq : intI s i with
    | bad e => rw [hq] at h; cases h
    | good n e =>
      rw [hq] at h
      injection h with h
      subst h
      exact ⟨rfl, intI_good hi (clsW hi c3) hq⟩
  · split at h
    · rename_i c4
      unfold wordI at h
      split at h
      · injection h with h
        subst h
        have h4 := clsW hi c4
        have hw : isW s i = true := by unfold isW; rw [h4]; rfl
        obtain ⟨f, hf⟩ : ∃ f, s.length - i = f + 1 := ⟨s.length - i - 1, by omega⟩
        have g := runTo_ge s f (i + 1)
        have e : runTo s (s.length - i) i = runTo s f (i + 1) := by rw [hf, runTo, if_pos hw]
        refine ⟨rfl, ?_, ?_⟩
        · show i < runTo s (s.length - i) i
          omega
        · show runTo s (s.length - i) i ≤ s.length
          omega
      · cases h
    · split at h
      · cases hq : textI s (s.length - i) i [] with
        | bad e => rw [hq] at h; cases h
        | good w e =>
          rw [hq] at h
          injection h with h
          subst h
          exact ⟨rfl, textI_good _ i [] w e hi hq⟩
      · split at h
        · unfold signI at h
          split at h
          · cases h
          · injection h with h
            subst h
            have l := signR_len ((s.getD i 0).toNat : Int) (nextB s i)
            refine ⟨rfl, ?_, ?_⟩
            · show i < i + (signR ((s.getD i 0).toNat : Int) (nextB s i)).2
              omega
            · show i + (signR ((s.getD i 0).toNat : Int) (nextB s i)).2 ≤ s.length
              by_cases q : (signR ((s.getD i 0).toNat : Int) (nextB s i)).2 = 2
              · have hn := signR_two q
                unfold nextB at hn
                split at hn
                · omega
                · exact absurd rfl hn
              · omega
        · cases h
/-- The lexemes of a text from a place on, or its first wrong byte. -/
def toksI (s : List UInt8) : Nat → Nat → List Tk × Option Nat
  | 0, _ => ([], none)
  | k + 1, i =>
    if skipTo s (s.length - i) i < s.length then
      match lexI s (skipTo s (s.length - i) i) with
      | .bad e => ([], some e)
      | .good tk => (tk :: (toksI s k tk.to_).1, (toksI s k tk.to_).2)
    else ([], none)
theorem toks_run {N : Nat} {hk : Hook} {d : Nat} {a : Option Addr} {c : Nat} {s : List UInt8} (K : HkOk hk) (hN : 2 * s.length + 100 < N) (hs : s.length ≤ 1048576) (hc : s.length ≤ c) :
    ∀ k i, i ≤ s.length → s.length ≤ i + k → TRun s (LexOk N hk (d + 4) a c s) (LexBad N hk (d + 4) a c s) i (toksI s (k + 1) i).1 (toksI s (k + 1) i).2 ∧ (toksI s (k + 1) i).1.length ≤ s.length - i
  | k, i, hi, hk' => by
    have g := skipTo_ge s (s.length - i) i hi
    unfold toksI
    by_cases hlt : skipTo s (s.length - i) i < s.length
    · rw [if_pos hlt]
      obtain ⟨ok, bad⟩ := lex_any (N := N) (hk := hk) (d := d) (a := a) K hN hs hc hlt
      cases hq : lexI s (skipTo s (s.length - i) i) with
      | bad e => exact ⟨.wrong i e hlt (bad e hq), Nat.zero_le _⟩
      | good tk =>
        obtain ⟨f1, f2, f3⟩ := lexI_good hlt hq
        obtain ⟨k', rfl⟩ : ∃ q, k = q + 1 := ⟨k - 1, by omega⟩
        obtain ⟨r1, r2⟩ := toks_run K hN hs hc k' tk.to_ f3 (by omega)
        refine ⟨.step i tk _ _ hlt f1 f3 (ok tk hq) r1, ?_⟩
        simp only [List.length_cons]
        omega
    · rw [if_neg hlt]
      exact ⟨.stop i hlt, Nat.zero_le _⟩
/-- What 'Tokens' answers, whatever the text. -/
theorem tokens_any {N : Nat} {hk : Hook} {d : Nat} {H0 : Heap} {a : Option Addr} {c : Nat} {s : List UInt8} (K : HkOk hk) (hG : Ext GE H0) (hr : Brow H0 a s) (hN : 2 * s.length + 100 < N) (hs : s.length ≤ 1048576) (hc : s.length ≤ c) :
    ∃ H', Ext H0 H' ∧ ∃ v e q, CG N hk (d + 5) 9 #[.slice a s.length c] H0 = some (.ret (.tuple #[v, .int .i64 e, .int .i64 q]), H') ∧
      (((toksI s (s.length + 1) 0).2 = none ∧ TkRow H' v (toksI s (s.length + 1) 0).1 (H0.next + 1) ∧ e = 0 ∧ q = 0) ∨ (∃ w : Nat, (toksI s (s.length + 1) 0).2 = some w ∧ v = .slice none 0 0 ∧ e = (w : Int) ∧ q = 60)) := by
  obtain ⟨run, hl⟩ := toks_run (N := N) (hk := hk) (d := d) (a := a) K hN hs hc s.length 0 (Nat.zero_le _) (by omega)
  exact call_tokens hG hr K.nil (by omega) hs run (by omega)
end Go.Am
