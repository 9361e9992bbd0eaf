/- Rows of bytes that grow: an append of a row or of a text; the part of a row ahead of a place. -/
import Derived.Test.YtohmeeglehopiaaDoorS8
import Derived.Test.YtohmeeglehopiaaDoorP1
open Go.Proofs
namespace Go.Am
theorem over_nil (l : List Value) (n : Nat) : over l n [] = l := by simp [over]
theorem BRow.brow {H : Heap} {v : Value} {o : List UInt8} {lo : Nat} (h : BRow H v o lo) (hs : o.length < 9223372036854775808) : ∃ a, v = .slice a o.length o.length ∧ Brow H a o := by
  rcases h with ⟨rfl, rfl⟩ | ⟨hne, q, rfl, hg, _⟩
  · exact ⟨none, rfl, ⟨fun b hb => (by cases hb), fun _ => rfl, by decide⟩⟩
  · refine ⟨some ⟨q, 0, none⟩, rfl, ⟨fun b hb => ?_, fun e => (by cases e), hs⟩⟩
    obtain rfl := Option.some.inj hb
    refine ⟨_, by simp [look, hg]; rfl, rfl, by simp, ?_⟩
    simp only [List.drop_zero]
    rw [List.take_of_length_le (by simp)]
    rfl
theorem src_row {H : Heap} {a : Option Addr} {w : List UInt8} {c : Nat} (h : Brow H a w) : srcCells H 1 (.slice a w.length c) = some (w.length, w.map f8) := by
  cases a with
  | none =>
    have := h.nil rfl
    subst this; rfl
  | some a =>
    obtain ⟨x, h1, h2, h3, h4⟩ := h.row a rfl
    simp only [srcCells, h1, Nat.mul_one]
    rw [if_pos h3, h4]; rfl
theorem src_str (H : Heap) (w : List UInt8) : srcCells H 1 (.string ⟨⟨w⟩⟩) = some (w.length, w.map f8) := by
  simp only [srcCells]
  rfl
theorem brow_app {H : Heap} {v x : Value} {o w : List UInt8} {lo : Nat} {u : TypeId} (ho : BRow H v o lo) (hf : Fresh H) (hlo : lo ≤ H.next) (hu : (∃ e, PP.underlying u = some (.slice e)) ∨ PP.underlying u = some .string)
    (hx : srcCells H 1 x = some (w.length, w.map f8)) (hn : o.length + w.length ≤ 140737488355328) :
    ∃ v' H', appendA PP #[26, u] v x H = some (v', H') ∧ BRow H' v' (o ++ w) lo ∧ (∀ z y, z < lo → H.get z = some y → H'.get z = some y) ∧ H.next ≤ H'.next ∧ Fresh H' := by
  obtain ⟨i, h1, h2, h3⟩ := infoB
  have hA : appendA PP #[26, u] v x H = app H 1 1 v w.length (w.map f8) := by
    simp only [appendA]
    rcases hu with ⟨e, hu⟩ | hu <;> simp [hu, h1, h2, h3, zeroB, hx]
  rw [hA]
  have al : ∀ (G : Heap) (cells : List Value), Fresh G → Fresh (G.alloc 1 cells) := fun G cells hG z hz => by
    have hz' : G.next + 1 ≤ z := hz
    rw [Heap.get_alloc, if_neg (by omega)]; exact hG z (by omega)
  rcases ho with ⟨rfl, rfl⟩ | ⟨hne, q, rfl, hg, hlq⟩
  · by_cases hw : w.length = 0
    · have e : w = [] := List.length_eq_zero_iff.mp hw
      subst e
      exact ⟨_, H, by simp only [app]; rw [if_pos hw], .inl ⟨rfl, rfl⟩, fun z y _ h => h, Nat.le_refl _, hf⟩
    · refine ⟨_, _, by simp only [app]; rw [if_neg hw, if_pos (by unfold most; simp at hn; omega)]; rfl, .inr ⟨?_, H.next, by rw [List.nil_append], ?_, hlo⟩, fun z y hz hg => ?_, Nat.le_succ _, al _ _ hf⟩
      · intro e; rw [List.nil_append] at e; rw [e] at hw; exact hw rfl
      · rw [Heap.get_alloc, if_pos rfl]; rfl
      · rw [Heap.get_alloc, if_neg (by omega)]; exact hg
  · have hlen : o.length ≠ 0 := by simpa using hne
    have hl1 : (o.map f8).length = o.length := by simp
    have hlk : look H ⟨q, 0, none⟩ = some ⟨o.map f8, true, 1, none⟩ := by simp [look, hg]
    have hp : (w.map f8).all Value.oneCell' = true := f8_plain w
    have fd : Fresh (H.drop q) := fun z hz => by
      have hz' : H.next ≤ z := hz
      rw [Heap.get_drop]; split
      · rfl
      · exact hf z hz'
    by_cases hw : w.length = 0
    · have e : w = [] := List.length_eq_zero_iff.mp hw
      subst e
      refine ⟨.slice (some ⟨q, 0, none⟩) o.length o.length, H.set q ⟨o.map f8, true, 1, none⟩, ?_, ?_, fun z y hz hy => ?_, Nat.le_refl _, fun z hz => ?_⟩
      · simp only [app, hlk]
        rw [if_pos ⟨trivial, trivial, by simp, hp, by unfold most; simp at hn ⊢; omega, by unfold most; simp at hn ⊢; omega⟩, if_pos (by simp), if_pos (by simp), List.map_nil, over_nil]
        simp
      · rw [List.append_nil]
        exact .inr ⟨hne, q, rfl, by rw [Heap.get_set, if_pos rfl], hlq⟩
      · rw [Heap.get_set, if_neg (by omega)]; exact hy
      · rw [Heap.get_set]
        have hz' : H.next ≤ z := hz
        have hq : q < H.next := by
          rcases Nat.lt_or_ge q H.next with c | c
          · exact c
          · rw [hf q c] at hg; cases hg
        rw [if_neg (by omega)]; exact hf z hz'
    · refine ⟨_, (H.drop q).alloc 1 ((o ++ w).map f8), ?_, .inr ⟨by simp [hne], H.next, rfl, ?_, hlo⟩, fun z y hz hy => ?_, Nat.le_succ _, al (H.drop q) _ fd⟩
      · simp only [app, hlk]
        rw [if_pos ⟨trivial, trivial, by simp, hp, by unfold most; omega, by unfold most; omega⟩, if_neg (by omega)]
        have e1 : (List.drop 0 (o.map f8)).take (o.length * 1) = o.map f8 := by rw [List.drop_zero, Nat.mul_one, ← hl1, List.take_length]
        simp only [e1, mkRow, List.map_append, List.length_append]
        rfl
      · rw [Heap.get_alloc]; exact if_pos rfl
      · rw [Heap.get_alloc, if_neg (by show ¬ z = H.next; omega), Heap.get_drop, if_neg (by omega)]; exact hy
theorem app_builtin2 (u : TypeId) (s x : Value) (H : Heap) (k : Value → Heap → R) : builtinK PP .append #[26, u] #[s, x] H k = bindV (appendA PP #[26, u] s x H) k := by simp [builtinK]
theorem slice_pre {H : Heap} {a : Option Addr} {s : List UInt8} {c x : Nat} (h : Brow H a s) (hx : x ≤ s.length) (hc : s.length ≤ c) :
    ∃ a' c', sliceOpA PP 26 (.slice a s.length c) none (some (.int .i64 (x : Int))) none H = some (.slice a' (s.take x).length c') ∧ Brow H a' (s.take x) := by
  have hl : (s.take x).length = x := by simp; omega
  simp only [sliceOpA, und34, size5, sliceA]
  cases a with
  | none =>
    have hs := h.nil rfl
    subst hs
    have h0 : x = 0 := by simpa using hx
    subst h0
    exact ⟨none, 0, by rw [if_pos ⟨by omega, by omega, by omega⟩]; rfl, ⟨fun b hb => by simp at hb, fun _ => rfl, by simp⟩⟩
  | some a =>
    obtain ⟨z, h1, h2, h3, h4⟩ := h.row a rfl
    have e : a.add 0 = a := by
      obtain ⟨b, o, sp⟩ := a
      rfl
    refine ⟨some a, c, ?_, ⟨fun b hb => ?_, fun e => (by cases e), by rw [hl]; have := h.small; omega⟩⟩
    · rw [if_pos ⟨by omega, by omega, by omega⟩]
      simp [h1, h2, e, hl]
    · obtain rfl := Option.some.inj hb
      refine ⟨z, h1, h2, by rw [hl]; omega, ?_⟩
      have : (z.cells.drop a.off).take x = ((z.cells.drop a.off).take s.length).take x := by rw [List.take_take, Nat.min_eq_left hx]
      rw [hl, this, h4, List.map_take]
/-- A row made anew of what stands ahead of a place, and something behind. -/
theorem cut_app {H : Heap} {a : Option Addr} {s w : List UInt8} {x : Value} {u : TypeId} (hf : Fresh H) (h : Brow H a s) (hu : (∃ e, PP.underlying u = some (.slice e)) ∨ PP.underlying u = some .string) (hx : ∀ H', Ext H H' → srcCells H' 1 x = some (w.length, w.map f8)) (hn : s.length + w.length ≤ 140737488355328) (c : Nat) :
    ∃ v1 H1 b H2, appendA PP #[26, 26] (.slice none 0 0) (.slice a s.length c) H = some (v1, H1) ∧ Ext H H1 ∧ appendA PP #[26, u] v1 x H1 = some (.slice b (s ++ w).length (s ++ w).length, H2) ∧ Ext H H2 ∧ Brow H2 b (s ++ w) := by
  have hb : ∃ e, PP.underlying 26 = some (.slice e) := ⟨_, und34⟩
  obtain ⟨v1, H1, p1, p2, p3, p4, p5⟩ := brow_app (H := H) (v := .slice none 0 0) (o := []) (lo := H.next) (.inl ⟨rfl, rfl⟩) hf (Nat.le_refl _) (.inl hb) (src_row (c := c) h) (by simp; omega)
  have lt_of : ∀ z y, H.get z = some y → z < H.next := fun z y hy => by
    rcases Nat.lt_or_ge z H.next with q | q
    · exact q
    · rw [hf z q] at hy; cases hy
  have e1 : Ext H H1 := ⟨p4, fun z y hy => p3 z y (lt_of z y hy) hy, p5⟩
  rw [List.nil_append] at p2
  obtain ⟨v2, H2, q1, q2, q3, q4, q5⟩ := brow_app (x := x) (w := w) p2 p5 p4 hu (hx H1 e1) hn
  obtain ⟨b, rfl, hb2⟩ := q2.brow (by rw [List.length_append]; omega)
  exact ⟨v1, H1, b, H2, p1, e1, q1, ⟨Nat.le_trans p4 q4, fun z y hy => q3 z y (lt_of z y hy) (p3 z y (lt_of z y hy) hy), q5⟩, hb2⟩
end Go.Am
/- The law on the first wrong byte: what it answers. -/
open Go.Proofs
namespace Go.Am
def firstI (s : List UInt8) : Option Nat := (toksI s (s.length + 1) 0).2
def posI (s : List UInt8) : Int := match firstI s with | none => 0 | some x => (x : Int)
def errI (s : List UInt8) : Int := match firstI s with | none => 0 | some _ => 60
theorem first_law {s : List UInt8} {x : Nat} (h : firstI s = some x) :
    x ≤ s.length ∧ (x < s.length → ∀ r, firstI (s.take (x + 1) ++ r) = some x) ∧ ∃ t ∈ ends8, firstI (s.take x ++ t) = none := by
  have e : ∀ s, firstI s = (toksL (s.length + 1) 0 s).2 := fun s => by unfold firstI; rw [toksI_L s _ 0 (Nat.zero_le _), List.drop_zero]
  rw [e] at h
  obtain ⟨j, hj, h1, h2, t, ht, _, h3⟩ := toks_first _ _ _ _ (Nat.lt_succ_self _) h
  rw [Nat.zero_add] at hj
  subst hj
  exact ⟨h1, fun q r => by rw [e]; exact h2 q r _ (Nat.lt_succ_self _), t, ht, by rw [e]; exact h3 _ (Nat.lt_succ_self _)⟩
theorem toks_q {N : Nat} {hk : Hook} {d : Nat} {H : Heap} {a : Option Addr} {c : Nat} {s : List UInt8} (K : HkOk hk) (hG : Ext GE H) (hr : Brow H a s) (hN : 2 * s.length + 100 < N) (hs : s.length ≤ 1048576) (hc : s.length ≤ c) :
    ∃ H', Ext H H' ∧ ∃ v, CG N hk (d + 5) 9 #[.slice a s.length c] H = some (.ret (.tuple #[v, .int .i64 (posI s), .int .i64 (errI s)]), H') ∧ (firstI s ≠ none → v = .slice none 0 0) := by
  obtain ⟨H', h1, v, e, q, h2, h3⟩ := tokens_any (N := N) (hk := hk) (d := d) K hG hr hN hs hc
  refine ⟨H', h1, v, ?_⟩
  unfold posI errI
  rcases h3 with ⟨p1, _, rfl, rfl⟩ | ⟨x, p1, rfl, rfl, rfl⟩
  · have p1 : firstI s = none := p1
    rw [p1]; exact ⟨h2, fun q => absurd rfl q⟩
  · have p1 : firstI s = some x := p1
    rw [p1]; exact ⟨h2, fun _ => rfl⟩
theorem ext0 (v e q : Value) : extractA (.tuple #[v, e, q]) 0 = some v := rfl
theorem ext1 (v e q : Value) : extractA (.tuple #[v, e, q]) 1 = some e := rfl
theorem ext2 (v e q : Value) : extractA (.tuple #[v, e, q]) 2 = some q := rfl
theorem veq_str (s : ByteArray) : veq (.string s) (.string s) = true := by simp [veq, veq0]
def endsV : List Value := ends8.map strV
theorem ends8_len : ends8.length = 8 := rfl
theorem index_ends {q i : Nat} (h : i < 8) : indexAddrA PP 39 (.slice (some ⟨q, 0, none⟩) 8 8) (.int .i64 (i : Int)) = some (.pointer (some ⟨q, i, none⟩)) := by
  have e : (⟨q, 0, none⟩ : Addr).add i = ⟨q, i, none⟩ := by rw [Addr.add_lit, Nat.zero_add]
  simp [indexAddrA, sizeS, at_, e]
  omega
theorem load_ends {H : Heap} {q i : Nat} (h : H.get q = some ⟨endsV, true, 1, none⟩) (hi : i < 8) : loadA PP 9 (.pointer (some ⟨q, i, none⟩)) H = some (.string ⟨⟨ends8.getD i []⟩⟩, H) := by
  have hl : i < ends8.length := by rw [ends8_len]; exact hi
  simp only [loadA, aggS]
  simp only [ld1, look, h]
  simp [endsV, strV, List.getD, hl]
theorem str_slice : PP.underlying 9 = some .string := undStr
/-- Can it be gone on with, by one of these? -/
def goesL (s : List UInt8) (x : Nat) (l : List (List UInt8)) : Bool := l.any fun t => (firstI (s.take x ++ t)).isNone
theorem ends8_small : ∀ i, (ends8.getD i []).length ≤ 3 := by
  intro i
  match i with
  | 0 => decide
  | 1 => decide
  | 2 => decide
  | 3 => decide
  | 4 => decide
  | 5 => decide
  | 6 => decide
  | 7 => decide
  | i + 8 => simp [ends8, List.getD]
theorem code6 : codeOf Tryd.f6 = .seq (.region 0 (rgn Tryd.f6 0) false) (.seq (.seq (.region 1 (rgn Tryd.f6 1) false) (.cond (.tmp 24) (.seq (.region 2 (rgn Tryd.f6 2) false) (.ret)) (.skip))) (.seq (.region 3 (rgn Tryd.f6 3) false) (.seq (.seq (.region 4 (rgn Tryd.f6 4) false) (.cond (.tmp 33) (.seq (.region 5 (rgn Tryd.f6 5) false) (.ret)) (.skip))) (.seq (.seq (.region 6 (rgn Tryd.f6 6) false) (.cond (.tmp 50) (.seq (.region 7 (rgn Tryd.f6 7) false) (.ret)) (.skip))) (.seq (.region 8 (rgn Tryd.f6 8) false) (.seq (.region 9 (rgn Tryd.f6 9) false) (.seq (.seq (.region 10 (rgn Tryd.f6 10) false) (.block 0 (.loop (.seq (.seq (.region 11 (rgn Tryd.f6 11) false) (.cond (.tmp 55) (.skip) (.exit 0))) (.seq (.block 1 (.seq (.region 13 (rgn Tryd.f6 13) true) (.region 14 (rgn Tryd.f6 14) false))) (.region 12 (rgn Tryd.f6 12) false)))))) (.seq (.seq (.region 15 (rgn Tryd.f6 15) false) (.cond (.tmp 80) (.seq (.region 16 (rgn Tryd.f6 16) false) (.ret)) (.skip))) (.seq (.region 17 (rgn Tryd.f6 17) false) (.seq (.region 18 (rgn Tryd.f6 18) false) (.ret))))))))))) := by kernel_rfl
theorem gd6_1_3 : ((rgn Tryd.f6 1)[3]?).bind (·.dst) = some 20 := by kernel_rfl
theorem gd6_5_2 : ((rgn Tryd.f6 5)[2]?).bind (·.dst) = some 36 := by kernel_rfl
theorem gd6_6_2 : ((rgn Tryd.f6 6)[2]?).bind (·.dst) = some 41 := by kernel_rfl
theorem gd6_6_6 : ((rgn Tryd.f6 6)[6]?).bind (·.dst) = some 45 := by kernel_rfl
theorem gd6_14_1 : ((rgn Tryd.f6 14)[1]?).bind (·.dst) = some 73 := by kernel_rfl
theorem gd6_16_1 : ((rgn Tryd.f6 16)[1]?).bind (·.dst) = some 82 := by kernel_rfl
theorem gd6_18_1 : ((rgn Tryd.f6 18)[1]?).bind (·.dst) = some 98 := by kernel_rfl
theorem gd6_18_5 : ((rgn Tryd.f6 18)[5]?).bind (·.dst) = some 102 := by kernel_rfl
theorem gd6_18_10 : ((rgn Tryd.f6 18)[10]?).bind (·.dst) = some 107 := by kernel_rfl
theorem gd6_18_15 : ((rgn Tryd.f6 18)[15]?).bind (·.dst) = some 112 := by kernel_rfl

set_option maxHeartbeats 1000000 in
theorem f1_then {N : Nat} {hk : Hook} {d : Nat} {G0 : Heap} {a : Option Addr} {c x q : Nat} {s : List UInt8} {tv : Value} {Q : R → Prop} {k : KOE} (K : HkOk hk) (hG : Ext GE G0) (ha : Brow G0 a s) (hq : G0.get q = some ⟨endsV, true, 1, none⟩) (hx : x ≤ s.length) (hs : s.length ≤ 100000) (hc : s.length ≤ c) (hN : 300000 < N) :
    ∀ (n i m : Nat) (_ : i + n = 8) (_ : n < m) (g : Bool) {E : Env} {H : Heap} (_ : E 0 = .slice a s.length c) (_ : E 1 = tv) (_ : E 6 = .int .i64 (x : Int)) (_ : E 8 = .slice (some ⟨q, 0, none⟩) 8 8) (_ : E 9 = .bool g) (_ : E 10 = .int .i64 (i : Int)) (_ : Ext G0 H)
      (_ : ∀ E' H', E' 0 = .slice a s.length c → E' 1 = tv → E' 6 = .int .i64 (x : Int) → E' 9 = .bool (g || goesL s x (ends8.drop i)) → Ext G0 H' → Q (k (.exit 0) E' [] H')), Q (loopE (execG PP XX (CG N hk (d + 5)) N prF (.seq (.seq (.region 11 (rgn Tryd.f6 11) false) (.cond (.tmp 55) (.skip) (.exit 0))) (.seq (.block 1 (.seq (.region 13 (rgn Tryd.f6 13) true) (.region 14 (rgn Tryd.f6 14) false))) (.region 12 (rgn Tryd.f6 12) false))) none) m E [] H k)
  | 0, i, m + 1, hn, hm, g, E, H, e0, e1, e6, e8, e9, e10, hE, hx' => by
    rw [loopE_succ]
    have hi : i = 8 := by omega
    subst hi
    have hlt : decide (((8 : Nat) : Int) < ((8 : Nat) : Int)) = false := by decide
    have l11 := tl (rgn Tryd.f6 11)
    conv at l11 => rhs; simp only [rgn, opsAt, codeOf, Tryd.f6, gS, gN, reduceIte, Nat.reduceEqDiff, tA]
    simp (decide := true) only [↓execG_seq, ↓g_plain, thenE_norm, ↓r_nil, ↓r_cons, ↓o_move, ↓o_binOp, ↓o_builtin, nextE_app, putK_app, putG_bool, normK_app, evalE_tmp, upd_some, bindO_ok, reduceIte, map_one, ↓reg_lit l11, e8, e10, len_slice (ts := #[39]) rfl und39, binA_lss]
    refine hx' _ _ (by simp (decide := true) only [upd_some, reduceIte, e0]) (by simp (decide := true) only [upd_some, reduceIte, e1]) (by simp (decide := true) only [upd_some, reduceIte, e6]) ?_ hE
    have hz : (g || goesL s x (ends8.drop 8)) = g := by simp [goesL, ends8]
    rw [hz]
    simp (decide := true) only [upd_some, reduceIte, e9]
  | n + 1, i, m + 1, hn, hm, g, E, H, e0, e1, e6, e8, e9, e10, hE, hx' => by
    rw [loopE_succ]
    have hi : i < 8 := by omega
    have hlt : decide ((i : Int) < ((8 : Nat) : Int)) = true := decide_eq_true (by omega)
    have w : IntKind.i64.wrap ((i : Int) + 1) = ((i + 1 : Nat) : Int) := by rw [wrap_i64 (by omega) (by omega)]; omega
    have hl3 := ends8_small i
    obtain ⟨a', c', hsl, hb⟩ := slice_pre (ha.ext hE) hx hc
    have hlx : (s.take x).length ≤ 100000 := by rw [List.length_take]; omega
    obtain ⟨v1, H1, b2, H2, p1, x1, p2, x2, hb2⟩ := cut_app (x := .string ⟨⟨ends8.getD i []⟩⟩) (w := ends8.getD i []) (u := 9) hE.fresh hb (.inr str_slice) (fun H' _ => src_str H' _) (by omega) c'
    have hlw : (s.take x ++ ends8.getD i []).length ≤ 100003 := by rw [List.length_append]; omega
    obtain ⟨H3, x3, v3, ht, _⟩ := toks_q (N := N) (hk := hk) (d := d) K ((hG.trans hE).trans x2) hb2 (by omega) (by omega) (Nat.le_refl _)
    have hix := index_ends (q := q) hi
    have hl1 := load_ends (x1.keep q _ (hE.keep q _ hq)) hi
    have hl0 := load_ends (hE.keep q _ hq) hi
    have hgo : goesL s x (ends8.drop i) = ((firstI (s.take x ++ ends8.getD i [])).isNone || goesL s x (ends8.drop (i + 1))) := by
      have hl : i < ends8.length := by rw [ends8_len]; exact hi
      have hd : ends8.drop i = ends8.getD i [] :: ends8.drop (i + 1) := by
        rw [List.drop_eq_getElem_cons hl]; simp [List.getD, hl]
      rw [hd]; rfl
    have hq0 : (errI (s.take x ++ ends8.getD i []) == 0) = (firstI (s.take x ++ ends8.getD i [])).isNone := by
      unfold errI
      cases firstI (s.take x ++ ends8.getD i []) <;> rfl
    have l11 := tl (rgn Tryd.f6 11)
    conv at l11 => rhs; simp only [rgn, opsAt, codeOf, Tryd.f6, gS, gN, reduceIte, Nat.reduceEqDiff, tA]
    have l12 := tl (rgn Tryd.f6 12)
    conv at l12 => rhs; simp only [rgn, opsAt, codeOf, Tryd.f6, gS, gN, reduceIte, Nat.reduceEqDiff, tA]
    have l13 := tl (rgn Tryd.f6 13)
    conv at l13 => rhs; simp only [rgn, opsAt, codeOf, Tryd.f6, gS, gN, reduceIte, Nat.reduceEqDiff, tA]
    have l14 := tl (rgn Tryd.f6 14)
    conv at l14 => rhs; simp only [rgn, opsAt, codeOf, Tryd.f6, gS, gN, reduceIte, Nat.reduceEqDiff, tA]
    simp (decide := true) only [↓execG_seq, ↓g_plain, ↓execG_block, ↓execG_skip, ↓g_if, thenE_norm, ↓r_nil, ↓r_cons, ↓o_move, ↓o_assign, ↓o_load, ↓o_binOp, ↓o_slice, ↓o_indexAddr, ↓o_extract, ↓o_builtin, ↓o_callf, nextE_app, putK_app, putO_app, putG_bool, normK_app, evalE_tmp, evalE_const, upd_some, bindO_ok, bindV_ok, reduceIte, map_one, map_two, ↓reg_lit l11, e0, e6, e8, e10, len_slice (ts := #[39]) rfl und39, binA_lss, hlt, ↓Option.map_some, ↓Option.map_none, hsl, app_builtin2, p1, hix, hl1, p2, callK_fn Tryd.func9 rfl rfl ht, ext0, ext1, ext2, chkK_open, ↓trg_lit l13, ↓t_nil, ↓t_cons, nextT_app, prF]
    rw [chkK_ok (by simp (decide := true) only [List.nil_append, List.cons_append, List.all_cons, List.all_nil, pairChkE, l13, List.getElem?_cons_zero, List.getElem?_cons_succ, guardBE, qval, opK, evalE_tmp, upd_some, reduceIte, bindV_ok, Bool.and_self, veq_str, hl0, hl1])]
    cases g with
    | true =>
      simp (decide := true) only [↓g_plain, thenE_norm, leaveB_norm, ↓r_nil, ↓r_cons, ↓o_move, ↓o_assign, ↓o_pickt, ↓o_binOp, nextE_app, putG_int, normK_app, evalE_tmp, evalE_const, upd_some, bindO_ok, reduceIte, Bool.not_false, ↓reg_lit l14, ↓reg_lit l12, ↓r_no _ 1 false 73 _ gd6_14_1, e9, e10, binA_add, w]
      refine f1_then K hG ha hq hx hs hc hN n (i + 1) m (by omega) (by omega) true (by simp (decide := true) only [upd_some, reduceIte, e0]) (by simp (decide := true) only [upd_some, reduceIte, e1]) (by simp (decide := true) only [upd_some, reduceIte, e6]) (by simp (decide := true) only [upd_some, reduceIte, e8]) (by simp (decide := true) only [upd_some, reduceIte, e9]) (by simp (decide := true) only [upd_some, reduceIte, e10]) ((hE.trans x2).trans x3) (fun E' H' q0 q1 q2 q3 q4 => hx' E' H' q0 q1 q2 ?_ q4)
      rw [q3]; simp
    | false =>
      simp (decide := true) only [↓g_plain, thenE_norm, leaveB_norm, ↓r_nil, ↓r_cons, ↓o_move, ↓o_assign, ↓o_pickf, ↓o_binOp, nextE_app, putG_bool, putG_int, normK_app, evalE_tmp, evalE_const, upd_some, bindO_ok, reduceIte, ↓reg_lit l14, ↓reg_lit l12, ↓r_yes _ 1 false 73 _ gd6_14_1, e9, e10, binA_add, w, binA_eql, hq0]
      refine f1_then K hG ha hq hx hs hc hN n (i + 1) m (by omega) (by omega) (firstI (s.take x ++ ends8.getD i [])).isNone (by simp (decide := true) only [upd_some, reduceIte, e0]) (by simp (decide := true) only [upd_some, reduceIte, e1]) (by simp (decide := true) only [upd_some, reduceIte, e6]) (by simp (decide := true) only [upd_some, reduceIte, e8]) (by simp (decide := true) only [upd_some, reduceIte, e9]) (by simp (decide := true) only [upd_some, reduceIte, e10]) ((hE.trans x2).trans x3) (fun E' H' q0 q1 q2 q3 q4 => hx' E' H' q0 q1 q2 ?_ q4)
      rw [q3, hgo]; simp
end Go.Am
