/- The law on the greatest length: the lexemes of the five texts. -/
import Derived.Test.YtohmeeglehopiaaDoorS4
open Go.Proofs
namespace Go.Am

theorem cls97 : clsI 97 = 4 := by decide +kernel
theorem cls32 : clsI 32 = 1 := by decide +kernel
theorem cls35 : clsI 35 = 2 := by decide +kernel
theorem cls33 : clsI 33 = 6 := by decide +kernel
theorem cls59 : clsI 59 = 6 := by decide +kernel
theorem isI_txt (c : UInt8) {L i : Nat} (h : i < L) (q : Int) : isI (txt c L) i q = (clsI (filB c i) == q) := by unfold isI; rw [txt_len, txt_at c h, decide_eq_true h, Bool.true_and]
theorem skip_at {s : List UInt8} {i : Nat} (h1 : isI s i 1 = false) (h2 : isI s i 2 = false) : ∀ n, skipTo s n i = i
  | 0 => rfl
  | n + 1 => by unfold skipTo; rw [h1, h2]; rfl
theorem skip_one {s : List UInt8} {i : Nat} (h1 : isI s i 1 = true) (n : Nat) : skipTo s (n + 1) i = skipTo s n (i + 1) := by rw [skipTo, if_pos h1]
theorem skip_all {L : Nat} : ∀ n i, i + n = L → skipTo (txt 32 L) n i = L
  | 0, i, h => by show i = L; omega
  | n + 1, i, h => by
    rw [skip_one (by rw [isI_txt _ (by omega)]; have e : filB 32 i = 32 := by rw [filB, if_neg (fun q => absurd q.1 (by decide))]
                     rw [e, cls32]; rfl)]
    exact skip_all n (i + 1) (by omega)
theorem line_all {L : Nat} : ∀ n i, i + n = L → lineEnd (txt 35 L) n i = L
  | 0, i, h => by show i = L; omega
  | n + 1, i, h => by
    have e : filB 35 i = 35 := by rw [filB, if_neg (fun q => absurd q.1 (by decide))]
    rw [lineEnd, txt_at _ (by omega), e, if_neg (by decide)]
    exact line_all n (i + 1) (by omega)
theorem skip_hash {L : Nat} (h : 0 < L) : skipTo (txt 35 L) L 0 = L := by
  obtain ⟨n, rfl⟩ : ∃ n, L = n + 1 := ⟨L - 1, by omega⟩
  have e : filB 35 0 = 35 := by rw [filB, if_neg (fun q => absurd q.1 (by decide))]
  have i1 : isI (txt 35 (n + 1)) 0 1 = false := by rw [isI_txt _ h, e, cls35]; rfl
  have i2 : isI (txt 35 (n + 1)) 0 2 = true := by rw [isI_txt _ h, e, cls35]; rfl
  rw [skipTo, i1, i2, txt_len]
  simp only [Bool.false_eq_true, if_false, if_true]
  rw [line_all (n + 1 - 0) 0 (by omega)]
  have z : ∀ q, isI (txt 35 (n + 1)) (n + 1) q = false := fun q => by simp [isI, txt_len]
  exact skip_at (z 1) (z 2) n
section
variable {ok : Tk → Prop} {bad : Nat → Nat → Prop}
theorem run_blank (L : Nat) : TRun (txt 32 L) ok bad 0 [] none := .stop 0 (by rw [txt_len, skip_all (L - 0) 0 (by omega)]; omega)
theorem run_hash {L : Nat} (h : 0 < L) : TRun (txt 35 L) ok bad 0 [] none := .stop 0 (by rw [txt_len, Nat.sub_zero, skip_hash h]; omega)
theorem run_bang {L : Nat} (h : 0 < L) (hb : bad 0 1) : TRun (txt 33 L) ok bad 0 [] (some 1) := by
  have e : filB 33 0 = 33 := by rw [filB, if_neg (fun q => absurd q.1 (by decide))]
  have i1 : isI (txt 33 L) 0 1 = false := by rw [isI_txt _ h, e, cls33]; rfl
  have i2 : isI (txt 33 L) 0 2 = false := by rw [isI_txt _ h, e, cls33]; rfl
  exact .wrong 0 1 (by rw [skip_at i1 i2, txt_len]; exact h) (by rw [skip_at i1 i2]; exact hb)
def semi (i : Nat) : Tk := ⟨10, 0, .empty, i, i + 1⟩
theorem run_semi {L : Nat} (hok : ∀ i, i < L → ok (semi i)) : ∀ n i, i + n = L → TRun (txt 59 L) ok bad i ((List.range' i n).map semi) none
  | 0, i, h => .stop i (by rw [txt_len]; have : L - i = 0 := by omega
                           rw [this]; show ¬ i < L; omega)
  | n + 1, i, h => by
    have hi : i < L := by omega
    have e : filB 59 i = 59 := by rw [filB, if_neg (fun q => absurd q.1 (by decide))]
    have i1 : isI (txt 59 L) i 1 = false := by rw [isI_txt _ hi, e, cls59]; rfl
    have i2 : isI (txt 59 L) i 2 = false := by rw [isI_txt _ hi, e, cls59]; rfl
    rw [List.range'_succ, List.map_cons]
    exact .step i (semi i) _ none (by rw [skip_at i1 i2, txt_len]; exact hi) (by rw [skip_at i1 i2]; rfl) (by rw [txt_len]; exact hi) (hok i hi) (run_semi hok n (i + 1) (by omega))
/-- The k-th word of letters. -/
def endK (L k : Nat) : Nat := if 20 * k + 19 < L then 20 * k + 19 else L
def wordK (L k : Nat) : Tk := ⟨1, 0, ⟨⟨wA (endK L k - 20 * k)⟩⟩, 20 * k, endK L k⟩
def posK (L k : Nat) : Nat := if k = 0 then 0 else endK L (k - 1)
theorem fil_a {i : Nat} (h : i % 20 ≠ 19) : filB 97 i = 97 := by rw [filB, if_neg (fun q => h q.2)]
theorem fil_b {i : Nat} (h : i % 20 = 19) : filB 97 i = 32 := by rw [filB, if_pos ⟨rfl, h⟩]
theorem run_words {L M : Nat} (hM : L = 20 * (M - 1) + 14 ∨ L = 20 * (M - 1) + 15 ∨ L = 20 * (M - 1) + 16) (hM1 : 0 < M) (hok : ∀ k, k < M → ok (wordK L k)) : ∀ n k, k + n = M → TRun (txt 97 L) ok bad (posK L k) ((List.range' k n).map (wordK L)) none
  | 0, k, h => by
    have hp : posK L k = L := by
      have : k = M := by omega
      subst this
      unfold posK endK
      rw [if_neg (by omega), if_neg (by omega)]
    rw [hp]
    exact .stop L (by rw [txt_len, Nat.sub_self]; show ¬ L < L; omega)
  | n + 1, k, h => by
    have hk : 20 * k < L := by omega
    have i1 : isI (txt 97 L) (20 * k) 1 = false := by rw [isI_txt _ hk, fil_a (by omega), cls97]; rfl
    have i2 : isI (txt 97 L) (20 * k) 2 = false := by rw [isI_txt _ hk, fil_a (by omega), cls97]; rfl
    have sk : skipTo (txt 97 L) ((txt 97 L).length - posK L k) (posK L k) = 20 * k := by
      rw [txt_len]
      unfold posK endK
      by_cases hk0 : k = 0
      · rw [if_pos hk0, hk0]
        subst hk0
        exact skip_at i1 i2 _
      · rw [if_neg hk0, if_pos (by omega)]
        have hb : isI (txt 97 L) (20 * (k - 1) + 19) 1 = true := by rw [isI_txt _ (by omega), fil_b (by omega), cls32]; rfl
        obtain ⟨r, hr⟩ : ∃ r, L - (20 * (k - 1) + 19) = r + 1 := ⟨L - (20 * (k - 1) + 19) - 1, by omega⟩
        rw [hr, skip_one hb]
        have : 20 * (k - 1) + 19 + 1 = 20 * k := by omega
        rw [this]
        exact skip_at i1 i2 _
    rw [List.range'_succ, List.map_cons]
    refine .step _ (wordK L k) _ none (by rw [sk, txt_len]; exact hk) (by rw [sk]; rfl) ?_ (hok k (by omega)) ?_
    · rw [txt_len]; show endK L k ≤ L; unfold endK; split <;> omega
    · have := run_words hM hM1 hok n (k + 1) (by omega)
      have e : posK L (k + 1) = (wordK L k).to_ := by unfold posK; rw [if_neg (by omega)]; rfl
      rw [← e]; exact this
end
theorem runTo_end {s : List UInt8} {e : Nat} (h1 : e < s.length → isW s e = false) : ∀ n i, i ≤ e → e ≤ i + n → (∀ j, i ≤ j → j < e → isW s j = true) → (s.length ≤ e ∨ e < i + n ∨ e = i + n) → runTo s n i = e
  | 0, i, hi, he, _, _ => by show i = e; omega
  | n + 1, i, hi, he, h, hh => by
    unfold runTo
    by_cases c : i = e
    · subst c
      have hw : isW s i = false := by
        by_cases q : i < s.length
        · exact h1 q
        · simp [isW, isI]; omega
      rw [hw]; rfl
    · rw [if_pos (h i (Nat.le_refl _) (by omega))]
      exact runTo_end h1 n (i + 1) (by omega) (by omega) (fun j a b => h j (by omega) b) (by omega)
theorem isW_a {L i : Nat} (h : i < L) (hm : i % 20 ≠ 19) : isW (txt 97 L) i = true := by
  unfold isW
  rw [isI_txt _ h, fil_a hm, cls97]; rfl
theorem isW_b {L i : Nat} (h : i < L) (hm : i % 20 = 19) : isW (txt 97 L) i = false := by
  unfold isW
  rw [isI_txt _ h, isI_txt _ h, fil_b hm, cls32]; rfl
theorem run_end {L k : Nat} (h : 20 * k < L) : runTo (txt 97 L) ((txt 97 L).length - 20 * k) (20 * k) = endK L k := by
  rw [txt_len]
  unfold endK
  refine runTo_end (fun q => ?_) _ _ (by split <;> omega) (by split <;> omega) (fun j a b => ?_) (by split <;> omega)
  · rw [txt_len] at q
    split at q
    · rename_i c; rw [if_pos c]; exact isW_b c (by omega)
    · omega
  · split at b
    · exact isW_a (by omega) (by omega)
    · exact isW_a b (by omega)
theorem word_text {L k : Nat} (h : 20 * k < L) : ((txt 97 L).drop (20 * k)).take (endK L k - 20 * k) = wA (endK L k - 20 * k) := by
  have he : endK L k ≤ L ∧ endK L k ≤ 20 * k + 19 := by unfold endK; split <;> omega
  apply List.ext_getElem
  · simp [wA, txt_len]; omega
  · intro j h1 h2
    have hj : j < endK L k - 20 * k := by simpa [wA] using h2
    simp only [List.getElem_take, List.getElem_drop, wA, List.getElem_replicate]
    rw [txt_get]
    exact fil_a (by omega)
end Go.Am
/- The law on the greatest length: what it answers. -/
open Go.Proofs
namespace Go.Am

theorem ok_semi {N d : Nat} {a : Addr} {L : Nat} {i : Nat} (hi : i < L) : LexOk N hkD (d + 4) (some a) L (txt 59 L) (semi i) := by
  intro H b t x hb ht hbt htl htg hrt
  have hi' : i < (txt 59 L).length := by rw [txt_len]; exact hi
  have hb : H.get b = some (cur (some a) (txt 59 L).length L i) := hb
  have ht : H.get t = some (tok 0 0 .empty (i : Int) 0) := ht
  have e : (txt 59 L)[i] = 59 := by rw [txt_get, filB, if_neg (fun q => absurd q.1 (by decide))]
  obtain ⟨H', h1, h2⟩ := call_plain (N := N) (hk := hkD) (d := d + 1) (kd := 10) x hb ht hbt htl htg hrt hi' hkD_none (by rw [e]; rfl) (by rw [e]; rfl) (by rw [e]; rfl) (by rw [e]; rfl) (by rw [e]; rfl) (fun H hG => by rw [e]; exact hk_semi hG)
  exact ⟨H', h1, lex_sign (d := d + 2) x hb hi' (by rw [e]; exact cls59) hkD_none h2⟩
theorem bad_bang {N d : Nat} {a : Addr} {L : Nat} (hL : 0 < L) : LexBad N hkD (d + 4) (some a) L (txt 33 L) 0 1 := by
  intro H b t x hb ht hbt htl htg hrt
  have hi' : 0 < (txt 33 L).length := by rw [txt_len]; exact hL
  have e : (txt 33 L)[0] = 33 := by rw [txt_get, filB, if_neg (fun q => absurd q.1 (by decide))]
  obtain ⟨H', h1, h2⟩ := call_bang (N := N) (hk := hkD) (d := d + 1) x hb ht hbt htl htg hrt hi' hkD_none (by rw [e]; rfl) (by rw [e]; rfl) (by
    by_cases q : 0 + 1 < (txt 33 L).length
    · rw [if_pos q, txt_at _ (by rw [txt_len] at q; omega), filB, if_neg (fun q => absurd q.1 (by decide))]; rfl
    · rw [if_neg q]; rfl)
  exact ⟨H', _, h1, lex_sign (d := d + 2) x hb hi' (by rw [e]; exact cls33) hkD_none h2⟩
theorem ok_word {N d : Nat} {a : Addr} {L M k : Nat} (hM : L = 20 * (M - 1) + 14 ∨ L = 20 * (M - 1) + 15 ∨ L = 20 * (M - 1) + 16) (hk : k < M) (hN : L < N) : LexOk N hkD (d + 4) (some a) L (txt 97 L) (wordK L k) := by
  intro H b t x hb ht hbt htl htg hrt
  have hk2 : 20 * k < L := by omega
  have hi' : 20 * k < (txt 97 L).length := by rw [txt_len]; exact hk2
  have hb : H.get b = some (cur (some a) (txt 97 L).length L (20 * k)) := hb
  have ht : H.get t = some (tok 0 0 .empty ((20 * k : Nat) : Int) 0) := ht
  have e : (txt 97 L)[20 * k] = 97 := by rw [txt_get]; exact fil_a (by omega)
  have hm : endK L k - 20 * k = 19 ∨ endK L k - 20 * k = 14 ∨ endK L k - 20 * k = 15 ∨ endK L k - 20 * k = 16 := by unfold endK; split <;> omega
  have hres : ∀ H, Ext GG H → hkD 16 #[strV (wA (endK L k - 20 * k))] H = some (some (.ret (.int .i64 0), H)) := fun H hG => by
    rcases hm with h | h | h | h <;> rw [h]
    · exact hk_w19 hG
    · exact hk_w14 hG
    · exact hk_w15 hG
    · exact hk_w16 hG
  obtain ⟨H', h1, h2⟩ := call_word (N := N) (hk := hkD) (d := d) (H0 := H) (H := H) (e := endK L k) x ⟨rfl, hb, fun _ _ => rfl⟩ hbt ht hkD_none hi' (by rw [txt_len]; exact Nat.le_refl _) (by rw [txt_len]; exact hN) (run_end hk2).symm (by unfold endK; split <;> omega) ⟨⟨wA (endK L k - 20 * k)⟩⟩ (by rw [word_text hk2]) hres
  exact ⟨H', h1.lexd x.gg.fresh x.lt htl, lex_word (d := d + 2) x hb hi' (by rw [e]; exact cls97) hkD_none h2⟩
theorem TkRow.len {H : Heap} {v : Value} {ts : List Tk} {lo : Nat} (h : TkRow H v ts lo) : ∃ a, v = .slice a ts.length ts.length := by
  rcases h with ⟨rfl, rfl⟩ | ⟨_, q, rfl, _⟩
  · exact ⟨none, rfl⟩
  · exact ⟨_, rfl⟩
theorem ext0 (v e q : Value) : extractA (.tuple #[v, e, q]) 0 = some v := rfl
theorem ext1 (v e q : Value) : extractA (.tuple #[v, e, q]) 1 = some e := rfl
theorem ext2 (v e q : Value) : extractA (.tuple #[v, e, q]) 2 = some q := rfl
theorem bslice_fill (H : Heap) : buildSliceA PP 26 5 #[(0, .int .u8 32), (1, .int .u8 35), (2, .int .u8 97), (3, .int .u8 33), (4, .int .u8 59)] H = some (.slice (some ⟨H.next, 0, none⟩) 5 5, H.alloc 1 [.int .u8 32, .int .u8 35, .int .u8 97, .int .u8 33, .int .u8 59]) := by
  have zero5 : zeroT PP 5 = some [.int .u8 0] := by kernel_rfl
  have hf : Instr.fill (fun i => some (i * 1, 1)) (zeroRow [.int .u8 0] (5 * 1)).toArray [(0, .int .u8 32), (1, .int .u8 35), (2, .int .u8 97), (3, .int .u8 33), (4, .int .u8 59)] = some #[.int .u8 32, .int .u8 35, .int .u8 97, .int .u8 33, .int .u8 59] := by rfl
  simp only [buildSliceA, und34, size5, zero5, mkRow, hf]
  simp
theorem parts_five (E : Env) (i j l m n : Nat) (x y z u v : Operand) : (#[(i, x), (j, y), (l, z), (m, u), (n, v)] : Array (Nat × Operand)).map (fun (i, x) => (i, evalE E x)) = #[(i, evalE E x), (j, evalE E y), (l, evalE E z), (m, evalE E u), (n, evalE E v)] := by simp
theorem fill_cell (H : Heap) {y : Nat} (h : y < 5) : ∃ c : UInt8, (c = 32 ∨ c = 35 ∨ c = 97 ∨ c = 33 ∨ c = 59) ∧ ld1 (H.alloc 1 [.int .u8 32, .int .u8 35, .int .u8 97, .int .u8 33, .int .u8 59]) ((⟨H.next, 0, none⟩ : Addr).add y) = some (.int .u8 (c.toNat : Int), H.alloc 1 [.int .u8 32, .int .u8 35, .int .u8 97, .int .u8 33, .int .u8 59]) := by
  have hg : (H.alloc 1 [Value.int .u8 32, .int .u8 35, .int .u8 97, .int .u8 33, .int .u8 59]).get H.next = some ⟨[.int .u8 32, .int .u8 35, .int .u8 97, .int .u8 33, .int .u8 59], true, 1, none⟩ := by rw [Heap.get_alloc, if_pos rfl]
  have e : (⟨H.next, 0, none⟩ : Addr).add y = ⟨H.next, y, none⟩ := by rw [Addr.add_lit, Nat.zero_add]
  rw [e]
  have : y = 0 ∨ y = 1 ∨ y = 2 ∨ y = 3 ∨ y = 4 := by omega
  rcases this with rfl | rfl | rfl | rfl | rfl
  · exact ⟨32, by simp, by simp [ld1, look, hg]⟩
  · exact ⟨35, by simp, by simp [ld1, look, hg]⟩
  · exact ⟨97, by simp, by simp [ld1, look, hg]⟩
  · exact ⟨33, by simp, by simp [ld1, look, hg]⟩
  · exact ⟨59, by simp, by simp [ld1, look, hg]⟩

theorem rowF_full_fs {H0 H : Heap} {sb L : Nat} {c : UInt8} : FS H0 H sb L (fun j => if j < L then filB c j else 0) = FS H0 H sb L (filB c) := by
  apply propext
  constructor
  · intro h; exact ⟨h.next, by rw [← rowF_full]; exact h.here, h.there⟩
  · intro h; exact ⟨h.next, by rw [rowF_full]; exact h.here, h.there⟩
theorem fs_ext {G H2 H3 : Heap} {L : Nat} {g : Nat → UInt8} (hf : Fresh G) (h : Ext G H2) (hlt : G.next < H2.next) (k : FS H2 H3 G.next L g) : Ext G H3 := by
  refine ⟨by rw [k.next]; exact h.next, fun z w hz => ?_, fun z hz => ?_⟩
  · rw [k.there z (fun e => by rw [e, hf _ (Nat.le_refl _)] at hz; cases hz)]; exact h.keep z w hz
  · rw [k.next] at hz
    by_cases e : z = G.next
    · omega
    · rw [k.there z e]; exact h.fresh z hz
set_option maxHeartbeats 1000000 in
/-- Whatever the length and the kind: yes. -/
theorem bound_run {N d : Nat} (hN : 1100000 < N) {G : Heap} (hG : Ext GG G) (n kind : Int) : ∃ H', CG N hkD (d + 6) 4 #[.int .i64 n, .int .i64 kind] G = some (.ret (.bool true), H') := by
  obtain ⟨x, x0, x6, rn⟩ := call_within (N := N) (hk := hkD) (d := d + 4) (H := G) n (-2) 3 6 (by decide) (by decide) (by decide) (by decide) (by decide) (fun _ _ => hkD_none _ _ _ rfl)
  obtain ⟨L, hL⟩ : ∃ L : Nat, (L : Int) = 1048576 + (-2 + x) := ⟨(1048576 + (-2 + x)).toNat, by omega⟩
  have wL : IntKind.i64.wrap (1048576 + (-2 + x)) = (L : Int) := by rw [wrap_i64 (by omega) (by omega), hL]
  have mk := make_row G L (by omega)
  have gx : Ext G ((G.alloc 1 (rowF L fun _ => 0).cells).alloc 1 [.int .u8 32, .int .u8 35, .int .u8 97, .int .u8 33, .int .u8 59]) := (Ext.alloc hG.fresh 1 _).trans (.alloc (Ext.alloc hG.fresh 1 _).fresh 1 _)
  obtain ⟨y, y0, y5, rk⟩ := call_within (N := N) (hk := hkD) (d := d + 4) (H := (G.alloc 1 (rowF L fun _ => 0).cells).alloc 1 [.int .u8 32, .int .u8 35, .int .u8 97, .int .u8 33, .int .u8 59]) kind 0 4 5 (by decide) (by decide) (by decide) (by decide) (by decide) (fun _ _ => hkD_none _ _ _ rfl)
  obtain ⟨y', hy⟩ : ∃ q : Nat, 0 + y = (q : Int) := ⟨y.toNat, by omega⟩
  rw [hy] at rk
  obtain ⟨c, hc, hld⟩ := fill_cell (G.alloc 1 (rowF L fun _ => 0).cells) (y := y') (by omega)
  have hix := index_row (n := 5) (c := 5) (a := ⟨(G.alloc 1 (rowF L fun _ => 0).cells).next, 0, none⟩) (j := y') (by omega)
  have h2 : FS ((G.alloc 1 (rowF L fun _ => 0).cells).alloc 1 [.int .u8 32, .int .u8 35, .int .u8 97, .int .u8 33, .int .u8 59]) ((G.alloc 1 (rowF L fun _ => 0).cells).alloc 1 [.int .u8 32, .int .u8 35, .int .u8 97, .int .u8 33, .int .u8 59]) G.next L (fun j => if j < 0 then filB c j else 0) := by
    refine ⟨rfl, ?_, fun _ _ => rfl⟩
    rw [Heap.get_alloc, if_neg (by show ¬ G.next = G.next + 1; omega), Heap.get_alloc, if_pos rfl]
    rfl
  have main : ∃ R0 : R, CG N hkD (d + 6) 4 #[.int .i64 n, .int .i64 kind] G = R0 ∧ ∃ H', R0 = some (.ret (.bool true), H') := by
    refine ⟨_, callG_fn (hkD_none _ _ _ rfl) Tryd.func4 (c := codeOf Tryd.f4) rfl rfl rfl (pr := noPr) rfl, ?_⟩
    rw [code4]
    generalize hF : finE PP Tryd.f4 = F
    have l0 := (rfl : (rgn Tryd.f4 0).toList = (rgn Tryd.f4 0).toList)
    conv at l0 => rhs; simp only [rgn, opsAt, codeOf, Tryd.f4, Option.getD_some, Option.getD_none, reduceIte, Nat.reduceEqDiff, List.toList_toArray]
    have l1 := (rfl : (rgn Tryd.f4 1).toList = (rgn Tryd.f4 1).toList)
    conv at l1 => rhs; simp only [rgn, opsAt, codeOf, Tryd.f4, Option.getD_some, Option.getD_none, reduceIte, Nat.reduceEqDiff, List.toList_toArray]
    have l2 := (rfl : (rgn Tryd.f4 2).toList = (rgn Tryd.f4 2).toList)
    conv at l2 => rhs; simp only [rgn, opsAt, codeOf, Tryd.f4, Option.getD_some, Option.getD_none, reduceIte, Nat.reduceEqDiff, List.toList_toArray]
    have l3 := (rfl : (rgn Tryd.f4 3).toList = (rgn Tryd.f4 3).toList)
    conv at l3 => rhs; simp only [rgn, opsAt, codeOf, Tryd.f4, Option.getD_some, Option.getD_none, reduceIte, Nat.reduceEqDiff, List.toList_toArray]
    have l4 := (rfl : (rgn Tryd.f4 4).toList = (rgn Tryd.f4 4).toList)
    conv at l4 => rhs; simp only [rgn, opsAt, codeOf, Tryd.f4, Option.getD_some, Option.getD_none, reduceIte, Nat.reduceEqDiff, List.toList_toArray]
    have l10 := (rfl : (rgn Tryd.f4 10).toList = (rgn Tryd.f4 10).toList)
    conv at l10 => rhs; simp only [rgn, opsAt, codeOf, Tryd.f4, Option.getD_some, Option.getD_none, reduceIte, Nat.reduceEqDiff, List.toList_toArray]
    have l11 := (rfl : (rgn Tryd.f4 11).toList = (rgn Tryd.f4 11).toList)
    conv at l11 => rhs; simp only [rgn, opsAt, codeOf, Tryd.f4, Option.getD_some, Option.getD_none, reduceIte, Nat.reduceEqDiff, List.toList_toArray]
    have l12 := (rfl : (rgn Tryd.f4 12).toList = (rgn Tryd.f4 12).toList)
    conv at l12 => rhs; simp only [rgn, opsAt, codeOf, Tryd.f4, Option.getD_some, Option.getD_none, reduceIte, Nat.reduceEqDiff, List.toList_toArray]
    have l13 := (rfl : (rgn Tryd.f4 13).toList = (rgn Tryd.f4 13).toList)
    conv at l13 => rhs; simp only [rgn, opsAt, codeOf, Tryd.f4, Option.getD_some, Option.getD_none, reduceIte, Nat.reduceEqDiff, List.toList_toArray]
    have l14 := (rfl : (rgn Tryd.f4 14).toList = (rgn Tryd.f4 14).toList)
    conv at l14 => rhs; simp only [rgn, opsAt, codeOf, Tryd.f4, Option.getD_some, Option.getD_none, reduceIte, Nat.reduceEqDiff, List.toList_toArray]
    have l15 := (rfl : (rgn Tryd.f4 15).toList = (rgn Tryd.f4 15).toList)
    conv at l15 => rhs; simp only [rgn, opsAt, codeOf, Tryd.f4, Option.getD_some, Option.getD_none, reduceIte, Nat.reduceEqDiff, List.toList_toArray]
    have l16 := (rfl : (rgn Tryd.f4 16).toList = (rgn Tryd.f4 16).toList)
    conv at l16 => rhs; simp only [rgn, opsAt, codeOf, Tryd.f4, Option.getD_some, Option.getD_none, reduceIte, Nat.reduceEqDiff, List.toList_toArray]
    have l17 := (rfl : (rgn Tryd.f4 17).toList = (rgn Tryd.f4 17).toList)
    conv at l17 => rhs; simp only [rgn, opsAt, codeOf, Tryd.f4, Option.getD_some, Option.getD_none, reduceIte, Nat.reduceEqDiff, List.toList_toArray]
    have l18 := (rfl : (rgn Tryd.f4 18).toList = (rgn Tryd.f4 18).toList)
    conv at l18 => rhs; simp only [rgn, opsAt, codeOf, Tryd.f4, Option.getD_some, Option.getD_none, reduceIte, Nat.reduceEqDiff, List.toList_toArray]
    have l19 := (rfl : (rgn Tryd.f4 19).toList = (rgn Tryd.f4 19).toList)
    conv at l19 => rhs; simp only [rgn, opsAt, codeOf, Tryd.f4, Option.getD_some, Option.getD_none, reduceIte, Nat.reduceEqDiff, List.toList_toArray]
    have l20 := (rfl : (rgn Tryd.f4 20).toList = (rgn Tryd.f4 20).toList)
    conv at l20 => rhs; simp only [rgn, opsAt, codeOf, Tryd.f4, Option.getD_some, Option.getD_none, reduceIte, Nat.reduceEqDiff, List.toList_toArray]
    simp (decide := true) only [↓execG_seq, ↓g_region, ↓execG_block, thenE_norm, ↓r_nil, ↓r_cons, ↓o_move, ↓o_assign, ↓o_buildSlice, ↓o_load, ↓o_binOp, ↓o_makeSlice, ↓o_indexAddr, ↓o_callf, nextE_app, putK_app, putO_app, putG_int, normK_app, evalE_tmp, evalE_const, upd_some, bindO_ok, bindV_ok, reduceIte, map_three, startE_0, startE_1, ↓reg_lit l0, ↓reg_lit l1, ↓reg_lit l2, ↓reg_lit l3, ↓reg_lit l4, ↓execG_loop, callK_fn Tryd.func11 rfl rfl rn, binA_add, wL, mk, parts_five, bslice_fill, callK_fn Tryd.func11 rfl rfl rk, hix, load_byte hld]
    refine f_then (Q := fun r => ∃ H', r = some (.ret (.bool true), H')) (H0 := (G.alloc 1 (rowF L fun _ => 0).cells).alloc 1 [.int .u8 32, .int .u8 35, .int .u8 97, .int .u8 33, .int .u8 59]) (sb := G.next) (L := L) (c := c) (by omega) L 0 N (by omega) (by omega) h2 ?_ fun E' H3 e5 e7 h3 => ?_
    · exact ⟨by simp (decide := true) only [upd_some, reduceIte], by simp (decide := true) only [upd_some, reduceIte], by simp (decide := true) only [upd_some, reduceIte]; rfl⟩
    rw [rowF_full_fs] at h3
    have g3 : Ext GG H3 := hG.trans (fs_ext hG.fresh gx (by show G.next < G.next + 1 + 1; omega) h3)
    have b3 := txt_row h3.here (by omega)
    have hl := txt_len c L
    by_cases hlong : 1048576 < L
    · have ht := call_tokens_long (N := N) (hk := hkD) (d := d + 4) (H0 := H3) (a := some ⟨G.next, 0, none⟩) (c := L) (s := txt c L) hkD_none (by rw [hl]; exact hlong)
      rw [hl] at ht
      have hkn : CG N hkD (d + 5) 10 #[] H3 = some (.ret (.bool true), H3) := callG_hook (hk_known g3)
      have hgt : decide ((L : Int) > 1048576) = true := decide_eq_true (by omega)
      have z3 : ((3 : Int) == 3) = true := rfl
      have z0 : ((0 : Int) == 0) = true := rfl
      have zn : (((0 : Nat) : Int) == 0) = true := rfl
      simp (decide := true) only [↓execG_seq, ↓g_region, ↓execG_ret, ↓g_if, thenE_norm, thenE_ret, g_leave, ↓r_nil, ↓r_cons, ↓o_move, ↓o_assign, ↓o_pickt, ↓o_binOp, ↓o_extract, ↓o_builtin, ↓o_callf, nextE_app, putK_app, putO_app, putG_bool, normK_app, evalE_tmp, evalE_const, upd_some, bindO_ok, reduceIte, map_one, map_nil, ↓reg_lit l10, ↓reg_lit l11, ↓reg_lit l12, ↓r_yes _ 2 true 53 _ gd4_12_2, ↓r_yes _ 6 true 57 _ gd4_12_6, ↓r_yes _ 11 true 62 _ gd4_12_11, e5, callK_fn Tryd.func9 rfl rfl ht, ext0, ext1, ext2, len_slice (ts := #[26]) rfl und34, len_toks, binA_gtr, binA_eql, callK_fn Tryd.func10 rfl rfl hkn, hgt, z3, z0, zn]
      exact ⟨_, by rw [← hF, finE_ret (l := [.bool true]) (by simp (decide := true) [Tryd.f4, resE, upd_some])]; rfl⟩
    · have hgt : decide ((L : Int) > 1048576) = false := decide_eq_false (by omega)
      have tk : ∀ {l : List Tk} {r : Option Nat}, TRun (txt c L) (LexOk N hkD (d + 4) (some ⟨G.next, 0, none⟩) L (txt c L)) (LexBad N hkD (d + 4) (some ⟨G.next, 0, none⟩) L (txt c L)) 0 l r → l.length ≤ L → _ := fun run hlen =>
        call_tokens (N := N) (hk := hkD) (d := d) (c := L) g3 b3 hkD_none (by rw [hl]; omega) (by rw [hl]; omega) run (by rw [hl]; exact hlen)
      have z0 : ((0 : Int) == 0) = true := rfl
      have zn : (((0 : Nat) : Int) == 0) = true := rfl
      rcases hc with rfl | rfl | rfl | rfl | rfl
      · obtain ⟨H4, x4, v, e, q, ht, ⟨_, hv, rfl, rfl⟩ | ⟨w, hw, _⟩⟩ := tk (run_blank L) (Nat.zero_le _)
        · rw [hl] at ht
          obtain ⟨va, rfl⟩ := hv.len
          have hkn : CG N hkD (d + 5) 10 #[] H4 = some (.ret (.bool true), H4) := callG_hook (hk_known (g3.trans x4))
          have e7 : E' 7 = .int .u8 32 := e7
          have q1 : ((32 : Int) == 97) = false := rfl
          have q2 : ((32 : Int) == 59) = false := rfl
          have q3 : ((32 : Int) == 33) = false := rfl
          simp (decide := true) only [↓execG_seq, ↓g_region, ↓execG_block, ↓execG_ret, ↓execG_skip, ↓g_else, thenE_norm, leaveB_norm, g_leave, ↓r_nil, ↓r_cons, ↓o_move, ↓o_assign, ↓o_pickt, ↓o_binOp, ↓o_extract, ↓o_builtin, ↓o_callf, nextE_app, putK_app, putO_app, putG_bool, normK_app, evalE_tmp, evalE_const, upd_some, bindO_ok, reduceIte, map_one, map_nil, ↓reg_lit l10, ↓reg_lit l11, ↓reg_lit l13, ↓reg_lit l14, ↓reg_lit l16, ↓reg_lit l18, ↓reg_lit l20, ↓r_yes _ 2 true 122 _ gd4_20_2, ↓r_yes _ 6 true 126 _ gd4_20_6, ↓r_yes _ 11 true 131 _ gd4_20_11, e5, e7, callK_fn Tryd.func9 rfl rfl ht, ext0, ext1, ext2, len_slice (ts := #[26]) rfl und34, len_toks, binA_gtr, binA_eql, callK_fn Tryd.func10 rfl rfl hkn, hgt, z0, zn, q1, q2, q3, List.length_nil]
          exact ⟨_, by rw [← hF, finE_ret (l := [.bool true]) (by simp (decide := true) [Tryd.f4, resE, upd_some])]; rfl⟩
        · cases hw
      · obtain ⟨H4, x4, v, e, q, ht, ⟨_, hv, rfl, rfl⟩ | ⟨w, hw, _⟩⟩ := tk (run_hash (by omega)) (Nat.zero_le _)
        · rw [hl] at ht
          obtain ⟨va, rfl⟩ := hv.len
          have hkn : CG N hkD (d + 5) 10 #[] H4 = some (.ret (.bool true), H4) := callG_hook (hk_known (g3.trans x4))
          have e7 : E' 7 = .int .u8 35 := e7
          have q1 : ((35 : Int) == 97) = false := rfl
          have q2 : ((35 : Int) == 59) = false := rfl
          have q3 : ((35 : Int) == 33) = false := rfl
          simp (decide := true) only [↓execG_seq, ↓g_region, ↓execG_block, ↓execG_ret, ↓execG_skip, ↓g_else, thenE_norm, leaveB_norm, g_leave, ↓r_nil, ↓r_cons, ↓o_move, ↓o_assign, ↓o_pickt, ↓o_binOp, ↓o_extract, ↓o_builtin, ↓o_callf, nextE_app, putK_app, putO_app, putG_bool, normK_app, evalE_tmp, evalE_const, upd_some, bindO_ok, reduceIte, map_one, map_nil, ↓reg_lit l10, ↓reg_lit l11, ↓reg_lit l13, ↓reg_lit l14, ↓reg_lit l16, ↓reg_lit l18, ↓reg_lit l20, ↓r_yes _ 2 true 122 _ gd4_20_2, ↓r_yes _ 6 true 126 _ gd4_20_6, ↓r_yes _ 11 true 131 _ gd4_20_11, e5, e7, callK_fn Tryd.func9 rfl rfl ht, ext0, ext1, ext2, len_slice (ts := #[26]) rfl und34, len_toks, binA_gtr, binA_eql, callK_fn Tryd.func10 rfl rfl hkn, hgt, z0, zn, q1, q2, q3, List.length_nil]
          exact ⟨_, by rw [← hF, finE_ret (l := [.bool true]) (by simp (decide := true) [Tryd.f4, resE, upd_some])]; rfl⟩
        · cases hw
      · have hM : L = 20 * (52429 - 1) + 14 ∨ L = 20 * (52429 - 1) + 15 ∨ L = 20 * (52429 - 1) + 16 := by omega
        have rr := run_words (L := L) (M := 52429) (ok := LexOk N hkD (d + 4) (some ⟨G.next, 0, none⟩) L (txt 97 L)) (bad := LexBad N hkD (d + 4) (some ⟨G.next, 0, none⟩) L (txt 97 L)) hM (by decide) (fun k hk => ok_word hM hk (by omega)) 52429 0 rfl
        have ll : ((List.range' 0 52429).map (wordK L)).length = 52429 := by rw [List.length_map, List.length_range']
        obtain ⟨H4, x4, v, e, q, ht, ⟨_, hv, rfl, rfl⟩ | ⟨w, hw, _⟩⟩ := tk rr (by rw [ll]; omega)
        · rw [hl] at ht
          obtain ⟨va, rfl⟩ := hv.len
          rw [ll] at ht
          have hkn : CG N hkD (d + 5) 10 #[] H4 = some (.ret (.bool true), H4) := callG_hook (hk_known (g3.trans x4))
          have e7 : E' 7 = .int .u8 97 := e7
          have q1 : ((97 : Int) == 97) = true := rfl
          have z20 : (20 : Int) ≠ 0 := by decide
          have hq : IntKind.i64.wrap ((L : Int).tdiv 20) = 52428 := by rcases hM with h | h | h <;> rw [h] <;> rfl
          have hq2 : IntKind.i64.wrap (52428 + 1) = 52429 := rfl
          have hq3 : (((52429 : Nat) : Int) == 52429) = true := rfl
          simp (decide := true) only [↓execG_seq, ↓g_region, ↓execG_block, ↓execG_ret, ↓execG_skip, ↓g_if, ↓g_else, thenE_norm, thenE_ret, leaveB_ret, g_leave, ↓r_nil, ↓r_cons, ↓o_move, ↓o_assign, ↓o_pickt, ↓o_binOp, ↓o_extract, ↓o_builtin, ↓o_callf, nextE_app, putK_app, putO_app, putG_bool, putG_int, normK_app, evalE_tmp, evalE_const, upd_some, bindO_ok, reduceIte, map_one, map_nil, ↓reg_lit l10, ↓reg_lit l11, ↓reg_lit l13, ↓reg_lit l14, ↓reg_lit l15, ↓r_yes _ 2 true 70 _ gd4_15_2, ↓r_yes _ 6 true 74 _ gd4_15_6, ↓r_yes _ 15 true 83 _ gd4_15_15, e5, e7, callK_fn Tryd.func9 rfl rfl ht, ext0, ext1, ext2, len_slice (ts := #[26]) rfl und34, len_toks, binA_gtr, binA_eql, callK_fn Tryd.func10 rfl rfl hkn, hgt, z0, q1, binA_quo z20, hq, binA_add, hq2, hq3]
          exact ⟨_, by rw [← hF, finE_ret (l := [.bool true]) (by simp (decide := true) [Tryd.f4, resE, upd_some])]; rfl⟩
        · cases hw
      · obtain ⟨H4, x4, v, e, q, ht, ⟨hw, _⟩ | ⟨w, hw, rfl, rfl, rfl⟩⟩ := tk (run_bang (by omega) (bad_bang (by omega))) (Nat.zero_le _)
        · cases hw
        · obtain rfl := Option.some.inj hw
          rw [hl] at ht
          have hkn : CG N hkD (d + 5) 10 #[] H4 = some (.ret (.bool true), H4) := callG_hook (hk_known (g3.trans x4))
          have e7 : E' 7 = .int .u8 33 := e7
          have q1 : ((33 : Int) == 97) = false := rfl
          have q2 : ((33 : Int) == 59) = false := rfl
          have q3 : ((33 : Int) == 33) = true := rfl
          have q4 : ((60 : Int) == 60) = true := rfl
          have q5 : (((1 : Nat) : Int) == 1) = true := rfl
          simp (decide := true) only [↓execG_seq, ↓g_region, ↓execG_block, ↓execG_ret, ↓execG_skip, ↓g_if, ↓g_else, thenE_norm, thenE_ret, leaveB_ret, g_leave, ↓r_nil, ↓r_cons, ↓o_move, ↓o_assign, ↓o_pickt, ↓o_binOp, ↓o_extract, ↓o_builtin, ↓o_callf, nextE_app, putK_app, putO_app, putG_bool, normK_app, evalE_tmp, evalE_const, upd_some, bindO_ok, reduceIte, map_one, map_nil, ↓reg_lit l10, ↓reg_lit l11, ↓reg_lit l13, ↓reg_lit l14, ↓reg_lit l16, ↓reg_lit l18, ↓reg_lit l19, ↓r_yes _ 2 true 108 _ gd4_19_2, ↓r_yes _ 6 true 112 _ gd4_19_6, ↓r_yes _ 11 true 117 _ gd4_19_11, e5, e7, callK_fn Tryd.func9 rfl rfl ht, ext0, ext1, ext2, len_slice (ts := #[26]) rfl und34, len_toks, binA_gtr, binA_eql, callK_fn Tryd.func10 rfl rfl hkn, hgt, zn, q1, q2, q3, q4, q5]
          exact ⟨_, by rw [← hF, finE_ret (l := [.bool true]) (by simp (decide := true) [Tryd.f4, resE, upd_some])]; rfl⟩
      · have rr := run_semi (L := L) (ok := LexOk N hkD (d + 4) (some ⟨G.next, 0, none⟩) L (txt 59 L)) (bad := LexBad N hkD (d + 4) (some ⟨G.next, 0, none⟩) L (txt 59 L)) (fun i hi => ok_semi hi) L 0 (by omega)
        have ll : ((List.range' 0 L).map semi).length = L := by rw [List.length_map, List.length_range']
        obtain ⟨H4, x4, v, e, q, ht, ⟨_, hv, rfl, rfl⟩ | ⟨w, hw, _⟩⟩ := tk rr (by rw [ll]; exact Nat.le_refl _)
        · rw [hl] at ht
          obtain ⟨va, rfl⟩ := hv.len
          rw [ll] at ht
          have hkn : CG N hkD (d + 5) 10 #[] H4 = some (.ret (.bool true), H4) := callG_hook (hk_known (g3.trans x4))
          have e7 : E' 7 = .int .u8 59 := e7
          have q1 : ((59 : Int) == 97) = false := rfl
          have q2 : ((59 : Int) == 59) = true := rfl
          have q3 : ((L : Int) == (L : Int)) = true := by simp
          simp (decide := true) only [↓execG_seq, ↓g_region, ↓execG_block, ↓execG_ret, ↓execG_skip, ↓g_if, ↓g_else, thenE_norm, thenE_ret, leaveB_ret, g_leave, ↓r_nil, ↓r_cons, ↓o_move, ↓o_assign, ↓o_pickt, ↓o_binOp, ↓o_extract, ↓o_builtin, ↓o_callf, nextE_app, putK_app, putO_app, putG_bool, normK_app, evalE_tmp, evalE_const, upd_some, bindO_ok, reduceIte, map_one, map_nil, ↓reg_lit l10, ↓reg_lit l11, ↓reg_lit l13, ↓reg_lit l14, ↓reg_lit l16, ↓reg_lit l17, ↓r_yes _ 2 true 90 _ gd4_17_2, ↓r_yes _ 6 true 94 _ gd4_17_6, ↓r_yes _ 13 true 101 _ gd4_17_13, e5, e7, callK_fn Tryd.func9 rfl rfl ht, ext0, ext1, ext2, len_slice (ts := #[26]) rfl und34, len_toks, binA_gtr, binA_eql, callK_fn Tryd.func10 rfl rfl hkn, hgt, z0, q1, q2, q3]
          exact ⟨_, by rw [← hF, finE_ret (l := [.bool true]) (by simp (decide := true) [Tryd.f4, resE, upd_some])]; rfl⟩
        · cases hw
  obtain ⟨R0, m1, H', m2⟩ := main
  exact ⟨H', m1.trans m2⟩
end Go.Am
