/- The functions that are looked up: their tables, and that they answer what the code asks; the law in every world that holds the tables. -/
import Derived.Test.YtohmeeglehopiaaDoorW6
import Derived.Test.YtohmeeglehopiaaDoorU4
import Derived.Test.YtohmeeglehopiaaDoorAmO
import Derived.Lib.LaidTab
import Derived.Shelf.Vars
import Derived.Stop.LaidErr
import Derived.Below
import Derived.MakeChecks
import Derived.Test.YtohmeeglehopiaaDoorRows
namespace Go.Am
open Go.Proofs
def hkW : Hook := hookOr (tabH GE gsE 44 fun u => .bool (digN u)) (hookOr (tabH GE gsE 45 fun u => .bool (wbN u)) (hookOr (tabH GE gsE 50 fun u => .int .i64 (rhN u)) (hookOr hookD (hookOr hookQ (hookOr hookL hkT)))))
theorem hkW_sound : HookSnd PP hkW :=
  hookOr_sound (tabH_sound (fast_sound hook0_sound) tabs_GE gs_GE digs_ok) (hookOr_sound (tabH_sound (fast_sound hook0_sound) tabs_GE gs_GE wbs_ok) (hookOr_sound (tabH_sound (fast_sound hook0_sound) tabs_GE gs_GE rhs_ok)
    (hookOr_sound hookD_sound (hookOr_sound hookQ_sound (hookOr_sound hookL_sound hkT_sound)))))
theorem hookD_none {f : FuncId} {args : Array Value} {H : Heap} (h : Nat.beq f 31 = false) : hookD f args H = none := by simp only [hookD, h, cond_false]
theorem hookQ_none {f : FuncId} {args : Array Value} {H : Heap} (h : Nat.beq f 32 = false) : hookQ f args H = none := by simp only [hookQ, h, cond_false]
theorem hookL_none {f : FuncId} {args : Array Value} {H : Heap} (h : Nat.beq f 68 = false) (h2 : Nat.beq f 69 = false) (h3 : Nat.beq f 70 = false) : hookL f args H = none := by simp only [hookL, h, h2, h3, cond_false]
theorem hkW_at {f : FuncId} {args : Array Value} {H : Heap} (h : ∀ k ∈ [44, 45, 50, 31, 32, 68, 69, 70], Nat.beq f k = false) : hkW f args H = hkT f args H := by
  unfold hkW
  rw [hookOr_right (tabH_none (h 44 (by decide))), hookOr_right (tabH_none (h 45 (by decide))), hookOr_right (tabH_none (h 50 (by decide))), hookOr_right (hookD_none (h 31 (by decide))), hookOr_right (hookQ_none (h 32 (by decide))), hookOr_right (hookL_none (h 68 (by decide)) (h 69 (by decide)) (h 70 (by decide)))]
theorem not_of {f : FuncId} (h : okC f = true) : ∀ k ∈ [44, 45, 50, 31, 32, 68, 69, 70], Nat.beq f k = false := fun k hk => okC_no k (by
  simp only [List.mem_cons, List.not_mem_nil, or_false] at hk
  rcases hk with rfl | rfl | rfl | rfl | rfl | rfl | rfl | rfl <;> rfl) h
theorem skip_at {f : FuncId} (h : ([44, 45, 50, 31, 32, 68, 69, 70].all fun k => !Nat.beq f k) = true) : ∀ k ∈ [44, 45, 50, 31, 32, 68, 69, 70], Nat.beq f k = false := fun k hk => by
  have := List.all_eq_true.mp h k hk
  simpa using this
theorem hkW_none : ∀ f args H, okC f = true → hkW f args H = none := fun f args H h => by
  rw [hkW_at (not_of h)]
  exact hkT_none f args H h
theorem hkW_ok : HkOk hkW :=
  ⟨hkW_none, fun u H hG => by rw [hkW_at (skip_at rfl)]; exact hkT_ok.single u H hG, fun u H hG => by rw [hkW_at (skip_at rfl)]; exact hkT_ok.hex u H hG,
    fun x y H hx hy => by rw [hkW_at (skip_at rfl)]; exact hkT_ok.mul x y H hx hy, fun H hG => by rw [hkW_at (skip_at rfl)]; exact hkT_ok.fields H hG⟩
theorem hkW_okB : HkB hkW :=
  ⟨fun u H hu hG => by rw [hkW_at (skip_at rfl)]; exact hkB_ok.num u H hu hG, fun H hG => by rw [hkW_at (skip_at rfl)]; exact hkB_ok.pw H hG, fun H hG => by rw [hkW_at (skip_at rfl)]; exact hkB_ok.tz H hG⟩
theorem hkW_known {H : Heap} (hG : Ext GE H) : hkW 10 #[] H = some (some (.ret (.bool true), H)) := by
  rw [hkW_at (skip_at rfl)]; exact hk_known hG
theorem hkW_okR : HkR hkW := by
  refine ⟨hkW_none, fun u H hG => ?_, fun u H hG => ?_, fun u H hG => ?_⟩
  · exact hookOr_left (tabH_at hG u)
  · unfold hkW
    rw [hookOr_right (tabH_none rfl)]
    exact hookOr_left (tabH_at hG u)
  · unfold hkW
    rw [hookOr_right (tabH_none rfl), hookOr_right (tabH_none rfl)]
    exact hookOr_left (tabH_at hG u)
theorem err4 {H : Heap} (hG : Ext GE H) : errAt H 4 = true := by
  have h := hG.keep 4 ⟨[errV 13], false, 1, none⟩ rfl
  simp only [errAt, h]; rfl
theorem err5 {H : Heap} (hG : Ext GE H) : errAt H 5 = true := by
  have h := hG.keep 5 ⟨[errV 14], false, 1, none⟩ rfl
  simp only [errAt, h]; rfl
theorem hookQ_at {H : Heap} (hG : Ext GE H) {p : List UInt8} (hp : p.length ≤ 281474976710656) : hookQ 32 #[.string ⟨⟨p⟩⟩, .int .i64 10, .int .i64 64] H = (match Lib.parseUintB 64 p with
        | .ok u => some (some (.ret (.tuple #[.int .u64 (u : Int), .nilIface]), H))
        | .range => some (badV H 18446744073709551615)
        | _ => some (badV H 0)) := by
  have c : (decide ((⟨⟨p⟩⟩ : ByteArray).size ≤ 281474976710656) && (errAt H 4 && errAt H 5)) = true := by
    rw [err4 hG, err5 hG, decide_eq_true (show (⟨⟨p⟩⟩ : ByteArray).size ≤ 281474976710656 from hp)]; rfl
  show cond (decide ((⟨⟨p⟩⟩ : ByteArray).size ≤ 281474976710656) && (errAt H 4 && errAt H 5)) _ none = _
  rw [c]; rfl
theorem hkW_okW : HkW hkW := by
  refine ⟨fun s H hs hm => ?_, fun p u H hG hp hu => ?_, fun p H hG hp hno => ?_, fun u H hu => ?_, fun u H h1 h2 hG => ?_, fun u b c H hu hb => ?_⟩
  · unfold hkW
    rw [hookOr_right (tabH_none rfl), hookOr_right (tabH_none rfl), hookOr_right (tabH_none rfl)]
    refine hookOr_left ?_
    have c : (decide ((⟨#[46]⟩ : ByteArray).data.toList = [46]) && decide ((⟨⟨s⟩⟩ : ByteArray).size < 4294967281) && maxOk H) = true := by
      rw [hm, decide_eq_true (show (⟨⟨s⟩⟩ : ByteArray).size < 4294967281 from hs)]; rfl
    show cond (decide ((⟨#[46]⟩ : ByteArray).data.toList = [46]) && decide ((⟨⟨s⟩⟩ : ByteArray).size < 4294967281) && maxOk H) _ none = _
    rw [c]; rfl
  · unfold hkW
    rw [hookOr_right (tabH_none rfl), hookOr_right (tabH_none rfl), hookOr_right (tabH_none rfl), hookOr_right (hookD_none rfl)]
    refine hookOr_left ?_
    rw [hookQ_at hG hp, hu]
  · unfold hkW
    rw [hookOr_right (tabH_none rfl), hookOr_right (tabH_none rfl), hookOr_right (tabH_none rfl), hookOr_right (hookD_none rfl)]
    have hq := hookQ_at hG hp
    cases he : Lib.parseUintB 64 p with
    | ok u => exact absurd he (hno u)
    | range => rw [he] at hq; exact ⟨_, hookOr_left hq⟩
    | _ => rw [he] at hq; exact ⟨_, hookOr_left hq⟩
  · unfold hkW
    rw [hookOr_right (tabH_none rfl), hookOr_right (tabH_none rfl), hookOr_right (tabH_none rfl), hookOr_right (hookD_none rfl), hookOr_right (hookQ_none rfl)]
    refine hookOr_left ?_
    have c : (decide ((0 : Int) ≤ (u : Int)) && decide ((u : Int) < 100)) = true := by
      rw [decide_eq_true (show (0 : Int) ≤ (u : Int) by omega), decide_eq_true (show (u : Int) < 100 by omega)]; rfl
    show cond (decide ((0 : Int) ≤ (u : Int)) && decide ((u : Int) < 100)) _ none = _
    rw [c]; rfl
  · unfold hkW
    rw [hookOr_right (tabH_none rfl), hookOr_right (tabH_none rfl), hookOr_right (tabH_none rfl), hookOr_right (hookD_none rfl), hookOr_right (hookQ_none rfl)]
    refine hookOr_left ?_
    have e68 : Nat.beq 69 68 = false := rfl
    have e69 : Nat.beq 69 69 = true := rfl
    have c1 : decide ((1 : Int) ≤ (u : Int)) = true := decide_eq_true (by omega)
    have c2 : decide ((u : Int) < 18446744073709551616) = true := decide_eq_true (by omega)
    simp only [hookL, e68, e69, cond_false, cond_true, c1, c2, pow_ok hG, Bool.and_self, Int.toNat_natCast]
  · unfold hkW
    rw [hookOr_right (tabH_none rfl), hookOr_right (tabH_none rfl), hookOr_right (tabH_none rfl), hookOr_right (hookD_none rfl), hookOr_right (hookQ_none rfl)]
    refine hookOr_left ?_
    have hv : veqs zs24 zs24 = true := by decide +kernel
    have hr : rowOk H b = true := by
      simp only [rowOk, hb, hv]; rfl
    have e68 : Nat.beq 70 68 = false := rfl
    have e69 : Nat.beq 70 69 = false := rfl
    have e70 : Nat.beq 70 70 = true := rfl
    have c1 : decide ((0 : Int) ≤ (u : Int)) = true := decide_eq_true (by omega)
    have c2 : decide ((u : Int) < 18446744073709551616) = true := decide_eq_true (by omega)
    simp only [hookL, e68, e69, e70, cond_false, cond_true, c1, c2, dT, hr, Bool.and_self, Int.toNat_natCast]
theorem words_sound (N : Nat) : KSnd PP (CG N hkW 9) := callG_sound goodAllG XX_sound hkW_sound mixed 9
end Go.Am
/- A listed table of texts holds its texts. -/
namespace Go.Am
def strData {H : Type} (l : List (List UInt8)) : DataW H := .agg (l.map fun s => .lit (.string s))
theorem cells_of_strs {H : Type} {enc : TypeId × Value → H} {P : Program} {w : World} {base : Nat} {sp : Nat → Bool} {held : Bool} {fuel : Nat} {t e : TypeId} {n : Nat} {cs : List Value} {l : List (List UInt8)} {p : List MemPlace}
    (ht : P.underlying t = some (.array n e)) (he : P.underlying e = some .string) (hce : P.cellsOf e = 1) (hct : P.cellsOf t = n)
    (h : DataW.trod enc P w base sp held fuel t cs = some (strData l, p)) : cs = l.map fun s => Value.string ⟨⟨s⟩⟩ := by
  cases fuel with
  | zero => simp [DataW.trod] at h
  | succ fuel =>
    simp only [DataW.trod, ht, hce, hct, Nat.mul_one] at h
    split at h
    · rename_i hl
      obtain ⟨xs, hm, hx⟩ := Option.map_eq_some_iff.1 h
      have hxs : xs.map (·.1) = l.map fun s => (DataW.lit (.string s) : DataW H) := by
        have := congrArg Prod.fst hx
        simpa [strData] using this
      have hxl : xs.length = n := by simpa using Lib.mapM_length hm
      have hzl : l.length = n := by
        have := congrArg List.length hxs
        simp at this
        omega
      apply List.ext_getElem?
      intro i
      by_cases hi : i < n
      · obtain ⟨b, hb, hf⟩ := Lib.mapM_at hm i i (by simp [hi])
        obtain ⟨s, hc, rfl, _⟩ := DataW.trod_string he hf
        have h1 : cs[i]? = some (.string s) := by
          have := congrArg (·[0]?) hc
          simpa [List.getElem?_take, List.getElem?_drop] using this
        have h2 : (xs.map (·.1))[i]? = some (DataW.lit (.string s.data.toList) : DataW H) := by simp [hb]
        rw [hxs] at h2
        simp only [List.getElem?_map, Option.map_eq_some_iff, DataW.lit.injEq, Lit.string.injEq] at h2
        obtain ⟨z, hz, rfl⟩ := h2
        simp [h1, hz]
      · rw [List.getElem?_eq_none (by omega), List.getElem?_eq_none (by simp; omega)]
    · cases h
theorem strsIs_of_head {P : Program} {W : World} {name : String} {l : List (List UInt8)} {rest : List (String × DataW Unit)} {g : Nat} {t e : TypeId} {n : Nat}
    (hg : P.globalNamed name = some g) (hty : (P.globals[g]?).map (·.type) = some t) (ht : P.underlying t = some (.array n e)) (he : P.underlying e = some .string) (hce : P.cellsOf e = 1) (hct : P.cellsOf t = n)
    (h : laidMet P ((name, strData l) :: rest) W) : W.var? P name = some (l.map fun s => Value.string ⟨⟨s⟩⟩).toArray := by
  obtain ⟨ps, ⟨g', t', cs, fuel, p, q, hg', ht', hvar, hd, _, _⟩, _⟩ := h
  obtain rfl := Option.some.inj (hg.symm.trans hg')
  obtain rfl := Option.some.inj (hty.symm.trans ht')
  rw [hvar, ← cells_of_strs ht he hce hct hd]
end Go.Am
/- From the listed tables to the small heap; the law in every world that holds them. -/
namespace Go.Am
open Go.Proofs Go.Proofs.YtohmeeglehopiaaDoor

noncomputable def mTop (_w : World) (a4 a5 : Addr) : Mp := fun b =>
  if b < 13 then some ⟨b, 0, 1, szG PP b⟩ else if b = 13 then some ⟨a4.block, a4.off, 1, 0⟩ else if b = 14 then some ⟨a5.block, a5.off, 1, 0⟩ else none
theorem var_heap {P : Program} {w : World} {n : String} {g : Nat} {cs : Array Value} (hg : P.globalNamed n = some g) (h : w.var? P n = some cs) : ∃ t fz, w.heap[g]? = some (.cells cs t fz) := by
  unfold World.var? at h
  rw [hg] at h
  simp only [Option.bind_some] at h
  split at h
  · rename_i cs' t fz he
    obtain rfl := Option.some.inj h
    exact ⟨t, fz, he⟩
  · cases h
structure Laid (w : World) (a4 a5 : Addr) : Prop where
  size : 13 ≤ w.heap.size
  classes : w.var? PP "bulkhead/scan.classes" = some (classesL.map fun z => Value.int .u8 z).toArray
  ascii : w.var? PP "strings.asciiSpace" = some asciiV.toArray
  syn : w.var? PP "strconv.ErrSyntax" = some #[.iface 122 (.pointer (some a4))]
  rng : w.var? PP "strconv.ErrRange" = some #[.iface 122 (.pointer (some a5))]
  pow : w.var? PP "internal/strconv.uint64pow10" = some powV.toArray
  bru : w.var? PP "math/bits.deBruijn64tab" = some bruV.toArray
  res : w.var? PP "bulkhead/bulkheadref5.reserved" = some wordsV.toArray
  most : ∃ k t fz, w.heap[7]? = some (.cells #[.int .i64 k] t fz)
  cell4 : ∃ v, w.cell? a4 = some v
  cell5 : ∃ v, w.cell? a5 = some v
theorem cell_spot {w : World} {a : Addr} (h : ∃ v, w.cell? a = some v) : a.spot = none ∧ a.block < w.heap.size := by
  obtain ⟨v, hv⟩ := h
  refine ⟨World.cell?_spot hv, ?_⟩
  unfold World.cell? at hv
  split at hv
  · rename_i he
    exact (Array.getElem?_eq_some_iff.mp he).1
  · cases hv
theorem g0 : PP.globalNamed "bulkhead/bulkheadref5.reserved" = some 0 := by kernel_rfl
theorem g1 : PP.globalNamed "bulkhead/scan.classes" = some 1 := by kernel_rfl
theorem g2 : PP.globalNamed "strings.asciiSpace" = some 2 := by kernel_rfl
theorem g4 : PP.globalNamed "strconv.ErrSyntax" = some 4 := by kernel_rfl
theorem g5 : PP.globalNamed "strconv.ErrRange" = some 5 := by kernel_rfl
theorem g6 : PP.globalNamed "internal/strconv.uint64pow10" = some 6 := by kernel_rfl
theorem g11 : PP.globalNamed "math/bits.deBruijn64tab" = some 11 := by kernel_rfl
theorem lies_tab {w : World} {m : Mp} {g : Nat} {cs : List Value} {t : TypeId} {fz : Nat × Nat} (h : w.heap[g]? = some (.cells cs.toArray t fz)) (hsz : cs.length = szG PP g) (hall : cs.all atomic = true) :
    Lies m w ⟨cs, false, 1, none⟩ ⟨g, 0, 1, szG PP g⟩ := by
  have hv : ∀ i (a : i < cs.length), VR m cs[i] cs[i] := fun i a => .atom _ (List.all_eq_true.mp hall _ (List.getElem_mem a))
  refine ⟨rfl, by simp [hsz], fun _ => ⟨cs.toArray, t, fz, h, by simp [hsz], fun i a b => ?_, fun hr => by simp at hr⟩, fun o ho => by simp at ho⟩
  simpa using hv i a
theorem lies_err {w : World} {m : Mp} {g b : Nat} {a : Addr} {t : TypeId} {fz : Nat × Nat} (h : w.heap[g]? = some (.cells #[.iface 122 (.pointer (some a))] t fz)) (hsz : 1 = szG PP g) (hs : a.spot = none) (e : Nat) (hm : m b = some ⟨a.block, a.off, 1, e⟩) :
    Lies m w ⟨[errV b], false, 1, none⟩ ⟨g, 0, 1, szG PP g⟩ := by
  refine ⟨rfl, by simp [← hsz], fun _ => ⟨_, t, fz, h, by simp [← hsz], fun i a1 b1 => ?_, fun hr => by simp at hr⟩, fun o ho => by simp at ho⟩
  have h0 : i = 0 := by simp at a1; exact a1
  subst h0
  have hp := VR.ptr (m := m) b 0 _ hm
  have ea : (⟨a.block, a.off + 0, none⟩ : Addr) = a := by cases a; simp_all
  rw [ea] at hp
  exact .iface 122 _ _ hp
/-- The small heap, and a number in block 7. -/
def GM (k : Int) : Heap := GE.set 7 ⟨[.int .i64 k], false, 1, none⟩
theorem GM_ext (k : Int) : Ext GE (GM k) := by
  refine ⟨Nat.le_refl _, fun b x hb => ?_, fun b hb => ?_⟩
  · have h7 : b ≠ 7 := fun e => by
      subst e
      rcases GE_get 7 x hb with ⟨h, _⟩ | ⟨h, _⟩ | ⟨h, _⟩ | ⟨h, _⟩ | ⟨h, _⟩ | ⟨h, _⟩ | ⟨h, _⟩ <;> exact absurd h (by decide)
    rw [GM, Heap.get_set, if_neg h7]; exact hb
  · have hb' : 15 ≤ b := hb
    rw [GM, Heap.get_set, if_neg (by omega)]
    exact tabs_GE.fresh b hb
theorem GM_max (k : Int) : maxOk (GM k) = true := by
  have h : (GM k).get 7 = some ⟨[.int .i64 k], false, 1, none⟩ := by rw [GM, Heap.get_set, if_pos rfl]
  simp only [maxOk, h]; rfl
theorem GM_get (k : Int) : ∀ b x, (GM k).get b = some x → (b = 7 ∧ x = ⟨[.int .i64 k], false, 1, none⟩) ∨ GE.get b = some x := by
  intro b x hb
  rw [GM, Heap.get_set] at hb
  by_cases h : b = 7
  · rw [if_pos h] at hb; exact .inl ⟨h, (Option.some.inj hb).symm⟩
  · rw [if_neg h] at hb; exact .inr hb
theorem GM_ro (k : Int) : ∀ b x, (GM k).get b = some x → x.rw = false := by
  intro b x hb
  rcases GM_get k b x hb with ⟨_, rfl⟩ | hb
  · rfl
  · exact (tabs_GE.ro b x hb).1
theorem GM_owns (k : Int) (m : Mp) (c : Nat) : ¬ Owns m (GM k) c := fun ⟨b, x, _, hb, hrw, _⟩ => by rw [GM_ro k b x hb] at hrw; cases hrw
theorem Laid.rel {w : World} {a4 a5 : Addr} (h : Laid w a4 a5) : ∃ k, Rel (mTop w a4 a5) (GM k) w := by
  obtain ⟨k, t7, f7, h7⟩ := h.most
  refine ⟨k, ?_⟩
  obtain ⟨t0, f0, h0⟩ := var_heap g0 h.res
  obtain ⟨t1, f1, h1⟩ := var_heap g1 h.classes
  obtain ⟨t2, f2, h2⟩ := var_heap g2 h.ascii
  obtain ⟨t4, f4, h4⟩ := var_heap g4 h.syn
  obtain ⟨t5, f5, h5⟩ := var_heap g5 h.rng
  obtain ⟨t6, f6, h6⟩ := var_heap g6 h.pow
  obtain ⟨t11, f11, h11⟩ := var_heap g11 h.bru
  have c4 := cell_spot h.cell4
  have c5 := cell_spot h.cell5
  refine ⟨fun b x hb => ?_, fun b x hb hrw => ?_, fun b L hm => ?_, fun b hb => ⟨?_, (GM_ext k).fresh b hb⟩⟩
  · rcases GM_get k b x hb with ⟨rfl, rfl⟩ | hb
    · exact ⟨_, rfl, lies_tab h7 (by kernel_rfl) rfl⟩
    · rcases GE_get b x hb with ⟨rfl, rfl⟩ | ⟨rfl, rfl⟩ | ⟨rfl, rfl⟩ | ⟨rfl, rfl⟩ | ⟨rfl, rfl⟩ | ⟨rfl, rfl⟩ | ⟨rfl, rfl⟩
      · exact ⟨_, rfl, lies_tab h0 (by kernel_rfl) (by decide +kernel)⟩
      · exact ⟨_, rfl, lies_tab h1 (by kernel_rfl) (by decide +kernel)⟩
      · exact ⟨_, rfl, lies_tab h2 (by kernel_rfl) (by decide +kernel)⟩
      · exact ⟨_, rfl, lies_err h4 (by kernel_rfl) c4.1 0 rfl⟩
      · exact ⟨_, rfl, lies_err h5 (by kernel_rfl) c5.1 0 rfl⟩
      · exact ⟨_, rfl, lies_tab h6 (by kernel_rfl) (by decide +kernel)⟩
      · exact ⟨_, rfl, lies_tab h11 (by kernel_rfl) (by decide +kernel)⟩
  · rw [GM_ro k b x hb] at hrw; cases hrw
  · unfold mTop at hm
    have hs := h.size
    split at hm
    · obtain rfl := Option.some.inj hm; simp only; omega
    · split at hm
      · obtain rfl := Option.some.inj hm; exact c4.2
      · split at hm
        · obtain rfl := Option.some.inj hm; exact c5.2
        · cases hm
  · have : 15 ≤ b := hb
    unfold mTop
    rw [if_neg (by omega), if_neg (by omega), if_neg (by omega)]
theorem gl_top (w : World) (a4 a5 : Addr) : Gl PP (mTop w a4 a5) := fun g hg => by
  rw [globals_size] at hg
  exact ⟨⟨g, 0, 1, szG PP g⟩, by simp [mTop, hg], rfl, rfl, rfl⟩
/-- What is kept is what the rows ask. -/
theorem below_of {m : Mp} {H : Heap} {w w' : World} (k : Keep m H w w') (hno : ∀ c, ¬ Owns m H c) : Go.RowKit.Below w.heap.size w w' := ⟨k.os, k.tape, k.output, k.size, fun c hc => k.block c hc (hno c)⟩
theorem star : "*" ++ "errors.errorString" = "*errors.errorString" := by decide
theorem row122 (u : TypeId) (h : PP.typeName? 3 u = some "*errors.errorString") : u = 122 :=
  typeName_ptr_named (nm := "errors.errorString") (by rw [star]; kernel_rfl) (by kernel_rfl) (by decide) u (by rw [star]; exact h)
theorem heap_size {W : World} (hsh : W.ShapedOpen PP) : 13 ≤ W.heap.size := by
  have h12 : ((((begin PP (fun _ _ => 0) default).world.heap[12]?).bind Obj.row?).isSome) = true := by kernel_rfl
  obtain ⟨⟨zero, t⟩, hz⟩ := Option.isSome_iff_exists.mp h12
  obtain ⟨cs, hcs, _⟩ := hsh.1 12 zero t (by rw [globals_size]; decide) hz
  have := (Array.getElem?_eq_some_iff.mp hcs).1
  omega
/-- The listed tables, told by their places on the list. -/
theorem laid_parts {W : World} {rC rA rS rR rP rB rW : List (String × DataW Unit)} (hW : laidMet PP (("bulkhead/bulkheadref5.reserved", Rows.laid_bulkhead_bulkheadref5_reserved) :: rW) W) (hC : laidMet PP (("bulkhead/scan.classes", Rows.laid_bulkhead_scan_classes) :: rC) W) (hA : laidMet PP (("strings.asciiSpace", Rows.laid_strings_asciiSpace) :: rA) W)
    (hS : laidMet PP (("strconv.ErrSyntax", Rows.laid_strconv_ErrSyntax) :: rS) W) (hR : laidMet PP (("strconv.ErrRange", Rows.laid_strconv_ErrRange) :: rR) W)
    (hP : laidMet PP (("internal/strconv.uint64pow10", Rows.laid_internal_strconv_uint64pow10) :: rP) W) (hB : laidMet PP (("math/bits.deBruijn64tab", Rows.laid_math_bits_deBruijn64tab) :: rB) W) (hsh : W.ShapedOpen PP) : ∃ a4 a5, Laid W a4 a5 := by
  have eA : (Rows.laid_strings_asciiSpace : DataW Unit) = Lib.tabData .u8 asciiL := by kernel_rfl
  have eC : (Rows.laid_bulkhead_scan_classes : DataW Unit) = Lib.tabData .u8 classesL := by kernel_rfl
  have eP : (Rows.laid_internal_strconv_uint64pow10 : DataW Unit) = Lib.tabData .u64 Lib.pow10Tab := by kernel_rfl
  have eB : (Rows.laid_math_bits_deBruijn64tab : DataW Unit) = Lib.tabData .u8 bruL := by kernel_rfl
  have eW : (Rows.laid_bulkhead_bulkheadref5_reserved : DataW Unit) = strData wordsL := by kernel_rfl
  rw [eW] at hW
  rw [eA] at hA
  rw [eC] at hC
  rw [eP] at hP
  rw [eB] at hB
  obtain ⟨a5, s5, v5, k5, _⟩ := laid_sentinel hR g5 (by kernel_rfl) Tryd.underlying53 row122 Tryd.underlying122 Tryd.underlying124 rfl rfl Tryd.underlying9 (by kernel_rfl) (by kernel_rfl)
  obtain ⟨a4, s4, v4, k4, _⟩ := laid_sentinel hS g4 (by kernel_rfl) Tryd.underlying53 row122 Tryd.underlying122 Tryd.underlying124 rfl rfl Tryd.underlying9 (by kernel_rfl) (by kernel_rfl)
  have tA : Lib.TabIs PP W "strings.asciiSpace" .u8 asciiL := Lib.tabIs_of_head g2 (by kernel_rfl) Tryd.underlying68 Tryd.underlying5 (by kernel_rfl) (by kernel_rfl) hA
  have tC : Lib.TabIs PP W "bulkhead/scan.classes" .u8 classesL := Lib.tabIs_of_head g1 (by kernel_rfl) Tryd.underlying63 Tryd.underlying5 (by kernel_rfl) (by kernel_rfl) hC
  have tP : Lib.TabIs PP W "internal/strconv.uint64pow10" .u64 Lib.pow10Tab := Lib.tabIs_of_head g6 (by kernel_rfl) Tryd.underlying106 Tryd.underlying27 (by kernel_rfl) (by kernel_rfl) hP
  have tB : Lib.TabIs PP W "math/bits.deBruijn64tab" .u8 bruL := Lib.tabIs_of_head g11 (by kernel_rfl) Tryd.underlying135 Tryd.underlying5 (by kernel_rfl) (by kernel_rfl) hB
  have tW : W.var? PP "bulkhead/bulkheadref5.reserved" = some wordsV.toArray := strsIs_of_head g0 (by kernel_rfl) Tryd.underlying61 Tryd.underlying9 (by kernel_rfl) (by kernel_rfl) hW
  have tM : ∃ k t fz, W.heap[7]? = some (.cells #[.int .i64 k] t fz) := by
    have hb : ((begin PP (fun _ _ => 0) default).world.heap[7]?).bind Obj.row? = some (#[.int .i64 0], 3) := by kernel_rfl
    obtain ⟨k, hk⟩ := Go.Proofs.cell_of_shapedOpen_int (P := PP) (g := 7) (zero := #[.int .i64 0]) (t := 3) hsh (by rw [globals_size]; decide) hb rfl (by kernel_rfl) (by kernel_rfl) Tryd.underlying3
    obtain ⟨cs, hcs, hz, _⟩ := hsh.1 7 #[.int .i64 0] 3 (by rw [globals_size]; decide) hb
    have hz : cs.size = 1 := hz
    have he : cs = #[.int .i64 k] := by
      simp [World.cell?, hcs, hz] at hk
      apply Array.ext
      · rw [hz]; rfl
      · intro i i1 i2
        have : i = 0 := by omega
        subst this
        simpa using hk
    subst he
    exact ⟨k, _, _, hcs⟩
  exact ⟨a4, a5, heap_size hsh, tC, tA, v4, v5, tP, tB, tW, tM, ⟨_, k4⟩, ⟨_, k5⟩⟩
theorem words_calls {W : World} {a4 a5 : Addr} (hl : Laid W a4 a5) {n : Int} (h0 : 0 ≤ n) (h1 : n < 18446744073709551616) (w t : ByteArray) (hw : w.size ≤ 1048576) (ht : t.size ≤ 16777216) :
    Calls PP 5 #[.string w, .int .u64 n, .string t] W fun e w' => e = .returned (.bool true) ∧ Go.RowKit.Below W.heap.size W w' := by
  obtain ⟨⟨t⟩⟩ := t
  obtain ⟨⟨w⟩⟩ := w
  have en : ((n.toNat : Nat) : Int) = n := by omega
  obtain ⟨k, hrel⟩ := hl.rel
  obtain ⟨Hs, _, hrun⟩ := call_words (N := 80000001) (d := 0) (n := n.toNat) (t := t) (w := w) hkW_ok hkW_okB hkW_okR hkW_okW (fun H hG => hkW_known hG) (GM_ext k) (GM_max k) hw ht (by omega) (by decide)
  rw [en] at hrun
  refine (words_sound 80000001 _ _ _ _ Hs hrun _ W _ hrel (gl_top W a4 a5) (VRs.cons (.atom _ rfl) (VRs.cons (.atom _ rfl) (VRs.cons (.atom _ rfl) (VRs.nil _)))).toArray).mono fun e w' ⟨m', h1, h2⟩ => ?_
  refine ⟨?_, below_of h2.keep fun c => GM_owns k _ c⟩
  cases e with
  | returned v' => rw [VR.eq_of_atomic (show VR m' (.bool true) v' from h1) rfl]
  | panicked c => exact h1.elim
  | _ => exact h1.elim
end Go.Am
