/- Every function that is run is as the machine asks. -/
import Derived.Test.YtohmeeglehopiaaGreatDoorS1
import Derived.Test.YtohmeeglehopiaaGreatDoorR1
import Derived.Test.YtohmeeglehopiaaGreatDoorZ1
import Derived.Test.YtohmeeglehopiaaGreatDoorZ2
import Derived.Test.YtohmeeglehopiaaGreatDoorR5
open Go.Proofs
namespace Go.Am
theorem goodAllG : GoodG PP okC prS := by
  intro f fn c ho hf hc
  have go : ∀ g, PP.funcs[f]? = some g → goodG PP (prS f) g.ntmps (codeOf g) = true → goodG PP (prS f) fn.ntmps c = true := fun g hg h => by
    rw [hf] at hg
    obtain rfl := Option.some.inj hg
    simpa [codeOf, hc] using h
  simp only [okC, Bool.or_eq_true, beq_iff_eq] at ho
  rcases ho with ((((((((((((((((((((((((((rfl | rfl) | rfl) | rfl) | rfl) | rfl) | rfl) | rfl) | rfl) | rfl) | rfl) | rfl) | rfl) | rfl) | rfl) | rfl) | rfl) | rfl) | rfl) | rfl) | rfl) | rfl) | rfl) | rfl) | rfl) | rfl) | rfl) | rfl
  · exact go _ Tryz.func36 (by decide +kernel)
  · exact go _ Tryz.func43 (by decide +kernel)
  · exact go _ Tryz.func27 (by decide +kernel)
  · exact go _ Tryz.func28 (by decide +kernel)
  · exact go _ Tryz.func45 (by decide +kernel)
  · exact go _ Tryz.func47 (by decide +kernel)
  · exact go _ Tryz.func65 (by decide +kernel)
  · exact go _ Tryz.func8 (by decide +kernel)
  · exact go _ Tryz.func6 (by decide +kernel)
  · exact go _ Tryz.func24 (by decide +kernel)
  · exact go _ Tryz.func34 (by decide +kernel)
  · exact go _ Tryz.func44 (by decide +kernel)
  · exact go _ Tryz.func46 (by decide +kernel)
  · exact go _ Tryz.func63 (by decide +kernel)
  · exact go _ Tryz.func3 (by decide +kernel)
  · exact go _ Tryz.func5 (by decide +kernel)
  · exact go _ Tryz.func9 (by decide +kernel)
  · exact go _ Tryz.func10 (by decide +kernel)
  · exact go _ Tryz.func14 (by decide +kernel)
  · exact go _ Tryz.func22 (by decide +kernel)
  · exact go _ Tryz.func23 (by decide +kernel)
  · exact go _ Tryz.func29 (by decide +kernel)
  · exact go _ Tryz.func30 (by decide +kernel)
  · exact go _ Tryz.func49 (by decide +kernel)
  · exact go _ Tryz.func50 (by decide +kernel)
  · exact go _ Tryz.func52 (by decide +kernel)
  · exact go _ Tryz.func53 (by decide +kernel)
  · exact go _ Tryz.func54 (by decide +kernel)
end Go.Am
/- The functions that are looked up: their tables, and that they answer what the code asks. -/
open Go.Proofs
namespace Go.Am

def gsE : List Nat := [0, 1, 2, 3, 6, 7]
def hkZ : Hook := hookOr (tabH GE gsE 66 fun u => .int .i64 (singleT u)) (hookOr (tabH GE gsE 64 fun u => .int .u64 (hexT u)) (hookOr (tabH GE gsE 48 fun u => .bool (digN u)) (hookOr (tabH GE gsE 51 fun u => .bool (wbN u)) (hookOr (tabH GE gsE 67 fun u => .int .i64 (rhN u)) (hookOr hookM (hookOr hookF (hookP GE gsE [kn])))))))
theorem hkZ_sound : HookSnd PP hkZ :=
  hookOr_sound (tabH_sound (fast_sound hook0_sound) tabs_GE gs_GE singles_ok) (hookOr_sound (tabH_sound (fast_sound hook0_sound) tabs_GE gs_GE hexes_ok) (hookOr_sound (tabH_sound (fast_sound hook0_sound) tabs_GE gs_GE digs_ok) (hookOr_sound (tabH_sound (fast_sound hook0_sound) tabs_GE gs_GE wbs_ok) (hookOr_sound (tabH_sound (fast_sound hook0_sound) tabs_GE gs_GE rhs_ok)
    (hookOr_sound hookM_sound (hookOr_sound hookF_sound (hookP_sound (fast_sound hook0_sound) tabs_GE gs_GE fun e he => by
      simp only [List.mem_cons, List.not_mem_nil, or_false] at he
      subst he
      have := okKn
      simp only [okRow, Bool.and_eq_true] at this
      simpa using this)))))))
theorem okC_no (k : FuncId) (hk : okC k = false) {f : FuncId} (h : okC f = true) : Nat.beq f k = false := by
  cases hb : Nat.beq f k with
  | false => rfl
  | true =>
    obtain rfl := Nat.eq_of_beq_eq_true hb
    rw [h] at hk; cases hk
theorem hookOr_right {a b : Hook} {f : FuncId} {args : Array Value} {H : Heap} (h : a f args H = none) : hookOr a b f args H = b f args H := by simp only [hookOr, h]
theorem hookOr_left {a b : Hook} {f : FuncId} {args : Array Value} {H : Heap} {r : R} (h : a f args H = some r) : hookOr a b f args H = some r := by simp only [hookOr, h]
theorem tabH_none {G : Heap} {gs : List Nat} {f0 f : FuncId} {T : Nat → Value} {args : Array Value} {H : Heap} (h : Nat.beq f f0 = false) : tabH G gs f0 T f args H = none := by simp only [tabH, h, cond_false]
theorem hookM_none {f : FuncId} {args : Array Value} {H : Heap} (h : Nat.beq f 83 = false) : hookM f args H = none := by simp only [hookM, h, cond_false]
theorem hookF_none {f : FuncId} {args : Array Value} {H : Heap} (h : Nat.beq f 35 = false) : hookF f args H = none := by simp only [hookF, h, cond_false]
theorem hookK_none {f : FuncId} {args : Array Value} {H : Heap} (h : Nat.beq 7 f = false) : hookP GE gsE [kn] f args H = none := by simp [hookP, kn, h]
theorem beq_flip {a b : Nat} (h : Nat.beq a b = false) : Nat.beq b a = false := by
  cases hb : Nat.beq b a with
  | false => rfl
  | true =>
    obtain rfl := Nat.eq_of_beq_eq_true hb
    rw [h] at hb; cases hb
theorem hkZ_none : ∀ f args H, okC f = true → hkZ f args H = none := by
  intro f args H h
  unfold hkZ
  rw [hookOr_right (tabH_none (okC_no 66 rfl h)), hookOr_right (tabH_none (okC_no 64 rfl h)), hookOr_right (tabH_none (okC_no 48 rfl h)), hookOr_right (tabH_none (okC_no 51 rfl h)), hookOr_right (tabH_none (okC_no 67 rfl h)), hookOr_right (hookM_none (okC_no 83 rfl h)), hookOr_right (hookF_none (okC_no 35 rfl h))]
  exact hookK_none (beq_flip (okC_no 7 rfl h))
theorem self0 : (match GE.get 0, GE.get 0 with | some x, some y => sameB x y | _, _ => false) = true := by decide +kernel
theorem self1 : (match GE.get 1, GE.get 1 with | some x, some y => sameB x y | _, _ => false) = true := by decide +kernel
theorem self2 : (match GE.get 2, GE.get 2 with | some x, some y => sameB x y | _, _ => false) = true := by decide +kernel
theorem self3 : (match GE.get 3, GE.get 3 with | some x, some y => sameB x y | _, _ => false) = true := by decide +kernel
theorem self6 : (match GE.get 6, GE.get 6 with | some x, some y => sameB x y | _, _ => false) = true := by decide +kernel
theorem self7 : (match GE.get 7, GE.get 7 with | some x, some y => sameB x y | _, _ => false) = true := by decide +kernel
theorem over_ext {H : Heap} (h : Ext GE H) : overB GE gsE H = true := by
  have g0 : ∃ x, GE.get 0 = some x := ⟨_, rfl⟩
  have g1 : ∃ x, GE.get 1 = some x := ⟨_, rfl⟩
  have g2 : ∃ x, GE.get 2 = some x := ⟨_, rfl⟩
  have g3 : ∃ x, GE.get 3 = some x := ⟨_, rfl⟩
  have g6 : ∃ x, GE.get 6 = some x := ⟨_, rfl⟩
  have g7 : ∃ x, GE.get 7 = some x := ⟨_, rfl⟩
  obtain ⟨x0, e0⟩ := g0
  obtain ⟨x1, e1⟩ := g1
  obtain ⟨x2, e2⟩ := g2
  obtain ⟨x3, e3⟩ := g3
  obtain ⟨x6, e6⟩ := g6
  obtain ⟨x7, e7⟩ := g7
  have s0 := self0
  have s1 := self1
  have s2 := self2
  have s3 := self3
  have s6 := self6
  have s7 := self7
  rw [e0] at s0
  rw [e1] at s1
  rw [e2] at s2
  rw [e3] at s3
  rw [e6] at s6
  rw [e7] at s7
  have k0 := h.keep 0 x0 e0
  have k1 := h.keep 1 x1 e1
  have k2 := h.keep 2 x2 e2
  have k3 := h.keep 3 x3 e3
  have k6 := h.keep 6 x6 e6
  have k7 := h.keep 7 x7 e7
  simp only [overB, gsE, List.all_cons, List.all_nil, e0, e1, e2, e3, e6, e7, k0, k1, k2, k3, k6, k7, Bool.and_true, Bool.and_eq_true, decide_eq_true_eq]
  exact ⟨h.next, s0, s1, s2, s3, s6, s7⟩
theorem veqs_u8 (n : Int) : veqs [.int .u8 n] [.int .u8 n] = true := by simp [veqs, veq0]
theorem tabH_at {f0 : FuncId} {T : Nat → Value} {H : Heap} (hG : Ext GE H) (u : UInt8) : tabH GE gsE f0 T f0 #[.int .u8 (u.toNat : Int)] H = some (some (.ret (T u.toNat), H)) := by
  have hu := u.toNat_lt
  have e0 : Nat.beq f0 f0 = true := Nat.beq_refl f0
  have e1 : decide ((0 : Int) ≤ (u.toNat : Int)) = true := decide_eq_true (by omega)
  have e2 : decide ((u.toNat : Int) < 256) = true := decide_eq_true (by omega)
  simp only [tabH, e0, cond_true, e1, e2, Bool.and_self, hookP, List.find?_cons, veqs_u8, over_ext hG, Int.toNat_natCast]
theorem hk_known {H : Heap} (hG : Ext GE H) : hkZ 7 #[] H = some (some (.ret (.bool true), H)) := by
  unfold hkZ
  rw [hookOr_right (tabH_none rfl), hookOr_right (tabH_none rfl), hookOr_right (tabH_none rfl), hookOr_right (tabH_none rfl), hookOr_right (tabH_none rfl), hookOr_right (hookM_none rfl), hookOr_right (hookF_none rfl)]
  have h : [kn].find? (fun e => Nat.beq e.f 7 && veqs (#[] : Array Value).toList e.args) = some kn := rfl
  simp only [hookP, h, over_ext hG, cond_true]
  rfl
theorem ascii_ok {H : Heap} (hG : Ext GE H) : asciiOk H = true := by
  have h := hG.keep 0 (ro asciiV) rfl
  have hv : veqs (ro asciiV).cells asciiV = true := by decide +kernel
  simp only [asciiOk, h, hv]
  rfl
theorem hkZ_ok : HkOk hkZ := by
  refine ⟨hkZ_none, fun u H hG => ?_, fun u H hG => ?_, fun x y H hx hy => ?_, fun H hG => ?_⟩
  · exact hookOr_left (tabH_at hG u)
  · unfold hkZ
    rw [hookOr_right (tabH_none rfl)]
    exact hookOr_left (tabH_at hG u)
  · unfold hkZ
    rw [hookOr_right (tabH_none rfl), hookOr_right (tabH_none rfl), hookOr_right (tabH_none rfl), hookOr_right (tabH_none rfl), hookOr_right (tabH_none rfl)]
    refine hookOr_left ?_
    have hx' : x < 18446744073709551616 := hx
    have hy' : y < 18446744073709551616 := hy
    have e0 : Nat.beq 83 83 = true := rfl
    have e1 : decide ((0 : Int) ≤ (x : Int)) = true := decide_eq_true (by omega)
    have e2 : decide ((x : Int) < 18446744073709551616) = true := decide_eq_true (by omega)
    have e3 : decide ((0 : Int) ≤ (y : Int)) = true := decide_eq_true (by omega)
    have e4 : decide ((y : Int) < 18446744073709551616) = true := decide_eq_true (by omega)
    simp only [hookM, e0, cond_true, e1, e2, e3, e4, Bool.and_self, Int.toNat_natCast]
  · unfold hkZ
    rw [hookOr_right (tabH_none rfl), hookOr_right (tabH_none rfl), hookOr_right (tabH_none rfl), hookOr_right (tabH_none rfl), hookOr_right (tabH_none rfl), hookOr_right (hookM_none rfl)]
    refine hookOr_left ?_
    have e0 : Nat.beq 35 35 = true := rfl
    have dT : ∀ {i : Decidable True}, @decide True i = true := fun {i} => decide_eq_true trivial
    simp only [hookF, e0, cond_true, strV, dT, ascii_ok hG]
theorem hkR_ok : HkR hkZ := by
  refine ⟨hkZ_none, fun u H hG => ?_, fun u H hG => ?_, fun u H hG => ?_⟩
  · unfold hkZ
    rw [hookOr_right (tabH_none rfl), hookOr_right (tabH_none rfl)]
    exact hookOr_left (tabH_at hG u)
  · unfold hkZ
    rw [hookOr_right (tabH_none rfl), hookOr_right (tabH_none rfl), hookOr_right (tabH_none rfl)]
    exact hookOr_left (tabH_at hG u)
  · unfold hkZ
    rw [hookOr_right (tabH_none rfl), hookOr_right (tabH_none rfl), hookOr_right (tabH_none rfl), hookOr_right (tabH_none rfl)]
    exact hookOr_left (tabH_at hG u)
end Go.Am
/- The heap with a text's row beside the tables, as it lies in a world. -/
namespace Go.Am
open Go.Proofs

def row8 (zs : List UInt8) : Blk := ro (zs.map fun u => .int .u8 (u.toNat : Int))
def GA (zs : List UInt8) : Heap := { GE.set 16 (row8 zs) with next := 17 }
theorem GA_get (zs : List UInt8) (b : Nat) : (GA zs).get b = if b = 16 then some (row8 zs) else GE.get b := by
  rw [← Heap.get_set]; rfl
theorem GE_fresh : Fresh GE := fun b hb => tabs_GE.fresh b hb
theorem GE_ext : Ext GE GE := ⟨Nat.le_refl _, fun _ _ h => h, GE_fresh⟩
theorem GA_ext (zs : List UInt8) : Ext GE (GA zs) := by
  refine ⟨by show 16 ≤ 17; omega, fun b x h => ?_, fun b hb => ?_⟩
  · rw [GA_get]
    by_cases e : b = 16
    · subst e
      rw [GE_fresh 16 (Nat.le_refl _)] at h; cases h
    · rw [if_neg e]; exact h
  · have hb' : 17 ≤ b := hb
    rw [GA_get, if_neg (by omega)]
    exact GE_fresh b (by show 16 ≤ b; omega)
theorem GA_row {zs : List UInt8} {n : Nat} (hn : n ≤ zs.length) (hz : zs.length < 9223372036854775808) : Brow (GA zs) (some ⟨16, 0, none⟩) (zs.take n) := by
  refine ⟨fun b hb => ?_, (fun e => by cases e), by simp; omega⟩
  obtain rfl := Option.some.inj hb
  refine ⟨row8 zs, ?_, rfl, ?_, ?_⟩
  · have : (GA zs).get 16 = some (row8 zs) := by rw [GA_get, if_pos rfl]
    simp [look, this]; rfl
  · simp [row8, ro]; omega
  · simp [row8, ro, List.map_take]

/-- A row of bytes as it lies in a world. -/
structure InRow (w : World) (a : Addr) (zs : List UInt8) : Prop where
  blk : ∃ cs t fz, w.heap[a.block]? = some (.cells cs t fz)
  cell : ∀ i (h : i < zs.length), w.cell? (a.add i) = some (.int .u8 (zs[i].toNat : Int))

def mA (w : World) (a6 a7 a : Addr) (n : Nat) : Mp := fun b => if b < 14 then some ⟨b, 0, 1, sizeAt w b⟩ else if b = 14 then some ⟨a6.block, a6.off, 1, 0⟩ else if b = 15 then some ⟨a7.block, a7.off, 1, 0⟩ else if b = 16 then some ⟨a.block, if n = 0 then 0 else a.off, 1, sizeAt w a.block⟩ else none
theorem cell_at {w : World} {a : Addr} {i : Nat} {v : Value} {cs : Array Value} {t : TypeId} {fz : Nat × Nat} (hb : w.heap[a.block]? = some (.cells cs t fz)) (h : w.cell? (a.add i) = some v) (hs : a.spot = none) : cs[a.off + i]? = some v := by
  obtain ⟨b, off, spot⟩ := a
  simp only at hs hb
  subst hs
  rw [Addr.add_lit] at h
  simpa [World.cell?, hb] using h
theorem InRow.spot {w : World} {a : Addr} {zs : List UInt8} (h : InRow w a zs) (hn : zs.length ≠ 0) : a.spot = none := by
  have := World.cell?_spot (h.cell 0 (by omega))
  simpa [Addr.add] using this
theorem lies_row {w : World} (m : Mp) {a : Addr} {zs : List UInt8} (hr : InRow w a zs) : Lies m w (row8 zs) ⟨a.block, if zs.length = 0 then 0 else a.off, 1, sizeAt w a.block⟩ := by
  obtain ⟨cs, t, fz, hb⟩ := hr.blk
  have hz : sizeAt w a.block = cs.size := by simp [sizeAt, hb]
  have at_ : ∀ i (hi : i < zs.length), cs[(if zs.length = 0 then 0 else a.off) + i]? = some (.int .u8 (zs[i].toNat : Int)) := fun i hi => by
    have hn : zs.length ≠ 0 := by omega
    rw [if_neg hn]
    exact cell_at hb (hr.cell i hi) (hr.spot hn)
  refine ⟨rfl, ?_, fun _ => ⟨cs, t, fz, hb, hz.symm, fun i hi hj => ?_, fun hrw => by simp [row8, ro] at hrw⟩, fun o ho => by simp [row8, ro] at ho⟩
  · show (if zs.length = 0 then 0 else a.off) + (row8 zs).cells.length ≤ sizeAt w a.block
    have hlen : (row8 zs).cells.length = zs.length := by simp [row8, ro]
    rw [hlen, hz]
    by_cases hn : zs.length = 0
    · rw [if_pos hn]; omega
    · have := (Array.getElem?_eq_some_iff.mp (at_ (zs.length - 1) (by omega))).1
      omega
  · have hi' : i < zs.length := by simpa [row8, ro] using hi
    have e := at_ i hi'
    have e2 : cs[(if zs.length = 0 then 0 else a.off) + i] = .int .u8 (zs[i].toNat : Int) := by
      rw [Array.getElem?_eq_getElem hj] at e
      exact Option.some.inj e
    have e1 : (row8 zs).cells[i] = .int .u8 (zs[i].toNat : Int) := by simp [row8, ro]
    show VR _ (row8 zs).cells[i] cs[(if zs.length = 0 then 0 else a.off) + i]
    rw [e1, e2]
    exact .atom _ rfl
theorem Laid.relA {w : World} {a6 a7 : Addr} (h : Laid w a6 a7) {a : Addr} {zs : List UInt8} (hr : InRow w a zs) : Rel (mA w a6 a7 a zs.length) (GA zs) w := by
  refine ⟨fun b x hx => ?_, fun b x hx hrw => ?_, fun b L hm => ?_, fun b hb => ⟨?_, (GA_ext zs).fresh b hb⟩⟩
  · rw [GA_get] at hx
    by_cases e : b = 16
    · rw [if_pos e] at hx
      obtain rfl := Option.some.inj hx
      subst e
      exact ⟨_, rfl, lies_row _ hr⟩
    · rw [if_neg e] at hx
      obtain ⟨q1, q2, q3⟩ := lies_GE h (mA w a6 a7 a zs.length) rfl rfl b x hx
      exact ⟨_, by unfold mA; rw [if_pos q1], q3⟩
  · rw [GA_get] at hx
    by_cases e : b = 16
    · rw [if_pos e] at hx
      obtain rfl := Option.some.inj hx
      cases hrw
    · rw [if_neg e] at hx
      obtain ⟨_, q2, _⟩ := lies_GE h (mA w a6 a7 a zs.length) rfl rfl b x hx
      rw [q2] at hrw; cases hrw
  · obtain ⟨cs, t, fz, hb⟩ := hr.blk
    unfold mA at hm
    have hs := h.size
    split at hm
    · obtain rfl := Option.some.inj hm; simp only; omega
    · split at hm
      · obtain rfl := Option.some.inj hm; exact (cell_spot h.cell6).2
      · split at hm
        · obtain rfl := Option.some.inj hm; exact (cell_spot h.cell7).2
        · split at hm
          · obtain rfl := Option.some.inj hm
            exact (Array.getElem?_eq_some_iff.mp hb).1
          · cases hm
  · have : 17 ≤ b := hb
    unfold mA
    rw [if_neg (by omega), if_neg (by omega), if_neg (by omega), if_neg (by omega)]
theorem gl_A (w : World) (a6 a7 a : Addr) (n : Nat) : Gl PP (mA w a6 a7 a n) := fun g hg => by
  rw [globals_size] at hg
  exact ⟨⟨g, 0, 1, sizeAt w g⟩, by simp [mA, hg], rfl, rfl⟩
theorem noOwn_A {m : Mp} {zs : List UInt8} (c : Nat) : ¬ Owns m (GA zs) c := by
  rintro ⟨b, x, L, h, hrw, _⟩
  rw [GA_get] at h
  by_cases e : b = 16
  · rw [if_pos e] at h
    obtain rfl := Option.some.inj h
    cases hrw
  · rw [if_neg e] at h
    rcases GE_get b x h with ⟨_, rfl⟩ | ⟨_, rfl⟩ | ⟨_, rfl⟩ | ⟨_, rfl⟩ | ⟨_, rfl⟩ | ⟨_, rfl⟩ <;> cases hrw

theorem slice_VR {w : World} {a6 a7 a : Addr} {zs : List UInt8} {n : Nat} (hr : InRow w a zs) (hn : n ≤ zs.length) (hs : a.spot = none) : VR (mA w a6 a7 a zs.length) (.slice (some ⟨16, 0, none⟩) n zs.length) (.slice (some a) n zs.length) := by
  obtain ⟨cs, t, fz, hb⟩ := hr.blk
  refine .slice 16 0 _ a n zs.length zs.length (show mA w a6 a7 a zs.length 16 = some _ from rfl) hn (Nat.le_refl _) rfl hs ?_
  by_cases h0 : zs.length = 0
  · exact .inl h0
  · refine .inr ⟨by simp [h0], ?_⟩
    have e := cell_at hb (hr.cell (zs.length - 1) (by omega)) hs
    have := (Array.getElem?_eq_some_iff.mp e).1
    show a.off + zs.length * 1 ≤ sizeAt w a.block
    have hz : sizeAt w a.block = cs.size := by simp [sizeAt, hb]
    omega
theorem law_sound (N : Nat) : KSnd PP (CG N hkZ 7) := callG_sound goodAllG XX_sound hkZ_sound mixed 7
theorem law_calls {W : World} {a6 a7 : Addr} (hl : Laid W a6 a7) {a : Addr} {zs : List UInt8} {n : Nat} (hr : InRow W a zs) (hn : n ≤ zs.length) (hs : a.spot = none) (hz : zs.length ≤ 140737488355000) (k : Int) :
    Calls PP 3 #[.slice (some a) n zs.length, .int .i64 k] W fun e w' => e = .returned (.bool true) ∧ Go.RowKit.Below W.heap.size W w' := by
  have hlen : (zs.take n).length = n := by simp; omega
  obtain ⟨Hs, _, hrun⟩ := call_law (N := 2 * n + 201) (d := 0) (c := zs.length) k hkZ_ok hkR_ok (fun H hG => hk_known hG) (GA_ext zs) (GA_row hn (by omega)) (by omega) (by omega) (by omega)
  rw [hlen] at hrun
  refine (law_sound _ _ _ _ _ Hs hrun _ W _ (hl.relA hr) (gl_A W a6 a7 a zs.length) (VRs.cons (slice_VR hr hn hs) (VRs.cons (.atom _ rfl) (VRs.nil _))).toArray).mono fun e w' ⟨m', h1, h2⟩ => ?_
  refine ⟨?_, below_of h2.keep fun c => noOwn_A c⟩
  cases e with
  | returned v' => rw [VR.eq_of_atomic (show VR m' (.bool true) v' from h1) rfl]
  | panicked c => exact h1.elim
  | _ => exact h1.elim
theorem law_calls_nil {W : World} {a6 a7 : Addr} (hl : Laid W a6 a7) (k : Int) :
    Calls PP 3 #[.slice none 0 0, .int .i64 k] W fun e w' => e = .returned (.bool true) ∧ Go.RowKit.Below W.heap.size W w' := by
  have hb : Brow GE none [] := ⟨(fun b e => by cases e), fun _ => rfl, by decide⟩
  obtain ⟨Hs, _, hrun⟩ := call_law (N := 201) (d := 0) (c := 0) k hkZ_ok hkR_ok (fun H hG => hk_known hG) GE_ext hb (by decide) (by decide) (by decide)
  refine (law_sound _ _ _ _ _ Hs hrun _ W _ hl.rel (gl_top W a6 a7) (VRs.cons (.atom _ rfl) (VRs.cons (.atom _ rfl) (VRs.nil _))).toArray).mono fun e w' ⟨m', h1, h2⟩ => ?_
  refine ⟨?_, below_of h2.keep fun c => tabs_GE.owns _ c⟩
  cases e with
  | returned v' => rw [VR.eq_of_atomic (show VR m' (.bool true) v' from h1) rfl]
  | panicked c => exact h1.elim
  | _ => exact h1.elim
end Go.Am
