/- The contracts on the cut of a text at a mark and on reading a number, laid at this program by the kit's tool. -/
import Derived.Ground.MpProg
import Derived.Shelf.Strings.Split
import Derived.Shelf.Pu.ParseUintPublic10
import Derived.Test.YtohmeeglehopiaaDoorProg
import Derived.Test.YtohmeeglehopiaaDoorB1
import Derived.Lib.ItoaLen
namespace Go.Proofs
open Go.Shelf
def Tryd.lays146_ren : Go.Shelf.Ren := ⟨fun | 146 => 31 | 221 => 46 | 268 => 59 | 138 => 60 | 143 => 61 | 195 => 76 | 197 => 77 | 218 => 78 | 219 => 79 | 260 => 91 | 217 => 90 | 225 => 92 | 224 => 93 | 267 => 94 | 266 => 98 | 314 => 99 | n => n, fun | 9 => 9 | 31 => 39 | 3 => 3 | 4 => 4 | 0 => 0 | 105 => 98 | 21 => 21 | 5 => 5 | 46 => 73 | 119 => 68 | 139 => 130 | 138 => 129 | 146 => 131 | 51 => 91 | n => n, fun | 1 => 7 | 3 => 8 | 4 => 9 | n => n⟩
theorem Tryd.lays146 : Go.Proofs.Lays.n146 Tryd.prog Tryd.lays146_ren := {
  mixed := by kernel_rfl
  f138 := Tryd.func60.trans (congrArg some (by kernel_rfl))
  f143 := Tryd.func61.trans (congrArg some (by kernel_rfl))
  f146 := Tryd.func31.trans (congrArg some (by kernel_rfl))
  f195 := Tryd.func76.trans (congrArg some (by kernel_rfl))
  f197 := Tryd.func77.trans (congrArg some (by kernel_rfl))
  f217 := Tryd.func90.trans (congrArg some (by kernel_rfl))
  f218 := Tryd.func78.trans (congrArg some (by kernel_rfl))
  f219 := Tryd.func79.trans (congrArg some (by kernel_rfl))
  f221 := Tryd.func46.trans (congrArg some (by kernel_rfl))
  f224 := Tryd.func93.trans (congrArg some (by kernel_rfl))
  f225 := Tryd.func92.trans (congrArg some (by kernel_rfl))
  f260 := Tryd.func91.trans (congrArg some (by kernel_rfl))
  f266 := Tryd.func98.trans (congrArg some (by kernel_rfl))
  f267 := Tryd.func94.trans (congrArg some (by kernel_rfl))
  f268 := Tryd.func59.trans (congrArg some (by kernel_rfl))
  f314 := Tryd.func99.trans (congrArg some (by kernel_rfl))
  t0 := Tryd.underlying0
  a0 := Tryd.isAgg0
  z0 := Tryd.sizeOf0
  v0 := Tryd.zeroValue0
  t3 := Tryd.underlying3
  a3 := Tryd.isAgg3
  z3 := Tryd.sizeOf3
  v3 := Tryd.zeroValue3
  t4 := Tryd.underlying4
  a4 := Tryd.isAgg4
  z4 := Tryd.sizeOf4
  v4 := Tryd.zeroValue4
  t5 := Tryd.underlying5
  a5 := Tryd.isAgg5
  z5 := Tryd.sizeOf5
  v5 := Tryd.zeroValue5
  t9 := Tryd.underlying9
  a9 := Tryd.isAgg9
  z9 := Tryd.sizeOf9
  v9 := Tryd.zeroValue9
  t21 := Tryd.underlying21
  a21 := Tryd.isAgg21
  z21 := Tryd.sizeOf21
  v21 := Tryd.zeroValue21
  t31 := Tryd.underlying39
  a31 := Tryd.isAgg39
  z31 := Tryd.sizeOf39
  v31 := Tryd.zeroValue39
  t46 := Tryd.underlying73
  a46 := Tryd.isAgg73
  z46 := Tryd.sizeOf73
  v46 := Tryd.zeroValue73
  t51 := Tryd.underlying91
  a51 := Tryd.isAgg91
  z51 := Tryd.sizeOf91
  v51 := Tryd.zeroValue91
  t105 := Tryd.underlying98
  a105 := Tryd.isAgg98
  z105 := Tryd.sizeOf98
  v105 := Tryd.zeroValue98
  t119 := Tryd.underlying68
  a119 := Tryd.isAgg68
  z119 := Tryd.sizeOf68
  t138 := Tryd.underlying129
  a138 := Tryd.isAgg129
  z138 := Tryd.sizeOf129
  v138 := Tryd.zeroValue129
  t139 := Tryd.underlying130
  a139 := Tryd.isAgg130
  z139 := Tryd.sizeOf130
  v139 := Tryd.zeroValue130
  t146 := Tryd.underlying131
  a146 := Tryd.isAgg131
  z146 := Tryd.sizeOf131
  v146 := Tryd.zeroValue131
  g1 := by kernel_rfl
  g3 := by kernel_rfl
  g4 := by kernel_rfl }
def Tryd.laysPu14_ren : Go.Shelf.Ren := ⟨fun | 14 => 32 | 16 => 47 | 17 => 48 | 19 => 62 | 20 => 63 | 21 => 64 | 22 => 65 | 23 => 66 | 24 => 67 | 25 => 80 | 27 => 82 | 26 => 81 | 28 => 95 | 29 => 100 | 30 => 68 | 31 => 69 | 32 => 70 | 33 => 71 | 35 => 84 | 34 => 83 | 36 => 85 | 37 => 86 | 38 => 87 | 39 => 96 | 40 => 97 | n => n, fun | 9 => 9 | 3 => 3 | 22 => 27 | 24 => 53 | 25 => 54 | 4 => 4 | 34 => 78 | 5 => 5 | 36 => 73 | 37 => 26 | 0 => 0 | 39 => 79 | 21 => 21 | 44 => 102 | 47 => 121 | 50 => 124 | 48 => 122 | 2 => 2 | 52 => 83 | 55 => 86 | 59 => 106 | 60 => 91 | 20 => 20 | 61 => 107 | 65 => 134 | 66 => 135 | 67 => 136 | n => n, fun | 0 => 4 | 1 => 5 | 2 => 6 | 3 => 10 | 4 => 11 | n => n⟩
theorem Tryd.laysPu14 : Go.Proofs.LaysPu.n14 Tryd.prog Tryd.laysPu14_ren := {
  mixed := by kernel_rfl
  f14 := Tryd.func32.trans (congrArg some (by kernel_rfl))
  f16 := Tryd.func47.trans (congrArg some (by kernel_rfl))
  f17 := Tryd.func48.trans (congrArg some (by kernel_rfl))
  f19 := Tryd.func62.trans (congrArg some (by kernel_rfl))
  f20 := Tryd.func63.trans (congrArg some (by kernel_rfl))
  f21 := Tryd.func64.trans (congrArg some (by kernel_rfl))
  f22 := Tryd.func65.trans (congrArg some (by kernel_rfl))
  f23 := Tryd.func66.trans (congrArg some (by kernel_rfl))
  f24 := Tryd.func67.trans (congrArg some (by kernel_rfl))
  f25 := Tryd.func80.trans (congrArg some (by kernel_rfl))
  f26 := Tryd.func81.trans (congrArg some (by kernel_rfl))
  f27 := Tryd.func82.trans (congrArg some (by kernel_rfl))
  f28 := Tryd.func95.trans (congrArg some (by kernel_rfl))
  f29 := Tryd.func100.trans (congrArg some (by kernel_rfl))
  f30 := Tryd.func68.trans (congrArg some (by kernel_rfl))
  f31 := Tryd.func69.trans (congrArg some (by kernel_rfl))
  f32 := Tryd.func70.trans (congrArg some (by kernel_rfl))
  f33 := Tryd.func71.trans (congrArg some (by kernel_rfl))
  f34 := Tryd.func83.trans (congrArg some (by kernel_rfl))
  f35 := Tryd.func84.trans (congrArg some (by kernel_rfl))
  f36 := Tryd.func85.trans (congrArg some (by kernel_rfl))
  f37 := Tryd.func86.trans (congrArg some (by kernel_rfl))
  f38 := Tryd.func87.trans (congrArg some (by kernel_rfl))
  f39 := Tryd.func96.trans (congrArg some (by kernel_rfl))
  f40 := Tryd.func97.trans (congrArg some (by kernel_rfl))
  t0 := Tryd.underlying0
  a0 := Tryd.isAgg0
  z0 := Tryd.sizeOf0
  v0 := Tryd.zeroValue0
  i0 := by kernel_rfl
  t2 := Tryd.underlying2
  a2 := Tryd.isAgg2
  z2 := Tryd.sizeOf2
  v2 := Tryd.zeroValue2
  i2 := by kernel_rfl
  t3 := Tryd.underlying3
  a3 := Tryd.isAgg3
  z3 := Tryd.sizeOf3
  v3 := Tryd.zeroValue3
  i3 := by kernel_rfl
  t4 := Tryd.underlying4
  a4 := Tryd.isAgg4
  z4 := Tryd.sizeOf4
  v4 := Tryd.zeroValue4
  i4 := by kernel_rfl
  t5 := Tryd.underlying5
  a5 := Tryd.isAgg5
  z5 := Tryd.sizeOf5
  v5 := Tryd.zeroValue5
  i5 := by kernel_rfl
  t9 := Tryd.underlying9
  a9 := Tryd.isAgg9
  z9 := Tryd.sizeOf9
  v9 := Tryd.zeroValue9
  i9 := by kernel_rfl
  t20 := Tryd.underlying20
  a20 := Tryd.isAgg20
  z20 := Tryd.sizeOf20
  v20 := Tryd.zeroValue20
  i20 := by kernel_rfl
  t21 := Tryd.underlying21
  a21 := Tryd.isAgg21
  z21 := Tryd.sizeOf21
  v21 := Tryd.zeroValue21
  i21 := by kernel_rfl
  t22 := Tryd.underlying27
  a22 := Tryd.isAgg27
  z22 := Tryd.sizeOf27
  v22 := Tryd.zeroValue27
  i22 := by kernel_rfl
  t24 := Tryd.underlying53
  a24 := Tryd.isAgg53
  z24 := Tryd.sizeOf53
  v24 := Tryd.zeroValue53
  i24 := by kernel_rfl
  t25 := Tryd.underlying54
  a25 := Tryd.isAgg54
  z25 := Tryd.sizeOf54
  v25 := Tryd.zeroValue54
  i25 := by kernel_rfl
  t34 := Tryd.underlying78
  a34 := Tryd.isAgg78
  z34 := Tryd.sizeOf78
  v34 := Tryd.zeroValue78
  i34 := by kernel_rfl
  c34 := by kernel_rfl
  t36 := Tryd.underlying73
  a36 := Tryd.isAgg73
  z36 := Tryd.sizeOf73
  v36 := Tryd.zeroValue73
  i36 := by kernel_rfl
  t37 := Tryd.underlying26
  a37 := Tryd.isAgg26
  z37 := Tryd.sizeOf26
  v37 := Tryd.zeroValue26
  i37 := by kernel_rfl
  t39 := Tryd.underlying79
  a39 := Tryd.isAgg79
  z39 := Tryd.sizeOf79
  v39 := Tryd.zeroValue79
  i39 := by kernel_rfl
  t44 := Tryd.underlying102
  a44 := Tryd.isAgg102
  z44 := Tryd.sizeOf102
  v44 := Tryd.zeroValue102
  i44 := by kernel_rfl
  t47 := Tryd.underlying121
  a47 := Tryd.isAgg121
  z47 := Tryd.sizeOf121
  v47 := Tryd.zeroValue121
  i47 := by kernel_rfl
  t48 := Tryd.underlying122
  a48 := Tryd.isAgg122
  z48 := Tryd.sizeOf122
  v48 := Tryd.zeroValue122
  i48 := by kernel_rfl
  t50 := Tryd.underlying124
  a50 := Tryd.isAgg124
  z50 := Tryd.sizeOf124
  v50 := Tryd.zeroValue124
  i50 := by kernel_rfl
  t52 := Tryd.underlying83
  a52 := Tryd.isAgg83
  z52 := Tryd.sizeOf83
  v52 := Tryd.zeroValue83
  i52 := by kernel_rfl
  t55 := Tryd.underlying86
  a55 := Tryd.isAgg86
  z55 := Tryd.sizeOf86
  v55 := Tryd.zeroValue86
  i55 := by kernel_rfl
  t59 := Tryd.underlying106
  a59 := Tryd.isAgg106
  z59 := Tryd.sizeOf106
  v59 := Tryd.zeroValue106
  i59 := by kernel_rfl
  t60 := Tryd.underlying91
  a60 := Tryd.isAgg91
  z60 := Tryd.sizeOf91
  v60 := Tryd.zeroValue91
  i60 := by kernel_rfl
  t61 := Tryd.underlying107
  a61 := Tryd.isAgg107
  z61 := Tryd.sizeOf107
  t65 := Tryd.underlying134
  a65 := Tryd.isAgg134
  z65 := Tryd.sizeOf134
  v65 := Tryd.zeroValue134
  i65 := by kernel_rfl
  t66 := Tryd.underlying135
  a66 := Tryd.isAgg135
  z66 := Tryd.sizeOf135
  v66 := Tryd.zeroValue135
  i66 := by kernel_rfl
  t67 := Tryd.underlying136
  a67 := Tryd.isAgg136
  z67 := Tryd.sizeOf136
  v67 := Tryd.zeroValue136
  i67 := by kernel_rfl
  g0 := by kernel_rfl
  m0 := by kernel_rfl
  g1 := by kernel_rfl
  m1 := by kernel_rfl
  g2 := by kernel_rfl
  m2 := by kernel_rfl
  g3 := by kernel_rfl
  m3 := by kernel_rfl
  g4 := by kernel_rfl
  m4 := by kernel_rfl }
end Go.Proofs
/- Hooks off the library's contracts: the cut of a text at a dot, the reading of a number, the parts of its spelling. -/
namespace Go.Am
theorem arr_two {α : Type} {a : Array α} {x y : α} (h : a.toList = [x, y]) : a = #[x, y] := by cases a; simp_all
theorem arr_three {α : Type} {a : Array α} {x y z : α} (h : a.toList = [x, y, z]) : a = #[x, y, z] := by cases a; simp_all
/-- Block 7 holds a number. -/
def maxOk (H : Heap) : Bool := match H.get 7 with | some y => (match y.cells with | [.int .i64 _] => true | _ => false) && y.o.isNone | none => false
def dotS : ByteArray := ⟨#[46]⟩
def cutV (s : ByteArray) : List Value := (Lib.splitB dotS 0 (Lib.countB s dotS) s).map Value.string
theorem cutV_len (s : ByteArray) : (cutV s).length = Lib.countB s dotS + 1 := by
  unfold cutV
  rw [List.length_map, Lib.splitB_all dotS (by decide) 0 _ s rfl]
theorem cutV_atomic (s : ByteArray) : (cutV s).all atomic = true := by
  rw [List.all_eq_true]
  intro v hv
  obtain ⟨b, _, rfl⟩ := List.mem_map.mp hv
  rfl
def hookD : Hook := fun f args H =>
  cond (Nat.beq f 31) (match args.toList with
    | [.string s, .string p] => cond (decide (p.data.toList = [46]) && decide (s.size < 4294967281) && maxOk H) (some (some (.ret (.slice (some ⟨H.next, 0, none⟩) (cutV s).length (cutV s).length), H.alloc 1 (cutV s)))) none
    | _ => none) none
theorem hookD_sound : HookSnd PP hookD := by
  intro f args H r H' he m w args' hrel hgl hargs
  unfold hookD at he
  cases hf : Nat.beq f 31 with
  | false => rw [hf] at he; simp at he
  | true =>
  rw [hf] at he
  obtain rfl := Nat.eq_of_beq_eq_true hf
  simp only [cond_true] at he
  split at he
  · rename_i s p hs
    cases h1 : (decide (p.data.toList = [46]) && decide (s.size < 4294967281) && maxOk H) with
    | false => rw [h1] at he; simp at he
    | true =>
    rw [h1] at he
    simp only [cond_true, Option.some.injEq, Prod.mk.injEq] at he
    obtain ⟨rfl, rfl⟩ := he
    simp only [Bool.and_eq_true, decide_eq_true_eq] at h1
    obtain ⟨⟨hp, hz⟩, hm⟩ := h1
    have e := hargs.eq_of_atomic (by rw [hs]; rfl)
    subst e
    have ea := arr_two hs
    subst ea
    obtain ⟨⟨p⟩⟩ := p
    have hp : p = [46] := hp
    subst hp
    unfold maxOk at hm
    split at hm
    · rename_i y hy
      simp only [Bool.and_eq_true, Option.isNone_iff_eq_none] at hm
      obtain ⟨hm, ho⟩ := hm
      split at hm
      · rename_i k hc
        have hcell := tab_cell (c := 0) (v := .int .i64 k) hrel hgl (g := 7) (by rw [globals_size]; decide) hy ho (by rw [hc]; rfl) rfl
        refine (Go.Proofs.Any.strings_Split Go.Proofs.Tryd.lays146 (by kernel_rfl) s dotS k w hz hcell (by decide)).mono fun e w' ⟨he, hw⟩ => ?_
        subst he
        have hst := Step.alloc (w' := w') hrel 1 (cutV s) (cutV s).toArray 9 (by simp) (fun i a b => by
          have hati : atomic (cutV s)[i] = true := List.all_eq_true.mp (cutV_atomic s) _ (List.getElem_mem a)
          simpa using VR.atom (m := m) _ hati) (by rw [hw]; rfl) (by rw [hw]; rfl) (by rw [hw]; rfl) (by rw [hw]; rfl)
        refine ⟨_, ?_, hst⟩
        rw [← cutV_len]
        refine VR.slice H.next 0 ⟨w.heap.size, 0, 1, (cutV s).toArray.size⟩ _ _ _ _ (by simp [Mp.add]) (Nat.le_refl _) (Nat.le_refl _) rfl rfl (.inr ⟨rfl, ?_⟩)
        show 0 + (cutV s).length * 1 ≤ (cutV s).toArray.size
        simp
      · simp at hm
    · simp at hm
  · simp at he
/-- The two errors lie in their blocks. -/
def errAt (H : Heap) (g : Nat) : Bool := match H.get g with | some y => (match y.cells with | [.iface _ _] => true | _ => false) && y.o.isNone | none => false
theorem err_cell {m : Mp} {H : Heap} {w : World} (h : Rel m H w) (hg : Gl PP m) {g : Nat} (hgl : g < PP.globals.size) (he : errAt H g = true) : ∃ t p, w.cell? ⟨g, 0, none⟩ = some (.iface t p) := by
  unfold errAt at he
  split at he
  · rename_i y hy
    simp only [Bool.and_eq_true, Option.isNone_iff_eq_none] at he
    obtain ⟨hc, ho⟩ := he
    split at hc
    · rename_i t v hc'
      obtain ⟨L, k1, k2⟩ := h.blk g y hy
      obtain ⟨L', q1, q2, q3, _⟩ := hg g hgl
      rw [k1] at q1
      obtain rfl := Option.some.inj q1
      obtain ⟨cs, elem, fz, p1, p2, p3, _⟩ := k2.ex ho
      have hfit := k2.fits
      have hlen : y.cells.length = 1 := by rw [hc']; rfl
      have hlt' : L.base + 0 < cs.size := by omega
      have hv := p3 0 (by omega) hlt'
      have e0 : y.cells[0]'(by omega) = .iface t v := by simp [hc']
      rw [e0] at hv
      rw [q2] at p1
      have hw : w.cell? ⟨g, 0, none⟩ = some cs[L.base + 0] := by
        simp only [q3, Nat.zero_add] at hlt' ⊢
        simp [World.cell?, p1, hlt']
      generalize cs[L.base + 0] = x at hv hw
      cases hv with
      | atom _ h => exact ⟨_, _, hw⟩
      | iface _ _ v' h => exact ⟨_, _, hw⟩
    · simp at hc
  · simp at he
def badV (H : Heap) (u : Int) : R := some (.ret (.tuple #[.int .u64 u, .iface 79 (.pointer (some ⟨H.next, 0, none⟩))]), H.alloc 1 [])
def hookQ : Hook := fun f args H =>
  cond (Nat.beq f 32) (match args.toList with
    | [.string s, .int .i64 10, .int .i64 64] => cond (decide (s.size ≤ 281474976710656) && (errAt H 4 && errAt H 5)) (match Lib.parseUintB 64 s.data.toList with
        | .ok u => some (some (.ret (.tuple #[.int .u64 (u : Int), .nilIface]), H))
        | .range => some (badV H 18446744073709551615)
        | _ => some (badV H 0)) none
    | _ => none) none
theorem bad_step {m : Mp} {H : Heap} {w w' : World} (hrel : Rel m H w) {N : Nat} {cs : Array Value} {elem : TypeId} {u : Int} (hN : w.heap.size ≤ N) (hw : w'.heap[N]? = some (.cells cs elem (0, 0))) (hb : Go.RowKit.Below w.heap.size w w') :
    ∃ m', EndR m' (.ret (.tuple #[.int .u64 u, .iface 79 (.pointer (some ⟨H.next, 0, none⟩))])) (.returned (.tuple #[.int .u64 u, .iface 79 (.pointer (some ⟨N, 0, none⟩))])) ∧ Step m H w m' (H.alloc 1 []) w' := by
  have hst := Step.found (w' := w') hrel 1 [] N cs elem (by simp) (fun i a b => by simp at a) hN hw hb.os hb.tape hb.output hb.size hb.block
  refine ⟨_, ?_, hst⟩
  have hp := VR.ptr (m := m.add H.next ⟨N, 0, 1, cs.size⟩) H.next 0 ⟨N, 0, 1, cs.size⟩ (by simp [Mp.add])
  have hi : VR (m.add H.next ⟨N, 0, 1, cs.size⟩) (.iface 79 (.pointer (some ⟨H.next, 0, none⟩))) (.iface 79 (.pointer (some ⟨N, 0, none⟩))) := .iface 79 _ _ (by simpa using hp)
  have ht := (VRs.cons (.atom (.int .u64 u) rfl) (VRs.cons hi (VRs.nil _))).toArray
  exact VR.tuple _ _ ht.1 ht.2
theorem hookQ_sound : HookSnd PP hookQ := by
  intro f args H r H' he m w args' hrel hgl hargs
  unfold hookQ at he
  cases hf : Nat.beq f 32 with
  | false => rw [hf] at he; simp at he
  | true =>
  rw [hf] at he
  obtain rfl := Nat.eq_of_beq_eq_true hf
  simp only [cond_true] at he
  split at he
  · rename_i s hs
    cases h1 : (decide (s.size ≤ 281474976710656) && (errAt H 4 && errAt H 5)) with
    | false => rw [h1] at he; simp at he
    | true =>
    rw [h1] at he
    simp only [cond_true] at he
    simp only [Bool.and_eq_true, decide_eq_true_eq] at h1
    obtain ⟨hz, h4, h5⟩ := h1
    have e := hargs.eq_of_atomic (by rw [hs]; rfl)
    subst e
    have ea := arr_three hs
    subst ea
    obtain ⟨t4, p4, c4⟩ := err_cell hrel hgl (g := 4) (by rw [globals_size]; decide) h4
    obtain ⟨t5, p5, c5⟩ := err_cell hrel hgl (g := 5) (by rw [globals_size]; decide) h5
    cases hp : Lib.parseUintB 64 s.data.toList with
    | ok u =>
      rw [hp] at he
      simp only [Option.some.injEq, Prod.mk.injEq] at he
      obtain ⟨rfl, rfl⟩ := he
      refine (Go.Proofs.Any.strconv_ParseUint_10_at64_ok Go.Proofs.Tryd.laysPu14 s (by omega) u hp w).mono fun e w' ⟨he, hw⟩ => ?_
      subst he
      have hb : Go.RowKit.Below w.heap.size w w' := by
        rcases hw with rfl | rfl
        · exact Go.RowKit.Below.refl _ _
        · exact Lib.bytesWorld_below _ _ _
      refine ⟨m, ?_, Step.still hrel hb.os hb.tape hb.output hb.size hb.block⟩
      have ht := (VRs.cons (.atom (.int .u64 (u : Int)) rfl) (VRs.cons (.atom .nilIface rfl) (VRs.nil m))).toArray
      exact VR.tuple _ _ ht.1 ht.2
    | range =>
      rw [hp] at he
      simp only [badV, Option.some.injEq, Prod.mk.injEq] at he
      obtain ⟨rfl, rfl⟩ := he
      refine (Go.Proofs.Any.strconv_ParseUint_10_at64_range Go.Proofs.Tryd.laysPu14 s hz hp _ w c5 (.inr ⟨t5, p5, rfl⟩)).mono fun e w' ⟨N, he, hN, hw, hb⟩ => ?_
      subst he
      exact bad_step hrel hN hw hb
    | _ =>
      rw [hp] at he
      simp only [badV, Option.some.injEq, Prod.mk.injEq] at he
      obtain ⟨rfl, rfl⟩ := he
      refine (Go.Proofs.Any.strconv_ParseUint_10_at64_syntax Go.Proofs.Tryd.laysPu14 s hz hp _ w c4 (.inr ⟨t4, p4, rfl⟩)).mono fun e w' ⟨N, he, hN, hw, hb⟩ => ?_
      subst he
      exact bad_step hrel hN hw hb
  · simp at he
/-- The parts of a number's spelling: below one hundred; how many digits; the digits laid in a row of noughts. -/
def zs24 : List Value := List.replicate 24 (.int .u8 0)
def rowOk (H : Heap) (b : Nat) : Bool := match H.get b with | some x => x.rw && x.o.isNone && decide (x.es = 1) && veqs x.cells zs24 | none => false
def hookL : Hook := fun f args H =>
  cond (Nat.beq f 68) (match args.toList with
    | [.int .i64 i] => cond (decide (0 ≤ i) && decide (i < 100)) (some (some (.ret (.string ⟨(Lib.decDigits i.toNat).toArray⟩), H))) none
    | _ => none)
  (cond (Nat.beq f 69) (match args.toList with
    | [.int .u64 u] => cond (decide (1 ≤ u) && decide (u < 18446744073709551616) && powOk H) (some (some (.ret (.int .i64 (Lib.nDigits u.toNat : Int)), H))) none
    | _ => none)
  (cond (Nat.beq f 70) (match args.toList with
    | [.slice (some ⟨b, 0, none⟩) n _, .int .u64 u] => cond (decide (0 ≤ u) && decide (u < 18446744073709551616) && decide (n = Lib.nDigits u.toNat) && rowOk H b) (some (some (.ret (.tuple #[]), H.set b ⟨over zs24 0 (digV u.toNat), true, 1, none⟩))) none
    | _ => none) none))
theorem digits_le {u : Nat} (h : u < 18446744073709551616) : Lib.nDigits u ≤ 20 := Lib.nDigits_le20 u h
open Go.Sort in
theorem put_heap {w : World} {blk off : Nat} {d : Array UInt8} {cs : Array Value} {elem : TypeId} {fz : Nat × Nat} (h : w.heap[blk]? = some (.cells cs elem fz)) :
    (putRow (fun (b : UInt8) => Value.int .u8 (b.toNat : Int)) w blk off d).heap = w.heap.setIfInBounds blk (.cells (putCells (fun (b : UInt8) => Value.int .u8 (b.toNat : Int)) off d cs) elem fz) := by
  unfold putRow mapBlock
  apply Array.ext_getElem?
  intro k
  simp only [Array.getElem?_modify, Array.getElem?_setIfInBounds]
  have hb : blk < w.heap.size := (Array.getElem?_eq_some_iff.mp h).1
  by_cases e : blk = k
  · subst e
    rw [if_pos rfl, if_pos rfl, if_pos hb, h]
    rfl
  · rw [if_neg e, if_neg e]
theorem hookL_sound : HookSnd PP hookL := by
  intro f args H r H' he m w args' hrel hgl hargs
  unfold hookL at he
  cases hf : Nat.beq f 68 with
  | true =>
    rw [hf] at he
    obtain rfl := Nat.eq_of_beq_eq_true hf
    simp only [cond_true] at he
    split at he
    · rename_i i hs
      cases h1 : (decide (0 ≤ i) && decide (i < 100)) with
      | false => rw [h1] at he; simp at he
      | true =>
      rw [h1] at he
      simp only [cond_true, Option.some.injEq, Prod.mk.injEq] at he
      obtain ⟨rfl, rfl⟩ := he
      simp only [Bool.and_eq_true, decide_eq_true_eq] at h1
      have e := hargs.eq_of_atomic (by rw [hs]; rfl)
      subst e
      have ea : args' = #[.int .i64 i] := by cases args'; simp_all
      subst ea
      have eu : ((i.toNat : Nat) : Int) = i := by omega
      have hc := Go.Proofs.Any.internal_strconv_small (P := PP) (ρ := Go.Proofs.Tryd.laysM288_ren) { Go.Proofs.Tryd.laysM288 with } i.toNat (by omega) w
      rw [eu] at hc
      refine hc.mono fun e w' ⟨he, hw⟩ => ?_
      subst he hw
      exact ⟨m, VR.atom _ rfl, Step.refl hrel⟩
    · simp at he
  | false =>
  rw [hf] at he
  simp only [cond_false] at he
  cases hf : Nat.beq f 69 with
  | true =>
    rw [hf] at he
    obtain rfl := Nat.eq_of_beq_eq_true hf
    simp only [cond_true] at he
    split at he
    · rename_i u hs
      cases h1 : (decide (1 ≤ u) && decide (u < 18446744073709551616) && powOk H) with
      | false => rw [h1] at he; simp at he
      | true =>
      rw [h1] at he
      simp only [cond_true, Option.some.injEq, Prod.mk.injEq] at he
      obtain ⟨rfl, rfl⟩ := he
      simp only [Bool.and_eq_true, decide_eq_true_eq] at h1
      obtain ⟨⟨h1, h2⟩, h3⟩ := h1
      have e := hargs.eq_of_atomic (by rw [hs]; rfl)
      subst e
      have ea : args' = #[.int .u64 u] := by cases args'; simp_all
      subst ea
      have eu : ((u.toNat : Nat) : Int) = u := by omega
      unfold powOk at h3
      split at h3
      · rename_i y hy
        simp only [Bool.and_eq_true, Option.isNone_iff_eq_none] at h3
        have hc := veqs_eq h3.1
        have htab : Lib.TabIs PP w "internal/strconv.uint64pow10" .u64 Lib.pow10Tab := by
          have hp : powV.length = szG PP 6 := by kernel_rfl
          have := tab_is (n := "internal/strconv.uint64pow10") hrel hgl (g := 6) (by rw [globals_size]; decide) hy h3.2 (by kernel_rfl) (by rw [hc]; exact hp) (by rw [hc]; decide +kernel)
          rw [hc] at this
          exact this
        have hcall := Go.Proofs.Any.internal_strconv_numDigits (P := PP) (ρ := Go.Proofs.Tryd.laysM288_ren) { Go.Proofs.Tryd.laysM288 with } u.toNat (by omega) (by omega) w htab
        rw [eu] at hcall
        refine hcall.mono fun e w' ⟨he, hw⟩ => ?_
        subst he hw
        exact ⟨m, VR.atom _ rfl, Step.refl hrel⟩
      · simp at h3
    · simp at he
  | false =>
  rw [hf] at he
  simp only [cond_false] at he
  cases hf : Nat.beq f 70 with
  | false => rw [hf] at he; simp at he
  | true =>
  rw [hf] at he
  obtain rfl := Nat.eq_of_beq_eq_true hf
  simp only [cond_true] at he
  split at he
  · rename_i b n c u hs
    cases h1 : (decide (0 ≤ u) && decide (u < 18446744073709551616) && decide (n = Lib.nDigits u.toNat) && rowOk H b) with
    | false => rw [h1] at he; simp at he
    | true =>
    rw [h1] at he
    simp only [cond_true, Option.some.injEq, Prod.mk.injEq] at he
    obtain ⟨rfl, rfl⟩ := he
    simp only [Bool.and_eq_true, decide_eq_true_eq] at h1
    obtain ⟨⟨⟨h1, h2⟩, h3⟩, h4⟩ := h1
    have ea := arr_two hs
    subst ea
    have hs2 : args'.size = 2 := hargs.1.symm
    obtain ⟨L, a', c', _, hm, hnc, hcc, hblk, hsp, ha, hv⟩ := (hargs.2 0 (by simp) (by omega)).slice_inv
    have hu := (hargs.2 1 (by simp) (by omega)).int_inv
    unfold rowOk at h4
    split at h4
    · rename_i x hx
      simp only [Bool.and_eq_true, Option.isNone_iff_eq_none, decide_eq_true_eq] at h4
      obtain ⟨⟨⟨hrw, ho⟩, hes⟩, hz⟩ := h4
      have hz := veqs_eq hz
      obtain ⟨L2, k1, k2⟩ := hrel.blk b x hx
      have hm : m b = some L := hm
      rw [hm] at k1
      obtain rfl := Option.some.inj k1
      obtain ⟨cs, elem, fz, p1, p2, p3, p4⟩ := k2.ex ho
      have hfit := k2.fits
      have hx24 : x.cells.length = 24 := by rw [hz]; rfl
      have hn20 := digits_le (u := u.toNat) (by omega)
      have hn1 : 0 < Lib.nDigits u.toNat := Lib.nDigits_pos _
      have eu : ((u.toNat : Nat) : Int) = u := by omega
      have hc0 : c' ≠ 0 := by omega
      obtain ⟨ao, ae⟩ : a'.off = L.base + 0 ∧ a'.off + c' * L.es ≤ L.e := by
        rcases ha with h | h
        · exact absurd h hc0
        · exact h
      have ea' : a' = ⟨L.c, L.base, none⟩ := by
        obtain ⟨q1, q2, q3⟩ := a'
        simp only at hblk hsp ao
        subst hblk hsp ao
        rfl
      subst ea'
      have hargs' : args' = #[.slice (some ⟨L.c, L.base, none⟩) n c', .int .u64 u] := by
        apply Array.ext
        · rw [hs2]; rfl
        · intro i i1 i2
          have : i = 0 ∨ i = 1 := by omega
          rcases this with rfl | rfl
          · simpa using hv
          · simpa using hu
      subst hargs'
      have hcell : ∀ i (h : i < 24) (h' : L.base + i < cs.size), cs[L.base + i] = .int .u8 0 := fun i h h' => by
        have hh := p3 i (by omega) h'
        have e0 : x.cells[i]'(by omega) = .int .u8 0 := by simp only [hz, zs24, List.getElem_replicate]
        rw [e0] at hh
        exact hh.int_inv
      have hH : Go.Sort.Holds (fun (b : UInt8) => Value.int .u8 (b.toNat : Int)) w L.c L.base (Array.replicate n (0 : UInt8)) := by
        intro j hj
        rw [Array.size_replicate] at hj
        have hj' : L.base + j < cs.size := by omega
        refine ⟨?_, ?_⟩
        · have e1 : (Array.replicate n (0 : UInt8))[j]! = 0 := by simp [hj]
          rw [e1]
          simp [World.cell?, p1, hj', hcell j (by omega) hj']
        · simp only [World.frozen?, p1]
          rcases p4 hrw with q | q
          · rw [Bool.and_eq_false_iff]
            by_cases c1 : fz.1 ≤ L.base + j
            · right; simp; omega
            · left; simp; omega
          · rw [Bool.and_eq_false_iff]; left; simp; omega
      have hcall := Go.Proofs.Any.internal_strconv_formatBase10 (P := PP) (ρ := Go.Proofs.Tryd.laysM288_ren) { Go.Proofs.Tryd.laysM288 with } L.c L.base c' u.toNat (Array.replicate n 0) w hH (by rw [Array.size_replicate, h3]; exact Lib.lt_pow_nDigits _) (by omega) (by rw [Array.size_replicate]; omega)
      rw [eu, Array.size_replicate] at hcall
      refine hcall.mono fun e w' ⟨he, k, v', dk, hw, hF⟩ => ?_
      subst he
      have hdk : dk.size = n := hF.size
      rw [h3] at hF
      have hwh : w'.heap = w.heap.setIfInBounds L.c (.cells (Go.Sort.putCells (fun (b : UInt8) => Value.int .u8 (b.toNat : Int)) L.base dk cs) elem fz) := by
        rw [hw]
        exact put_heap p1
      have hdl : (digV u.toNat).length = n := by
        rw [h3, ← Lib.decDigits_length]; exact Lib.byteCells_length _
      have hol : (over zs24 0 (digV u.toNat)).length = 24 := by
        rw [over_length (by rw [hdl]; show 0 + n ≤ 24; omega)]; rfl
      have ex : (⟨over zs24 0 (digV u.toNat), true, 1, none⟩ : Blk) = { x with cells := over zs24 0 (digV u.toNat) } := by
        obtain ⟨x1, x2, x3, x4⟩ := x
        simp only at hrw ho hes
        subst hrw ho hes
        rfl
      have hst := Step.write (w' := w') hrel hx hrw ho hm (over zs24 0 (digV u.toNat)) (by rw [hol, hx24]) cs (Go.Sort.putCells (fun (b : UInt8) => Value.int .u8 (b.toNat : Int)) L.base dk cs) elem fz p1 (by simp [Go.Sort.putCells]) (fun i a h' => ?_) hwh (by rw [hw]; rfl) (by rw [hw]; rfl) (by rw [hw]; rfl)
      · rw [← ex] at hst
        exact ⟨m, VR.undef m, hst⟩
      · have hi24 : i < 24 := by omega
        have hcs : L.base + i < cs.size := by simpa [Go.Sort.putCells] using h'
        have e2 : (Go.Sort.putCells (fun (b : UInt8) => Value.int .u8 (b.toNat : Int)) L.base dk cs)[L.base + i]'h' = if i < n then .int .u8 (dk[i]!.toNat : Int) else .int .u8 0 := by
          simp only [Go.Sort.putCells, Array.getElem_mapIdx, hdk]
          by_cases c1 : i < n
          · rw [if_pos (by omega), if_pos c1]; simp
          · rw [if_neg (by omega), if_neg c1]; exact hcell i hi24 hcs
        have e3 : (over zs24 0 (digV u.toNat))[i] = if i < n then .int .u8 (dk[i]!.toNat : Int) else .int .u8 0 := by
          have hg := over_get (xs := zs24) (i := 0) (vs := digV u.toNat) (by rw [hdl]; show 0 + n ≤ 24; omega) i
          rw [List.getElem?_eq_getElem a] at hg
          by_cases c1 : i < n
          · rw [if_pos c1]
            have hj : i < (Lib.decDigits u.toNat).length := by rw [Lib.decDigits_length]; omega
            have hr := Lib.row_is_numeral hF i hj
            rw [if_neg (by omega), if_pos (by omega)] at hg
            have hd : (digV u.toNat)[i - 0]? = some (.int .u8 (dk[i]!.toNat : Int)) := by
              rw [Nat.sub_zero, ← hr]
              simp [digV, Lib.byteCells, hj]
            rw [hd] at hg
            exact Option.some.inj hg
          · rw [if_neg c1]
            rw [if_neg (by omega), if_neg (by omega)] at hg
            have hd : zs24[i]? = some (.int .u8 0) := by rw [zs24, List.getElem?_replicate, if_pos hi24]
            rw [hd] at hg
            exact Option.some.inj hg
        rw [e2, e3]
        split <;> exact .atom _ rfl
    · simp at h4
  · simp at he
end Go.Am
