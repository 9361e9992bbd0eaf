/- The operations are sound: what they do to abstract heaps, the model's do to worlds. -/
import Derived.Test.YtpfpfpeockbbpaaGreatDoorAmO
import Derived.Laws.Rows
namespace Go.Am

def Snd (P : Program) (s : Sem Value) (m : Mp) (H : Heap) (w : World) (v : Value) (H' : Heap) : Prop :=
  ∃ m' v' w', s.run P w = .ok v' w' ∧ VR m' v v' ∧ Step m H w m' H' w'

theorem run_und {P : Program} {t : TypeId} {d : TypeDesc} (h : P.underlying t = some d) (w : World) : (underlying t).run P w = .ok d w := by
  simp [underlying, h]
theorem run_info {P : Program} {t : TypeId} {i : TypeInfo} (h : P.info? t = some i) (w : World) : (typeInfo t).run P w = .ok i w := by
  simp [typeInfo, h]
theorem run_size {P : Program} {t : TypeId} {n : Nat} (h : sizeT P t = some n) (w : World) : (sizeOf t).run P w = .ok n w := by
  unfold sizeT at h
  cases hi : P.info? t with
  | none => simp [hi] at h
  | some i => simp [hi] at h; simp [sizeOf, typeInfo, hi, h]
theorem run_agg {P : Program} {t : TypeId} {b : Bool} (h : aggT P t = some b) (w : World) : (isAgg t).run P w = .ok b w := by
  unfold aggT at h
  cases hu : P.underlying t with
  | none => simp [hu] at h
  | some d =>
    simp only [isAgg, Sem.run_bind, run_und hu, Result.andThen_ok]
    cases d <;> simp [hu] at h <;> subst h <;> rfl
theorem zeroT_spec {P : Program} {t : TypeId} {z : List Value} (h : zeroT P t = some z) : ∃ (i : TypeInfo) (v : Value), P.info? t = some i ∧ i.zero = some v ∧ z = v.cells.toList ∧ z.all atomic = true := by
  unfold zeroT at h
  cases hi : P.info? t with
  | none => simp [hi] at h
  | some i =>
    cases hz : i.zero with
    | none => simp [hi, hz] at h
    | some v =>
      simp only [hi, hz] at h
      by_cases ha : v.cells.toList.all atomic = true
      · rw [if_pos ha] at h; simp only [Option.some.injEq] at h; subst h; exact ⟨i, v, rfl, hz, rfl, ha⟩
      · rw [if_neg ha] at h; simp at h
theorem run_zero {P : Program} {t : TypeId} {i : TypeInfo} {v : Value} (h : P.info? t = some i) (hz : i.zero = some v) (w : World) : (zeroValue t).run P w = .ok v w := by
  simp [zeroValue, typeInfo, h, hz]

theorem VRs.refl_of_atomic {m : Mp} {xs : List Value} (h : xs.all atomic = true) : VRs m xs xs :=
  ⟨rfl, fun _ a _ => .atom _ (List.all_eq_true.1 h _ (List.getElem_mem a))⟩

theorem Rel.look {m : Mp} {H : Heap} {w : World} (h : Rel m H w) {b off : Nat} {L : Loc} {x : Blk} (hm : m b = some L) (hl : look H ⟨b, off, none⟩ = some x) :
    H.get b = some x ∧ x.o = none ∧ L.es = x.es ∧ L.base + x.cells.length ≤ L.e ∧ ∃ cs elem fz, w.heap[L.c]? = some (.cells cs elem fz) ∧ cs.size = L.e ∧
      (∀ i (h : i < x.cells.length) (h' : L.base + i < cs.size), VR m x.cells[i] cs[L.base + i]) ∧ (x.rw = true → fz.1 = fz.2 ∨ cs.size ≤ fz.1) := by
  simp only [Am.look] at hl
  cases hg : H.get b with
  | none => simp [hg] at hl
  | some y =>
    simp only [hg] at hl
    cases ho : y.o with
    | some o => simp [ho] at hl
    | none =>
      simp only [ho, Option.some.injEq] at hl
      subst hl
      obtain ⟨L', hm', hl'⟩ := h.blk b y hg
      rw [hm] at hm'
      simp only [Option.some.injEq] at hm'
      subst hm'
      exact ⟨rfl, ho, hl'.es, hl'.fits, hl'.ex ho⟩

theorem VR.ptr_inv {m : Mp} {a : Addr} {v' : Value} (h : VR m (.pointer (some a)) v') : ∃ L, a.spot = none ∧ m a.block = some L ∧ v' = .pointer (some ⟨L.c, L.base + a.off, none⟩) := by
  cases h with
  | atom v h => simp [atomic] at h
  | ptr b off L h => exact ⟨L, rfl, h, rfl⟩

theorem Rel.look' {m : Mp} {H : Heap} {w : World} (h : Rel m H w) {a : Addr} {L : Loc} {x : Blk} (hm : m a.block = some L) (hl : Am.look H a = some x) :
    a.spot = none ∧ H.get a.block = some x ∧ x.o = none ∧ L.es = x.es ∧ L.base + x.cells.length ≤ L.e ∧ ∃ cs elem fz, w.heap[L.c]? = some (.cells cs elem fz) ∧ cs.size = L.e ∧
      (∀ i (h : i < x.cells.length) (h' : L.base + i < cs.size), VR m x.cells[i] cs[L.base + i]) ∧ (x.rw = true → fz.1 = fz.2 ∨ cs.size ≤ fz.1) := by
  obtain ⟨b, off, spot⟩ := a
  cases spot with
  | some s => simp [Am.look] at hl
  | none => exact ⟨rfl, h.look hm hl⟩

theorem Addr.add_eq (c o i : Nat) : (⟨c, o, none⟩ : Addr).add i = ⟨c, o + i, none⟩ := by
  unfold Addr.add; split
  · rename_i h; subst h; rfl
  · rfl

theorem ld1_sound {m : Mp} {H H' : Heap} {w : World} (h : Rel m H w) {a : Addr} {x' v : Value} (hx : VR m (.pointer (some a)) x') (he : ld1 H a = some (v, H')) :
    ∃ a' v', x' = .pointer (some a') ∧ w.cell? a' = some v' ∧ VR m v v' ∧ H' = H := by
  obtain ⟨L, hsp, hm, rfl⟩ := hx.ptr_inv
  unfold ld1 at he
  cases hl : look H a with
  | none => simp [hl] at he
  | some x =>
    simp only [hl] at he
    obtain ⟨_, hg, ho, hes, hfit, cs, elem, fz, h1, h2, h3, h4⟩ := h.look' hm hl
    cases hc : x.cells[a.off]? with
    | none => simp [hc] at he
    | some u =>
      simp only [hc, Option.some.injEq, Prod.mk.injEq] at he
      obtain ⟨rfl, rfl⟩ := he
      obtain ⟨hlt, rfl⟩ := List.getElem?_eq_some_iff.1 hc
      have hb : L.base + a.off < cs.size := by omega
      refine ⟨_, cs[L.base + a.off], rfl, ?_, h3 _ hlt hb, rfl⟩
      rw [cell_of_row w L.c _ cs elem fz h1]
      simp [hb]

theorem cells_at {m : Mp} {w : World} {x : Blk} {L : Loc} {cs : Array Value} {elem : TypeId} {fz : Nat × Nat} (h1 : w.heap[L.c]? = some (.cells cs elem fz)) (h2 : cs.size = L.e)
    (hfit : L.base + x.cells.length ≤ L.e) (h3 : ∀ i (h : i < x.cells.length) (h' : L.base + i < cs.size), VR m x.cells[i] cs[L.base + i])
    (off n : Nat) (hn : off + n ≤ x.cells.length) :
    ∃ ys : List Value, ys.length = n ∧ VRs m ((x.cells.drop off).take n) ys ∧ ∀ j v, ys[j]? = some v → w.cell? ((⟨L.c, L.base + off, none⟩ : Addr).add j) = some v := by
  refine ⟨(cs.toList.drop (L.base + off)).take n, ?_, ⟨?_, ?_⟩, ?_⟩
  · simp; omega
  · simp; omega
  · intro i hi hi'
    simp only [List.getElem_take, List.getElem_drop]
    simp only [List.length_take, List.length_drop] at hi hi'
    have := h3 (off + i) (by omega) (by omega)
    simpa [Nat.add_assoc] using this
  · intro j v hj
    rw [Addr.add_eq, cell_of_row w L.c _ cs elem fz h1]
    rw [List.getElem?_take] at hj
    by_cases hjn : j < n
    · simp only [hjn, if_true, List.getElem?_drop] at hj
      simpa using hj
    · simp [hjn] at hj

theorem run_loadCells_ys {P : Program} {w : World} {a : Addr} {ys : List Value} {n : Nat} (hn : ys.length = n) (h : ∀ j v, ys[j]? = some v → w.cell? (a.add j) = some v) :
    (loadCells a n).run P w = .ok ys.toArray w := by
  subst hn; exact run_loadCells_list w a ys h

theorem loadA_read {P : Program} {m : Mp} {H H' : Heap} {w : World} (h : Rel m H w) {t : TypeId} {x x' v : Value} (hx : VR m x x') (he : loadA P t x H = some (v, H')) :
    ∃ v', (Instr.loadAt t x').run P w = .ok v' w ∧ VR m v v' ∧ H' = H := by
  unfold loadA at he
  split at he
  · rename_i a
    split at he
    · rename_i hagg
      cases hsz : sizeT P t with
      | none => simp [hsz] at he
      | some n =>
        simp only [hsz] at he
        obtain ⟨L, hsp, hm, rfl⟩ := hx.ptr_inv
        unfold ldN at he
        cases hl : look H a with
        | none => simp [hl] at he
        | some y =>
          simp only [hl] at he
          by_cases hin : a.off + n ≤ y.cells.length
          · rw [if_pos hin] at he
            simp only [Option.some.injEq, Prod.mk.injEq] at he
            obtain ⟨rfl, rfl⟩ := he
            obtain ⟨_, hg, ho, hes, hfit, cs, elem, fz, h1, h2, h3, h4⟩ := h.look' hm hl
            obtain ⟨ys, k1, k2, k3⟩ := cells_at h1 h2 hfit h3 a.off n hin
            refine ⟨.agg ys.toArray, ?_, ?_, rfl⟩
            · simp [Instr.loadAt, Instr.sureAddr, loadVar, run_agg hagg, run_size hsz, run_loadCells_ys k1 k3]
            · exact .agg _ _ k2.toArray.1 k2.toArray.2
          · rw [if_neg hin] at he; simp at he
    · rename_i hagg
      obtain ⟨a', v', rfl, hc, hv, rfl⟩ := ld1_sound h hx he
      exact ⟨v', by simp [Instr.loadAt, Instr.sureAddr, loadVar, run_agg hagg, hc], hv, rfl⟩
    · simp at he
  · simp at he

theorem loadA_sound {P : Program} {m : Mp} {H H' : Heap} {w : World} (h : Rel m H w) {t : TypeId} {x x' v : Value} (hx : VR m x x') (he : loadA P t x H = some (v, H')) :
    Snd P (Instr.loadAt t x') m H w v H' := by
  obtain ⟨v', k1, k2, k3⟩ := loadA_read h hx he
  subst k3
  exact ⟨m, v', w, k1, k2, .refl h⟩

/-- The world with another row at a block. -/
def setRowW (w : World) (c : Nat) (cs : Array Value) (elem : TypeId) (fz : Nat × Nat) : World := { w with heap := w.heap.setIfInBounds c (.cells cs elem fz) }

def overA (cs : Array Value) (i : Nat) (vs : List Value) : Array Value := (cs.toList.take i ++ vs ++ cs.toList.drop (i + vs.length)).toArray

theorem overA_size {cs : Array Value} {i : Nat} {vs : List Value} (h : i + vs.length ≤ cs.size) : (overA cs i vs).size = cs.size := by
  simp [overA]; omega

theorem overA_get {cs : Array Value} {i : Nat} {vs : List Value} (h : i + vs.length ≤ cs.size) (j : Nat) :
    (overA cs i vs)[j]? = if j < i then cs[j]? else if j < i + vs.length then vs[j - i]? else cs[j]? := by
  simp only [overA, List.getElem?_toArray, List.getElem?_append, List.length_append, List.length_take, Array.length_toList, List.getElem?_take, List.getElem?_drop, Array.getElem?_toList]
  have : min i cs.size = i := by omega
  simp only [this]
  by_cases h1 : j < i
  · simp [h1, show j < i + vs.length by omega]
  · by_cases h2 : j < i + vs.length
    · simp [h1, h2]
    · simp only [h1, h2, if_false]
      congr 1; omega

theorem over_get {xs : List Value} {i : Nat} {vs : List Value} (h : i + vs.length ≤ xs.length) (j : Nat) :
    (over xs i vs)[j]? = if j < i then xs[j]? else if j < i + vs.length then vs[j - i]? else xs[j]? := by
  simp only [over, List.getElem?_append, List.length_append, List.length_take, List.getElem?_take, List.getElem?_drop]
  have : min i xs.length = i := by omega
  simp only [this]
  by_cases h1 : j < i
  · simp [h1, show j < i + vs.length by omega]
  · by_cases h2 : j < i + vs.length
    · simp [h1, h2]
    · simp only [h1, h2, if_false]
      congr 1; omega

theorem over_length {xs : List Value} {i : Nat} {vs : List Value} (h : i + vs.length ≤ xs.length) : (over xs i vs).length = xs.length := by
  simp [over]; omega

theorem run_storeCells' {P : Program} (c o : Nat) (elem : TypeId) (fz : Nat × Nat) : ∀ (vs : List Value) (i : Nat) (cs : Array Value) (w : World),
    w.heap[c]? = some (.cells cs elem fz) → o + i + vs.length ≤ cs.size → (∀ v ∈ vs, v.oneCell' = true) → (fz.1 = fz.2 ∨ cs.size ≤ fz.1) →
    (storeCells ⟨c, o, none⟩ vs i).run P w = .ok () (setRowW w c (overA cs (o + i) vs) elem fz)
  | [], i, cs, w, hg, _, _, _ => by
    have hlt : c < w.heap.size := (Array.getElem?_eq_some_iff.1 hg).1
    have e1 : overA cs (o + i) [] = cs := by simp [overA, List.take_append_drop]
    have e2 : w.heap.setIfInBounds c (.cells cs elem fz) = w.heap := by
      apply Array.ext_getElem?
      intro j
      rw [Array.getElem?_setIfInBounds]
      by_cases e : c = j
      · subst e; rw [if_pos rfl, if_pos hlt, hg]
      · simp [e]
    simp only [storeCells, Sem.run_pure, e1, setRowW, e2]
  | v :: rest, i, cs, w, hg, hl, h1, hf => by
    have hi : o + i < cs.size := by simp at hl; omega
    have hlt : c < w.heap.size := (Array.getElem?_eq_some_iff.1 hg).1
    have hcell : w.cell? ⟨c, o + i, none⟩ = some cs[o + i] := by rw [cell_of_row w c _ cs elem fz hg]; simp [hi]
    have hfr : w.frozen? ⟨c, o + i, none⟩ = false := by
      simp only [World.frozen?, hg]
      rcases hf with e | e
      · rw [show fz = (fz.1, fz.2) from rfl]; simp only [e, Bool.and_eq_false_iff, decide_eq_false_iff_not]; omega
      · rw [show fz = (fz.1, fz.2) from rfl]; simp only [Bool.and_eq_false_iff, decide_eq_false_iff_not]; omega
    have hset : w.setCell ⟨c, o + i, none⟩ v = setRowW w c (cs.setIfInBounds (o + i) v) elem fz := by
      unfold World.setCell setRowW
      congr 1
      apply Array.ext_getElem?
      intro j
      rw [Array.getElem?_modify, Array.getElem?_setIfInBounds]
      by_cases e : c = j
      · subst e; rw [if_pos rfl, if_pos rfl, if_pos hlt, hg]; rfl
      · simp [e]
    have hst : (store ⟨c, o + i, none⟩ v).run P w = .ok () (setRowW w c (cs.setIfInBounds (o + i) v) elem fz) := by
      rw [run_store P w _ v _ (h1 v (by simp))]
      simp [hcell, hfr, hset]
    have hg' : (setRowW w c (cs.setIfInBounds (o + i) v) elem fz).heap[c]? = some (.cells (cs.setIfInBounds (o + i) v) elem fz) := by
      simp [setRowW, hlt]
    have ih := run_storeCells' (P := P) c o elem fz rest (i + 1) (cs.setIfInBounds (o + i) v) _ hg' (by simp at hl ⊢; omega) (fun x hx => h1 x (by simp [hx])) (by simpa using hf)
    simp only [storeCells, Sem.run_bind, Addr.add_eq, hst, Result.andThen_ok, ih]
    congr 1
    simp only [setRowW, Array.setIfInBounds_setIfInBounds]
    congr 3
    apply Array.ext_getElem?
    intro j
    have hl' : o + i + (v :: rest).length ≤ cs.size := hl
    rw [overA_get hl', ← Nat.add_assoc, overA_get (by simp at hl ⊢; omega), Array.getElem?_setIfInBounds]
    simp only [List.length_cons] at *
    by_cases a1 : j < o + i
    · simp [a1, show j < o + i + 1 by omega, show ¬ (o + i = j) by omega]
    · by_cases a2 : j = o + i
      · subst a2; simp [hi]
      · by_cases a3 : j < o + i + (rest.length + 1)
        · simp only [show ¬ j < o + i + 1 by omega, show j < o + i + 1 + rest.length by omega, a1, a3, if_false, if_true]
          rw [show j - (o + i) = (j - (o + i + 1)) + 1 by omega, List.getElem?_cons_succ]
        · simp [show ¬ j < o + i + 1 by omega, show ¬ j < o + i + 1 + rest.length by omega, a1, a3, show ¬ (o + i = j) by omega]

/-- Cells written over an owned block, in the world and in the abstract heap. -/
theorem Step.overwrite {m : Mp} {H : Heap} {w : World} (h : Rel m H w) {b off : Nat} {x : Blk} {L : Loc} (hm : m b = some L) (hl : look H ⟨b, off, none⟩ = some x) (hrw : x.rw = true)
    (k : Nat) (vs vs' : List Value) (hv : VRs m vs vs') (hk : k + vs.length ≤ x.cells.length) (h1 : vs.all Value.oneCell' = true) (P : Program) :
    ∃ w', (storeCells ⟨L.c, L.base + k, none⟩ vs').run P w = .ok () w' ∧ Step m H w m (H.set b { x with cells := over x.cells k vs }) w' := by
  obtain ⟨hg, ho, hes, hfit, cs, elem, fz, g1, g2, g3, g4⟩ := h.look hm hl
  have hone : ∀ v ∈ vs', v.oneCell' = true := by
    intro v hvm
    obtain ⟨i, hi, rfl⟩ := List.getElem_of_mem hvm
    have hi' : i < vs.length := by have := hv.1; omega
    have a1 := List.all_eq_true.1 h1 _ (List.getElem_mem hi')
    have a2 := hv.2 i hi' hi
    generalize vs[i] = p at a1 a2
    generalize vs'[i] = q at a2
    cases a2 <;> simp_all [Value.oneCell']
  have hlen : vs'.length = vs.length := hv.1.symm
  have hst := run_storeCells' (P := P) L.c (L.base + k) elem fz vs' 0 cs w g1 (by omega) hone (g4 hrw)
  simp only [Nat.add_zero] at hst
  refine ⟨_, hst, ?_⟩
  refine Step.write h hg hrw ho hm (over x.cells k vs) (over_length hk) cs (overA cs (L.base + k) vs') elem fz g1 (overA_size (by omega)) ?_ rfl rfl rfl rfl
  intro i hi hi'
  have e1 := over_get hk i
  have e2 := overA_get (cs := cs) (i := L.base + k) (vs := vs') (by omega) (L.base + i)
  rw [List.getElem?_eq_getElem hi] at e1
  rw [Array.getElem?_eq_getElem hi'] at e2
  have hi2 : i < x.cells.length := by rw [over_length hk] at hi; exact hi
  have hi3 : L.base + i < cs.size := by omega
  by_cases a1 : i < k
  · simp only [a1, if_true, List.getElem?_eq_getElem hi2, Option.some.injEq] at e1
    simp only [show L.base + i < L.base + k by omega, if_true, Array.getElem?_eq_getElem hi3, Option.some.injEq] at e2
    rw [e1, e2]; exact g3 i hi2 hi3
  · by_cases a2 : i < k + vs.length
    · have b1 : i - k < vs.length := by omega
      have b2 : i - k < vs'.length := by omega
      simp only [a1, a2, if_false, if_true, List.getElem?_eq_getElem b1, Option.some.injEq] at e1
      simp only [show ¬ L.base + i < L.base + k by omega, show L.base + i < L.base + k + vs'.length by omega, if_false, if_true,
        show L.base + i - (L.base + k) = i - k by omega, List.getElem?_eq_getElem b2, Option.some.injEq] at e2
      rw [e1, e2]; exact hv.2 _ b1 b2
    · simp only [a1, a2, if_false, List.getElem?_eq_getElem hi2, Option.some.injEq] at e1
      simp only [show ¬ L.base + i < L.base + k by omega, show ¬ L.base + i < L.base + k + vs'.length by omega, if_false, Array.getElem?_eq_getElem hi3, Option.some.injEq] at e2
      rw [e1, e2]; exact g3 i hi2 hi3

theorem storeA_sound {P : Program} {m : Mp} {H H' : Heap} {w : World} (h : Rel m H w) {t : TypeId} {x x' u u' v : Value} (hx : VR m x x') (hu : VR m u u') (he : storeA P t x u H = some (v, H')) :
    v = undef ∧ ∃ m' w', (Instr.storeAt t x' u').run P w = .ok () w' ∧ Step m H w m' H' w' := by
  unfold storeA at he
  split at he
  · rename_i a
    cases hsz : sizeT P t with
    | none => simp [hsz] at he
    | some n =>
      simp only [hsz, stV] at he
      by_cases hc : u.cells.size = n
      · rw [if_pos hc] at he
        obtain ⟨L, hsp, hm, rfl⟩ := hx.ptr_inv
        obtain ⟨b, off, sp⟩ := a
        simp only at hsp; subst hsp
        unfold st at he
        cases hl : look H ⟨b, off, none⟩ with
        | none => simp [hl] at he
        | some y =>
          simp only [hl] at he
          by_cases hok : y.rw = true ∧ off + u.cells.toList.length ≤ y.cells.length ∧ u.cells.toList.all Value.oneCell' = true
          · rw [if_pos hok] at he
            simp only [Option.some.injEq, Prod.mk.injEq] at he
            obtain ⟨rfl, rfl⟩ := he
            obtain ⟨w', k1, k2⟩ := Step.overwrite h hm hl hok.1 off _ _ hu.cells.toList hok.2.1 hok.2.2 P
            refine ⟨rfl, m, w', ?_, k2⟩
            have hs' : u'.cells.size = n := by rw [← hu.cells.1]; exact hc
            simp [Instr.storeAt, Instr.sureAddr, storeVar, run_size hsz, hs', k1]
          · rw [if_neg hok] at he; simp at he
      · rw [if_neg hc] at he; simp at he
  · simp at he

end Go.Am
