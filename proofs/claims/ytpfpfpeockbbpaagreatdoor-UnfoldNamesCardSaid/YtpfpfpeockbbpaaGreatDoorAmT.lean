/- The operations are sound, second part. -/
import Derived.Test.YtpfpfpeockbbpaaGreatDoorAmS
namespace Go.Am

theorem Snd.pure {P : Program} {s : Sem Value} {m : Mp} {H : Heap} {w : World} {v v' : Value} (h : Rel m H w) (hr : s.run P w = .ok v' w) (hv : VR m v v') : Snd P s m H w v H :=
  ⟨m, v', w, hr, hv, .refl h⟩

/-- A new row of which all is known. -/
theorem mk_sound {P : Program} {m : Mp} {H : Heap} {w : World} (h : Rel m H w) (es : Nat) (xs : List Value) (ys : Array Value) (elem : TypeId) (hv : VRs m xs ys.toList) :
    ∃ m', (newRow elem ys).run P w = .ok ⟨w.heap.size, 0, none⟩ { w with heap := w.heap.push (.cells ys elem) } ∧ m' H.next = some ⟨w.heap.size, 0, es, ys.size⟩ ∧
      Step m H w m' (H.alloc es xs) { w with heap := w.heap.push (.cells ys elem) } := by
  refine ⟨_, by simp [newRow], ?_, Step.alloc h es xs ys elem (by have := hv.1; simp at this; omega) (fun i a b => by have := hv.2 i a (by simpa using b); rwa [Array.getElem_toList] at this) rfl rfl rfl rfl⟩
  simp [Mp.add]

theorem mkT_sound {P : Program} {m : Mp} {H : Heap} {w : World} (h : Rel m H w) (es : Nat) (ty : Option (TypeId × Nat)) (xs : List Value) (ys : Array Value) (elem : TypeId) (hty : ∀ t n, ty = some (t, n) → elem = t ∧ (n = 0 ∨ ys.size = n)) (hv : VRs m xs ys.toList) :
    ∃ m', (newRow elem ys).run P w = .ok ⟨w.heap.size, 0, none⟩ { w with heap := w.heap.push (.cells ys elem) } ∧ m' H.next = some ⟨w.heap.size, 0, es, ys.size⟩ ∧
      Step m H w m' (H.allocT es ty xs) { w with heap := w.heap.push (.cells ys elem) } := by
  refine ⟨_, by simp [newRow], ?_, Step.allocT h es ty xs ys elem (by have := hv.1; simp at this; omega) hty (fun i a b => by have := hv.2 i a (by simpa using b); rwa [Array.getElem_toList] at this) rfl rfl rfl rfl⟩
  simp [Mp.add]

theorem boxA_sound {P : Program} {m : Mp} {H H' : Heap} {w : World} (h : Rel m H w) {t : TypeId} {u u' v : Value} (hu : VR m u u') (he : boxA P t u H = some (v, H')) :
    Snd P (Instr.box t u') m H w v H' := by
  simp only [boxA, mkT, Option.some.injEq, Prod.mk.injEq] at he
  obtain ⟨rfl, rfl⟩ := he
  obtain ⟨m', k1, k2, k3⟩ := mkT_sound (P := P) h (esT P t) (some (t, u.cells.size)) u.cells.toList u'.cells t (fun t n e => by simp only [Option.some.injEq, Prod.mk.injEq] at e; exact ⟨e.1, .inr (by rw [← e.2]; exact hu.cells.1.symm)⟩) hu.cells.toList
  refine ⟨m', .pointer (some ⟨w.heap.size, 0, none⟩), _, ?_, .ptr H.next 0 _ k2, k3⟩
  simp [Instr.box, newVar, k1]

theorem allocA_sound {P : Program} {m : Mp} {H H' : Heap} {w : World} (h : Rel m H w) {t : TypeId} {v : Value} (he : allocA P t H = some (v, H')) :
    Snd P (Instr.alloc t true (.tuple #[])) m H w v H' := by
  unfold allocA at he
  cases hz : zeroT P t with
  | none => simp [hz] at he
  | some z =>
    simp only [hz, mkT, Option.some.injEq, Prod.mk.injEq] at he
    obtain ⟨rfl, rfl⟩ := he
    obtain ⟨i, zv, h1, h2, rfl, h4⟩ := zeroT_spec hz
    obtain ⟨m', k1, k2, k3⟩ := mkT_sound (P := P) h (esT P t) (some (t, zv.cells.toList.length)) zv.cells.toList zv.cells t (fun t n e => by simp only [Option.some.injEq, Prod.mk.injEq] at e; exact ⟨e.1, .inr (by simpa using e.2)⟩) (VRs.refl_of_atomic h4)
    refine ⟨m', .pointer (some ⟨w.heap.size, 0, none⟩), _, ?_, .ptr H.next 0 _ k2, k3⟩
    simp [Instr.alloc, run_zero h1 h2, newVar, k1]

theorem fill_cells_sound {m : Mp} (off : Nat) : ∀ (vs vs' : List (Value × Nat)) (cs cs' : Array Value), VRa m cs cs' → vs.length = vs'.length →
    (∀ i (a : i < vs.length) (b : i < vs'.length), VR m vs[i].1 vs'[i].1 ∧ vs[i].2 = vs'[i].2) →
    VRa m (vs.foldl (fun cs (c, j) => cs.setIfInBounds (off + j) c) cs) (vs'.foldl (fun cs (c, j) => cs.setIfInBounds (off + j) c) cs')
  | [], [], _, _, h, _, _ => h
  | [], _ :: _, _, _, _, h, _ => by simp at h
  | _ :: _, [], _, _, _, h, _ => by simp at h
  | x :: r, y :: r', cs, cs', h, hl, hv => by
    simp only [List.foldl_cons]
    have h0 := hv 0 (by simp) (by simp)
    simp only [List.getElem_cons_zero] at h0
    refine fill_cells_sound off r r' _ _ ?_ (by simpa using hl) (fun i a b => ?_)
    · rw [h0.2]; exact h.set _ h0.1
    · have := hv (i + 1) (by simpa using a) (by simpa using b)
      simpa using this

def VRp (m : Mp) (ps ps' : List (Nat × Value)) : Prop := ps.length = ps'.length ∧ ∀ i (a : i < ps.length) (b : i < ps'.length), ps[i].1 = ps'[i].1 ∧ VR m ps[i].2 ps'[i].2

theorem fill_sound {m : Mp} (place : Nat → Option (Nat × Nat)) : ∀ (ps ps' : List (Nat × Value)) (cs cs' out : Array Value), VRa m cs cs' → VRp m ps ps' → Instr.fill place cs ps = some out →
    ∃ out', Instr.fill place cs' ps' = some out' ∧ VRa m out out'
  | [], [], cs, cs', out, h, _, he => by simp only [Instr.fill, Option.some.injEq] at he; subst he; exact ⟨cs', rfl, h⟩
  | [], _ :: _, _, _, _, _, hp, _ => by have := hp.1; simp at this
  | _ :: _, [], _, _, _, _, hp, _ => by have := hp.1; simp at this
  | (i, v) :: r, (i', v') :: r', cs, cs', out, h, hp, he => by
    have h0 := hp.2 0 (by simp) (by simp)
    simp only [List.getElem_cons_zero] at h0
    obtain ⟨rfl, hv⟩ := h0
    have hc := hv.cells
    simp only [Instr.fill] at he ⊢
    cases hpl : place i with
    | none => simp [hpl] at he
    | some x =>
      obtain ⟨off, size⟩ := x
      simp only [hpl] at he ⊢
      rw [← hc.1, ← h.1]
      by_cases hb : (decide (v.cells.size ≠ size) || decide (off + v.cells.size > cs.size)) = true
      · rw [if_pos hb] at he; simp at he
      · rw [if_neg hb] at he ⊢
        refine fill_sound place r r' _ _ out ?_ ⟨by have := hp.1; simpa using this, fun j a b => ?_⟩ he
        · have e1 : ∀ (zs : Array Value) (xs : Array Value), (zs.zipIdx.foldl (fun cs (c, j) => cs.setIfInBounds (off + j) c) xs) = (zs.zipIdx.toList.foldl (fun cs (c, j) => cs.setIfInBounds (off + j) c) xs) := by
            intro zs xs; rw [Array.foldl_toList]
          rw [e1, e1]
          refine fill_cells_sound off _ _ _ _ h (by simp [hc.1]) (fun k a b => ?_)
          simp only [Array.toList_zipIdx, List.getElem_zipIdx, Array.getElem_toList, and_true] at a b ⊢
          exact hc.2 k (by simpa using a) (by simpa using b)
        · have := hp.2 (j + 1) (by simpa using a) (by simpa using b)
          simpa using this

theorem buildA_sound {P : Program} {m : Mp} {H : Heap} {w : World} (h : Rel m H w) {t : TypeId} {ps ps' : Array (Nat × Value)} {v : Value} (hp : VRp m ps.toList ps'.toList) (he : buildA P t ps = some v) :
    Snd P (Instr.build t ps') m H w v H := by
  unfold buildA at he
  cases hz : zeroT P t with
  | none => simp [hz] at he
  | some z =>
    obtain ⟨i, zv, h1, h2, rfl, h4⟩ := zeroT_spec hz
    have hzz : VRa m zv.cells zv.cells := by have := (VRs.refl_of_atomic (m := m) h4).toArray; simpa using this
    simp only [hz] at he
    split at he
    · rename_i fields hu
      split at he
      · rename_i cells hf
        by_cases hall : fields.all (fun f => (sizeT P f.type).isSome) = true
        · rw [if_pos hall] at he
          simp only [Option.some.injEq] at he
          subst he
          obtain ⟨out', k1, k2⟩ := fill_sound (m := m) _ ps.toList ps'.toList _ zv.cells cells (by simpa using hzz) hp hf
          refine .pure h (v' := .agg out') ?_ (.agg _ _ k2.1 k2.2)
          have hmap : ∀ (l : List Field), (∀ f ∈ l, (sizeT P f.type).isSome = true) → (List.mapM (fun f : Field => do Pure.pure (f.offset, ← sizeOf f.type)) l : Sem (List (Nat × Nat))).run P w = .ok (l.map fun f => (f.offset, (sizeT P f.type).getD 0)) w := by
            intro l
            induction l with
            | nil => intro _; simp
            | cons f r ih =>
              intro hr
              have hf0 := hr f (by simp)
              cases hsz : sizeT P f.type with
              | none => simp [hsz] at hf0
              | some n =>
                simp only [List.mapM_cons, Sem.run_bind, run_size hsz, Result.andThen_ok, Sem.run_pure, ih (fun g hg => hr g (by simp [hg])), List.map_cons, hsz, Option.getD_some]
          have hall' : ∀ f ∈ fields.toList, (sizeT P f.type).isSome = true := by
            intro f hfm
            rw [Array.all_eq_true'] at hall
            exact hall f (by simpa using hfm)
          have hpl : (fun i => (fields.toList.map fun f => (f.offset, (sizeT P f.type).getD 0)).toArray[i]?) = placeA P fields := by
            funext k
            simp only [placeA, List.getElem?_toArray, List.getElem?_map, Array.getElem?_toList]
            cases hk : fields[k]? with
            | none => rfl
            | some f =>
              have hfm : f ∈ fields.toList := by have := Array.mem_of_getElem? hk; simpa using this
              have := hall' f hfm
              cases hsz : sizeT P f.type with
              | none => simp [hsz] at this
              | some n => simp [hsz]
          simp only [Instr.build, Sem.run_bind, run_zero h1 h2, Result.andThen_ok, run_und hu, Array.mapM_eq_mapM_toList, Sem.run_map, hmap _ hall']
          simp only [hpl, k1, Sem.run_pure]
        · rw [if_neg hall] at he; simp at he
      · simp at he
    · rename_i n e hu
      cases hsz : sizeT P e with
      | none => simp [hsz] at he
      | some s =>
        simp only [hsz] at he
        split at he
        · rename_i cells hf
          simp only [Option.some.injEq] at he
          subst he
          obtain ⟨out', k1, k2⟩ := fill_sound (m := m) _ ps.toList ps'.toList _ zv.cells cells (by simpa using hzz) hp hf
          refine .pure h (v' := .agg out') ?_ (.agg _ _ k2.1 k2.2)
          simp [Instr.build, run_zero h1 h2, run_und hu, run_size hsz, k1]
        · simp at he
    · simp at he


theorem zeroRow_atomic {z : List Value} (n : Nat) (h : z.all atomic = true) (hz : 0 < z.length ∨ n = 0) : (zeroRow z n).all atomic = true := by
  rw [List.all_eq_true]
  intro x hx
  simp only [zeroRow, List.mem_map, List.mem_range] at hx
  obtain ⟨i, hi, rfl⟩ := hx
  have hp : 0 < z.length := by omega
  have hlt : i % z.toArray.size < z.toArray.size := Nat.mod_lt _ (by simpa using hp)
  rw [getElem!_pos z.toArray _ hlt]
  simp only [List.getElem_toArray]
  exact List.all_eq_true.1 h _ (List.getElem_mem _)

theorem zeroRow_model (z : Array Value) (n : Nat) : (zeroRow z.toList n).toArray = (Array.range n).map (z[· % z.size]!) := by
  apply Array.ext'
  simp [zeroRow]

theorem buildSliceA_sound {P : Program} {m : Mp} {H H' : Heap} {w : World} (h : Rel m H w) {t : TypeId} {len : Nat} {ps ps' : Array (Nat × Value)} {v : Value} (hp : VRp m ps.toList ps'.toList)
    (he : buildSliceA P t len ps H = some (v, H')) : Snd P (Instr.buildSlice t len ps') m H w v H' := by
  unfold buildSliceA at he
  split at he
  · rename_i e hu
    split at he
    · rename_i n z hsz hz
      by_cases hc : len * n ≤ 2 ^ 24 ∧ z.length = n ∧ 0 < len * n
      · rw [if_pos hc] at he
        obtain ⟨i, zv, h1, h2, rfl, h4⟩ := zeroT_spec hz
        split at he
        · rename_i cells hf
          simp only [mkRow, Option.some.injEq, Prod.mk.injEq] at he
          obtain ⟨rfl, rfl⟩ := he
          have hn : 0 < n := Nat.pos_of_mul_pos_left hc.2.2
          have hzr := zeroRow_atomic (len * n) h4 (.inl (by omega))
          have hzz : VRa m (zeroRow zv.cells.toList (len * n)).toArray (zeroRow zv.cells.toList (len * n)).toArray := (VRs.refl_of_atomic hzr).toArray
          obtain ⟨out', k1, k2⟩ := fill_sound (m := m) _ ps.toList ps'.toList _ _ cells hzz hp hf
          rw [zeroRow_model] at k1
          have hos : out'.size = len * n := by
            have e2 : ∀ (ps : List (Nat × Value)) (cs o : Array Value), Instr.fill (fun i => some (i * n, n)) cs ps = some o → o.size = cs.size := by
              intro ps
              induction ps with
              | nil => intro cs o ho; simp only [Instr.fill, Option.some.injEq] at ho; rw [ho]
              | cons p r ih =>
                intro cs o ho
                obtain ⟨pi, pv⟩ := p
                simp only [Instr.fill] at ho
                split at ho
                · simp at ho
                · have := ih _ _ ho
                  rw [this]
                  have e3 : ∀ (zs : List (Value × Nat)) (xs : Array Value), (zs.foldl (fun cs (c, j) => cs.setIfInBounds (pi * n + j) c) xs).size = xs.size := by
                    intro zs
                    induction zs with
                    | nil => intro xs; rfl
                    | cons y ys ih2 => intro xs; simp only [List.foldl_cons, ih2]; simp
                  rw [← Array.foldl_toList]; exact e3 _ _
            rw [e2 _ _ _ k1]; simp
          obtain ⟨m', g1, g2, g3⟩ := mk_sound (P := P) h n cells.toList out' e k2.toList
          refine ⟨m', .slice (some ⟨w.heap.size, 0, none⟩) len len, _, ?_, .slice H.next 0 _ _ len len len g2 (Nat.le_refl _) (Nat.le_refl _) rfl rfl (.inr ⟨rfl, by simp [hos]⟩), g3⟩
          have hlen0 : ¬ (len * n = 0) := by omega
          have hbig : ¬ (len * n > 2 ^ 24) := by omega
          simp only [Instr.buildSlice, Sem.run_bind, run_und hu, Result.andThen_ok, run_size hsz, hbig, hlen0, if_false, run_zero h1 h2, Sem.run_pure, k1, g1]
        · simp at he
      · rw [if_neg hc] at he; simp at he
    · simp at he
  · simp at he

theorem VR.int_inv {m : Mp} {k : IntKind} {n : Int} {v' : Value} (h : VR m (.int k n) v') : v' = .int k n := h.eq_of_atomic rfl
theorem VR.bool_inv {m : Mp} {b : Bool} {v' : Value} (h : VR m (.bool b) v') : v' = .bool b := h.eq_of_atomic rfl
theorem VR.str_inv {m : Mp} {s : ByteArray} {v' : Value} (h : VR m (.string s) v') : v' = .string s := h.eq_of_atomic rfl
theorem VR.int (m : Mp) (k : IntKind) (n : Int) : VR m (.int k n) (.int k n) := .atom _ rfl
theorem VR.bool (m : Mp) (b : Bool) : VR m (.bool b) (.bool b) := .atom _ rfl
theorem VR.str (m : Mp) (s : ByteArray) : VR m (.string s) (.string s) := .atom _ rfl

theorem wrap_small {n : Int} (h0 : 0 ≤ n) (h1 : n ≤ 2 ^ 62) : IntKind.i64.wrap n = n := by
  have e1 : n % (2 ^ 64 : Int) = n := by omega
  simp only [IntKind.wrap, IntKind.bits, e1]
  rw [if_neg]
  simp only [Bool.and_eq_true, decide_eq_true_eq, not_and]
  omega

end Go.Am
