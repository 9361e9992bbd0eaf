/- The operations are sound, fifth part: conversions, slicing, append, copy. -/
import Derived.Test.YtpfpfpeockbbpaaGreatDoorAmW
import Derived.Lib.Builder
import Derived.Lib.UnsafeStr
import Derived.Laws.BytesString
namespace Go.Am

theorem bytesOf_spec : ∀ {xs : List Value} {l : List UInt8}, bytesOf xs = some l → ∃ ns : List Int, xs = ns.map (Value.int .u8) ∧ l = ns.map (fun n => UInt8.ofNat n.toNat)
  | [], l, h => by simp only [bytesOf, Option.some.injEq] at h; subst h; exact ⟨[], rfl, rfl⟩
  | x :: r, l, h => by
    unfold bytesOf at h
    split at h
    · rename_i heq; simp at heq
    · rename_i n r' heq
      simp only [List.cons.injEq] at heq
      obtain ⟨rfl, rfl⟩ := heq
      split at h
      · rename_i l' hl'
        simp only [Option.some.injEq] at h; subst h
        obtain ⟨ns, k1, k2⟩ := bytesOf_spec hl'
        exact ⟨n :: ns, by rw [k1]; rfl, by rw [k2]; rfl⟩
      · simp at h
    · simp at h

theorem VRs.ints {m : Mp} {ns : List Int} {k : IntKind} {ys : List Value} (h : VRs m (ns.map (Value.int k)) ys) : ys = ns.map (Value.int k) := by
  apply List.ext_getElem h.1.symm
  intro i a b
  have := h.2 i b a
  simp only [List.getElem_map] at this ⊢
  exact this.int_inv

theorem foldl_push (ns : List Int) : ∀ (s : ByteArray), ns.foldl (fun r n => r.push (UInt8.ofNat n.toNat)) s = ⟨s.data ++ (ns.map (fun n => UInt8.ofNat n.toNat)).toArray⟩ := by
  induction ns with
  | nil => intro s; simp
  | cons n r ih =>
    intro s
    simp only [List.foldl_cons, ih]
    congr 1
    simp [ByteArray.push]

theorem slice_addr {a : Addr} {L : Loc} {a' : Addr} {c' : Nat} (hb : a'.block = L.c) (hs : a'.spot = none) (ha : c' = 0 ∨ (a'.off = L.base + a.off ∧ a'.off + c' * L.es ≤ L.e)) (hpos : c' ≠ 0) :
    a' = ⟨L.c, L.base + a.off, none⟩ := by
  obtain ⟨x1, x2, x3⟩ := a'
  simp only at hb hs ha
  rcases ha with ha | ha
  · exact absurd ha hpos
  · rw [hb, hs, ha.1]

theorem strOf_sound {P : Program} {m : Mp} {H : Heap} {w : World} (h : Rel m H w) {a : Option Addr} {n c : Nat} {x' : Value} {s : ByteArray} (hx : VR m (.slice a n c) x') (he : strOf H a n = some s) :
    (Conv.bytesToString x').run P w = .ok (.string s) w := by
  unfold strOf at he
  split at he
  · simp only [Option.some.injEq] at he; subst he
    cases hx with
    | atom _ h => simp [Conv.bytesToString]
  · rename_i a
    obtain ⟨L, a', c', hsp, hm, hl, hc, hb', hs', ha, rfl⟩ := hx.slice_inv
    by_cases h0 : n = 0
    · rw [if_pos h0] at he
      simp only [Option.some.injEq] at he; subst he; subst h0
      simp [Conv.bytesToString, loadCells, loadCellsFrom]
    · rw [if_neg h0] at he
      cases hlk : look H a with
      | none => simp [hlk] at he
      | some y =>
        simp only [hlk] at he
        by_cases hin : a.off + n ≤ y.cells.length
        · rw [if_pos hin] at he
          split at he
          · rename_i l hl'
            simp only [Option.some.injEq] at he; subst he
            obtain ⟨_, hg, ho, hes, hfit, cs, elem, fz, h1, h2, h3, h4⟩ := h.look' hm hlk
            have ha' := slice_addr hb' hs' ha (by omega)
            subst ha'
            obtain ⟨ys, k1, k2, k3⟩ := cells_at h1 h2 hfit h3 a.off n hin
            obtain ⟨ns, b1, b2⟩ := bytesOf_spec hl'
            rw [b1] at k2
            have := k2.ints; subst this
            rw [run_bytesToString w _ n c' ns (run_loadCells_ys k1 k3), foldl_push, b2]
            simp
          · simp at he
        · rw [if_neg hin] at he; simp at he

theorem freeze_end {w : World} {c : Nat} {cs : Array Value} {elem : TypeId} {fz : Nat × Nat} (hg : w.heap[c]? = some (.cells cs elem fz)) (hf : fz.1 = fz.2 ∨ cs.size ≤ fz.1) :
    ∃ fz', w.freeze ⟨c, cs.size, none⟩ 1 = setRowW w c cs elem fz' ∧ (fz'.1 = fz'.2 ∨ cs.size ≤ fz'.1) := by
  obtain ⟨lo, hi⟩ := fz
  have hlt : c < w.heap.size := (Array.getElem?_eq_some_iff.1 hg).1
  refine ⟨if lo == hi then (cs.size, cs.size + 1) else (min lo cs.size, max hi (cs.size + 1)), ?_, ?_⟩
  · unfold World.freeze setRowW
    rw [if_neg (by simp)]
    congr 1
    apply Array.ext_getElem?
    intro j
    rw [Array.getElem?_modify, Array.getElem?_setIfInBounds]
    by_cases e : c = j
    · subst e; rw [if_pos rfl, if_pos rfl, if_pos hlt, hg]; rfl
    · simp [e]
  · by_cases e : lo = hi
    · simp [e]
    · have e' : (lo == hi) = false := by simpa using e
      simp only [e', Bool.false_eq_true, if_false]
      rcases hf with hf | hf
      · exact absurd hf e
      · right; simp only at hf ⊢; omega

theorem markStringish_sound {P : Program} {m : Mp} {H : Heap} {w : World} (h : Rel m H w) {b : Nat} {x : Blk} {L : Loc} (hb : H.get b = some x) (hrw : x.rw = true) (hno : x.o = none) (hm : m b = some L) (off : Nat) :
    ∃ w', (markStringish ⟨L.c, off, none⟩).run P w = .ok () w' ∧ Step m H w m H w' := by
  obtain ⟨L', hm', hl⟩ := h.blk b x hb
  rw [hm] at hm'; simp only [Option.some.injEq] at hm'; subst hm'
  obtain ⟨cs, elem, fz, g1, g2, g3, g4⟩ := hl.ex hno
  obtain ⟨fz', k1, k2⟩ := freeze_end g1 (g4 hrw)
  have hlt : L.c < w.heap.size := (Array.getElem?_eq_some_iff.1 g1).1
  refine ⟨setRowW w L.c cs elem fz', ?_, ?_⟩
  · have hsh : w.shape? L.c = some (elem, cs.size) := by simp [World.shape?, g1]
    simp only [markStringish, Sem.run_bind, run_shape, Result.andThen_ok, hsh, run_freeze, k1]
  · have hother : ∀ c, c ≠ L.c → (setRowW w L.c cs elem fz').heap[c]? = w.heap[c]? := by
      intro c hc; simp [setRowW, Ne.symm hc]
    have hthis : (setRowW w L.c cs elem fz').heap[L.c]? = some (.cells cs elem fz') := by simp [setRowW, hlt]
    refine ⟨⟨?_, h.apart, ?_, h.fresh⟩, .refl .., ⟨rfl, rfl, rfl, by simp [setRowW], ?_⟩⟩
    · intro k y hk
      obtain ⟨L2, q1, q2⟩ := h.blk k y hk
      refine ⟨L2, q1, ?_⟩
      by_cases e : k = b
      · subst e
        rw [hm] at q1; simp only [Option.some.injEq] at q1; subst q1
        rw [hb] at hk; simp only [Option.some.injEq] at hk; subst hk
        exact ⟨q2.es, q2.fits, fun _ => ⟨cs, elem, fz', hthis, g2, g3, fun _ => k2⟩, fun o ho => by rw [hno] at ho; simp at ho, fun t n e1 => by
          obtain ⟨b0, cs9, fz9, g9, b9⟩ := q2.ty _ _ e1
          rw [g1] at g9
          simp only [Option.some.injEq, Obj.cells.injEq] at g9
          obtain ⟨rfl, rfl, rfl⟩ := g9
          exact ⟨b0, cs, fz', hthis, b9⟩⟩
      · exact q2.mono (Mp.le_refl m) (hother _ (fun hc => e (h.apart b x hb hrw k y L L2 hk hm q1 hc)))
    · intro k L2 hk; have := h.bound _ _ hk; simpa [setRowW] using this
    · intro c _ hown
      exact hother c (fun e => hown ⟨b, x, L, hb, hrw, hm, e.symm⟩)

/-- What a block tells of its type. -/
theorem Rel.typed {m : Mp} {H : Heap} {w : World} (h : Rel m H w) {a : Addr} {L : Loc} (hm : m a.block = some L) {y : Blk} (hl : Am.look H a = some y) {e : TypeId} {n : Nat} (hty : y.ty = some (e, n)) :
    ∃ cells, L.base = 0 ∧ (n = 0 ∨ cells = n) ∧ y.cells.length ≤ cells ∧ w.shape? L.c = some (e, cells) := by
  obtain ⟨_, hg, ho, hLes, hfit, cs, elem, fz, g1, g2, g3, g4⟩ := h.look' hm hl
  obtain ⟨L2, q1, q2⟩ := h.blk _ _ hg
  rw [hm] at q1; simp only [Option.some.injEq] at q1; subst q1
  obtain ⟨b0, cs9, fz9, g9, b9⟩ := q2.ty _ _ hty
  rw [g1] at g9
  simp only [Option.some.injEq, Obj.cells.injEq] at g9
  obtain ⟨rfl, rfl, rfl⟩ := g9
  exact ⟨cs.size, b0, b9, by omega, by simp [World.shape?, g1]⟩
theorem sizeT_spec {P : Program} {t : TypeId} {n : Nat} (h : sizeT P t = some n) : ∃ j, P.info? t = some j ∧ j.size = n := by
  unfold sizeT at h
  cases e : P.info? t with
  | none => rw [e] at h; cases h
  | some j => rw [e] at h; simp only [Option.map_some, Option.some.injEq] at h; exact ⟨j, rfl, h⟩
theorem VRs.eq_of_all {m : Mp} {xs ys : List Value} (ha : xs.all atomic = true) (h : VRs m xs ys) : ys = xs := by
  apply List.ext_getElem (h.1.symm)
  intro i h1 h2
  exact (h.2 i h2 h1).eq_of_atomic (List.all_eq_true.1 ha _ (List.getElem_mem h2))

theorem convertA_sound {P : Program} {m : Mp} {H H' : Heap} {w : World} (h : Rel m H w) {s d : TypeId} {x x' v : Value} (hx : VR m x x') (he : convertA P s d x H = some (v, H')) :
    Snd P (convert s d x') m H w v H' := by
  unfold convertA at he
  split at he
  · rename_i ds k q n hs hd
    simp only [Option.some.injEq, Prod.mk.injEq] at he
    obtain ⟨rfl, rfl⟩ := he
    have := hx.int_inv; subst this
    refine .pure h ?_ (.int m _ _)
    simp only [convert, Sem.run_bind, run_und hs, run_und hd, Result.andThen_ok]
    cases ds <;> rfl
  · rename_i ds q n hs hd
    simp only [Option.some.injEq, Prod.mk.injEq] at he
    obtain ⟨rfl, rfl⟩ := he
    have := hx.int_inv; subst this
    refine .pure h ?_ (.str m _)
    simp only [convert, Sem.run_bind, run_und hs, run_und hd, Result.andThen_ok]
    cases ds <;> rfl
  · rename_i ds st hs hd
    simp only [Option.some.injEq, Prod.mk.injEq] at he
    obtain ⟨rfl, rfl⟩ := he
    have := hx.str_inv; subst this
    refine .pure h ?_ (.str m _)
    simp only [convert, Sem.run_bind, run_und hs, run_und hd, Result.andThen_ok]
    cases ds <;> rfl
  · rename_i ds e st hs hd
    have := hx.str_inv; subst this
    split at he
    · rename_i hu
      by_cases hb : st.size ≤ most
      · rw [if_pos hb] at he
        simp only [mkRow, Option.some.injEq, Prod.mk.injEq] at he
        obtain ⟨rfl, rfl⟩ := he
        let w1 : World := { w with drawn := w.drawn + 1 }
        let cap := (Question.appendCap st.size 0 e).cut (w.tape w.drawn (.appendCap st.size 0 e))
        have hcap : st.size ≤ cap := by simp only [cap, Question.cut]; omega
        let cells : Array Value := st.data.map (fun b => .int .u8 b.toNat) ++ Array.replicate (cap - st.size) (.int .u8 0)
        have h1 : Rel m H w1 := h.drawn _
        have hsz : cells.size = cap := by
          have : st.data.size = st.size := rfl
          simp only [cells, Array.size_append, Array.size_map, Array.size_replicate, this]; omega
        let w2 : World := { w1 with heap := w1.heap.push (.cells cells e) }
        have st2 : Step m H w1 (m.add H.next ⟨w1.heap.size, 0, 1, cells.size⟩) (H.alloc 1 (st.data.toList.map fun b => .int .u8 b.toNat)) w2 :=
          Step.alloc h1 1 _ cells e (by simp only [List.length_map, Array.length_toList]; rw [hsz]; exact hcap) (fun i a b => by
            have a' : i < st.data.size := by simpa using a
            have a2 : i < st.size := a'
            have : cells[i] = .int .u8 st.data[i].toNat := by simp [cells, a2]
            rw [this]
            simp only [List.getElem_map, Array.getElem_toList]
            exact .int m _ _) rfl rfl rfl rfl
        have hget : (H.alloc 1 (st.data.toList.map fun b => (Value.int .u8 b.toNat))).get H.next = some ⟨st.data.toList.map fun b => .int .u8 b.toNat, true, 1, none, none⟩ := by rw [Heap.get_alloc]; simp
        obtain ⟨w3, q1, q2⟩ := markStringish_sound (P := P) st2.rel hget rfl rfl (L := ⟨w1.heap.size, 0, 1, cells.size⟩) (by simp [Mp.add]) 0
        refine ⟨_, .slice (some ⟨w1.heap.size, 0, none⟩) st.size cap, w3, ?_, ?_, (Step.drawn h _).trans (st2.trans q2)⟩
        · have hch : (choose (.appendCap st.size 0 e)).run P w = .ok cap w1 := by simp [run_choose, Question.forced]; exact ⟨rfl, rfl⟩
          have hcv : convert s d (.string st) = (do match ← underlying s, ← underlying d, (Value.string st) with | _, _, _ => convert s d (.string st)) ∨ True := .inr trivial
          have hgo : (Conv.stringToBytes e st).run P w = .ok (.slice (some ⟨w1.heap.size, 0, none⟩) st.size cap) w3 := by
            simp only [Conv.stringToBytes, Sem.run_bind, hch, Result.andThen_ok, newRow, run_newObj, Sem.run_pure]
            show (Sem.run P (markStringish ⟨w1.heap.size, 0, none⟩) w2).andThen _ = _
            rw [q1]; rfl
          simp only [convert, Sem.run_bind, run_und hs, run_und hd, Result.andThen_ok]
          cases ds <;> simp only [run_und hu, Result.andThen_ok, hgo]
        · exact .slice H.next 0 ⟨w1.heap.size, 0, 1, cells.size⟩ _ _ _ _ (by simp [Mp.add]) (Nat.le_refl _) hcap rfl rfl (.inr ⟨rfl, by simp [hsz]⟩)
      · rw [if_neg hb] at he; simp at he
    · simp at he
  · rename_i e0 e a l c hs hd
    by_cases hsd : (s == d) = true
    · rw [if_pos hsd] at he
      split at he
      · rename_i hu
        cases hl : look H a with
        | none => simp [hl] at he
        | some y =>
          simp only [hl] at he
          by_cases hrw : y.rw = true
          · rw [if_pos hrw] at he
            simp only [Option.some.injEq, Prod.mk.injEq] at he
            obtain ⟨rfl, rfl⟩ := he
            obtain ⟨L, a', c', hsp, hm, hl1, hc, hb', hs', ha, rfl⟩ := hx.slice_inv
            obtain ⟨_, hg, ho, _⟩ := h.look' hm hl
            obtain ⟨w', q1, q2⟩ := markStringish_sound (P := P) h hg hrw ho hm a'.off
            have ea : a' = ⟨L.c, a'.off, none⟩ := by obtain ⟨x1, x2, x3⟩ := a'; simp only at hb' hs'; rw [hb', hs']
            refine ⟨m, _, w', ?_, hx, q2⟩
            rw [← ea] at q1
            simp only [convert, Sem.run_bind, run_und hs, run_und hd, Result.andThen_ok, run_und hu, hsd, q1, Sem.run_pure]
          · rw [if_neg hrw] at he; simp at he
      · simp at he
    · rw [if_neg hsd] at he; simp at he
  · rename_i e a l c hs hd
    split at he
    · rename_i hu
      cases hst : strOf H a l with
      | none => simp [hst] at he
      | some st =>
        simp only [hst, Option.some.injEq, Prod.mk.injEq] at he
        obtain ⟨rfl, rfl⟩ := he
        have hrun := strOf_sound (P := P) h hx hst
        refine .pure h ?_ (.str m _)
        cases hx with
        | atom _ h => simp only [convert, Sem.run_bind, run_und hs, run_und hd, Result.andThen_ok, run_und hu, hrun]
        | slice b off L a' len cap cap' h hl hc hb hs' ha => simp only [convert, Sem.run_bind, run_und hs, run_und hd, Result.andThen_ok, run_und hu, hrun]
    · simp at he
  · rename_i t a hs hd
    split at he
    · rename_i y sz hl hsz
      split at he
      · rename_i e n hty
        by_cases hn : a.off < n
        · rw [if_pos hn] at he
          simp only [Option.some.injEq, Prod.mk.injEq] at he
          obtain ⟨rfl, rfl⟩ := he
          obtain ⟨ab, aoff, asp⟩ := a
          cases hx with
          | atom _ ha => simp [atomic] at ha
          | ptr b off L hm =>
            obtain ⟨L2, q1, q2, q4, q3⟩ := h.typed (a := ⟨ab, aoff, none⟩) hm hl hty
            obtain ⟨j, hj1, hj2⟩ := sizeT_spec hsz
            simp only at hn
            refine .pure h (Lib.run_to_unsafe w _ hs hd hj1 (by omega) q3 ?_) (.ptr _ _ L hm)
            simp only [q1, Nat.zero_add]; rcases q2 with q2 | q2 <;> omega
        · rw [if_neg hn] at he; cases he
      · cases he
    · cases he
  · rename_i u a hs hd
    split at he
    · rename_i y sz hl hsz
      split at he
      · rename_i e n hty
        by_cases hn : n ≠ 0 ∧ liesAt P P.depth e (n / P.cellsOf e) a.off u 1 = true
        · rw [if_pos hn] at he
          simp only [Option.some.injEq, Prod.mk.injEq] at he
          obtain ⟨rfl, rfl⟩ := he
          obtain ⟨ab, aoff, asp⟩ := a
          cases hx with
          | atom _ ha => simp [atomic] at ha
          | ptr b off L hm =>
            obtain ⟨L2, q1, q2, q4, q3⟩ := h.typed (a := ⟨ab, aoff, none⟩) hm hl hty
            obtain ⟨j, hj1, hj2⟩ := sizeT_spec hsz
            simp only at hn
            refine .pure h (Lib.run_from_unsafe w _ hs hd hj1 q3 ?_) (.ptr _ _ L hm)
            rcases q2 with q2 | q2
            · exact absurd q2 hn.1
            · rw [q2]; simp only [q1, Nat.zero_add]; exact hn.2
        · rw [if_neg hn] at he; cases he
      · cases he
    · cases he
  · simp at he

theorem dataA_sound {P : Program} {m : Mp} {H H' : Heap} {w : World} (h : Rel m H w) {ts : Array TypeId} {ty : TypeId} {x x' v : Value} (hx : VR m x x') (he : dataA x H = some (v, H')) :
    Snd P (Builtin.unsafeSliceData_ ts ty #[x']) m H w v H' := by
  unfold dataA at he
  split at he
  · simp only [Option.some.injEq, Prod.mk.injEq] at he
    obtain ⟨rfl, rfl⟩ := he
    cases hx with
    | atom _ ha => exact .pure h (Lib.run_unsafeSliceData_nil w ts ty _ _) (.atom _ rfl)
  · rename_i a l c
    split at he
    · cases he
    · rename_i hc
      simp only [Option.some.injEq, Prod.mk.injEq] at he
      obtain ⟨rfl, rfl⟩ := he
      obtain ⟨L, a', c', hsp, hm, hl, hcc, hb', hs', ha, rfl⟩ := hx.slice_inv
      have hae := slice_addr hb' hs' ha (by omega)
      subst hae
      obtain ⟨ab, aoff, asp⟩ := a
      simp only at hsp; subst hsp
      exact .pure h (Lib.run_unsafeSliceData_row w ts ty _ _ _ (by omega)) (.ptr _ _ L hm)
  · cases he

theorem bytesX_spec : ∀ {cs : List Value} {l : List UInt8}, bytesX cs = some l → cs = l.map fun b => .int .u8 b.toNat
  | [], l, h => by simp only [bytesX, Option.some.injEq] at h; subst h; rfl
  | c :: cs, l, h => by
    unfold bytesX at h
    split at h
    · rename_i hh; cases hh
    · rename_i n r hh
      simp only [List.cons.injEq] at hh
      obtain ⟨rfl, rfl⟩ := hh
      split at h
      · rename_i hn
        split at h
        · rename_i l' hl
          simp only [Option.some.injEq] at h; subst h
          have := bytesX_spec hl
          simp only [List.map_cons]
          rw [← this]
          congr 2
          have e : (UInt8.ofNat n.toNat).toNat = n.toNat := by
            simp only [UInt8.toNat_ofNat']
            omega
          rw [e]; omega
        · cases h
      · cases h
    · cases h

/-- An owned block is given up, and may change. -/
theorem Step.lose {m : Mp} {H : Heap} {w w' : World} (h : Rel m H w) {b : Nat} {x : Blk} {L : Loc} (hb : H.get b = some x) (hrw : x.rw = true) (hm : m b = some L)
    (hw : ∀ c, c ≠ L.c → w'.heap[c]? = w.heap[c]?) (hs : w'.heap.size = w.heap.size) (ho : w'.os = w.os) (ht : w'.tape = w.tape) (hp : w'.output = w.output) : Step m H w m (H.drop b) w' := by
  have st := Step.drop h b
  refine ⟨⟨fun k y hk => ?_, st.rel.apart, fun k L2 hk => ?_, st.rel.fresh⟩, st.later, ⟨ho, ht, hp, by omega, fun c hc hown => ?_⟩⟩
  · obtain ⟨L2, q1, q2⟩ := st.rel.blk k y hk
    rw [Heap.get_drop] at hk
    by_cases e : k = b
    · simp [e] at hk
    · simp only [e, if_false] at hk
      exact ⟨L2, q1, q2.mono (Mp.le_refl m) (hw _ (fun hc => e (h.apart b x hb hrw k y L L2 hk hm q1 hc)))⟩
  · have := h.bound _ _ hk; omega
  · exact hw c (fun e => hown ⟨b, x, L, hb, hrw, hm, e.symm⟩)

theorem freeze_other (w : World) (a : Addr) (n : Nat) : (∀ c, c ≠ a.block → (w.freeze a n).heap[c]? = w.heap[c]?) ∧ (w.freeze a n).heap.size = w.heap.size ∧ (w.freeze a n).os = w.os ∧ (w.freeze a n).tape = w.tape ∧ (w.freeze a n).output = w.output := by
  unfold World.freeze
  split
  · exact ⟨fun _ _ => rfl, rfl, rfl, rfl, rfl⟩
  · refine ⟨fun c hc => ?_, by simp, rfl, rfl, rfl⟩
    simp only [Array.getElem?_modify]
    rw [if_neg (fun e => hc e.symm)]

theorem unsafeStrA_sound {P : Program} {m : Mp} {H H' : Heap} {w : World} (h : Rel m H w) {ts : Array TypeId} {ty : TypeId} (hts : ts.size = 2) {p p' l l' v : Value} (hp : VR m p p') (hl : VR m l l')
    (he : unsafeStrA P ts p l H = some (v, H')) : Snd P (Builtin.unsafeString_ ts ty #[p', l']) m H w v H' := by
  have hts2 : ∃ t u, ts = #[t, u] := by
    obtain ⟨l⟩ := ts
    match l, hts with
    | [t, u], _ => exact ⟨t, u, rfl⟩
  obtain ⟨pt, it, rfl⟩ := hts2
  unfold unsafeStrA at he
  split at he
  · rename_i a _
    simp only [Option.some.injEq, Prod.mk.injEq] at he
    obtain ⟨rfl, rfl⟩ := he
    have := hl.int_inv; subst this
    cases hp with
    | atom _ ha => exact .pure h (Lib.run_unsafeString_none w pt it ty _) (.str m _)
    | ptr b off L hm => exact .pure h (Lib.run_unsafeString_none w pt it ty _) (.str m _)
  · rename_i a n pt' _ hpt
    simp only [List.getElem?_toArray, List.getElem?_cons_zero, Option.some.injEq] at hpt
    subst hpt
    split at he
    · rename_i y e hlk hu
      by_cases hc : 0 < n ∧ a.off = 0 ∧ y.rw = true ∧ n ≤ y.cells.length ∧ n ≤ 2 ^ 60 ∧ P.cellsOf e = 1 ∧ y.ty.map (·.1) = some e
      · rw [if_pos hc] at he
        obtain ⟨c1, c2, c3, c4, c5, c6, c7⟩ := hc
        split at he
        · rename_i bs hbs
          simp only [Option.some.injEq, Prod.mk.injEq] at he
          obtain ⟨rfl, rfl⟩ := he
          have hb := bytesX_spec hbs
          have := hl.int_inv; subst this
          obtain ⟨ab, aoff, asp⟩ := a
          simp only at c2; subst c2
          cases hp with
          | atom _ ha => simp [atomic] at ha
          | ptr b off L hm =>
            cases hty : y.ty with
            | none => rw [hty] at c7; cases c7
            | some tn =>
              obtain ⟨e', k⟩ := tn
              rw [hty] at c7
              simp only [Option.map_some, Option.some.injEq] at c7
              subst c7
              obtain ⟨L2, q1, q2, q4, q3⟩ := h.typed (a := ⟨ab, 0, none⟩) hm hlk hty
              obtain ⟨_, hg, ho, hLes, hfit, cs, elem, fz, g1, g2, g3, g4⟩ := h.look' hm hlk
              have hlen : bs.length = n.toNat := by
                have := congrArg List.length hb
                simp only [List.length_take, List.length_map] at this
                omega
              obtain ⟨ys, k1, k2, k3⟩ := cells_at g1 g2 hfit g3 0 n.toNat (by omega)
              have k2' : VRs m (bs.map fun b => .int .u8 b.toNat) ys := by
                rw [← hb]; simpa using k2
              have k4 := (VRs.eq_of_all (by rw [List.all_eq_true]; intro v hv; simp only [List.mem_map] at hv; obtain ⟨b, _, rfl⟩ := hv; rfl) k2')
              subst k4
              simp only [Nat.add_zero, q1] at k3
              have hrun := Lib.run_unsafeString_row w pt it ty e' hu c6 L.c L2 q3 bs (by intro e0; rw [e0] at hlen; simp at hlen; omega) (by omega) (by omega) (fun j x hj => by
                refine k3 j _ ?_
                rw [List.getElem?_map, hj]; rfl)
              have hn : ((bs.length : Nat) : Int) = n := by omega
              rw [hn] at hrun
              obtain ⟨f1, f2, f3, f4, f5⟩ := freeze_other w ⟨L.c, 0, none⟩ bs.length
              have e0 : L.base + 0 = 0 := by omega
              refine ⟨m, .string ⟨bs.toArray⟩, w.freeze ⟨L.c, 0, none⟩ bs.length, by rw [e0]; exact hrun, .str m _, Step.lose h hg c3 hm (fun c hc => f1 c hc) f2 f3 f4 f5⟩
        · cases he
      · rw [if_neg hc] at he; cases he
    · cases he
  · cases he

end Go.Am
