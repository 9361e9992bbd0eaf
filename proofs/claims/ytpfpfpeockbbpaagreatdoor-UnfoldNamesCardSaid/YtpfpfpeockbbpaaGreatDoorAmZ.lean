/- The operations are sound, seventh part: append, copy. -/
import Derived.Test.YtpfpfpeockbbpaaGreatDoorAmY
namespace Go.Am

theorem oneCells {m : Mp} {vs vs' : List Value} (hv : VRs m vs vs') (h1 : vs.all Value.oneCell' = true) : ∀ v ∈ vs', v.oneCell' = true := by
  intro v hvm
  obtain ⟨i, hi, rfl⟩ := List.getElem_of_mem hvm
  have hi' : i < vs.length := by have := hv.1; omega
  have a1 := List.all_eq_true.1 h1 _ (List.getElem_mem hi')
  have a2 := hv.2 i hi' hi
  generalize vs[i] = p at a1 a2
  generalize vs'[i] = q at a2
  cases a2 <;> simp_all [Value.oneCell']

/-- What a source holds, read in any world that keeps it. -/
theorem src_sound {P : Program} {m : Mp} {H : Heap} {w : World} (h : Rel m H w) {es n : Nat} {x x' : Value} {news : List Value} (hx : VR m x x') (he : srcCells H es x = some (n, news)) :
    news.length = n * es ∧ ∃ news', VRs m news news' ∧ (Builtin.lenOf x').run P w = .ok n w ∧ ∀ (w2 : World), w2.heap = w.heap → ∀ k, k ≤ n → (Builtin.firstCells es k x').run P w2 = .ok (news'.take (k * es)).toArray w2 := by
  unfold srcCells at he
  split at he
  · simp only [Option.some.injEq, Prod.mk.injEq] at he
    obtain ⟨rfl, rfl⟩ := he
    cases hx with
    | atom _ hat =>
      simp only [atomic, Bool.and_eq_true, beq_iff_eq] at hat
      obtain ⟨rfl, rfl⟩ := hat
      refine ⟨by simp, [], VRs.nil m, by simp [Builtin.lenOf], fun w2 _ k hk => ?_⟩
      simp [Builtin.firstCells]
  · rename_i a n' c
    obtain ⟨L, a', c', hsp, hm, hnc, hc, hb', hs', ha, rfl⟩ := hx.slice_inv
    split at he
    · rename_i y hl
      by_cases hin : a.off + n' * es ≤ y.cells.length
      · rw [if_pos hin] at he
        simp only [Option.some.injEq, Prod.mk.injEq] at he
        obtain ⟨rfl, rfl⟩ := he
        obtain ⟨_, hg, ho, hes, hfit, cs, elem, fz, h1, h2, h3, h4⟩ := h.look' hm hl
        obtain ⟨ys, k1, k2, k3⟩ := cells_at h1 h2 hfit h3 a.off (n' * es) hin
        refine ⟨by simp; omega, ys, k2, by simp [Builtin.lenOf], fun w2 hw2 k hk => ?_⟩
        by_cases hn0 : k * es = 0
        · simp [Builtin.firstCells, hn0, loadCells, loadCellsFrom]
        · have hpos : c' ≠ 0 := by
            intro e0
            have : n' = 0 := by omega
            subst this
            have : k = 0 := by omega
            simp [this] at hn0
          have := slice_addr hb' hs' ha hpos
          subst this
          have hke : k * es ≤ n' * es := Nat.mul_le_mul_right _ hk
          have hcell : ∀ (b : Addr), w2.cell? b = w.cell? b := by intro b; simp [World.cell?, hw2]
          simp only [Builtin.firstCells]
          refine run_loadCells_ys (by simp; omega) (fun j v hj => ?_)
          rw [hcell]
          refine k3 j v ?_
          rw [List.getElem?_take] at hj
          split at hj
          · exact hj
          · simp at hj
      · rw [if_neg hin] at he; simp at he
    · by_cases h0 : n' = 0
      · rw [if_pos h0] at he
        simp only [Option.some.injEq, Prod.mk.injEq] at he
        obtain ⟨rfl, rfl⟩ := he
        subst h0
        refine ⟨by simp, [], VRs.nil m, by simp [Builtin.lenOf], fun w2 _ k hk => ?_⟩
        have : k = 0 := by omega
        subst this
        simp [Builtin.firstCells, loadCells, loadCellsFrom]
      · rw [if_neg h0] at he; simp at he
  · rename_i s
    by_cases he1 : es = 1
    · rw [if_pos he1] at he
      simp only [Option.some.injEq, Prod.mk.injEq] at he
      obtain ⟨rfl, rfl⟩ := he
      subst he1
      have := hx.str_inv; subst this
      refine ⟨by rw [Nat.mul_one, List.length_map, Array.length_toList]; rfl, _, VRs.refl_of_atomic (by rw [List.all_eq_true]; intro v hv; simp only [List.mem_map] at hv; obtain ⟨b, _, rfl⟩ := hv; rfl), by simp [Builtin.lenOf], fun w2 _ k hk => ?_⟩
      have hk' : k ≤ s.data.size := hk
      simp only [Builtin.firstCells, Sem.run_pure, Nat.mul_one]
      congr 1
      apply Array.ext'
      rw [Array.toList_map, ByteArray.data_extract]
      simp
    · rw [if_neg he1] at he; simp at he
  · simp at he

theorem fits_most {need bytes cap' : Nat} (h : need * bytes ≤ most) (hc : cap' < need) : ¬ (Builtin.nextslicecap need cap' * bytes > 2 ^ 48) := by
  have := growslice_fits (bytes := bytes) hc (by simp only [most] at h; omega)
  omega

theorem step_drawn_heap {m : Mp} {H : Heap} {w : World} (h : Rel m H w) : Step m H w m H { w with drawn := w.drawn + 1 } := Step.drawn h _

/-- The run of an append that grows: a new row holds the old cells and the new ones. -/
theorem run_append_new {P : Program} {w : World} {t u e : TypeId} {ty : TypeId} {i : TypeInfo} {zv : Value} (hu : P.underlying t = some (.slice e)) (hu2 : (∃ e2, P.underlying u = some (.slice e2)) ∨ P.underlying u = some .string)
    (hi : P.info? e = some i) (hz : i.zero = some zv) {base : Option Addr} {len cap n : Nat} {x' : Value} {olds news : List Value}
    (hold : ∀ (w2 : World), w2.heap = w.heap → (Builtin.firstCells i.size len (.slice base len cap)).run P w2 = .ok olds.toArray w2)
    (hlen : (Builtin.lenOf x').run P w = .ok n w) (hnew : ∀ (w2 : World), w2.heap = w.heap → (Builtin.firstCells i.size n x').run P w2 = .ok news.toArray w2)
    (hg : cap < len + n) (hm : (len + n) * i.bytes ≤ most) (hm2 : len + n ≤ most) :
    ∃ (newCap : Nat) (rest : Array Value), len + n ≤ newCap ∧ rest.size = (newCap - (len + n)) * zv.cells.size ∧
      (Builtin.append_ #[t, u] ty #[.slice base len cap, x']).run P w = .ok (.slice (some ⟨w.heap.size, 0, none⟩) (len + n) newCap)
        { w with drawn := w.drawn + 1, heap := w.heap.push (.cells ((olds ++ news).toArray ++ rest) e) } := by
  have hbig := fits_most hm hg
  let newCap := (Question.appendCap (len + n) cap e).cut (w.tape w.drawn (.appendCap (len + n) cap e))
  let rest := Builtin.zeroCells zv.cells (newCap - (len + n))
  refine ⟨newCap, rest, by simp only [newCap, Question.cut]; omega, by simp [rest, size_zeroCells], ?_⟩
  have hs : sizeT P e = some i.size := by simp [sizeT, hi]
  have hno : ¬ (len + n ≤ cap) := by omega
  have hr0 := hold w.drew rfl
  have hr1 := hnew w.drew rfl
  have h63' : ¬ (9223372036854775807 < (len : Int) + (n : Int)) := by
    have h1 : len + n ≤ 140737488355328 := by simpa [most] using hm2
    omega
  have h48' : ¬ (281474976710656 < Builtin.nextslicecap (len + n) cap * i.bytes) := by omega
  have key : ∀ (a b c : Array Value), a ++ (b ++ c) = a ++ b ++ c := fun a b c => (Array.append_assoc).symm
  have e3 : olds.toArray ++ news.toArray = (olds ++ news).toArray := by simp
  rcases hu2 with ⟨e2, h2⟩ | h2
  · simp [Builtin.append_, run_und hu, run_und h2, run_size hs, hlen, hno, run_info hi, h63', h48', Question.forced, hr0, hr1, run_zero hi hz, newRow]
    refine ⟨rfl, ?_⟩
    rw [key, e3]
    rfl
  · simp [Builtin.append_, run_und hu, run_und h2, run_size hs, hlen, hno, run_info hi, h63', h48', Question.forced, hr0, hr1, run_zero hi hz, newRow]
    refine ⟨rfl, ?_⟩
    rw [key, e3]
    rfl


theorem run_append_in {P : Program} {w w' : World} {t u e : TypeId} {ty : TypeId} {i : TypeInfo} (hu : P.underlying t = some (.slice e)) (hu2 : (∃ e2, P.underlying u = some (.slice e2)) ∨ P.underlying u = some .string)
    (hi : P.info? e = some i) {a : Addr} {len cap n : Nat} {x' : Value} {news : List Value}
    (hlen : (Builtin.lenOf x').run P w = .ok n w) (hnew : (Builtin.firstCells i.size n x').run P w = .ok news.toArray w)
    (hg : len + n ≤ cap) (hst : (storeCells (a.add (len * i.size)) news).run P w = .ok () w') :
    (Builtin.append_ #[t, u] ty #[.slice (some a) len cap, x']).run P w = .ok (.slice (some a) (len + n) cap) w' := by
  have hs : sizeT P e = some i.size := by simp [sizeT, hi]
  rcases hu2 with ⟨e2, h2⟩ | h2
  · simp [Builtin.append_, run_und hu, run_und h2, run_size hs, hlen, hg, hnew, hst]
  · simp [Builtin.append_, run_und hu, run_und h2, run_size hs, hlen, hg, hnew, hst]

theorem run_append_nil0 {P : Program} {w : World} {t u e : TypeId} {ty : TypeId} {i : TypeInfo} (hu : P.underlying t = some (.slice e)) (hu2 : (∃ e2, P.underlying u = some (.slice e2)) ∨ P.underlying u = some .string)
    (hi : P.info? e = some i) {x' : Value} {news : List Value}
    (hlen : (Builtin.lenOf x').run P w = .ok 0 w) (hnew : (Builtin.firstCells i.size 0 x').run P w = .ok news.toArray w) :
    (Builtin.append_ #[t, u] ty #[.slice none 0 0, x']).run P w = .ok (.slice none 0 0) w := by
  have hs : sizeT P e = some i.size := by simp [sizeT, hi]
  rcases hu2 with ⟨e2, h2⟩ | h2
  · simp [Builtin.append_, run_und hu, run_und h2, run_size hs, hlen, hnew]
  · simp [Builtin.append_, run_und hu, run_und h2, run_size hs, hlen, hnew]

theorem tyRow_spec {e t : TypeId} {off n : Nat} {ty : Option (TypeId × Nat)} (h : tyRow e off ty = some (t, n)) : off = 0 ∧ t = e ∧ n = 0 ∧ ∃ k, ty = some (e, k) := by
  unfold tyRow at h
  split at h
  · split at h
    · rename_i u k hh
      simp only [Option.some.injEq, Prod.mk.injEq] at h
      obtain ⟨rfl, rfl⟩ := hh
      exact ⟨rfl, h.1.symm, h.2.symm, k, rfl⟩
    · cases h
  · cases h
theorem app_sound {P : Program} {m : Mp} {H H' : Heap} {w : World} (h : Rel m H w) {t u e : TypeId} {ty : TypeId} {i : TypeInfo} {zv : Value} (hu : P.underlying t = some (.slice e))
    (hu2 : (∃ e2, P.underlying u = some (.slice e2)) ∨ P.underlying u = some .string) (hi : P.info? e = some i) (hz : i.zero = some zv) (hzs : zv.cells.size = i.size)
    {s s' x x' v : Value} {n : Nat} {news : List Value} (hs : VR m s s') (hx : VR m x x') (hsrc : srcCells H i.size x = some (n, news)) (he : app H e i.size i.bytes s n news = some (v, H')) :
    Snd P (Builtin.append_ #[t, u] ty #[s', x']) m H w v H' := by
  obtain ⟨hnl, news', hv, hlen, hread⟩ := src_sound (P := P) h hx hsrc
  have hnl' : news'.length = n * i.size := by rw [← hv.1]; exact hnl
  have hread' : ∀ (w2 : World), w2.heap = w.heap → (Builtin.firstCells i.size n x').run P w2 = .ok news'.toArray w2 := by
    intro w2 hw2
    have := hread w2 hw2 n (Nat.le_refl _)
    rwa [List.take_of_length_le (by omega)] at this
  unfold app at he
  split at he
  · rename_i l0 c0
    cases hs with
    | atom _ hat =>
      simp only [atomic, Bool.and_eq_true, beq_iff_eq] at hat
      obtain ⟨rfl, rfl⟩ := hat
      by_cases hn : n = 0
      · rw [if_pos hn] at he
        simp only [Option.some.injEq, Prod.mk.injEq] at he
        obtain ⟨rfl, rfl⟩ := he
        subst hn
        exact .pure h (run_append_nil0 hu hu2 hi hlen (hread' w rfl)) (.atom _ rfl)
      · rw [if_neg hn] at he
        by_cases hm : n * i.bytes ≤ most ∧ n ≤ most
        · rw [if_pos hm] at he
          simp only [mkRowT, Option.some.injEq, Prod.mk.injEq] at he
          obtain ⟨rfl, rfl⟩ := he
          obtain ⟨nc, rest, k1, k2, k3⟩ := run_append_new (P := P) (w := w) (ty := ty) (base := none) (len := 0) (cap := 0) (olds := []) hu hu2 hi hz
            (fun w2 _ => by simp [Builtin.firstCells]) hlen hread' (by omega) (by simpa using hm.1) (by simpa using hm.2)
          simp only [Nat.zero_add, List.nil_append] at k1 k2 k3
          have hsz : (news'.toArray ++ rest).size = nc * i.size := by
            simp only [Array.size_append, List.size_toArray, hnl', k2, hzs, ← Nat.add_mul]
            congr 1; omega
          have h1 := step_drawn_heap h
          have st := Step.allocT (w := { w with drawn := w.drawn + 1 }) (w' := { w with drawn := w.drawn + 1, heap := w.heap.push (.cells (news'.toArray ++ rest) e) }) h1.rel i.size (some (e, 0)) news (news'.toArray ++ rest) e
            (by have := hv.1; simp only [Array.size_append, List.size_toArray]; omega)
            (fun t n e1 => by simp only [Option.some.injEq, Prod.mk.injEq] at e1; exact ⟨e1.1, .inl e1.2.symm⟩)
            (fun j a b => by
              have a' : j < news'.length := by rw [← hv.1]; exact a
              have : (news'.toArray ++ rest)[j] = news'[j] := by simp [a']
              rw [this]; exact hv.2 j a a') rfl rfl rfl rfl
          exact ⟨_, _, _, k3, .slice H.next 0 ⟨w.heap.size, 0, i.size, (news'.toArray ++ rest).size⟩ _ _ _ _ (by simp [Mp.add]) (Nat.le_refl _) k1 rfl rfl (.inr ⟨rfl, by simp only [Nat.zero_add]; omega⟩), h1.trans st⟩
        · rw [if_neg hm] at he; simp at he
  · rename_i a len cap
    obtain ⟨L, a', c', hsp, hm, hnc, hc, hb', hs', ha, rfl⟩ := hs.slice_inv
    cases hl : look H a with
    | none => simp [hl] at he
    | some y =>
      simp only [hl] at he
      by_cases hok : y.rw = true ∧ y.es = i.size ∧ a.off + len * i.size ≤ y.cells.length ∧ news.all Value.oneCell' = true ∧ (len + n) * i.bytes ≤ most ∧ len + n ≤ most
      · rw [if_pos hok] at he
        obtain ⟨hrw, hes, hin, h1c, hmb, hmn⟩ := hok
        obtain ⟨_, hg, ho, hLes, hfit, cs, elem, fz, g1, g2, g3, g4⟩ := h.look' hm hl
        obtain ⟨ab, aoff, asp⟩ := a
        simp only at hsp hm hg hin; subst hsp
        by_cases hroom : len + n ≤ cap
        · rw [if_pos hroom] at he
          by_cases hcap : aoff + cap * i.size ≤ y.cells.length
          · rw [if_pos hcap] at he
            simp only [Option.some.injEq, Prod.mk.injEq] at he
            obtain ⟨rfl, rfl⟩ := he
            by_cases hc0 : c' = 0
            · -- no room at all: nothing is written
              have hl0 : len = 0 := by omega
              have hn0 : n = 0 := by omega
              subst hl0; subst hn0; subst hc0
              have hcap0 : cap = 0 := by omega
              subst hcap0
              have hnw : news = [] := List.eq_nil_of_length_eq_zero (by simpa using hnl)
              have hnw' : news' = [] := List.eq_nil_of_length_eq_zero (by simpa using hnl')
              subst hnw; subst hnw'
              have hlen0 : aoff + 0 ≤ y.cells.length := by simpa using hin
              have hst : (storeCells (a'.add (0 * i.size)) ([] : List Value)).run P w = .ok () w := by simp [storeCells]
              refine ⟨m, _, w, run_append_in (a := a') hu hu2 hi hlen (hread' w rfl) (by omega) hst, .slice ab aoff L a' 0 0 0 hm (Nat.le_refl _) (Nat.le_refl _) hb' hs' (.inl rfl), ?_⟩
              obtain ⟨w2, q1, q2⟩ := Step.overwrite h hm hl hrw (aoff + 0 * i.size) [] [] (VRs.nil m) (by simpa using hin) rfl P
              simp only [storeCells, Sem.run_pure, Result.ok.injEq, true_and] at q1
              subst q1
              exact q2
            · have hae := slice_addr hb' hs' ha hc0
              subst hae
              have hw : aoff + len * i.size + news.length ≤ y.cells.length := by
                rw [hnl, Nat.add_assoc, ← Nat.add_mul]
                exact Nat.le_trans (Nat.add_le_add_left (Nat.mul_le_mul_right _ hroom) _) hcap
              obtain ⟨w2, q1, q2⟩ := Step.overwrite h hm hl hrw (aoff + len * i.size) news news' hv hw h1c P
              rw [← Nat.add_assoc] at q1
              have hst : (storeCells ((⟨L.c, L.base + aoff, none⟩ : Addr).add (len * i.size)) news').run P w = .ok () w2 := by rw [Addr.add_eq]; exact q1
              refine ⟨m, _, w2, run_append_in hu hu2 hi hlen (hread' w rfl) (by omega) hst, .slice ab aoff L _ _ _ _ hm hroom hc rfl rfl (.inr ?_), q2⟩
              rcases ha with ha | ha
              · exact absurd ha hc0
              · exact ha
          · rw [if_neg hcap] at he; simp at he
        · rw [if_neg hroom] at he
          simp only [mkRowT, Option.some.injEq, Prod.mk.injEq] at he
          obtain ⟨rfl, rfl⟩ := he
          obtain ⟨ys, k1, k2, k3⟩ := cells_at g1 g2 hfit g3 aoff (len * i.size) hin
          have hH : (H.drop ab).next = H.next := rfl
          by_cases hfits : len + n ≤ c'
          · -- in place
            have hc0 : c' ≠ 0 := by omega
            have hae := slice_addr hb' hs' ha hc0
            subst hae
            have hca : L.base + aoff + c' * L.es ≤ L.e := by
              rcases ha with ha | ha
              · exact absurd ha hc0
              · exact ha.2
            have hLi : L.es = i.size := by rw [hLes, hes]
            have hend : L.base + (aoff + len * i.size) + 0 + news'.length ≤ cs.size := by
              rw [hnl', g2, Nat.add_zero]
              rw [hLi] at hca
              have : (len + n) * i.size ≤ c' * i.size := Nat.mul_le_mul_right _ hfits
              rw [Nat.add_mul] at this
              omega
            have hst := run_storeCells' (P := P) L.c (L.base + (aoff + len * i.size)) elem fz news' 0 cs w g1 hend (oneCells hv h1c) (g4 hrw)
            simp only [Nat.add_zero] at hst hend
            have hst2 : (storeCells ((⟨L.c, L.base + aoff, none⟩ : Addr).add (len * i.size)) news').run P w = .ok () (setRowW w L.c (overA cs (L.base + (aoff + len * i.size)) news') elem fz) := by
              rw [Addr.add_eq, Nat.add_assoc]; exact hst
            have hxl : ((y.cells.drop aoff).take (len * i.size) ++ news).length = len * i.size + n * i.size := by
              simp only [List.length_append, List.length_take, List.length_drop, hnl]; omega
            have st := Step.regrow (w' := setRowW w L.c (overA cs (L.base + (aoff + len * i.size)) news') elem fz) h hg hrw ho hm ((y.cells.drop aoff).take (len * i.size) ++ news) (L.base + aoff) cs
              (overA cs (L.base + (aoff + len * i.size)) news') elem fz (tyRow e aoff y.ty) (fun t n e1 => by
                obtain ⟨o1, rfl, rfl, k, o4⟩ := tyRow_spec e1
                obtain ⟨L2, q1, q2⟩ := h.blk _ _ hg
                rw [hm] at q1; simp only [Option.some.injEq] at q1; subst q1
                obtain ⟨b0, cs9, fz9, g9, _⟩ := q2.ty _ _ o4
                rw [g1] at g9
                simp only [Option.some.injEq, Obj.cells.injEq] at g9
                exact ⟨by omega, g9.2.1, .inl rfl⟩) g1 (overA_size hend)
              (by rw [hxl]; rw [hnl', g2] at hend; omega)
              (fun j a b => by
                have e2 := overA_get hend (L.base + aoff + j)
                rw [Array.getElem?_eq_getElem b] at e2
                rw [List.getElem_append]
                by_cases hj : j < ((y.cells.drop aoff).take (len * i.size)).length
                · rw [dif_pos hj]
                  have hj2 : j < len * i.size := by simp only [List.length_take, List.length_drop] at hj; omega
                  have hj3 : L.base + aoff + j < cs.size := by omega
                  rw [if_pos (by omega), Array.getElem?_eq_getElem hj3, Option.some.injEq] at e2
                  rw [e2]
                  have := g3 (aoff + j) (by omega) (by omega)
                  simp only [List.getElem_take, List.getElem_drop]
                  simpa [Nat.add_assoc] using this
                · rw [dif_neg hj]
                  have hl0 : ((y.cells.drop aoff).take (len * i.size)).length = len * i.size := by simp only [List.length_take, List.length_drop]; omega
                  rw [hl0] at hj
                  have hj2 : j - len * i.size < news.length := by rw [hxl] at a; rw [hnl]; omega
                  have hj3 : j - len * i.size < news'.length := by rw [← hv.1]; exact hj2
                  rw [if_neg (by omega), if_pos (by omega), show L.base + aoff + j - (L.base + (aoff + len * i.size)) = j - len * i.size by omega, List.getElem?_eq_getElem hj3, Option.some.injEq] at e2
                  rw [e2]
                  simp only [hl0]
                  exact hv.2 _ hj2 hj3) rfl rfl rfl rfl
            rw [hes] at st
            refine ⟨_, _, _, run_append_in hu hu2 hi hlen (hread' w rfl) hfits hst2, .slice H.next 0 ⟨L.c, L.base + aoff, L.es, L.e⟩ _ _ _ _ (by simp [Mp.add]) (Nat.le_refl _) hfits rfl rfl (.inr ⟨rfl, hca⟩), st⟩
          · -- a new row
            have hold : ∀ (w2 : World), w2.heap = w.heap → (Builtin.firstCells i.size len (.slice (some a') len c')).run P w2 = .ok ys.toArray w2 := by
              intro w2 hw2
              have hcell : ∀ (b : Addr), w2.cell? b = w.cell? b := by intro b; simp [World.cell?, hw2]
              by_cases hl0 : len = 0
              · subst hl0
                have : ys = [] := List.eq_nil_of_length_eq_zero (by simpa using k1)
                subst this
                simp [Builtin.firstCells, loadCells, loadCellsFrom]
              · have hae := slice_addr hb' hs' ha (by omega)
                subst hae
                simp only [Builtin.firstCells]
                exact run_loadCells_ys k1 (fun j v hj => by rw [hcell]; exact k3 j v hj)
            obtain ⟨nc, rest, q1, q2, q3⟩ := run_append_new (P := P) (w := w) (ty := ty) (base := some a') (len := len) (cap := c') (olds := ys) hu hu2 hi hz hold hlen hread' (by omega) hmb hmn
            have hsz : ((ys ++ news').toArray ++ rest).size = nc * i.size := by
              simp only [Array.size_append, List.size_toArray, List.length_append, hnl', k1, q2, hzs, ← Nat.add_mul]
              congr 1; omega
            have h1 := step_drawn_heap h
            have h2 := Step.drop h1.rel ab
            have hvv : VRs m ((y.cells.drop aoff).take (len * i.size) ++ news) (ys ++ news') := k2.append hv
            have st := Step.allocT (w := { w with drawn := w.drawn + 1 }) (w' := { w with drawn := w.drawn + 1, heap := w.heap.push (.cells ((ys ++ news').toArray ++ rest) e) }) h2.rel i.size (tyRow e aoff y.ty) ((y.cells.drop aoff).take (len * i.size) ++ news) ((ys ++ news').toArray ++ rest) e
              (by have := hvv.1; simp only [Array.size_append, List.size_toArray]; omega)
              (fun t n e1 => by obtain ⟨_, rfl, rfl, _⟩ := tyRow_spec e1; exact ⟨rfl, .inl rfl⟩)
              (fun j a b => by
                have a2 : j < (ys ++ news').length := by rw [← hvv.1]; exact a
                have : ((ys ++ news').toArray ++ rest)[j] = (ys ++ news')[j] := by
                  rw [Array.getElem_append, dif_pos (by simpa using a2)]
                  simp
                rw [this]; exact hvv.2 j a a2) rfl rfl rfl rfl
            exact ⟨_, _, _, q3, .slice H.next 0 ⟨w.heap.size, 0, i.size, ((ys ++ news').toArray ++ rest).size⟩ _ _ _ _ (by simp [Mp.add, hH]) (Nat.le_refl _) q1 rfl rfl (.inr ⟨rfl, by simp only [Nat.zero_add]; omega⟩), h1.trans (h2.trans st)⟩
      · rw [if_neg hok] at he; simp at he
  · simp at he


theorem appendA_sound {P : Program} {m : Mp} {H H' : Heap} {w : World} (h : Rel m H w) {ts : Array TypeId} {ty : TypeId} (hts : ts.size = 2) {s s' x x' v : Value} (hs : VR m s s') (hx : VR m x x')
    (he : appendA P ts s x H = some (v, H')) : Snd P (Builtin.append_ ts ty #[s', x']) m H w v H' := by
  have hts2 : ∃ t u, ts = #[t, u] := by
    obtain ⟨l⟩ := ts
    match l, hts with
    | [t, u], _ => exact ⟨t, u, rfl⟩
  obtain ⟨t, u, rfl⟩ := hts2
  unfold appendA at he
  simp only [List.getElem?_toArray, List.getElem?_cons_zero, List.getElem?_cons_succ] at he
  have core : ∀ e, P.underlying t = some (.slice e) → ((∃ e2, P.underlying u = some (.slice e2)) ∨ P.underlying u = some .string) →
      (match P.info? e, zeroT P e with
      | some i, some z => if z.length = i.size ∧ 0 < i.size then match srcCells H i.size x with
        | some (n, news) => app H e i.size i.bytes s n news
        | none => none
        else none
      | _, _ => none) = some (v, H') → Snd P (Builtin.append_ #[t, u] ty #[s', x']) m H w v H' := by
    intro e hu hu2 he
    split at he
    · rename_i i z hi hz
      by_cases hzl : z.length = i.size ∧ 0 < i.size
      · rw [if_pos hzl] at he
        obtain ⟨i', zv, h1, h2, rfl, h4⟩ := zeroT_spec hz
        rw [hi] at h1; simp only [Option.some.injEq] at h1; subst h1
        split at he
        · rename_i n news hsrc
          exact app_sound h hu hu2 hi h2 (by simpa using hzl.1) hs hx hsrc he
        · simp at he
      · rw [if_neg hzl] at he; simp at he
    · simp at he
  split at he
  · rename_i e e2 hu hu2
    exact core e hu (.inl ⟨e2, hu2⟩) he
  · rename_i e hu hu2
    exact core e hu (.inr hu2) he
  · simp at he

theorem copyA_sound {P : Program} {m : Mp} {H H' : Heap} {w : World} (h : Rel m H w) {ts : Array TypeId} {ty : TypeId} {d d' x x' v : Value} (hd : VR m d d') (hx : VR m x x')
    (he : copyA P ts d x H = some (v, H')) : Snd P (Builtin.copy_ ts ty #[d', x']) m H w v H' := by
  unfold copyA at he
  split at he
  · rename_i t ht
    split at he
    · rename_i e a dn dc hu
      split at he
      · rename_i es hs
        by_cases he0 : es = 0
        · rw [if_pos he0] at he; simp at he
        · rw [if_neg he0] at he
          split at he
          · rename_i n news hsrc
            obtain ⟨hnl, news', hv, hlen, hread⟩ := src_sound (P := P) h hx hsrc
            have hnl' : news'.length = n * es := by rw [← hv.1]; exact hnl
            have hmin : Nat.min n dn ≤ n := Nat.min_le_left _ _
            have hr := hread w rfl (Nat.min n dn) hmin
            unfold cpy at he
            by_cases hn0 : Nat.min n dn = 0
            · rw [if_pos hn0] at he
              simp only [Option.some.injEq, Prod.mk.injEq] at he
              obtain ⟨rfl, rfl⟩ := he
              refine .pure h (v' := .int .i64 0) ?_ (.int m _ _)
              rw [hn0] at hr
              cases hd with
              | atom _ hat =>
                cases a with
                | none => simp [Builtin.copy_, ht, run_und hu, hlen, run_size hs, hn0, hr, goInt]
                | some _ => simp [atomic] at hat
              | slice b off L a' len cap cap' h hl hc hb hs' ha => simp [Builtin.copy_, ht, run_und hu, hlen, run_size hs, hn0, hr, storeCells, goInt]
            · rw [if_neg hn0] at he
              split at he
              · simp at he
              · rename_i a
                obtain ⟨L, a', c', hsp, hm, hnc, hc, hb', hs', ha, rfl⟩ := hd.slice_inv
                have hdn : Nat.min n dn ≤ dn := Nat.min_le_right _ _
                have hae := slice_addr hb' hs' ha (by omega)
                subst hae
                split at he
                · rename_i u H2 hst
                  simp only [Option.some.injEq, Prod.mk.injEq] at he
                  obtain ⟨rfl, rfl⟩ := he
                  unfold st at hst
                  split at hst
                  · rename_i y hl
                    by_cases hok : y.rw = true ∧ a.off + (news.take (Nat.min n dn * es)).length ≤ y.cells.length ∧ (news.take (Nat.min n dn * es)).all Value.oneCell' = true
                    · rw [if_pos hok] at hst
                      simp only [Option.some.injEq, Prod.mk.injEq] at hst
                      obtain ⟨_, rfl⟩ := hst
                      obtain ⟨ab, aoff, asp⟩ := a
                      simp only at hsp hm; subst hsp
                      have hvt : VRs m (news.take (Nat.min n dn * es)) (news'.take (Nat.min n dn * es)) := by
                        refine ⟨by simp [hv.1], fun i a b => ?_⟩
                        simp only [List.getElem_take]
                        exact hv.2 i (by simp at a; omega) (by simp at b; omega)
                      obtain ⟨w2, q1, q2⟩ := Step.overwrite h hm hl hok.1 aoff _ _ hvt hok.2.1 hok.2.2 P
                      refine ⟨m, .int .i64 (Nat.min n dn), w2, ?_, .int m _ _, q2⟩
                      simp [Builtin.copy_, ht, run_und hu, hlen, run_size hs, hr, q1, goInt]
                    · rw [if_neg hok] at hst; simp at hst
                  · simp at hst
                · simp at he
          · simp at he
      · simp at he
    · simp at he
  · simp at he

end Go.Am
