/- Soundness of the operations on maps. -/
import Derived.Test.YtpfpfpeockbbpaaGreatDoorAmZ
namespace Go.Am

theorem keyKind_atomic {d : TypeDesc} {k : Value} (h : keyKind d k = true) : atomic k = true := by
  unfold keyKind at h; split at h <;> first | rfl | cases h
theorem sameNow_atomic {d : TypeDesc} {k q : Value} {b : Bool} (h : Instr.sameNow d k q = some b) : atomic q = true := by
  unfold Instr.sameNow at h; split at h <;> first | rfl | cases h
theorem bytes_eq {a b : ByteArray} (h : (a == b) = true) : a = b := by
  cases a; cases b; congr; exact eq_of_beq h
theorem sameNow_bits {d : TypeDesc} {k q : Value} (n : Nat) (h : Instr.sameNow d k q = some true) : Instr.sameBits n q k = true := by
  unfold Instr.sameNow at h
  split at h
  · split at h
    · rename_i e; subst e; simp only [Option.some.injEq, beq_iff_eq] at h; subst h; cases n <;> simp [Instr.sameBits]
    · cases h
  · simp only [Option.some.injEq] at h; have := bytes_eq h; subst this; cases n <;> exact h
  · simp only [Option.some.injEq, beq_iff_eq] at h; subst h; cases n <;> simp [Instr.sameBits]
  · cases h

def EsR (m : Mp) (xs ys : List MapEntry) : Prop := xs.length = ys.length ∧ ∀ (i : Nat) (a : i < xs.length) (b : i < ys.length), VR m xs[i].key ys[i].key ∧ VR m xs[i].val ys[i].val ∧ xs[i].born = ys[i].born
theorem EsR.head {m : Mp} {x y : MapEntry} {xs ys : List MapEntry} (h : EsR m (x :: xs) (y :: ys)) : VR m x.key y.key ∧ VR m x.val y.val := let z := h.2 0 (by simp) (by simp); ⟨z.1, z.2.1⟩
theorem EsR.tail {m : Mp} {x y : MapEntry} {xs ys : List MapEntry} (h : EsR m (x :: xs) (y :: ys)) : EsR m xs ys :=
  ⟨by simpa using h.1, fun i a b => by have := h.2 (i + 1) (by simpa using a) (by simpa using b); simpa using this⟩

theorem findNow_rel {m : Mp} {d : TypeDesc} {k : Value} : ∀ (xs ys : List MapEntry) (_ : EsR m xs ys) (i : Nat) (r : Option (Nat × Value)), Instr.findNow d k xs i = some r →
    ∃ r', Instr.findNow d k ys i = some r' ∧ (match r with | none => r' = none | some (j, v) => ∃ v', r' = some (j, v') ∧ VR m v v')
  | [], [], _, i, r, h => by
    simp only [Instr.findNow, Option.some.injEq] at h; subst h
    exact ⟨none, rfl, rfl⟩
  | [], _ :: _, he, _, _, _ => by have := he.1; simp at this
  | _ :: _, [], he, _, _, _ => by have := he.1; simp at this
  | x :: xs, y :: ys, he, i, r, h => by
    simp only [Instr.findNow] at h ⊢
    have hh := he.head
    split at h
    · rename_i e
      have := hh.1.eq_of_atomic (sameNow_atomic e)
      rw [this, e]
      simp only [Option.some.injEq] at h; subst h
      exact ⟨_, rfl, _, rfl, hh.2⟩
    · rename_i e
      have := hh.1.eq_of_atomic (sameNow_atomic e)
      rw [this, e]
      exact findNow_rel xs ys he.tail (i + 1) r h
    · cases h
theorem findNow_at {d : TypeDesc} {k : Value} : ∀ (xs : List MapEntry) (s j : Nat) (v : Value), Instr.findNow d k xs s = some (some (j, v)) → ∃ q e, j = s + q ∧ xs[q]? = some e ∧ Instr.sameNow d k e.key = some true
  | [], s, j, v, h => by simp [Instr.findNow] at h
  | x :: xs, s, j, v, h => by
    simp only [Instr.findNow] at h
    split at h
    · rename_i e
      simp only [Option.some.injEq, Prod.mk.injEq] at h
      exact ⟨0, x, by omega, rfl, e⟩
    · obtain ⟨q, e, h1, h2, h3⟩ := findNow_at xs (s + 1) j v h
      exact ⟨q + 1, e, by omega, by simpa using h2, h3⟩
    · cases h

theorem run_checkKey {P : Program} {w : World} {kt : TypeId} {d : TypeDesc} {k : Value} (b : Bool) (n : Nat) (hu : P.underlying kt = some d) (hk : keyKind d k = true) : (Instr.checkKey b (n + 1) kt k).run P w = .ok () w := by
  unfold keyKind at hk
  simp only [Instr.checkKey, Sem.run_bind, run_und hu, Result.andThen_ok]
  split at hk
  · rfl
  · rfl
  · cases hk
theorem run_findKey {P : Program} {w : World} {kt : TypeId} {d : TypeDesc} {k : Value} {es : List MapEntry} {r : Option (Nat × Value)} (hu : P.underlying kt = some d) (h : Instr.findNow d k es 0 = some r) : (Instr.findKey kt k es).run P w = .ok r w := by
  simp only [Instr.findKey, Sem.run_bind, run_und hu, Result.andThen_ok, h, Sem.run_pure]

/-- What a map answers, here and there. -/
theorem entries_rel {P : Program} {m : Mp} {H : Heap} {w : World} (h : Rel m H w) {x x' : Value} (hx : VR m x x') {es : Array MapEntry} (he : entriesA H x = some es) :
    ∃ ys : Array MapEntry, (∀ (d : TypeDesc) (k : Value), keyKind d k = true → ∀ r, Instr.findNow d k es.toList 0 = some r →
      ∃ r', Instr.findNow d k ys.toList 0 = some r' ∧ (match r with | none => r' = none | some (_, v) => ∃ j v', r' = some (j, v') ∧ VR m v v')) ∧
      ((x' = .map none ∧ ys = #[]) ∨ ∃ r clock, x' = .map (some r) ∧ (getObj r).run P w = .ok (.map ys clock) w) := by
  have of : ∀ {es ys : Array MapEntry}, EsR m es.toList ys.toList → ∀ (d : TypeDesc) (k : Value), keyKind d k = true → ∀ r, Instr.findNow d k es.toList 0 = some r →
      ∃ r', Instr.findNow d k ys.toList 0 = some r' ∧ (match r with | none => r' = none | some (_, v) => ∃ j v', r' = some (j, v') ∧ VR m v v') := by
    intro es ys hr d k _ r hf
    obtain ⟨r', g1, g2⟩ := findNow_rel _ _ hr 0 _ hf
    refine ⟨r', g1, ?_⟩
    cases r with
    | none => exact g2
    | some r => obtain ⟨v', q1, q2⟩ := g2; exact ⟨_, v', q1, q2⟩
  unfold entriesA at he
  split at he
  · have := hx.eq_of_atomic rfl
    subst this
    simp only [Option.some.injEq] at he; subst he
    exact ⟨#[], of ⟨rfl, fun i a => absurd a (by simp)⟩, .inl ⟨rfl, rfl⟩⟩
  · rename_i b
    split at he
    · rename_i y hy
      split at he
      · rename_i es' clock ho
        simp only [Option.some.injEq] at he; subst he
        cases hx with
        | atom _ ha => simp [atomic] at ha
        | map _ L hm =>
          obtain ⟨L', q1, q2⟩ := h.blk b y hy
          rw [hm] at q1; simp only [Option.some.injEq] at q1; subst q1
          obtain ⟨_, o', g1, g2⟩ := q2.ob _ ho
          cases g2 with
          | inr g2 =>
            obtain ⟨_, es1, c1, ys, c2, e1, e2, hs, hh⟩ := g2
            simp only [Obj.map.injEq] at e1
            obtain ⟨rfl, rfl⟩ := e1
            subst e2
            have hget : (getObj L.c).run P w = .ok (.map ys c2) w := by simp [getObj, Sem.run, g1]
            exact ⟨ys, hh, .inr ⟨L.c, c2, rfl, hget⟩⟩
          | inl g2 =>
          cases g2 with
          | map _ ys _ hs hh =>
            have hget : (getObj L.c).run P w = .ok (.map ys clock) w := by simp [getObj, Sem.run, g1]
            refine ⟨ys, of ⟨by simpa using hs, fun i a b => ?_⟩, .inr ⟨L.c, clock, rfl, hget⟩⟩
            simpa using hh i (by simpa using a) (by simpa using b)
      · cases he
    · cases he
  · cases he

theorem makeMapA_sound {P : Program} {m : Mp} {H H' : Heap} {w : World} (h : Rel m H w) {t : TypeId} {x x' : Option Value} (hn : x = none → x' = none) (hx : ∀ y, x = some y → ∃ y', x' = some y' ∧ VR m y y') {v : Value} (he : makeMapA P t x H = some (v, H')) :
    Snd P (Instr.makeMap t x') m H w v H' := by
  unfold makeMapA at he
  have fin : (Instr.makeMap t x').run P w = .ok (.map (some w.heap.size)) { w with heap := w.heap.push (.map #[] 0) } → Snd P (Instr.makeMap t x') m H w (.map (some H.next)) (H.allocO (.map #[] 0)) := fun hr =>
    ⟨_, .map (some w.heap.size), { w with heap := w.heap.push (.map #[] 0) }, hr, .map H.next ⟨w.heap.size, 0, 0, 0⟩ (by simp [Mp.add]), Step.allocO h (.map #[] 0) (.map #[] 0) (.map #[] #[] 0 rfl (fun i a => absurd a (by simp))) rfl rfl rfl rfl⟩
  split at he
  · simp only [Option.some.injEq, Prod.mk.injEq] at he
    obtain ⟨rfl, rfl⟩ := he
    apply fin
    rw [hn rfl]
    simp [Instr.makeMap]
  · rename_i k n
    split at he
    · rename_i kt et hu
      simp only [Option.some.injEq, Prod.mk.injEq] at he
      obtain ⟨rfl, rfl⟩ := he
      apply fin
      obtain ⟨y', e, hv⟩ := hx _ rfl
      rw [hv.eq_of_atomic rfl] at e
      rw [e]
      simp [Instr.makeMap, run_und hu, asInt]
      rfl
    · cases he
  · cases he

theorem lookupA_sound {P : Program} {m : Mp} {H : Heap} {w : World} (h : Rel m H w) {t : TypeId} {x x' k k' v : Value} {ok : Bool} (hx : VR m x x') (hk : VR m k k') (he : lookupA P t x k ok H = some v) :
    Snd P (Instr.lookup t x' k' ok) m H w v H := by
  unfold lookupA at he
  split at he
  · rename_i kt et hu
    split at he
    · rename_i d hd
      by_cases hko : keyKind d k = true
      · rw [if_pos hko] at he
        have ek := hk.eq_of_atomic (keyKind_atomic hko)
        subst ek
        split at he
        · rename_i es hes
          obtain ⟨ys, hr, hcase⟩ := entries_rel (P := P) h hx hes
          have hck := run_checkKey (w := w) ys.isEmpty 9999 hd hko
          split at he
          · rename_i j u hf
            obtain ⟨r', g1, j', u', g2, g3⟩ := hr d k' hko _ hf
            subst g2
            have hfk := run_findKey (w := w) hd g1
            simp only [Option.some.injEq] at he; subst he
            refine .pure h (v' := if ok then .tuple #[u', .bool true] else u') ?_ ?_
            · rcases hcase with ⟨rfl, rfl⟩ | ⟨r, clock, rfl, hg⟩
              · simp only [Instr.lookup, Sem.run_bind, run_und hu, Result.andThen_ok, Sem.run_pure]
                rw [hck]
                simp only [Result.andThen_ok, Sem.run_bind, hfk, Sem.run_pure]
              · simp only [Instr.lookup, Sem.run_bind, run_und hu, Result.andThen_ok, Sem.run_pure, hg]
                rw [hck]
                simp only [Result.andThen_ok, Sem.run_bind, hfk, Sem.run_pure]
            · cases ok
              · exact g3
              · exact (VRs.cons g3 (VRs.cons (.bool m true) (VRs.nil m))).toArray |> fun z => .tuple _ _ z.1 z.2
          · rename_i hf
            obtain ⟨r', g1, g2⟩ := hr d k' hko _ hf
            simp only at g2
            subst g2
            have hfk := run_findKey (w := w) hd g1
            split at he
            · rename_i z hz
              unfold zeroA at hz
              split at hz
              · rename_i i hi
                split at hz
                · rename_i z' hz'
                  split at hz
                  · rename_i hgr
                    simp only [Option.some.injEq] at hz; subst hz
                    simp only [Option.some.injEq] at he; subst he
                    refine .pure h (v' := if ok then .tuple #[z', .bool false] else z') ?_ ?_
                    · rcases hcase with ⟨rfl, rfl⟩ | ⟨r, clock, rfl, hg⟩
                      · simp only [Instr.lookup, Sem.run_bind, run_und hu, Result.andThen_ok, Sem.run_pure]
                        rw [hck]
                        simp only [Result.andThen_ok, Sem.run_bind, hfk, run_zero hi hz', Sem.run_pure]
                      · simp only [Instr.lookup, Sem.run_bind, run_und hu, Result.andThen_ok, Sem.run_pure, hg]
                        rw [hck]
                        simp only [Result.andThen_ok, Sem.run_bind, hfk, run_zero hi hz', Sem.run_pure]
                    · cases ok
                      · exact .of_ground hgr
                      · exact (VRs.cons (.of_ground hgr) (VRs.cons (.bool m false) (VRs.nil m))).toArray |> fun z => .tuple _ _ z.1 z.2
                  · cases hz
                · cases hz
              · cases hz
            · cases he
          · cases he
        · cases he
      · rw [if_neg hko] at he; cases he
    · cases he
  · cases he

theorem mapUpdateA_sound {P : Program} {m : Mp} {H H' : Heap} {w : World} (h : Rel m H w) {t : TypeId} {x x' k k' u u' v : Value} (hx : VR m x x') (hk : VR m k k') (hv : VR m u u') (he : mapUpdateA P t x k u H = some (v, H')) :
    v = undef ∧ ∃ m' w', (Instr.mapUpdate t x' k' u').run P w = .ok () w' ∧ Step m H w m' H' w' := by
  unfold mapUpdateA at he
  split at he
  · rename_i kt et hu
    split at he
    · rename_i d hd
      by_cases hko : keyKind d k = true
      · rw [if_pos hko] at he
        have ek := hk.eq_of_atomic (keyKind_atomic hko)
        subst ek
        split at he
        · rename_i b
          split at he
          · rename_i y hy
            by_cases hrw : y.rw = true
            · rw [if_pos hrw] at he
              split at he
              · rename_i es clock ho
                cases hx with
                | atom _ ha => simp [atomic] at ha
                | map _ L hm =>
                obtain ⟨L', q1, q2⟩ := h.blk b y hy
                rw [hm] at q1; simp only [Option.some.injEq] at q1; subst q1
                obtain ⟨_, o', g1, g2⟩ := q2.ob _ ho
                cases g2 with
                | inr g2 => rw [hrw] at g2; cases g2.1
                | inl g2 =>
                cases g2 with
                | map _ ys _ hs hh =>
                have hget : (getObj L.c).run P w = .ok (.map ys clock) w := by simp [getObj, Sem.run, g1]
                have hr : EsR m es.toList ys.toList := ⟨by simpa using hs, fun i a b => by simpa using hh i (by simpa using a) (by simpa using b)⟩
                have hck := run_checkKey (w := w) false 9999 hd hko
                have hset : ∀ o2, (setObj L.c o2).run P w = .ok () { w with heap := w.heap.setIfInBounds L.c o2 } := fun o2 => by simp [setObj, Sem.run, g1]
                split at he
                · rename_i i z hf
                  simp only [Option.some.injEq, Prod.mk.injEq] at he
                  obtain ⟨rfl, rfl⟩ := he
                  obtain ⟨r', f1, z', f2, f3⟩ := findNow_rel _ _ hr 0 _ hf
                  subst f2
                  have hfk := run_findKey (w := w) hd f1
                  obtain ⟨q, e, e1, e2, e3⟩ := findNow_at _ _ _ _ f1
                  have hq : i = q := by omega
                  subst hq
                  have e2' : ys[i]? = some e := by simpa using e2
                  have hbits := sameNow_bits 10000 e3
                  refine ⟨rfl, m, { w with heap := w.heap.setIfInBounds L.c (.map (ys.modify i fun e => { e with key := k', val := u' }) clock) }, ?_, Step.setO h hy hrw ho hm _ (.map (ys.modify i fun e => { e with key := k', val := u' }) clock) (.map _ _ _ (by simp [hs]) fun j a b => ?_) rfl rfl rfl rfl⟩
                  · simp only [Instr.mapUpdate, Sem.run_bind, run_und hu, Result.andThen_ok, hget]
                    rw [hck]
                    simp only [Result.andThen_ok, Sem.run_bind, hfk, e2', Option.map_some, Option.getD_some, Instr.keyThatStays, hbits, if_true, Sem.run_pure, hset]
                  · have a' : j < es.size := by simpa using a
                    have b' : j < ys.size := by simpa using b
                    have old := hh j a' b'
                    simp only [Array.getElem_modify]
                    by_cases c : i = j
                    · simp only [c, if_true]; exact ⟨hk, hv, old.2.2⟩
                    · simp only [c, if_false]; exact old
                · rename_i hf
                  simp only [Option.some.injEq, Prod.mk.injEq] at he
                  obtain ⟨rfl, rfl⟩ := he
                  obtain ⟨r', f1, f2⟩ := findNow_rel _ _ hr 0 _ hf
                  simp only at f2
                  subst f2
                  have hfk := run_findKey (w := w) hd f1
                  refine ⟨rfl, m, { w with heap := w.heap.setIfInBounds L.c (.map (ys.push { key := k', val := u', born := clock }) (clock + 1)) }, ?_, Step.setO h hy hrw ho hm _ (.map (ys.push { key := k', val := u', born := clock }) (clock + 1)) (.map _ _ _ (by simp [hs]) fun j a b => ?_) rfl rfl rfl rfl⟩
                  · simp only [Instr.mapUpdate, Sem.run_bind, run_und hu, Result.andThen_ok, hget]
                    rw [hck]
                    simp only [Result.andThen_ok, hfk, hset]
                  · simp only [Array.size_push] at a b
                    by_cases c : j < es.size
                    · have c' : j < ys.size := by omega
                      simp only [Array.getElem_push_lt c, Array.getElem_push_lt c']
                      exact hh j c c'
                    · have c1 : j = es.size := by omega
                      have c2 : j = ys.size := by omega
                      subst c1
                      simp only [Array.getElem_push_eq]
                      simp only [c2, Array.getElem_push_eq]
                      exact ⟨hk, hv, trivial⟩
                · cases he
              · cases he
            · rw [if_neg hrw] at he; cases he
          · cases he
        · cases he
      · rw [if_neg hko] at he; cases he
    · cases he
  · cases he
end Go.Am
