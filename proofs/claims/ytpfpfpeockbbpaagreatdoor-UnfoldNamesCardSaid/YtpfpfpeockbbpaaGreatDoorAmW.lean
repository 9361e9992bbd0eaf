/- The operations are sound, fourth part. -/
import Derived.Test.YtpfpfpeockbbpaaGreatDoorAmU
namespace Go.Am

theorem nilCheckA_sound {P : Program} {m : Mp} {w : World} {ρ : Operand → Value} {o : Oper} {q : Operand} (ho : o.op = .nilCheck q) {x v : Value} (hx : VR m x (ρ q)) (he : nilCheckA x = some v) :
    ∃ v', (execOp ρ o).run P w = .ok (.value v') w ∧ VR m v v' := by
  unfold nilCheckA at he
  split at he
  · simp only [Option.some.injEq] at he; subst he
    obtain ⟨L, _, _, e⟩ := hx.ptr_inv
    exact ⟨_, by simp only [execOp, ho, e]; rfl, by rw [← e]; exact hx⟩
  · simp only [Option.some.injEq] at he; subst he
    generalize hq : ρ q = z at hx
    cases hx with
    | atom _ h => simp [atomic] at h
    | func fn xs xs' ys ys' a b c d => exact ⟨_, by simp only [execOp, ho, hq]; rfl, .func _ _ xs' _ ys' a b c d⟩
  · simp only [Option.some.injEq] at he; subst he
    generalize hq : ρ q = z at hx
    refine ⟨z, ?_, hx⟩
    cases hx <;> simp only [execOp, ho, hq] <;> rfl
  · simp only [Option.some.injEq] at he; subst he
    generalize hq : ρ q = z at hx
    refine ⟨z, ?_, hx⟩
    cases hx <;> simp only [execOp, ho, hq] <;> rfl
  · simp only [Option.some.injEq] at he; subst he
    generalize hq : ρ q = z at hx
    refine ⟨z, ?_, hx⟩
    cases hx with
    | atom _ h => simp [atomic] at h
    | iface t v v' hv => simp only [execOp, ho, hq]; rfl
  · simp at he

theorem assertA_sound {P : Program} {m : Mp} {H : Heap} {w : World} (h : Rel m H w) {x x' v : Value} {t u : TypeId} {ok : Bool} (hx : VR m x x') (he : assertA P x t u ok = some v) :
    Snd P (Instr.typeAssert x' t u ok) m H w v H := by
  unfold assertA at he
  split at he
  · simp at he
  · simp at he
  · rename_i d hni hu
    split at he
    · rename_i tt vv
      cases hx with
      | atom _ h => simp [atomic] at h
      | iface _ _ v' hv =>
        by_cases e : tt = u
        · rw [if_pos e] at he
          simp only [Option.some.injEq] at he; subst he
          subst e
          refine .pure h (v' := .tuple #[v', .bool true]) ?_ ((VRs.cons hv (VRs.cons (.bool m true) (VRs.nil m))).toArray |> fun z => .tuple _ _ z.1 z.2)
          simp only [Instr.typeAssert, Sem.run_bind, run_und hu, Result.andThen_ok]
          cases d <;> simp_all
        · rw [if_neg e] at he
          split at he
          · rename_i i hi
            split at he
            · rename_i z hz
              by_cases hg : ground z = true
              · rw [if_pos hg] at he
                simp only [Option.some.injEq] at he; subst he
                refine .pure h (v' := .tuple #[z, .bool false]) ?_ ((VRs.cons (.of_ground hg) (VRs.cons (.bool m false) (VRs.nil m))).toArray |> fun z => .tuple _ _ z.1 z.2)
                simp only [Instr.typeAssert, Sem.run_bind, run_und hu, Result.andThen_ok]
                cases d <;> simp_all [run_zero hi hz]
              · rw [if_neg hg] at he; simp at he
            · simp at he
          · simp at he
    · rename_i tt vv
      cases hx with
      | atom _ h => simp [atomic] at h
      | iface _ _ v' hv =>
        by_cases e : tt = u
        · rw [if_pos e] at he
          simp only [Option.some.injEq] at he; subst he
          subst e
          refine .pure h (v' := v') ?_ hv
          simp only [Instr.typeAssert, Sem.run_bind, run_und hu, Result.andThen_ok]
          cases d <;> simp_all
        · rw [if_neg e] at he; simp at he
    · simp at he

theorem rangeA_sound {P : Program} {m : Mp} {H H' : Heap} {w : World} (h : Rel m H w) {t : TypeId} {x x' v : Value} (hx : VR m x x') (he : rangeA P t x H = some (v, H')) :
    Snd P (Instr.range t x') m H w v H' := by
  unfold rangeA at he
  split at he
  · rename_i s hu
    have := hx.str_inv; subst this
    simp only [Option.some.injEq, Prod.mk.injEq] at he
    obtain ⟨rfl, rfl⟩ := he
    refine ⟨_, .pointer (some ⟨w.heap.size, 0, none⟩), { w with heap := w.heap.push (.stringIter s 0) }, ?_, ?_, Step.allocO h (.stringIter s 0) (.stringIter s 0) (.iter s 0) rfl rfl rfl rfl⟩
    · simp [Instr.range, run_und hu]
    · exact .ptr H.next 0 ⟨w.heap.size, 0, 0, 0⟩ (by simp [Mp.add])
  · simp at he

theorem nextA_sound {P : Program} {m : Mp} {H H' : Heap} {w : World} (h : Rel m H w) {t : TypeId} {x x' v : Value} {str : Bool} (hx : VR m x x') (he : nextA x str H = some (v, H')) :
    Snd P (Instr.next x' str t) m H w v H' := by
  unfold nextA at he
  split at he
  · rename_i r
    obtain ⟨L, _, hm, rfl⟩ := hx.ptr_inv
    simp only at hm
    split at he
    · rename_i b hg
      by_cases hrw : b.rw = true
      · rw [if_pos hrw] at he
        split at he
        · rename_i s pos ho
          obtain ⟨L', hm', hl⟩ := h.blk r b hg
          rw [hm] at hm'; simp only [Option.some.injEq] at hm'; subst hm'
          obtain ⟨hb0, o', g1, g2⟩ := hl.ob _ ho
          cases g2 with
          | inr g2 => rw [hrw] at g2; cases g2.1
          | inl g2 =>
          cases g2 with
          | iter =>
            have hget : (getObj L.c).run P w = .ok (.stringIter s pos) w := by simp [getObj, Sem.run, g1]
            by_cases hp : pos < s.size
            · rw [if_pos hp] at he
              simp only [Option.some.injEq, Prod.mk.injEq] at he
              obtain ⟨rfl, rfl⟩ := he
              have hset : (setObj L.c (.stringIter s (pos + (Utf8.decode s pos).2))).run P w = .ok () { w with heap := w.heap.setIfInBounds L.c (.stringIter s (pos + (Utf8.decode s pos).2)) } := by
                simp [setObj, Sem.run, g1]
              refine ⟨m, .tuple #[.bool true, .int .i64 pos, .int .i32 (Utf8.decode s pos).1], { w with heap := w.heap.setIfInBounds L.c (.stringIter s (pos + (Utf8.decode s pos).2)) }, ?_, ?_, Step.setO h hg hrw ho hm (.stringIter s (pos + (Utf8.decode s pos).2)) (.stringIter s (pos + (Utf8.decode s pos).2)) (.iter _ _) rfl rfl rfl rfl⟩
              · simp only [Instr.next, hb0, Nat.add_zero, Sem.run_bind, hget, Result.andThen_ok, hp, if_true, hset, Sem.run_pure]
                rfl
              · exact (VRs.cons (.bool m true) (VRs.cons (.int m .i64 pos) (VRs.cons (.int m .i32 _) (VRs.nil m)))).toArray |> fun z => .tuple _ _ z.1 z.2
            · rw [if_neg hp] at he
              simp only [Option.some.injEq, Prod.mk.injEq] at he
              obtain ⟨rfl, rfl⟩ := he
              refine .pure h (v' := .tuple #[.bool false]) ?_ ((VRs.cons (.bool m false) (VRs.nil m)).toArray |> fun z => .tuple _ _ z.1 z.2)
              simp only [Instr.next, hb0, Nat.add_zero, Sem.run_bind, hget, Result.andThen_ok, hp, if_false, Sem.run_pure]
        · simp at he
      · rw [if_neg hrw] at he; simp at he
    · simp at he
  · simp at he

theorem lenA_sound {P : Program} {m : Mp} {H : Heap} {w : World} (h : Rel m H w) {t ty : TypeId} {ts : Array TypeId} (hts : ts[0]? = some t) {x x' v : Value} (hx : VR m x x') (he : lenA P t x H = some v) :
    Snd P (Builtin.len_ ts ty #[x']) m H w v H := by
  unfold lenA at he
  split at he
  · rename_i s hu
    simp only [Option.some.injEq] at he; subst he
    have := hx.str_inv; subst this
    exact .pure h (by simp [Builtin.len_, hts, run_und hu, goInt]) (.int m _ _)
  · rename_i n e hu
    simp only [Option.some.injEq] at he; subst he
    refine .pure h (v' := .int .i64 n) ?_ (.int m _ _)
    simp [Builtin.len_, hts, run_und hu, goInt]
  · rename_i arr hu
    split at he
    · rename_i n e hu2
      simp only [Option.some.injEq] at he; subst he
      refine .pure h (v' := .int .i64 n) ?_ (.int m _ _)
      simp [Builtin.len_, hts, run_und hu, run_und hu2, goInt]
    · simp at he
  · rename_i e a n c hu
    simp only [Option.some.injEq] at he; subst he
    refine .pure h (v' := .int .i64 n) ?_ (.int m _ _)
    cases hx with
    | atom _ h => simp [Builtin.len_, hts, run_und hu, goInt]
    | slice b off L a' len cap cap' h hl hc hb hs ha => simp [Builtin.len_, hts, run_und hu, goInt]
  · rename_i k e hu
    simp only [Option.some.injEq] at he; subst he
    have := hx.eq_of_atomic rfl; subst this
    exact .pure h (by simp [Builtin.len_, hts, run_und hu, goInt]) (.int m _ _)
  · rename_i k e r hu
    split at he
    · rename_i b hg
      split at he
      · rename_i es clock ho
        simp only [Option.some.injEq] at he; subst he
        cases hx with
        | atom _ h => simp [atomic] at h
        | map _ L hm =>
          obtain ⟨L', hm', hl⟩ := h.blk r b hg
          rw [hm] at hm'; simp only [Option.some.injEq] at hm'; subst hm'
          obtain ⟨_, o', g1, g2⟩ := hl.ob _ ho
          cases g2 with
          | inr g2 =>
            obtain ⟨_, es1, c1, ys, c2, e1, e2, hs, _⟩ := g2
            simp only [Obj.map.injEq] at e1
            obtain ⟨rfl, rfl⟩ := e1
            subst e2
            have hget : (getObj L.c).run P w = .ok (.map ys c2) w := by simp [getObj, Sem.run, g1]
            refine .pure h (v' := .int .i64 es.size) ?_ (.int m _ _)
            simp [Builtin.len_, hts, run_und hu, hget, goInt, hs]
          | inl g2 =>
          cases g2 with
          | map _ ys _ hs hh =>
            have hget : (getObj L.c).run P w = .ok (.map ys clock) w := by simp [getObj, Sem.run, g1]
            refine .pure h (v' := .int .i64 es.size) ?_ (.int m _ _)
            simp [Builtin.len_, hts, run_und hu, hget, goInt, hs]
      · simp at he
    · simp at he
  · simp at he

end Go.Am
