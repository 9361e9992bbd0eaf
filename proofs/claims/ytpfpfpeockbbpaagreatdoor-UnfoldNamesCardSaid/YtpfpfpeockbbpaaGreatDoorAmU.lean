/- The operations are sound, third part. -/
import Derived.Test.YtpfpfpeockbbpaaGreatDoorAmT
namespace Go.Am

theorem makeSliceA_sound {P : Program} {m : Mp} {H H' : Heap} {w : World} (h : Rel m H w) {t : TypeId} {l l' c c' : Value} {v : Value} (hl : VR m l l') (hc : VR m c c')
    (he : makeSliceA P t l c H = some (v, H')) : Snd P (Instr.makeSlice t l' c') m H w v H' := by
  unfold makeSliceA at he
  split at he
  · rename_i e kl l kc c hu
    have := hl.int_inv; subst this
    have := hc.int_inv; subst this
    split at he
    · rename_i i z hi hz
      by_cases hzl : z.length = i.size
      · rw [if_pos hzl] at he
        unfold makeA at he
        by_cases hb : 0 ≤ l ∧ l ≤ c ∧ c ≤ most ∧ (i.bytes : Int) * c ≤ most
        · rw [if_pos hb] at he
          simp only [Option.some.injEq, Prod.mk.injEq] at he
          obtain ⟨rfl, rfl⟩ := he
          obtain ⟨b0, b1, b2, b3⟩ := hb
          obtain ⟨i', zv, h1, h2, rfl, h4⟩ := zeroT_spec hz
          rw [hi] at h1; simp only [Option.some.injEq] at h1; subst h1
          have hm : (most : Int) = 140737488355328 := by simp [most]
          have wl : IntKind.i64.wrap l = l := wrap_small b0 (by omega)
          have wc : IntKind.i64.wrap c = c := wrap_small (by omega) (by omega)
          have hsz : sizeT P e = some i.size := by simp [sizeT, hi]
          have tl : ¬ (decide (c < 0) || decide ((i.bytes : Int) * c > 2 ^ 48) || decide (l < 0) || decide (l > c)) = true := by
            simp only [Bool.or_eq_true, decide_eq_true_eq]
            omega
          have zs : zv.cells.size = i.size := by simpa using hzl
          have hrow : ((zeroRow zv.cells.toList (c.toNat * zv.cells.toList.length)).toArray) = (if c.toNat * i.size = 0 then #[] else (Array.range (c.toNat * i.size)).map (zv.cells[· % zv.cells.size]!)) := by
            rw [zeroRow_model, hzl]
            split
            · rename_i h0; rw [h0]; simp
            · rfl
          have hat : (zeroRow zv.cells.toList (c.toNat * zv.cells.toList.length)).all atomic = true := by
            by_cases hp : 0 < zv.cells.toList.length
            · exact zeroRow_atomic _ h4 (.inl hp)
            · refine zeroRow_atomic _ h4 (.inr ?_)
              rw [show zv.cells.toList.length = 0 by omega]; rfl
          obtain ⟨m', g1, g2, g3⟩ := mk_sound (P := P) h zv.cells.toList.length _ (zeroRow zv.cells.toList (c.toNat * zv.cells.toList.length)).toArray e (VRs.refl_of_atomic (m := m) hat)
          refine ⟨m', .slice (some ⟨w.heap.size, 0, none⟩) l.toNat c.toNat, _, ?_, .slice H.next 0 _ _ l.toNat c.toNat c.toNat g2 (by omega) (Nat.le_refl _) rfl rfl (.inr ⟨rfl, by simp [zeroRow]⟩), g3⟩
          simp only [Instr.makeSlice, Sem.run_bind, run_und hu, Result.andThen_ok, asInt, asIntOf, Sem.run_pure, run_info hi, wl, wc]
          rw [if_neg tl]
          simp only [Sem.run_bind, run_askRoom, Result.andThen_ok, run_size hsz, Sem.run_ite, Sem.run_pure, run_zero hi h2]
          by_cases h0 : c.toNat * i.size = 0
          · rw [if_pos h0] at hrow
            rw [hrow] at g1 ⊢
            have e0 : (Array.range (c.toNat * i.size)).map ((#[] : Array Value)[· % (#[] : Array Value).size]!) = #[] := by rw [h0]; simp
            simp only [h0, if_true] at e0 ⊢
            rw [e0, g1]
            rfl
          · rw [if_neg h0] at hrow
            rw [hrow] at g1 ⊢
            simp only [h0, if_false]
            rw [g1]
            rfl
        · rw [if_neg hb] at he; simp at he
      · rw [if_neg hzl] at he; simp at he
    · simp at he
  · simp at he

theorem fieldAddrA_sound {P : Program} {m : Mp} {H : Heap} {w : World} (h : Rel m H w) {s : TypeId} {x x' v : Value} {f : Nat} (hx : VR m x x') (he : fieldAddrA P s x f = some v) :
    Snd P (Instr.fieldAt s x' f) m H w v H := by
  unfold fieldAddrA at he
  split at he
  · rename_i a
    split at he
    · rename_i fields hu
      split at he
      · rename_i g hg
        split at he
        · rename_i n hn
          simp only [Option.some.injEq] at he
          subst he
          obtain ⟨L, hsp, hm, rfl⟩ := hx.ptr_inv
          obtain ⟨b, off, sp⟩ := a
          simp only at hsp; subst hsp
          refine .pure h (v' := .pointer (some ⟨L.c, L.base + (off + g.offset), none⟩)) ?_ ?_
          · simp [Instr.fieldAt, run_und hu, hg, Instr.sureAddr, fieldPlace, run_size hn, Addr.add_eq, Nat.add_assoc]
          · rw [Addr.add_eq]; exact .ptr b _ L hm
        · simp at he
      · simp at he
    · simp at he
  · simp at he

theorem VR.slice_inv {m : Mp} {a : Addr} {n c : Nat} {v' : Value} (h : VR m (.slice (some a) n c) v') :
    ∃ L a' c', a.spot = none ∧ m a.block = some L ∧ n ≤ c ∧ c ≤ c' ∧ a'.block = L.c ∧ a'.spot = none ∧ (c' = 0 ∨ (a'.off = L.base + a.off ∧ a'.off + c' * L.es ≤ L.e)) ∧ v' = .slice (some a') n c' := by
  cases h with
  | atom v h => simp [atomic] at h
  | slice b off L a' len cap cap' h hl hc hb hs ha => exact ⟨L, a', cap', rfl, h, hl, hc, hb, hs, ha, rfl⟩

theorem at_sound {m : Mp} {a : Addr} {L : Loc} {len es : Nat} {i : Int} {v : Value} (hsp : a.spot = none) (hm : m a.block = some L) (he : at_ a len es i = some v) :
    0 ≤ i ∧ i < len ∧ VR m v (.pointer (some ((⟨L.c, L.base + a.off, none⟩ : Addr).add (i.toNat * es)))) := by
  unfold at_ at he
  by_cases hb : 0 ≤ i ∧ i < len
  · rw [if_pos hb] at he
    simp only [Option.some.injEq] at he
    subst he
    obtain ⟨b, off, sp⟩ := a
    simp only at hsp; subst hsp
    refine ⟨hb.1, hb.2, ?_⟩
    rw [Addr.add_eq, Addr.add_eq, Nat.add_assoc]
    exact .ptr b _ L hm
  · rw [if_neg hb] at he; simp at he

theorem indexAddrA_sound {P : Program} {m : Mp} {H : Heap} {w : World} (h : Rel m H w) {t : TypeId} {x x' i i' v : Value} (hx : VR m x x') (hi : VR m i i') (he : indexAddrA P t x i = some v) :
    Snd P (Instr.indexAt t x' i') m H w v H := by
  unfold indexAddrA at he
  split at he
  · rename_i k i
    have := hi.int_inv; subst this
    split at he
    · rename_i n e a hu
      cases hs : sizeT P e with
      | none => simp [hs] at he
      | some s =>
        simp only [hs] at he
        obtain ⟨L, hsp, hm, rfl⟩ := hx.ptr_inv
        obtain ⟨h0, h1, hv⟩ := at_sound hsp hm he
        refine .pure h (v' := _) ?_ hv
        simp [Instr.indexAt, asIntOf, run_und hu, Instr.sureAddr, h0, h1, run_size hs]
    · rename_i e a n c hu
      cases hs : sizeT P e with
      | none => simp [hs] at he
      | some s =>
        simp only [hs] at he
        obtain ⟨L, a', c', hsp, hm, hl, hc, hb', hs', ha, rfl⟩ := hx.slice_inv
        obtain ⟨h0, h1, hv⟩ := at_sound hsp hm he
        have hoff : a'.off = L.base + a.off := by
          rcases ha with ha | ha
          · omega
          · exact ha.1
        have ha' : a' = ⟨L.c, L.base + a.off, none⟩ := by
          obtain ⟨x1, x2, x3⟩ := a'
          simp only at hb' hs' hoff
          rw [hb', hs', hoff]
        subst ha'
        refine .pure h (v' := _) ?_ hv
        simp [Instr.indexAt, asIntOf, run_und hu, h0, h1, run_size hs]
    · simp at he
  · simp at he

theorem partA_sound {P : Program} {m : Mp} {w : World} {t : TypeId} {cs cs' : Array Value} {off : Nat} {v : Value} (hcs : VRa m cs cs') (he : partA P t cs off = some v) :
    ∃ v', (part t cs' off).run P w = .ok v' w ∧ VR m v v' := by
  unfold partA at he
  split at he
  · rename_i ha
    cases hs : sizeT P t with
    | none => simp [hs] at he
    | some n =>
      simp only [hs, Option.some.injEq] at he
      subst he
      exact ⟨.agg (cs'.extract off (off + n)), by simp [part, run_agg ha, run_size hs], .agg _ _ (hcs.extract _ _).1 (hcs.extract _ _).2⟩
  · rename_i ha
    obtain ⟨hlt, rfl⟩ := Array.getElem?_eq_some_iff.1 he
    have hlt' : off < cs'.size := hcs.1 ▸ hlt
    exact ⟨cs'[off], by simp [part, run_agg ha, hlt'], hcs.2 _ hlt hlt'⟩
  · simp at he

theorem VR.agg_inv {m : Mp} {cs : Array Value} {v' : Value} (h : VR m (.agg cs) v') : ∃ cs', v' = .agg cs' ∧ VRa m cs cs' := by
  cases h with
  | atom v h => simp [atomic] at h
  | agg xs xs' hx k => exact ⟨xs', rfl, hx, k⟩
theorem VR.tuple_inv {m : Mp} {cs : Array Value} {v' : Value} (h : VR m (.tuple cs) v') : ∃ cs', v' = .tuple cs' ∧ VRa m cs cs' := by
  cases h with
  | atom v h => simp [atomic] at h
  | tuple xs xs' hx k => exact ⟨xs', rfl, hx, k⟩

theorem fieldA_sound {P : Program} {m : Mp} {H : Heap} {w : World} (h : Rel m H w) {t : TypeId} {x x' v : Value} {f : Nat} (hx : VR m x x') (he : fieldA P t x f = some v) :
    Snd P (Instr.field t x' f) m H w v H := by
  unfold fieldA at he
  split at he
  · rename_i fields cs hu
    obtain ⟨cs', rfl, hcs⟩ := hx.agg_inv
    split at he
    · rename_i g hg
      obtain ⟨v', k1, k2⟩ := partA_sound (w := w) hcs he
      exact .pure h (by simp [Instr.field, run_und hu, hg, asAgg, k1]) k2
    · simp at he
  · simp at he

theorem indexA_sound {P : Program} {m : Mp} {H : Heap} {w : World} (h : Rel m H w) {t : TypeId} {x x' i i' v : Value} (hx : VR m x x') (hi : VR m i i') (he : indexA P t x i = some v) :
    Snd P (Instr.index t x' i') m H w v H := by
  unfold indexA at he
  split at he
  · rename_i k i
    have := hi.int_inv; subst this
    split at he
    · rename_i s hu
      have := hx.str_inv; subst this
      split at he
      · rename_i b hb
        simp only [Option.some.injEq] at he
        subst he
        refine .pure h ?_ (.int m _ _)
        unfold byteAt at hb
        simp [Instr.index, asIntOf, run_und hu, hb]
      · simp at he
    · rename_i n e cs hu
      obtain ⟨cs', rfl, hcs⟩ := hx.agg_inv
      split at he
      · rename_i s hs
        by_cases hb : 0 ≤ i ∧ i < n
        · rw [if_pos hb] at he
          obtain ⟨v', k1, k2⟩ := partA_sound (w := w) hcs he
          exact .pure h (by simp [Instr.index, asIntOf, run_und hu, hb, run_size hs, k1]) k2
        · rw [if_neg hb] at he; simp at he
      · simp at he
    · simp at he
  · simp at he

theorem extractA_sound {P : Program} {m : Mp} {H : Heap} {w : World} (h : Rel m H w) {x x' v : Value} {i : Nat} (hx : VR m x x') (he : extractA x i = some v) :
    Snd P (Instr.extract x' i) m H w v H := by
  unfold extractA at he
  split at he
  · rename_i vs
    obtain ⟨cs', rfl, hcs⟩ := hx.tuple_inv
    obtain ⟨hlt, rfl⟩ := Array.getElem?_eq_some_iff.1 he
    have hlt' : i < cs'.size := hcs.1 ▸ hlt
    exact .pure h (v' := cs'[i]) (by simp [Instr.extract, hlt']) (hcs.2 _ hlt hlt')
  · simp at he

theorem VR.ground_eq {m : Mp} {v v' : Value} (h : VR m v v') (hg : ground v = true) : v' = v := by
  cases v with
  | agg cs =>
    obtain ⟨cs', rfl, hcs⟩ := h.agg_inv
    congr 1
    apply Array.ext hcs.1.symm
    intro i hi hi'
    have : atomic cs[i] = true := List.all_eq_true.1 hg _ (by simp)
    exact (hcs.2 i hi' hi).eq_of_atomic this
  | iface t x =>
    cases h with
    | atom _ ha => simp [atomic] at ha
    | iface _ _ v2 h2 => rw [h2.eq_of_atomic hg]
  | _ => exact h.eq_of_atomic hg

theorem VR.of_ground {m : Mp} {v : Value} (hg : ground v = true) : VR m v v := by
  cases v with
  | agg cs => exact .agg _ _ rfl (fun i a _ => .atom _ (List.all_eq_true.1 hg _ (by simp)))
  | iface t x => exact .iface t _ _ (.atom _ hg)
  | _ => exact .atom _ hg

theorem unA_sound {P : Program} {m : Mp} {H : Heap} {w : World} (h : Rel m H w) {op : UnOp} {x x' v : Value} (hx : VR m x x') (he : unA P op x = some v) (hv : ground v = true) :
    Snd P (Op.unary op x') m H w v H := by
  unfold unA at he
  by_cases ha : atomic x = true
  · rw [if_pos ha] at he
    rw [hx.eq_of_atomic ha]
    exact .pure h (pureRun_run he w) (.of_ground hv)
  · rw [if_neg ha] at he; simp at he


theorem eqGuard_held {P : Program} {w : World} (op : BinOp) (t : TypeId) (x y : Operand) (a b : Value)
    (h1 : ∀ cs, a ≠ .agg cs) (h2 : a ≠ .nilIface ∨ b ≠ .nilIface) : (eqGuard op t x y a b).run P w = .ok () w := by
  unfold eqGuard
  generalize (!(match op with | .eql => true | .neq => true | _ => false)) = c
  cases c
  · rw [if_neg (by simp)]
    split
    · rcases h2 with k | k <;> exact absurd rfl k
    · exact absurd rfl (h1 _)
    · rfl
  · rfl

theorem equal_of {P : Program} {w : World} {t : TypeId} {a b : Value} {r : Bool} (h : (Op.equalIn (9999 + 1) t a b).run P w = .ok r w) : (Op.equal t a b).run P w = .ok r w := h

theorem bin_eq_of {P : Program} {w : World} {op : BinOp} {t : TypeId} {x y : Operand} {a b : Value} {r : Bool} (h1 : ∀ cs, a ≠ .agg cs) (h2 : a ≠ .nilIface ∨ b ≠ .nilIface)
    (he : (Op.equal t a b).run P w = .ok r w) (_hop : op = .eql ∨ op = .neq)
    (hb : binOp op t a b = (do let z ← Op.equal t a b; pure (.bool (if op = .eql then z else !z)))) :
    (do eqGuard op t x y a b; binOp op t a b).run P w = .ok (.bool (if op = .eql then r else !r)) w := by
  rw [Sem.run_bind, eqGuard_held op t x y a b h1 h2, Result.andThen_ok, hb, Sem.run_bind, he]
  rfl

theorem nilEq_sound {P : Program} {m : Mp} {w : World} {op : BinOp} {t : TypeId} {x y : Operand} {a a' b b' : Value} {r : Bool} (ha : VR m a a') (hb : VR m b b') (he : nilEq P t a b = some r)
    (hop : op = .eql ∨ op = .neq) : (do eqGuard op t x y a' b'; binOp op t a' b').run P w = .ok (.bool (if op = .eql then r else !r)) w := by
  unfold nilEq at he
  split at he
  · rename_i e p q hu
    split at he
    · rename_i hpq
      obtain ⟨rfl, hi⟩ := hpq
      simp only [Option.some.injEq] at he; subst he
      obtain ⟨L, s1, m1, rfl⟩ := ha.ptr_inv
      obtain ⟨L2, s2, m2, rfl⟩ := hb.ptr_inv
      rw [m1] at m2; simp only [Option.some.injEq] at m2; subst m2
      obtain ⟨j, hj⟩ := Option.isSome_iff_exists.1 hi
      exact bin_eq_of (by simp) (by simp) (equal_of (by rw [Op.equalIn.eq_2, Sem.run_bind, run_und hu, Result.andThen_ok]; simp [sizeOf, typeInfo, hj, sameAddr])) hop (by rcases hop with rfl | rfl <;> rfl)
    · cases he
  · rename_i e p hu
    simp only [Option.some.injEq] at he; subst he
    obtain ⟨L, _, _, rfl⟩ := ha.ptr_inv
    have := hb.eq_of_atomic rfl; subst this
    exact bin_eq_of (by simp) (by simp) (equal_of (by rw [Op.equalIn.eq_2, Sem.run_bind, run_und hu, Result.andThen_ok]; rfl)) hop (by rcases hop with rfl | rfl <;> rfl)
  · rename_i e p hu
    simp only [Option.some.injEq] at he; subst he
    obtain ⟨L, _, _, rfl⟩ := hb.ptr_inv
    have := ha.eq_of_atomic rfl; subst this
    exact bin_eq_of (by simp) (by simp) (equal_of (by rw [Op.equalIn.eq_2, Sem.run_bind, run_und hu, Result.andThen_ok]; rfl)) hop (by rcases hop with rfl | rfl <;> rfl)
  · rename_i ms ti vi hu
    simp only [Option.some.injEq] at he; subst he
    have := hb.eq_of_atomic rfl; subst this
    cases ha with
    | atom _ h => simp [atomic] at h
    | iface _ _ v' _ =>
      exact bin_eq_of (by simp) (by simp) (equal_of (by rw [Op.equalIn.eq_2, Sem.run_bind, run_und hu, Result.andThen_ok]; rfl)) hop (by rcases hop with rfl | rfl <;> rfl)
  · rename_i ms ti vi hu
    simp only [Option.some.injEq] at he; subst he
    have := ha.eq_of_atomic rfl; subst this
    cases hb with
    | atom _ h => simp [atomic] at h
    | iface _ _ v' _ =>
      exact bin_eq_of (by simp) (by simp) (equal_of (by rw [Op.equalIn.eq_2, Sem.run_bind, run_und hu, Result.andThen_ok]; rfl)) hop (by rcases hop with rfl | rfl <;> rfl)
  · rename_i e p n c l2 c2 hu
    simp only [Option.some.injEq] at he; subst he
    obtain ⟨L, a1, c1, _, _, _, _, _, _, _, rfl⟩ := ha.slice_inv
    cases hb with
    | atom _ h =>
      exact bin_eq_of (by simp) (by simp) (equal_of (by rw [Op.equalIn.eq_2, Sem.run_bind, run_und hu, Result.andThen_ok]; rfl)) hop (by rcases hop with rfl | rfl <;> rfl)
  · rename_i e n c p l2 c2 hu
    simp only [Option.some.injEq] at he; subst he
    obtain ⟨L, a1, c1, _, _, _, _, _, _, _, rfl⟩ := hb.slice_inv
    cases ha with
    | atom _ h =>
      exact bin_eq_of (by simp) (by simp) (equal_of (by rw [Op.equalIn.eq_2, Sem.run_bind, run_und hu, Result.andThen_ok]; rfl)) hop (by rcases hop with rfl | rfl <;> rfl)
  · rename_i k e p hu
    simp only [Option.some.injEq] at he; subst he
    have := hb.eq_of_atomic rfl; subst this
    cases ha with
    | atom _ h => simp [atomic] at h
    | map b L h =>
      exact bin_eq_of (by simp) (by simp) (equal_of (by rw [Op.equalIn.eq_2, Sem.run_bind, run_und hu, Result.andThen_ok]; rfl)) hop (by rcases hop with rfl | rfl <;> rfl)
  · rename_i k e p hu
    simp only [Option.some.injEq] at he; subst he
    have := ha.eq_of_atomic rfl; subst this
    cases hb with
    | atom _ h => simp [atomic] at h
    | map b L h =>
      exact bin_eq_of (by simp) (by simp) (equal_of (by rw [Op.equalIn.eq_2, Sem.run_bind, run_und hu, Result.andThen_ok]; rfl)) hop (by rcases hop with rfl | rfl <;> rfl)
  · rename_i hu
    simp only [Option.some.injEq] at he; subst he
    have := hb.eq_of_atomic rfl; subst this
    cases ha with
    | atom _ h => simp [atomic] at h
    | func =>
      exact bin_eq_of (by simp) (by simp) (equal_of (by rw [Op.equalIn.eq_2, Sem.run_bind, run_und hu, Result.andThen_ok]; rfl)) hop (by rcases hop with rfl | rfl <;> rfl)
  · rename_i hu
    simp only [Option.some.injEq] at he; subst he
    have := ha.eq_of_atomic rfl; subst this
    cases hb with
    | atom _ h => simp [atomic] at h
    | func =>
      exact bin_eq_of (by simp) (by simp) (equal_of (by rw [Op.equalIn.eq_2, Sem.run_bind, run_und hu, Result.andThen_ok]; rfl)) hop (by rcases hop with rfl | rfl <;> rfl)
  · simp at he

theorem binA_sound {P : Program} {m : Mp} {H : Heap} {w : World} (h : Rel m H w) {op : BinOp} {t : TypeId} {x y : Operand} {a a' b b' v : Value} (ha : VR m a a') (hb : VR m b b')
    (he : binA P op t x y a b = some v) (hv : ground v = true) : Snd P (do eqGuard op t x y a' b'; binOp op t a' b') m H w v H := by
  unfold binA at he
  by_cases hg : (ground a && ground b) = true
  · rw [if_pos hg] at he
    simp only [Bool.and_eq_true] at hg
    rw [ha.ground_eq hg.1, hb.ground_eq hg.2]
    exact .pure h (pureRun_run he w) (.of_ground hv)
  · rw [if_neg hg] at he
    split at he
    · cases hn : nilEq P t a b with
      | none => simp [hn] at he
      | some r =>
        simp only [hn, Option.some.injEq] at he
        subst he
        exact .pure h (nilEq_sound ha hb hn (.inl rfl)) (.bool m _)
    · cases hn : nilEq P t a b with
      | none => simp [hn] at he
      | some r =>
        simp only [hn, Option.some.injEq] at he
        subst he
        exact .pure h (nilEq_sound ha hb hn (.inr rfl)) (.bool m _)
    · simp at he

end Go.Am
