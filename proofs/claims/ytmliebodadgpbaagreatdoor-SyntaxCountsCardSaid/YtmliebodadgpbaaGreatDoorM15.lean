/- The operations are sound, third part. -/
import Derived.Test.YtmliebodadgpbaaGreatDoorM14
import Derived.Laws.BytesString
import Derived.Scope
namespace Go.Aw
variable {P : Program} {m : Mp} {H : Heap} {w : World} {v' v a b : Value} {t : TypeId} {cs : Array Value} {r : Bool}
theorem makeSliceA_sound {H' : Heap} (h : Rel m H w) {t : TypeId} {l l' c c' : Value} {v : Value} (hl : VR m l l') (hc : VR m c c')
   (he : makeSliceA P t l c H = some (v, H')) : Snd P (Instr.makeSlice t l' c') m H w v H' := by
 unfold makeSliceA at he
 split at he
 · rename_i e kl l kc c hu
   have := hl.int_inv; subst this
   have := hc.int_inv; subst this
   split at he
   · rename_i i z hi hz
     by_cases hzl : z.length = i.size
     · rw [if_pos hzl] at he
       unfold makeA at he
       by_cases hb : 0 ≤ l ∧ l ≤ c ∧ c ≤ most ∧ (i.bytes : Int) * c ≤ most
       · rw [if_pos hb] at he
         simp only [Option.some.injEq, Prod.mk.injEq] at he
         obtain ⟨rfl, rfl⟩ := he
         obtain ⟨b0, b1, b2, b3⟩ := hb
         obtain ⟨i', zv, h1, h2, rfl, h4⟩ := zeroT_spec hz
         rw [hi] at h1; simp only [Option.some.injEq] at h1; subst h1
         have hm : (most : Int) = 1099511627776 := by simp [most]
         have wl : IntKind.i64.wrap l = l := wrap_small b0 (by omega)
         have wc : IntKind.i64.wrap c = c := wrap_small (by omega) (by omega)
         have hsz : sizeT P e = some i.size := by simp [sizeT, hi]
         have tl : ¬ (decide (c < 0) || decide ((i.bytes : Int) * c > 2 ^ 48) || decide (l < 0) || decide (l > c)) = true := by
           simp only [Bool.or_eq_true, decide_eq_true_eq]
           omega
         have zs : zv.cells.size = i.size := by simpa using hzl
         have hrow : ((zeroRow zv.cells.toList (c.toNat * zv.cells.toList.length)).toArray) = (if c.toNat * i.size = 0 then #[] else (Array.range (c.toNat * i.size)).map (zv.cells[· % zv.cells.size]!)) := by
           rw [zeroRow_model, hzl]
           split
           · rename_i h0; rw [h0]; simp
           · rfl
         have hat : (zeroRow zv.cells.toList (c.toNat * zv.cells.toList.length)).all atomic = true := by
           by_cases hp : 0 < zv.cells.toList.length
           · exact zeroRow_atomic _ h4 (.inl hp)
           · refine zeroRow_atomic _ h4 (.inr ?_)
             rw [show zv.cells.toList.length = 0 by omega]; rfl
         obtain ⟨m', g1, g2, g3⟩ := mk_sound (P := P) h zv.cells.toList.length _ (zeroRow zv.cells.toList (c.toNat * zv.cells.toList.length)).toArray e (VRs.refl_of_atomic (m := m) hat)
         refine ⟨m', .slice (some ⟨w.heap.size, 0, none⟩) l.toNat c.toNat, _, ?_, .slice H.next 0 _ _ l.toNat c.toNat c.toNat g2 (by omega) (Nat.le_refl _) rfl rfl (.inr ⟨rfl, by simp [zeroRow]⟩), g3⟩
         simp only [Instr.makeSlice, Sem.run_bind, run_und hu, Result.andThen_ok, asInt, asIntOf, Sem.run_pure, run_info hi, wl, wc]
         rw [if_neg tl]
         simp only [Sem.run_bind, run_askRoom, Result.andThen_ok, run_size hsz, Sem.run_ite, Sem.run_pure, run_zero hi h2]
         by_cases h0 : c.toNat * i.size = 0
         · rw [if_pos h0] at hrow
           rw [hrow] at g1 ⊢
           have e0 : (Array.range (c.toNat * i.size)).map ((#[] : Array Value)[· % (#[] : Array Value).size]!) = #[] := by rw [h0]; simp
           simp only [h0, if_true] at e0 ⊢
           rw [e0, g1]
           rfl
         · rw [if_neg h0] at hrow
           rw [hrow] at g1 ⊢
           simp only [h0, if_false]
           rw [g1]
           rfl
       · rw [if_neg hb] at he; simp at he
     · rw [if_neg hzl] at he; simp at he
   · simp at he
 · simp at he
theorem fieldAddrA_sound (h : Rel m H w) {s : TypeId} {x x' v : Value} {f : Nat} (hx : VR m x x') (he : fieldAddrA P s x f = some v) :
   Snd P (Instr.fieldAt s x' f) m H w v H := by
 unfold fieldAddrA at he
 split at he
 · rename_i a
   split at he
   · rename_i fields hu
     split at he
     · rename_i g hg
       split at he
       · rename_i n hn
         simp only [Option.some.injEq] at he
         subst he
         obtain ⟨L, hsp, hm, rfl⟩ := hx.ptr_inv
         obtain ⟨b, off, sp⟩ := a
         simp only at hsp; subst hsp
         refine .pure h (v' := .pointer (some ⟨L.c, L.base + (off + g.offset), none⟩)) ?_ ?_
         · simp [Instr.fieldAt, run_und hu, hg, Instr.sureAddr, fieldPlace, run_size hn, Addr.add_eq, Nat.add_assoc]
         · rw [Addr.add_eq]; exact .ptr b _ L hm
       · simp at he
     · simp at he
   · simp at he
 · simp at he
theorem VR.slice_inv {a : Addr} {n c : Nat} (h : VR m (.slice (some a) n c) v') :
   ∃ L a' c', a.spot = none ∧ m a.block = some L ∧ n ≤ c ∧ c ≤ c' ∧ a'.block = L.c ∧ a'.spot = none ∧ (c' = 0 ∨ (a'.off = L.base + a.off ∧ a'.off + c' * L.es ≤ L.e)) ∧ v' = .slice (some a') n c' := by
 cases h with
 | atom v h => simp [atomic] at h
 | slice b off L a' len cap cap' h hl hc hb hs ha => exact ⟨L, a', cap', rfl, h, hl, hc, hb, hs, ha, rfl⟩
theorem at_sound {a : Addr} {L : Loc} {len es : Nat} {i : Int} (hsp : a.spot = none) (hm : m a.block = some L) (he : at_ a len es i = some v) :
   0 ≤ i ∧ i < len ∧ VR m v (.pointer (some ((⟨L.c, L.base + a.off, none⟩ : Addr).add (i.toNat * es)))) := by
 unfold at_ at he
 by_cases hb : 0 ≤ i ∧ i < len
 · rw [if_pos hb] at he
   simp only [Option.some.injEq] at he
   subst he
   obtain ⟨b, off, sp⟩ := a
   simp only at hsp; subst hsp
   refine ⟨hb.1, hb.2, ?_⟩
   rw [Addr.add_eq, Addr.add_eq, Nat.add_assoc]
   exact .ptr b _ L hm
 · rw [if_neg hb] at he; simp at he
theorem indexAddrA_sound (h : Rel m H w) {t : TypeId} {x x' i i' v : Value} (hx : VR m x x') (hi : VR m i i') (he : indexAddrA P t x i = some v) :
   Snd P (Instr.indexAt t x' i') m H w v H := by
 unfold indexAddrA at he
 split at he
 · rename_i k i
   have := hi.int_inv; subst this
   split at he
   · rename_i n e a hu
     cases hs : sizeT P e with
     | none => simp [hs] at he
     | some s =>
       simp only [hs] at he
       obtain ⟨L, hsp, hm, rfl⟩ := hx.ptr_inv
       obtain ⟨h0, h1, hv⟩ := at_sound hsp hm he
       refine .pure h (v' := _) ?_ hv
       simp [Instr.indexAt, asIntOf, run_und hu, Instr.sureAddr, h0, h1, run_size hs]
   · rename_i e a n c hu
     cases hs : sizeT P e with
     | none => simp [hs] at he
     | some s =>
       simp only [hs] at he
       obtain ⟨L, a', c', hsp, hm, hl, hc, hb', hs', ha, rfl⟩ := hx.slice_inv
       obtain ⟨h0, h1, hv⟩ := at_sound hsp hm he
       have hoff : a'.off = L.base + a.off := by
         rcases ha with ha | ha
         · omega
         · exact ha.1
       have ha' : a' = ⟨L.c, L.base + a.off, none⟩ := by
         obtain ⟨x1, x2, x3⟩ := a'
         simp only at hb' hs' hoff
         rw [hb', hs', hoff]
       subst ha'
       refine .pure h (v' := _) ?_ hv
       simp [Instr.indexAt, asIntOf, run_und hu, h0, h1, run_size hs]
   · simp at he
 · simp at he
theorem partA_sound {cs' : Array Value} {off : Nat} (hcs : VRa m cs cs') (he : partA P t cs off = some v) :
   ∃ v', (part t cs' off).run P w = .ok v' w ∧ VR m v v' := by
 unfold partA at he
 split at he
 · rename_i ha
   cases hs : sizeT P t with
   | none => simp [hs] at he
   | some n =>
     simp only [hs, Option.some.injEq] at he
     subst he
     exact ⟨.agg (cs'.extract off (off + n)), by simp [part, run_agg ha, run_size hs], .agg _ _ (hcs.extract _ _).1 (hcs.extract _ _).2⟩
 · rename_i ha
   obtain ⟨hlt, rfl⟩ := Array.getElem?_eq_some_iff.1 he
   have hlt' : off < cs'.size := hcs.1 ▸ hlt
   exact ⟨cs'[off], by simp [part, run_agg ha, hlt'], hcs.2 _ hlt hlt'⟩
 · simp at he
theorem VR.agg_inv (h : VR m (.agg cs) v') : ∃ cs', v' = .agg cs' ∧ VRa m cs cs' := by
 cases h with
 | atom v h => simp [atomic] at h
 | agg xs xs' hx k => exact ⟨xs', rfl, hx, k⟩
theorem VR.tuple_inv (h : VR m (.tuple cs) v') : ∃ cs', v' = .tuple cs' ∧ VRa m cs cs' := by
 cases h with
 | atom v h => simp [atomic] at h
 | tuple xs xs' hx k => exact ⟨xs', rfl, hx, k⟩
theorem fieldA_sound (h : Rel m H w) {t : TypeId} {x x' v : Value} {f : Nat} (hx : VR m x x') (he : fieldA P t x f = some v) :
   Snd P (Instr.field t x' f) m H w v H := by
 unfold fieldA at he
 split at he
 · rename_i fields cs hu
   obtain ⟨cs', rfl, hcs⟩ := hx.agg_inv
   split at he
   · rename_i g hg
     obtain ⟨v', k1, k2⟩ := partA_sound (w := w) hcs he
     exact .pure h (by simp [Instr.field, run_und hu, hg, asAgg, k1]) k2
   · simp at he
 · simp at he
theorem indexA_sound (h : Rel m H w) {t : TypeId} {x x' i i' v : Value} (hx : VR m x x') (hi : VR m i i') (he : indexA P t x i = some v) :
   Snd P (Instr.index t x' i') m H w v H := by
 unfold indexA at he
 split at he
 · rename_i k i
   have := hi.int_inv; subst this
   split at he
   · rename_i s hu
     have := hx.str_inv; subst this
     split at he
     · rename_i b hb
       simp only [Option.some.injEq] at he
       subst he
       refine .pure h ?_ (.int m _ _)
       unfold byteAt at hb
       simp [Instr.index, asIntOf, run_und hu, hb]
     · simp at he
   · rename_i n e cs hu
     obtain ⟨cs', rfl, hcs⟩ := hx.agg_inv
     split at he
     · rename_i s hs
       by_cases hb : 0 ≤ i ∧ i < n
       · rw [if_pos hb] at he
         obtain ⟨v', k1, k2⟩ := partA_sound (w := w) hcs he
         exact .pure h (by simp [Instr.index, asIntOf, run_und hu, hb, run_size hs, k1]) k2
       · rw [if_neg hb] at he; simp at he
     · simp at he
   · simp at he
 · simp at he
theorem extractA_sound (h : Rel m H w) {x x' v : Value} {i : Nat} (hx : VR m x x') (he : extractA x i = some v) :
   Snd P (Instr.extract x' i) m H w v H := by
 unfold extractA at he
 split at he
 · rename_i vs
   obtain ⟨cs', rfl, hcs⟩ := hx.tuple_inv
   obtain ⟨hlt, rfl⟩ := Array.getElem?_eq_some_iff.1 he
   have hlt' : i < cs'.size := hcs.1 ▸ hlt
   exact .pure h (v' := cs'[i]) (by simp [Instr.extract, hlt']) (hcs.2 _ hlt hlt')
 · simp at he
theorem VR.ground_eq (h : VR m v v') (hg : ground v = true) : v' = v := by
 cases v with
 | agg cs =>
   obtain ⟨cs', rfl, hcs⟩ := h.agg_inv
   congr 1
   apply Array.ext hcs.1.symm
   intro i hi hi'
   have : atomic cs[i] = true := List.all_eq_true.1 hg _ (by simp)
   exact (hcs.2 i hi' hi).eq_of_atomic this
 | iface t x =>
   cases h with
   | atom _ ha => simp [atomic] at ha
   | iface _ _ v2 h2 => rw [h2.eq_of_atomic hg]
 | _ => exact h.eq_of_atomic hg
theorem VR.of_ground (hg : ground v = true) : VR m v v := by
 cases v with
 | agg cs => exact .agg _ _ rfl (fun i a _ => .atom _ (List.all_eq_true.1 hg _ (by simp)))
 | iface t x => exact .iface t _ _ (.atom _ hg)
 | _ => exact .atom _ hg
theorem unA_sound (h : Rel m H w) {op : UnOp} {x x' v : Value} (hx : VR m x x') (he : unA P op x = some v) (hv : ground v = true) :
   Snd P (Op.unary op x') m H w v H := by
 unfold unA at he
 by_cases ha : atomic x = true
 · rw [if_pos ha] at he
   rw [hx.eq_of_atomic ha]
   exact .pure h (pureRun_run he w) (.of_ground hv)
 · rw [if_neg ha] at he; simp at he
theorem eqGuard_held (op : BinOp) (t : TypeId) (x y : Operand) (a b : Value)
   (h1 : ∀ cs, a ≠ .agg cs) (h2 : a ≠ .nilIface ∨ b ≠ .nilIface) : (eqGuard op t x y a b).run P w = .ok () w := by
 unfold eqGuard
 generalize (!(match op with | .eql => true | .neq => true | _ => false)) = c
 cases c
 · rw [if_neg (by simp)]
   split
   · rcases h2 with k | k <;> exact absurd rfl k
   · exact absurd rfl (h1 _)
   · rfl
 · rfl
theorem equal_of (h : (Op.equalIn (9999 + 1) t a b).run P w = .ok r w) : (Op.equal t a b).run P w = .ok r w := h
theorem bin_eq_of {op : BinOp} {x y : Operand} (h1 : ∀ cs, a ≠ .agg cs) (h2 : a ≠ .nilIface ∨ b ≠ .nilIface)
   (he : (Op.equal t a b).run P w = .ok r w) (_hop : op = .eql ∨ op = .neq)
   (hb : binOp op t a b = (do let z ← Op.equal t a b; pure (.bool (if op = .eql then z else !z)))) :
   (do eqGuard op t x y a b; binOp op t a b).run P w = .ok (.bool (if op = .eql then r else !r)) w := by
 rw [Sem.run_bind, eqGuard_held op t x y a b h1 h2, Result.andThen_ok, hb, Sem.run_bind, he]
 rfl
theorem nilEq_sound {op : BinOp} {x y : Operand} {a' b' : Value} (ha : VR m a a') (hb : VR m b b') (he : nilEq P t a b = some r)
   (hop : op = .eql ∨ op = .neq) : (do eqGuard op t x y a' b'; binOp op t a' b').run P w = .ok (.bool (if op = .eql then r else !r)) w := by
 unfold nilEq at he
 split at he
 · rename_i e p hu
   simp only [Option.some.injEq] at he; subst he
   obtain ⟨L, _, _, rfl⟩ := ha.ptr_inv
   have := hb.eq_of_atomic rfl; subst this
   exact bin_eq_of (by simp) (by simp) (equal_of (by rw [Op.equalIn.eq_2, Sem.run_bind, run_und hu, Result.andThen_ok]; rfl)) hop (by rcases hop with rfl | rfl <;> rfl)
 · rename_i e p hu
   simp only [Option.some.injEq] at he; subst he
   obtain ⟨L, _, _, rfl⟩ := hb.ptr_inv
   have := ha.eq_of_atomic rfl; subst this
   exact bin_eq_of (by simp) (by simp) (equal_of (by rw [Op.equalIn.eq_2, Sem.run_bind, run_und hu, Result.andThen_ok]; rfl)) hop (by rcases hop with rfl | rfl <;> rfl)
 · rename_i ms ti vi hu
   simp only [Option.some.injEq] at he; subst he
   have := hb.eq_of_atomic rfl; subst this
   cases ha with
   | atom _ h => simp [atomic] at h
   | iface _ _ v' _ =>
     exact bin_eq_of (by simp) (by simp) (equal_of (by rw [Op.equalIn.eq_2, Sem.run_bind, run_und hu, Result.andThen_ok]; rfl)) hop (by rcases hop with rfl | rfl <;> rfl)
 · rename_i ms ti vi hu
   simp only [Option.some.injEq] at he; subst he
   have := ha.eq_of_atomic rfl; subst this
   cases hb with
   | atom _ h => simp [atomic] at h
   | iface _ _ v' _ =>
     exact bin_eq_of (by simp) (by simp) (equal_of (by rw [Op.equalIn.eq_2, Sem.run_bind, run_und hu, Result.andThen_ok]; rfl)) hop (by rcases hop with rfl | rfl <;> rfl)
 · rename_i e p n c l2 c2 hu
   simp only [Option.some.injEq] at he; subst he
   obtain ⟨L, a1, c1, _, _, _, _, _, _, _, rfl⟩ := ha.slice_inv
   cases hb with
   | atom _ h =>
     exact bin_eq_of (by simp) (by simp) (equal_of (by rw [Op.equalIn.eq_2, Sem.run_bind, run_und hu, Result.andThen_ok]; rfl)) hop (by rcases hop with rfl | rfl <;> rfl)
 · rename_i e n c p l2 c2 hu
   simp only [Option.some.injEq] at he; subst he
   obtain ⟨L, a1, c1, _, _, _, _, _, _, _, rfl⟩ := hb.slice_inv
   cases ha with
   | atom _ h =>
     exact bin_eq_of (by simp) (by simp) (equal_of (by rw [Op.equalIn.eq_2, Sem.run_bind, run_und hu, Result.andThen_ok]; rfl)) hop (by rcases hop with rfl | rfl <;> rfl)
 · rename_i k e p hu
   simp only [Option.some.injEq] at he; subst he
   have := hb.eq_of_atomic rfl; subst this
   cases ha with
   | atom _ h => simp [atomic] at h
   | map b L h =>
     exact bin_eq_of (by simp) (by simp) (equal_of (by rw [Op.equalIn.eq_2, Sem.run_bind, run_und hu, Result.andThen_ok]; rfl)) hop (by rcases hop with rfl | rfl <;> rfl)
 · rename_i k e p hu
   simp only [Option.some.injEq] at he; subst he
   have := ha.eq_of_atomic rfl; subst this
   cases hb with
   | atom _ h => simp [atomic] at h
   | map b L h =>
     exact bin_eq_of (by simp) (by simp) (equal_of (by rw [Op.equalIn.eq_2, Sem.run_bind, run_und hu, Result.andThen_ok]; rfl)) hop (by rcases hop with rfl | rfl <;> rfl)
 · rename_i hu
   simp only [Option.some.injEq] at he; subst he
   have := hb.eq_of_atomic rfl; subst this
   cases ha with
   | atom _ h => simp [atomic] at h
   | func =>
     exact bin_eq_of (by simp) (by simp) (equal_of (by rw [Op.equalIn.eq_2, Sem.run_bind, run_und hu, Result.andThen_ok]; rfl)) hop (by rcases hop with rfl | rfl <;> rfl)
 · rename_i hu
   simp only [Option.some.injEq] at he; subst he
   have := ha.eq_of_atomic rfl; subst this
   cases hb with
   | atom _ h => simp [atomic] at h
   | func =>
     exact bin_eq_of (by simp) (by simp) (equal_of (by rw [Op.equalIn.eq_2, Sem.run_bind, run_und hu, Result.andThen_ok]; rfl)) hop (by rcases hop with rfl | rfl <;> rfl)
 · simp at he
theorem binA_sound (h : Rel m H w) {op : BinOp} {t : TypeId} {x y : Operand} {a a' b b' v : Value} (ha : VR m a a') (hb : VR m b b')
   (he : binA P op t x y a b = some v) (hv : ground v = true) : Snd P (do eqGuard op t x y a' b'; binOp op t a' b') m H w v H := by
 unfold binA at he
 by_cases hg : (ground a && ground b) = true
 · rw [if_pos hg] at he
   simp only [Bool.and_eq_true] at hg
   rw [ha.ground_eq hg.1, hb.ground_eq hg.2]
   exact .pure h (pureRun_run he w) (.of_ground hv)
 · rw [if_neg hg] at he
   split at he
   · cases hn : nilEq P t a b with
     | none => simp [hn] at he
     | some r =>
       simp only [hn, Option.some.injEq] at he
       subst he
       exact .pure h (nilEq_sound ha hb hn (.inl rfl)) (.bool m _)
   · cases hn : nilEq P t a b with
     | none => simp [hn] at he
     | some r =>
       simp only [hn, Option.some.injEq] at he
       subst he
       exact .pure h (nilEq_sound ha hb hn (.inr rfl)) (.bool m _)
   · simp at he
end Go.Aw
namespace Go.Aw
variable {P : Program} {m : Mp} {w : World} {H : Heap}
theorem nilCheckA_sound {ρ : Operand → Value} {o : Oper} {q : Operand} (ho : o.op = .nilCheck q) {x v : Value} (hx : VR m x (ρ q)) (he : nilCheckA x = some v) :
   ∃ v', (execOp ρ o).run P w = .ok (.value v') w ∧ VR m v v' := by
 unfold nilCheckA at he
 split at he
 · simp only [Option.some.injEq] at he; subst he
   obtain ⟨L, _, _, e⟩ := hx.ptr_inv
   exact ⟨_, by simp only [execOp, ho, e]; rfl, by rw [← e]; exact hx⟩
 · simp only [Option.some.injEq] at he; subst he
   generalize hq : ρ q = z at hx
   cases hx with
   | atom _ h => simp [atomic] at h
   | func fn xs xs' ys ys' a b c d => exact ⟨_, by simp only [execOp, ho, hq]; rfl, .func _ _ xs' _ ys' a b c d⟩
 · simp only [Option.some.injEq] at he; subst he
   generalize hq : ρ q = z at hx
   refine ⟨z, ?_, hx⟩
   cases hx <;> simp only [execOp, ho, hq] <;> rfl
 · simp only [Option.some.injEq] at he; subst he
   generalize hq : ρ q = z at hx
   refine ⟨z, ?_, hx⟩
   cases hx <;> simp only [execOp, ho, hq] <;> rfl
 · simp only [Option.some.injEq] at he; subst he
   generalize hq : ρ q = z at hx
   refine ⟨z, ?_, hx⟩
   cases hx with
   | atom _ h => simp [atomic] at h
   | iface t v v' hv => simp only [execOp, ho, hq]; rfl
 · simp at he
theorem assertA_sound (h : Rel m H w) {x x' v : Value} {t u : TypeId} {ok : Bool} (hx : VR m x x') (he : assertA P x t u ok = some v) :
   Snd P (Instr.typeAssert x' t u ok) m H w v H := by
 unfold assertA at he
 split at he
 · simp at he
 · simp at he
 · rename_i d hni hu
   split at he
   · rename_i tt vv
     cases hx with
     | atom _ h => simp [atomic] at h
     | iface _ _ v' hv =>
       by_cases e : tt = u
       · rw [if_pos e] at he
         simp only [Option.some.injEq] at he; subst he
         subst e
         refine .pure h (v' := .tuple #[v', .bool true]) ?_ ((VRs.cons hv (VRs.cons (.bool m true) (VRs.nil m))).toArray |> fun z => .tuple _ _ z.1 z.2)
         simp only [Instr.typeAssert, Sem.run_bind, run_und hu, Result.andThen_ok]
         cases d <;> simp_all
       · rw [if_neg e] at he
         split at he
         · rename_i i hi
           split at he
           · rename_i z hz
             by_cases hg : ground z = true
             · rw [if_pos hg] at he
               simp only [Option.some.injEq] at he; subst he
               refine .pure h (v' := .tuple #[z, .bool false]) ?_ ((VRs.cons (.of_ground hg) (VRs.cons (.bool m false) (VRs.nil m))).toArray |> fun z => .tuple _ _ z.1 z.2)
               simp only [Instr.typeAssert, Sem.run_bind, run_und hu, Result.andThen_ok]
               cases d <;> simp_all [run_zero hi hz]
             · rw [if_neg hg] at he; simp at he
           · simp at he
         · simp at he
   · rename_i tt vv
     cases hx with
     | atom _ h => simp [atomic] at h
     | iface _ _ v' hv =>
       by_cases e : tt = u
       · rw [if_pos e] at he
         simp only [Option.some.injEq] at he; subst he
         subst e
         refine .pure h (v' := v') ?_ hv
         simp only [Instr.typeAssert, Sem.run_bind, run_und hu, Result.andThen_ok]
         cases d <;> simp_all
       · rw [if_neg e] at he; simp at he
   · simp at he
theorem rangeA_sound {H' : Heap} (h : Rel m H w) {t : TypeId} {x x' v : Value} (hx : VR m x x') (he : rangeA P t x H = some (v, H')) :
   Snd P (Instr.range t x') m H w v H' := by
 unfold rangeA at he
 split at he
 · rename_i s hu
   have := hx.str_inv; subst this
   simp only [Option.some.injEq, Prod.mk.injEq] at he
   obtain ⟨rfl, rfl⟩ := he
   refine ⟨_, .pointer (some ⟨w.heap.size, 0, none⟩), { w with heap := w.heap.push (.stringIter s 0) }, ?_, ?_, Step.allocO h (.stringIter s 0) (.stringIter s 0) (.iter s 0) rfl rfl rfl rfl⟩
   · simp [Instr.range, run_und hu]
   · exact .ptr H.next 0 ⟨w.heap.size, 0, 0, 0⟩ (by simp [Mp.add])
 · simp at he
theorem nextA_sound {H' : Heap} (h : Rel m H w) {t : TypeId} {x x' v : Value} {str : Bool} (hx : VR m x x') (he : nextA x str H = some (v, H')) :
   Snd P (Instr.next x' str t) m H w v H' := by
 unfold nextA at he
 split at he
 · rename_i r
   obtain ⟨L, _, hm, rfl⟩ := hx.ptr_inv
   simp only at hm
   split at he
   · rename_i b hg
     by_cases hrw : b.rw = true
     · rw [if_pos hrw] at he
       split at he
       · rename_i s pos ho
         obtain ⟨L', hm', hl⟩ := h.blk r b hg
         rw [hm] at hm'; simp only [Option.some.injEq] at hm'; subst hm'
         obtain ⟨hb0, o', g1, g2⟩ := hl.ob _ ho
         cases g2 with
         | iter =>
           have hget : (getObj L.c).run P w = .ok (.stringIter s pos) w := by simp [getObj, Sem.run, g1]
           by_cases hp : pos < s.size
           · rw [if_pos hp] at he
             simp only [Option.some.injEq, Prod.mk.injEq] at he
             obtain ⟨rfl, rfl⟩ := he
             have hset : (setObj L.c (.stringIter s (pos + (Utf8.decode s pos).2))).run P w = .ok () { w with heap := w.heap.setIfInBounds L.c (.stringIter s (pos + (Utf8.decode s pos).2)) } := by
               simp [setObj, Sem.run, g1]
             refine ⟨m, .tuple #[.bool true, .int .i64 pos, .int .i32 (Utf8.decode s pos).1], { w with heap := w.heap.setIfInBounds L.c (.stringIter s (pos + (Utf8.decode s pos).2)) }, ?_, ?_, Step.setO h hg hrw ho hm (.stringIter s (pos + (Utf8.decode s pos).2)) (.stringIter s (pos + (Utf8.decode s pos).2)) (.iter _ _) rfl rfl rfl rfl⟩
             · simp only [Instr.next, hb0, Nat.add_zero, Sem.run_bind, hget, Result.andThen_ok, hp, if_true, hset, Sem.run_pure]
               rfl
             · exact (VRs.cons (.bool m true) (VRs.cons (.int m .i64 pos) (VRs.cons (.int m .i32 _) (VRs.nil m)))).toArray |> fun z => .tuple _ _ z.1 z.2
           · rw [if_neg hp] at he
             simp only [Option.some.injEq, Prod.mk.injEq] at he
             obtain ⟨rfl, rfl⟩ := he
             refine .pure h (v' := .tuple #[.bool false]) ?_ ((VRs.cons (.bool m false) (VRs.nil m)).toArray |> fun z => .tuple _ _ z.1 z.2)
             simp only [Instr.next, hb0, Nat.add_zero, Sem.run_bind, hget, Result.andThen_ok, hp, if_false, Sem.run_pure]
       · simp at he
     · rw [if_neg hrw] at he; simp at he
   · simp at he
 · simp at he
theorem lenA_sound (h : Rel m H w) {t ty : TypeId} {ts : Array TypeId} (hts : ts[0]? = some t) {x x' v : Value} (hx : VR m x x') (he : lenA P t x H = some v) :
   Snd P (Builtin.len_ ts ty #[x']) m H w v H := by
 unfold lenA at he
 split at he
 · rename_i s hu
   simp only [Option.some.injEq] at he; subst he
   have := hx.str_inv; subst this
   exact .pure h (by simp [Builtin.len_, hts, run_und hu, goInt]) (.int m _ _)
 · rename_i n e hu
   simp only [Option.some.injEq] at he; subst he
   refine .pure h (v' := .int .i64 n) ?_ (.int m _ _)
   simp [Builtin.len_, hts, run_und hu, goInt]
 · rename_i arr hu
   split at he
   · rename_i n e hu2
     simp only [Option.some.injEq] at he; subst he
     refine .pure h (v' := .int .i64 n) ?_ (.int m _ _)
     simp [Builtin.len_, hts, run_und hu, run_und hu2, goInt]
   · simp at he
 · rename_i e a n c hu
   simp only [Option.some.injEq] at he; subst he
   refine .pure h (v' := .int .i64 n) ?_ (.int m _ _)
   cases hx with
   | atom _ h => simp [Builtin.len_, hts, run_und hu, goInt]
   | slice b off L a' len cap cap' h hl hc hb hs ha => simp [Builtin.len_, hts, run_und hu, goInt]
 · rename_i k e hu
   simp only [Option.some.injEq] at he; subst he
   have := hx.eq_of_atomic rfl; subst this
   exact .pure h (by simp [Builtin.len_, hts, run_und hu, goInt]) (.int m _ _)
 · rename_i k e r hu
   split at he
   · rename_i b hg
     split at he
     · rename_i es clock ho
       simp only [Option.some.injEq] at he; subst he
       cases hx with
       | atom _ h => simp [atomic] at h
       | map _ L hm =>
         obtain ⟨L', hm', hl⟩ := h.blk r b hg
         rw [hm] at hm'; simp only [Option.some.injEq] at hm'; subst hm'
         obtain ⟨_, o', g1, g2⟩ := hl.ob _ ho
         cases g2 with
         | map _ ys _ hs hh =>
           have hget : (getObj L.c).run P w = .ok (.map ys clock) w := by simp [getObj, Sem.run, g1]
           refine .pure h (v' := .int .i64 es.size) ?_ (.int m _ _)
           simp [Builtin.len_, hts, run_und hu, hget, goInt, hs]
     · simp at he
   · simp at he
 · simp at he
end Go.Aw
namespace Go.Aw
variable {m : Mp} {P : Program} {H : Heap} {w : World}
theorem bytesOf_spec : ∀ {xs : List Value} {l : List UInt8}, bytesOf xs = some l → ∃ ns : List Int, xs = ns.map (Value.int .u8) ∧ l = ns.map (fun n => UInt8.ofNat n.toNat)
 | [], l, h => by simp only [bytesOf, Option.some.injEq] at h; subst h; exact ⟨[], rfl, rfl⟩
 | x :: r, l, h => by
   unfold bytesOf at h
   split at h
   · rename_i heq; simp at heq
   · rename_i n r' heq
     simp only [List.cons.injEq] at heq
     obtain ⟨rfl, rfl⟩ := heq
     split at h
     · rename_i l' hl'
       simp only [Option.some.injEq] at h; subst h
       obtain ⟨ns, k1, k2⟩ := bytesOf_spec hl'
       exact ⟨n :: ns, by rw [k1]; rfl, by rw [k2]; rfl⟩
     · simp at h
   · simp at h
theorem VRs.ints {ns : List Int} {k : IntKind} {ys : List Value} (h : VRs m (ns.map (Value.int k)) ys) : ys = ns.map (Value.int k) := by
 apply List.ext_getElem h.1.symm
 intro i a b
 have := h.2 i b a
 simp only [List.getElem_map] at this ⊢
 exact this.int_inv
theorem foldl_push (ns : List Int) : ∀ (s : ByteArray), ns.foldl (fun r n => r.push (UInt8.ofNat n.toNat)) s = ⟨s.data ++ (ns.map (fun n => UInt8.ofNat n.toNat)).toArray⟩ := by
 induction ns with
 | nil => intro s; simp
 | cons n r ih =>
   intro s
   simp only [List.foldl_cons, ih]
   congr 1
   simp [ByteArray.push]
theorem slice_addr {a : Addr} {L : Loc} {a' : Addr} {c' : Nat} (hb : a'.block = L.c) (hs : a'.spot = none) (ha : c' = 0 ∨ (a'.off = L.base + a.off ∧ a'.off + c' * L.es ≤ L.e)) (hpos : c' ≠ 0) :
   a' = ⟨L.c, L.base + a.off, none⟩ := by
 obtain ⟨x1, x2, x3⟩ := a'
 simp only at hb hs ha
 rcases ha with ha | ha
 · exact absurd ha hpos
 · rw [hb, hs, ha.1]
theorem strOf_sound (h : Rel m H w) {a : Option Addr} {n c : Nat} {x' : Value} {s : ByteArray} (hx : VR m (.slice a n c) x') (he : strOf H a n = some s) :
   (Conv.bytesToString x').run P w = .ok (.string s) w := by
 unfold strOf at he
 split at he
 · simp only [Option.some.injEq] at he; subst he
   cases hx with
   | atom _ h => simp [Conv.bytesToString]
 · rename_i a
   obtain ⟨L, a', c', hsp, hm, hl, hc, hb', hs', ha, rfl⟩ := hx.slice_inv
   by_cases h0 : n = 0
   · rw [if_pos h0] at he
     simp only [Option.some.injEq] at he; subst he; subst h0
     simp [Conv.bytesToString, loadCells, loadCellsFrom]
   · rw [if_neg h0] at he
     cases hlk : look H a with
     | none => simp [hlk] at he
     | some y =>
       simp only [hlk] at he
       by_cases hin : a.off + n ≤ y.cells.length
       · rw [if_pos hin] at he
         split at he
         · rename_i l hl'
           simp only [Option.some.injEq] at he; subst he
           obtain ⟨_, hg, ho, hes, hfit, cs, elem, fz, h1, h2, h3, h4⟩ := h.look' hm hlk
           have ha' := slice_addr hb' hs' ha (by omega)
           subst ha'
           obtain ⟨ys, k1, k2, k3⟩ := cells_at h1 h2 hfit h3 a.off n hin
           obtain ⟨ns, b1, b2⟩ := bytesOf_spec hl'
           rw [b1] at k2
           have := k2.ints; subst this
           rw [run_bytesToString w _ n c' ns (run_loadCells_ys k1 k3), foldl_push, b2]
           simp
         · simp at he
       · rw [if_neg hin] at he; simp at he
theorem freeze_end {c : Nat} {cs : Array Value} {elem : TypeId} {fz : Nat × Nat} (hg : w.heap[c]? = some (.cells cs elem fz)) (hf : fz.1 = fz.2 ∨ cs.size ≤ fz.1) :
   ∃ fz', w.freeze ⟨c, cs.size, none⟩ 1 = setRowW w c cs elem fz' ∧ (fz'.1 = fz'.2 ∨ cs.size ≤ fz'.1) := by
 obtain ⟨lo, hi⟩ := fz
 have hlt : c < w.heap.size := (Array.getElem?_eq_some_iff.1 hg).1
 refine ⟨if lo == hi then (cs.size, cs.size + 1) else (min lo cs.size, max hi (cs.size + 1)), ?_, ?_⟩
 · unfold World.freeze setRowW
   rw [if_neg (by simp)]
   congr 1
   apply Array.ext_getElem?
   intro j
   rw [Array.getElem?_modify, Array.getElem?_setIfInBounds]
   by_cases e : c = j
   · subst e; rw [if_pos rfl, if_pos rfl, if_pos hlt, hg]; rfl
   · simp [e]
 · by_cases e : lo = hi
   · simp [e]
   · have e' : (lo == hi) = false := by simpa using e
     simp only [e', Bool.false_eq_true, if_false]
     rcases hf with hf | hf
     · exact absurd hf e
     · right; simp only at hf ⊢; omega
theorem markStringish_sound (h : Rel m H w) {b : Nat} {x : Blk} {L : Loc} (hb : H.get b = some x) (hrw : x.rw = true) (hno : x.o = none) (hm : m b = some L) (off : Nat) :
   ∃ w', (markStringish ⟨L.c, off, none⟩).run P w = .ok () w' ∧ Step m H w m H w' := by
 obtain ⟨L', hm', hl⟩ := h.blk b x hb
 rw [hm] at hm'; simp only [Option.some.injEq] at hm'; subst hm'
 obtain ⟨cs, elem, fz, g1, g2, g3, g4⟩ := hl.ex hno
 obtain ⟨fz', k1, k2⟩ := freeze_end g1 (g4 hrw)
 have hlt : L.c < w.heap.size := (Array.getElem?_eq_some_iff.1 g1).1
 refine ⟨setRowW w L.c cs elem fz', ?_, ?_⟩
 · have hsh : w.shape? L.c = some (elem, cs.size) := by simp [World.shape?, g1]
   simp only [markStringish, Sem.run_bind, run_shape, Result.andThen_ok, hsh, run_freeze, k1]
 · have hother : ∀ c, c ≠ L.c → (setRowW w L.c cs elem fz').heap[c]? = w.heap[c]? := by
     intro c hc; simp [setRowW, Ne.symm hc]
   have hthis : (setRowW w L.c cs elem fz').heap[L.c]? = some (.cells cs elem fz') := by simp [setRowW, hlt]
   refine ⟨⟨?_, h.apart, ?_, h.fresh⟩, .refl .., ⟨rfl, rfl, rfl, by simp [setRowW], ?_⟩⟩
   · intro k y hk
     obtain ⟨L2, q1, q2⟩ := h.blk k y hk
     refine ⟨L2, q1, ?_⟩
     by_cases e : k = b
     · subst e
       rw [hm] at q1; simp only [Option.some.injEq] at q1; subst q1
       rw [hb] at hk; simp only [Option.some.injEq] at hk; subst hk
       exact ⟨q2.es, q2.fits, fun _ => ⟨cs, elem, fz', hthis, g2, g3, fun _ => k2⟩, fun o ho => by rw [hno] at ho; simp at ho⟩
     · exact q2.mono (Mp.le_refl m) (hother _ (fun hc => e (h.apart b x hb hrw k y L L2 hk hm q1 hc)))
   · intro k L2 hk; have := h.bound _ _ hk; simpa [setRowW] using this
   · intro c _ hown
     exact hother c (fun e => hown ⟨b, x, L, hb, hrw, hm, e.symm⟩)
theorem convertA_sound {H' : Heap} (h : Rel m H w) {s d : TypeId} {x x' v : Value} (hx : VR m x x') (he : convertA P s d x H = some (v, H')) :
   Snd P (convert s d x') m H w v H' := by
 unfold convertA at he
 split at he
 · rename_i ds k q n hs hd
   simp only [Option.some.injEq, Prod.mk.injEq] at he
   obtain ⟨rfl, rfl⟩ := he
   have := hx.int_inv; subst this
   refine .pure h ?_ (.int m _ _)
   simp only [convert, Sem.run_bind, run_und hs, run_und hd, Result.andThen_ok]
   cases ds <;> rfl
 · rename_i ds q n hs hd
   simp only [Option.some.injEq, Prod.mk.injEq] at he
   obtain ⟨rfl, rfl⟩ := he
   have := hx.int_inv; subst this
   refine .pure h ?_ (.str m _)
   simp only [convert, Sem.run_bind, run_und hs, run_und hd, Result.andThen_ok]
   cases ds <;> rfl
 · rename_i ds st hs hd
   simp only [Option.some.injEq, Prod.mk.injEq] at he
   obtain ⟨rfl, rfl⟩ := he
   have := hx.str_inv; subst this
   refine .pure h ?_ (.str m _)
   simp only [convert, Sem.run_bind, run_und hs, run_und hd, Result.andThen_ok]
   cases ds <;> rfl
 · rename_i ds e st hs hd
   have := hx.str_inv; subst this
   split at he
   · rename_i hu
     by_cases hb : st.size ≤ most
     · rw [if_pos hb] at he
       simp only [mkRow, Option.some.injEq, Prod.mk.injEq] at he
       obtain ⟨rfl, rfl⟩ := he
       let w1 : World := { w with drawn := w.drawn + 1 }
       let cap := (Question.appendCap st.size 0 e).cut (w.tape w.drawn (.appendCap st.size 0 e))
       have hcap : st.size ≤ cap := by simp only [cap, Question.cut]; omega
       let cells : Array Value := st.data.map (fun b => .int .u8 b.toNat) ++ Array.replicate (cap - st.size) (.int .u8 0)
       have h1 : Rel m H w1 := h.drawn _
       have hsz : cells.size = cap := by
         have : st.data.size = st.size := rfl
         simp only [cells, Array.size_append, Array.size_map, Array.size_replicate, this]; omega
       let w2 : World := { w1 with heap := w1.heap.push (.cells cells e) }
       have st2 : Step m H w1 (m.add H.next ⟨w1.heap.size, 0, 1, cells.size⟩) (H.alloc 1 (st.data.toList.map fun b => .int .u8 b.toNat)) w2 :=
         Step.alloc h1 1 _ cells e (by simp only [List.length_map, Array.length_toList]; rw [hsz]; exact hcap) (fun i a b => by
           have a' : i < st.data.size := by simpa using a
           have a2 : i < st.size := a'
           have : cells[i] = .int .u8 st.data[i].toNat := by simp [cells, a2]
           rw [this]
           simp only [List.getElem_map, Array.getElem_toList]
           exact .int m _ _) rfl rfl rfl rfl
       have hget : (H.alloc 1 (st.data.toList.map fun b => (Value.int .u8 b.toNat))).get H.next = some ⟨st.data.toList.map fun b => .int .u8 b.toNat, true, 1, none⟩ := by rw [Heap.get_alloc]; simp
       obtain ⟨w3, q1, q2⟩ := markStringish_sound (P := P) st2.rel hget rfl rfl (L := ⟨w1.heap.size, 0, 1, cells.size⟩) (by simp [Mp.add]) 0
       refine ⟨_, .slice (some ⟨w1.heap.size, 0, none⟩) st.size cap, w3, ?_, ?_, (Step.drawn h _).trans (st2.trans q2)⟩
       · have hch : (choose (.appendCap st.size 0 e)).run P w = .ok cap w1 := by simp [run_choose, Question.forced]; exact ⟨rfl, rfl⟩
         have hcv : convert s d (.string st) = (do match ← underlying s, ← underlying d, (Value.string st) with | _, _, _ => convert s d (.string st)) ∨ True := .inr trivial
         have hgo : (Conv.stringToBytes e st).run P w = .ok (.slice (some ⟨w1.heap.size, 0, none⟩) st.size cap) w3 := by
           simp only [Conv.stringToBytes, Sem.run_bind, hch, Result.andThen_ok, newRow, run_newObj, Sem.run_pure]
           show (Sem.run P (markStringish ⟨w1.heap.size, 0, none⟩) w2).andThen _ = _
           rw [q1]; rfl
         simp only [convert, Sem.run_bind, run_und hs, run_und hd, Result.andThen_ok]
         cases ds <;> simp only [run_und hu, Result.andThen_ok, hgo]
       · exact .slice H.next 0 ⟨w1.heap.size, 0, 1, cells.size⟩ _ _ _ _ (by simp [Mp.add]) (Nat.le_refl _) hcap rfl rfl (.inr ⟨rfl, by simp [hsz]⟩)
     · rw [if_neg hb] at he; simp at he
   · simp at he
 · rename_i e0 e a l c hs hd
   by_cases hsd : (s == d) = true
   · rw [if_pos hsd] at he
     split at he
     · rename_i hu
       cases hl : look H a with
       | none => simp [hl] at he
       | some y =>
         simp only [hl] at he
         by_cases hrw : y.rw = true
         · rw [if_pos hrw] at he
           simp only [Option.some.injEq, Prod.mk.injEq] at he
           obtain ⟨rfl, rfl⟩ := he
           obtain ⟨L, a', c', hsp, hm, hl1, hc, hb', hs', ha, rfl⟩ := hx.slice_inv
           obtain ⟨_, hg, ho, _⟩ := h.look' hm hl
           obtain ⟨w', q1, q2⟩ := markStringish_sound (P := P) h hg hrw ho hm a'.off
           have ea : a' = ⟨L.c, a'.off, none⟩ := by obtain ⟨x1, x2, x3⟩ := a'; simp only at hb' hs'; rw [hb', hs']
           refine ⟨m, _, w', ?_, hx, q2⟩
           rw [← ea] at q1
           simp only [convert, Sem.run_bind, run_und hs, run_und hd, Result.andThen_ok, run_und hu, hsd, q1, Sem.run_pure]
         · rw [if_neg hrw] at he; simp at he
     · simp at he
   · rw [if_neg hsd] at he; simp at he
 · rename_i e a l c hs hd
   split at he
   · rename_i hu
     cases hst : strOf H a l with
     | none => simp [hst] at he
     | some st =>
       simp only [hst, Option.some.injEq, Prod.mk.injEq] at he
       obtain ⟨rfl, rfl⟩ := he
       have hrun := strOf_sound (P := P) h hx hst
       refine .pure h ?_ (.str m _)
       cases hx with
       | atom _ h => simp only [convert, Sem.run_bind, run_und hs, run_und hd, Result.andThen_ok, run_und hu, hrun]
       | slice b off L a' len cap cap' h hl hc hb hs' ha => simp only [convert, Sem.run_bind, run_und hs, run_und hd, Result.andThen_ok, run_und hu, hrun]
   · simp at he
 · simp at he
end Go.Aw
namespace Go.Aw
variable {P : Program} {w : World} {m : Mp} {H : Heap}
theorem run_bound {k : IntKind} {i : Int} {y : Nat} {code : BoundsCode} (h0 : 0 ≤ i) (h1 : i ≤ y) : (Instr.sliceBound (.int k i) y code).run P w = .ok i.toNat w := by
 simp [Instr.sliceBound, asIntOf, h0, h1]
def loInt : Option Value → Option Int
 | none => some 0
 | some (.int _ l) => some l
 | _ => none
def hiInt (n : Nat) : Option Value → Option Int
 | none => some n
 | some (.int _ l) => some l
 | _ => none
def VRo (m : Mp) : Option Value → Option Value → Prop
 | none, none => True
 | some a, some b => VR m a b
 | _, _ => False
theorem bounds_run {lo lo' hi hi' : Option Value} (hlo : VRo m lo lo') (hhi : VRo m hi hi') {l h : Int} {len cap : Nat} {b : Bool} (el : loInt lo = some l) (eh : hiInt len hi = some h)
   (h0 : 0 ≤ l) (h1 : l ≤ h) (h2 : h ≤ cap) : (Instr.sliceBounds b len cap lo' hi' none).run P w = .ok (l.toNat, h.toNat, cap) w := by
 have rlo : lo' = lo := by
   cases lo with
   | none => cases lo' with
     | none => rfl
     | some _ => exact hlo.elim
   | some x => cases lo' with
     | none => exact hlo.elim
     | some y =>
       cases x <;> simp [loInt] at el
       rw [(VR.int_inv hlo)]
 have rhi : hi' = hi := by
   cases hi with
   | none => cases hi' with
     | none => rfl
     | some _ => exact hhi.elim
   | some x => cases hi' with
     | none => exact hhi.elim
     | some y =>
       cases x <;> simp [hiInt] at eh
       rw [(VR.int_inv hhi)]
 subst rlo; subst rhi
 cases lo' with
 | none =>
   simp only [loInt, Option.some.injEq] at el; subst el
   cases hi' with
   | none =>
     simp only [hiInt, Option.some.injEq] at eh; subst eh
     simp [Instr.sliceBounds]
   | some x =>
     cases x <;> simp [hiInt] at eh
     subst eh
     simp [Instr.sliceBounds, run_bound (show (0:Int) ≤ _ by omega) h2]
 | some x =>
   cases x <;> simp [loInt] at el
   subst el
   cases hi' with
   | none =>
     simp only [hiInt, Option.some.injEq] at eh; subst eh
     simp [Instr.sliceBounds, run_bound h0 h1]
   | some y =>
     cases y <;> simp [hiInt] at eh
     subst eh
     rename_i k1 l1 k2 l2
     simp [Instr.sliceBounds, run_bound (P := P) (w := w) (show (0:Int) ≤ l2 by omega) h2, run_bound (P := P) (w := w) h0 (show l1 ≤ ((l2.toNat : Nat) : Int) by omega)]
theorem sliceA_sound (h : Rel m H w) {t e : TypeId} {es : Nat} (hu : P.underlying t = some (.slice e)) (hs : sizeT P e = some es)
   {a : Option Addr} {n c : Nat} {x' v : Value} {lo lo' hi hi' : Option Value} (hx : VR m (.slice a n c) x') (hlo : VRo m lo lo') (hhi : VRo m hi hi') {l k : Int} (el : loInt lo = some l) (eh : hiInt n hi = some k)
   (he : sliceA H es a c l k = some v) : Snd P (Instr.sliceAt t x' lo' hi' none) m H w v H := by
 unfold sliceA at he
 by_cases hb : 0 ≤ l ∧ l ≤ k ∧ k ≤ c
 · rw [if_pos hb] at he
   obtain ⟨b0, b1, b2⟩ := hb
   split at he
   · simp only [Option.some.injEq] at he; subst he
     cases hx with
     | atom _ hat =>
       simp only [atomic, Bool.and_eq_true, beq_iff_eq] at hat
       obtain ⟨rfl, rfl⟩ := hat
       have l0 : l = 0 := by omega
       have k0 : k = 0 := by omega
       subst l0; subst k0
       refine .pure h (v' := .slice none 0 0) ?_ (.atom _ rfl)
       have hbr := bounds_run (P := P) (w := w) (b := true) hlo hhi el eh (by omega) (by omega) b2
       simp [Instr.sliceAt, Instr.slice, run_und hu, hbr, run_size hs]
   · rename_i a
     cases hl : look H a with
     | none => simp [hl] at he
     | some y =>
       simp only [hl] at he
       by_cases hes : y.es = es
       · rw [if_pos hes] at he
         simp only [Option.some.injEq] at he; subst he
         obtain ⟨L, a', c', hsp, hm, hnc, hc, hb', hs', ha, rfl⟩ := hx.slice_inv
         obtain ⟨_, hg, ho, hLes, hfit, _⟩ := h.look' hm hl
         have hbr := bounds_run (P := P) (w := w) (b := true) (cap := c') hlo hhi el eh b0 b1 (by omega)
         obtain ⟨ab, aoff, asp⟩ := a
         simp only at hsp hm; subst hsp
         rw [Addr.add_eq]
         let a2 : Addr := if c' = l.toNat then a' else a'.add (l.toNat * es)
         refine .pure h (v' := .slice (some a2) (k.toNat - l.toNat) (c' - l.toNat)) ?_ ?_
         · simp only [Instr.sliceAt, Sem.run_bind, run_und hu, Result.andThen_ok, Instr.slice, hbr, run_size hs, Sem.run_pure, a2]
           by_cases hcl : c' = l.toNat
           · simp [hcl]
           · simp [hcl]
         · have hkl : (k - l).toNat = k.toNat - l.toNat := by omega
           rw [hkl]
           refine .slice ab _ L a2 _ _ _ hm (by omega) (by omega) ?_ ?_ ?_
           · simp only [a2]; split
             · exact hb'
             · unfold Addr.add; split <;> exact hb'
           · simp only [a2]; split
             · exact hs'
             · unfold Addr.add; split
               · exact hs'
               · rfl
           · by_cases hcl : c' = l.toNat
             · left; omega
             · right
               have hoff : a'.off = L.base + aoff ∧ a'.off + c' * L.es ≤ L.e := by
                 rcases ha with ha | ha
                 · omega
                 · exact ha
               have ha2 : a2.off = a'.off + l.toNat * es := by
                 simp only [a2, hcl, if_false]
                 unfold Addr.add; split
                 · rename_i h0; rw [h0]; rfl
                 · rfl
               refine ⟨by rw [ha2, hoff.1]; omega, ?_⟩
               rw [ha2]
               have h5 : L.es = es := by rw [hLes, hes]
               rw [h5] at hoff ⊢
               have h6 : l.toNat * es + (c' - l.toNat) * es = c' * es := by rw [← Nat.add_mul]; congr 1; omega
               omega
       · rw [if_neg hes] at he; simp at he
 · rw [if_neg hb] at he; simp at he
theorem sliceP_sound (h : Rel m H w) {t e : TypeId} {n es : Nat} (hu : P.underlying t = some (.array n e)) (hs : sizeT P e = some es)
   {a : Addr} {x' v : Value} {lo lo' hi hi' : Option Value} (hx : VR m (.pointer (some a)) x') (hlo : VRo m lo lo') (hhi : VRo m hi hi') {l k : Int} (el : loInt lo = some l) (eh : hiInt n hi = some k)
   (he : sliceP H es n a l k = some v) : Snd P (Instr.sliceAt t x' lo' hi' none) m H w v H := by
 unfold sliceP at he
 by_cases hb : 0 ≤ l ∧ l ≤ k ∧ k ≤ n
 · rw [if_pos hb] at he
   obtain ⟨b0, b1, b2⟩ := hb
   cases hl : look H a with
   | none => simp [hl] at he
   | some y =>
     simp only [hl] at he
     by_cases hes : y.es = es ∧ a.off + n * es ≤ y.cells.length
     · rw [if_pos hes] at he
       simp only [Option.some.injEq] at he; subst he
       obtain ⟨L, hsp, hm, rfl⟩ := hx.ptr_inv
       obtain ⟨_, hg, ho, hLes, hfit, _⟩ := h.look' hm hl
       have hbr := bounds_run (P := P) (w := w) (b := false) (cap := n) hlo hhi el eh b0 b1 b2
       obtain ⟨ab, aoff, asp⟩ := a
       simp only at hsp hm; subst hsp
       rw [Addr.add_eq]
       let a2 : Addr := if n = l.toNat then ⟨L.c, L.base + aoff, none⟩ else ⟨L.c, L.base + aoff + l.toNat * es, none⟩
       refine .pure h (v' := .slice (some a2) (k.toNat - l.toNat) (n - l.toNat)) ?_ ?_
       · simp only [Instr.sliceAt, Sem.run_bind, run_und hu, Result.andThen_ok, Instr.sureAddr, Sem.run_pure, hbr, run_size hs, a2, Addr.add_eq]
       · have hkl : (k - l).toNat = k.toNat - l.toNat := by omega
         rw [hkl]
         refine .slice ab _ L a2 _ _ _ hm (by omega) (Nat.le_refl _) ?_ ?_ ?_
         · simp only [a2]; split <;> rfl
         · simp only [a2]; split <;> rfl
         · by_cases hcl : n = l.toNat
           · left; omega
           · right
             have ha2 : a2.off = L.base + aoff + l.toNat * es := by simp only [a2, hcl, if_false]
             refine ⟨by rw [ha2]; omega, ?_⟩
             rw [ha2]
             have h5 : L.es = es := by rw [hLes, hes.1]
             rw [h5]
             have h6 : l.toNat * es + (n - l.toNat) * es = n * es := by rw [← Nat.add_mul]; congr 1; omega
             have := hes.2
             simp only at this
             omega
     · rw [if_neg hes] at he; simp at he
 · rw [if_neg hb] at he; simp at he
theorem sliceS_sound (h : Rel m H w) {t : TypeId} (hu : P.underlying t = some .string)
   {s r : ByteArray} {x' : Value} {lo lo' hi hi' : Option Value} (hx : VR m (.string s) x') (hlo : VRo m lo lo') (hhi : VRo m hi hi') {l k : Int} (el : loInt lo = some l) (eh : hiInt s.size hi = some k)
   (he : sliceS s l k = some r) : Snd P (Instr.sliceAt t x' lo' hi' none) m H w (.string r) H := by
 unfold sliceS at he
 by_cases hb : 0 ≤ l ∧ l ≤ k ∧ k ≤ s.size
 · rw [if_pos hb] at he
   simp only [Option.some.injEq] at he; subst he
   obtain ⟨b0, b1, b2⟩ := hb
   have := hx.str_inv; subst this
   have hbr := bounds_run (P := P) (w := w) (b := false) (cap := s.size) hlo hhi el eh b0 b1 b2
   refine .pure h ?_ (.str m _)
   simp [Instr.sliceAt, Instr.slice, run_und hu, hbr]
 · rw [if_neg hb] at he; simp at he
theorem sliceOpA_sound (h : Rel m H w) {t : TypeId} {x x' v : Value} {lo lo' hi hi' mx mx' : Option Value} (hx : VR m x x') (hlo : VRo m lo lo') (hhi : VRo m hi hi')
   (hmx : VRo m mx mx') (he : sliceOpA P t x lo hi mx H = some v) : Snd P (Instr.sliceAt t x' lo' hi' mx') m H w v H := by
 unfold sliceOpA at he
 split at he
 · simp at he
 · have : mx' = none := by cases mx' with
     | none => rfl
     | some _ => exact hmx.elim
   subst this
   split at he
   · rename_i s hu
     have key : ∀ l k, loInt lo = some l → hiInt s.size hi = some k → (match sliceS s l k with | some r => some (Value.string r) | none => none) = some v → Snd P (Instr.sliceAt t x' lo' hi' none) m H w v H := by
       intro l k el eh he
       cases hr : sliceS s l k with
       | none => simp [hr] at he
       | some r =>
         simp only [hr, Option.some.injEq] at he; subst he
         exact sliceS_sound h hu hx hlo hhi el eh hr
     split at he
     · exact key _ _ rfl rfl he
     · exact key _ _ rfl rfl he
     · exact key _ _ rfl rfl he
     · exact key _ _ rfl rfl he
     · simp at he
   · rename_i e a n c hu
     cases hs : sizeT P e with
     | none => simp [hs] at he
     | some es =>
       simp only [hs] at he
       split at he
       · exact sliceA_sound h hu hs hx hlo hhi rfl rfl he
       · exact sliceA_sound h hu hs hx hlo hhi rfl rfl he
       · exact sliceA_sound h hu hs hx hlo hhi rfl rfl he
       · exact sliceA_sound h hu hs hx hlo hhi rfl rfl he
       · simp at he
   · rename_i n e a hu
     cases hs : sizeT P e with
     | none => simp [hs] at he
     | some es =>
       simp only [hs] at he
       split at he
       · exact sliceP_sound h hu hs hx hlo hhi rfl rfl he
       · exact sliceP_sound h hu hs hx hlo hhi rfl rfl he
       · exact sliceP_sound h hu hs hx hlo hhi rfl rfl he
       · exact sliceP_sound h hu hs hx hlo hhi rfl rfl he
       · simp at he
   · simp at he
end Go.Aw
namespace Go.Aw
variable {m : Mp} {P : Program} {H H' : Heap} {w : World} {t u e ty : TypeId} {i : TypeInfo}
theorem oneCells {vs vs' : List Value} (hv : VRs m vs vs') (h1 : vs.all Value.oneCell' = true) : ∀ v ∈ vs', v.oneCell' = true := by
 intro v hvm
 obtain ⟨i, hi, rfl⟩ := List.getElem_of_mem hvm
 have hi' : i < vs.length := by have := hv.1; omega
 have a1 := List.all_eq_true.1 h1 _ (List.getElem_mem hi')
 have a2 := hv.2 i hi' hi
 generalize vs[i] = p at a1 a2
 generalize vs'[i] = q at a2
 cases a2 <;> simp_all [Value.oneCell']
theorem src_sound (h : Rel m H w) {es n : Nat} {x x' : Value} {news : List Value} (hx : VR m x x') (he : srcCells H es x = some (n, news)) :
   news.length = n * es ∧ ∃ news', VRs m news news' ∧ (Builtin.lenOf x').run P w = .ok n w ∧ ∀ (w2 : World), w2.heap = w.heap → ∀ k, k ≤ n → (Builtin.firstCells es k x').run P w2 = .ok (news'.take (k * es)).toArray w2 := by
 unfold srcCells at he
 split at he
 · simp only [Option.some.injEq, Prod.mk.injEq] at he
   obtain ⟨rfl, rfl⟩ := he
   cases hx with
   | atom _ hat =>
     simp only [atomic, Bool.and_eq_true, beq_iff_eq] at hat
     obtain ⟨rfl, rfl⟩ := hat
     refine ⟨by simp, [], VRs.nil m, by simp [Builtin.lenOf], fun w2 _ k hk => ?_⟩
     simp [Builtin.firstCells]
 · rename_i a n' c
   obtain ⟨L, a', c', hsp, hm, hnc, hc, hb', hs', ha, rfl⟩ := hx.slice_inv
   split at he
   · rename_i y hl
     by_cases hin : a.off + n' * es ≤ y.cells.length
     · rw [if_pos hin] at he
       simp only [Option.some.injEq, Prod.mk.injEq] at he
       obtain ⟨rfl, rfl⟩ := he
       obtain ⟨_, hg, ho, hes, hfit, cs, elem, fz, h1, h2, h3, h4⟩ := h.look' hm hl
       obtain ⟨ys, k1, k2, k3⟩ := cells_at h1 h2 hfit h3 a.off (n' * es) hin
       refine ⟨by simp; omega, ys, k2, by simp [Builtin.lenOf], fun w2 hw2 k hk => ?_⟩
       by_cases hn0 : k * es = 0
       · simp [Builtin.firstCells, hn0, loadCells, loadCellsFrom]
       · have hpos : c' ≠ 0 := by
           intro e0
           have : n' = 0 := by omega
           subst this
           have : k = 0 := by omega
           simp [this] at hn0
         have := slice_addr hb' hs' ha hpos
         subst this
         have hke : k * es ≤ n' * es := Nat.mul_le_mul_right _ hk
         have hcell : ∀ (b : Addr), w2.cell? b = w.cell? b := by intro b; simp [World.cell?, hw2]
         simp only [Builtin.firstCells]
         refine run_loadCells_ys (by simp; omega) (fun j v hj => ?_)
         rw [hcell]
         refine k3 j v ?_
         rw [List.getElem?_take] at hj
         split at hj
         · exact hj
         · simp at hj
     · rw [if_neg hin] at he; simp at he
   · by_cases h0 : n' = 0
     · rw [if_pos h0] at he
       simp only [Option.some.injEq, Prod.mk.injEq] at he
       obtain ⟨rfl, rfl⟩ := he
       subst h0
       refine ⟨by simp, [], VRs.nil m, by simp [Builtin.lenOf], fun w2 _ k hk => ?_⟩
       have : k = 0 := by omega
       subst this
       simp [Builtin.firstCells, loadCells, loadCellsFrom]
     · rw [if_neg h0] at he; simp at he
 · rename_i s
   by_cases he1 : es = 1
   · rw [if_pos he1] at he
     simp only [Option.some.injEq, Prod.mk.injEq] at he
     obtain ⟨rfl, rfl⟩ := he
     subst he1
     have := hx.str_inv; subst this
     refine ⟨by rw [Nat.mul_one, List.length_map, Array.length_toList]; rfl, _, VRs.refl_of_atomic (by rw [List.all_eq_true]; intro v hv; simp only [List.mem_map] at hv; obtain ⟨b, _, rfl⟩ := hv; rfl), by simp [Builtin.lenOf], fun w2 _ k hk => ?_⟩
     have hk' : k ≤ s.data.size := hk
     simp only [Builtin.firstCells, Sem.run_pure, Nat.mul_one]
     congr 1
     apply Array.ext'
     rw [Array.toList_map, ByteArray.data_extract]
     simp
   · rw [if_neg he1] at he; simp at he
 · simp at he
theorem fits_most {need bytes cap' : Nat} (h : need * bytes ≤ most) (hc : cap' < need) : ¬ (Builtin.nextslicecap need cap' * bytes > 2 ^ 48) := by
 have := growslice_fits (bytes := bytes) hc (by simp only [most] at h; omega)
 omega
theorem step_drawn_heap (h : Rel m H w) : Step m H w m H { w with drawn := w.drawn + 1 } := Step.drawn h _
theorem run_append_new {zv : Value} (hu : P.underlying t = some (.slice e)) (hu2 : (∃ e2, P.underlying u = some (.slice e2)) ∨ P.underlying u = some .string)
   (hi : P.info? e = some i) (hz : i.zero = some zv) {base : Option Addr} {len cap n : Nat} {x' : Value} {olds news : List Value}
   (hold : ∀ (w2 : World), w2.heap = w.heap → (Builtin.firstCells i.size len (.slice base len cap)).run P w2 = .ok olds.toArray w2)
   (hlen : (Builtin.lenOf x').run P w = .ok n w) (hnew : ∀ (w2 : World), w2.heap = w.heap → (Builtin.firstCells i.size n x').run P w2 = .ok news.toArray w2)
   (hg : cap < len + n) (hm : (len + n) * i.bytes ≤ most) (hm2 : len + n ≤ most) :
   ∃ (newCap : Nat) (rest : Array Value), len + n ≤ newCap ∧ rest.size = (newCap - (len + n)) * zv.cells.size ∧
     (Builtin.append_ #[t, u] ty #[.slice base len cap, x']).run P w = .ok (.slice (some ⟨w.heap.size, 0, none⟩) (len + n) newCap)
       { w with drawn := w.drawn + 1, heap := w.heap.push (.cells ((olds ++ news).toArray ++ rest) e) } := by
 have hbig := fits_most hm hg
 let newCap := (Question.appendCap (len + n) cap e).cut (w.tape w.drawn (.appendCap (len + n) cap e))
 let rest := Builtin.zeroCells zv.cells (newCap - (len + n))
 refine ⟨newCap, rest, by simp only [newCap, Question.cut]; omega, by simp [rest, size_zeroCells], ?_⟩
 have hs : sizeT P e = some i.size := by simp [sizeT, hi]
 have hno : ¬ (len + n ≤ cap) := by omega
 have hr0 := hold w.drew rfl
 have hr1 := hnew w.drew rfl
 have h63' : ¬ (9223372036854775807 < (len : Int) + (n : Int)) := by
   have h1 : len + n ≤ 1099511627776 := by simpa [most] using hm2
   omega
 have h48' : ¬ (281474976710656 < Builtin.nextslicecap (len + n) cap * i.bytes) := by omega
 have key : ∀ (a b c : Array Value), a ++ (b ++ c) = a ++ b ++ c := fun a b c => (Array.append_assoc).symm
 have e3 : olds.toArray ++ news.toArray = (olds ++ news).toArray := by simp
 rcases hu2 with ⟨e2, h2⟩ | h2
 · simp [Builtin.append_, run_und hu, run_und h2, run_size hs, hlen, hno, run_info hi, h63', h48', Question.forced, hr0, hr1, run_zero hi hz, newRow]
   refine ⟨rfl, ?_⟩
   rw [key, e3]
   rfl
 · simp [Builtin.append_, run_und hu, run_und h2, run_size hs, hlen, hno, run_info hi, h63', h48', Question.forced, hr0, hr1, run_zero hi hz, newRow]
   refine ⟨rfl, ?_⟩
   rw [key, e3]
   rfl
theorem run_append_in {w' : World} (hu : P.underlying t = some (.slice e)) (hu2 : (∃ e2, P.underlying u = some (.slice e2)) ∨ P.underlying u = some .string)
   (hi : P.info? e = some i) {a : Addr} {len cap n : Nat} {x' : Value} {news : List Value}
   (hlen : (Builtin.lenOf x').run P w = .ok n w) (hnew : (Builtin.firstCells i.size n x').run P w = .ok news.toArray w)
   (hg : len + n ≤ cap) (hst : (storeCells (a.add (len * i.size)) news).run P w = .ok () w') :
   (Builtin.append_ #[t, u] ty #[.slice (some a) len cap, x']).run P w = .ok (.slice (some a) (len + n) cap) w' := by
 have hs : sizeT P e = some i.size := by simp [sizeT, hi]
 rcases hu2 with ⟨e2, h2⟩ | h2
 · simp [Builtin.append_, run_und hu, run_und h2, run_size hs, hlen, hg, hnew, hst]
 · simp [Builtin.append_, run_und hu, run_und h2, run_size hs, hlen, hg, hnew, hst]
theorem run_append_nil0 (hu : P.underlying t = some (.slice e)) (hu2 : (∃ e2, P.underlying u = some (.slice e2)) ∨ P.underlying u = some .string)
   (hi : P.info? e = some i) {x' : Value} {news : List Value}
   (hlen : (Builtin.lenOf x').run P w = .ok 0 w) (hnew : (Builtin.firstCells i.size 0 x').run P w = .ok news.toArray w) :
   (Builtin.append_ #[t, u] ty #[.slice none 0 0, x']).run P w = .ok (.slice none 0 0) w := by
 have hs : sizeT P e = some i.size := by simp [sizeT, hi]
 rcases hu2 with ⟨e2, h2⟩ | h2
 · simp [Builtin.append_, run_und hu, run_und h2, run_size hs, hlen, hnew]
 · simp [Builtin.append_, run_und hu, run_und h2, run_size hs, hlen, hnew]
theorem app_sound (h : Rel m H w) {t u e : TypeId} {ty : TypeId} {i : TypeInfo} {zv : Value} (hu : P.underlying t = some (.slice e))
   (hu2 : (∃ e2, P.underlying u = some (.slice e2)) ∨ P.underlying u = some .string) (hi : P.info? e = some i) (hz : i.zero = some zv) (hzs : zv.cells.size = i.size)
   {s s' x x' v : Value} {n : Nat} {news : List Value} (hs : VR m s s') (hx : VR m x x') (hsrc : srcCells H i.size x = some (n, news)) (he : app H i.size i.bytes s n news = some (v, H')) :
   Snd P (Builtin.append_ #[t, u] ty #[s', x']) m H w v H' := by
 obtain ⟨hnl, news', hv, hlen, hread⟩ := src_sound (P := P) h hx hsrc
 have hnl' : news'.length = n * i.size := by rw [← hv.1]; exact hnl
 have hread' : ∀ (w2 : World), w2.heap = w.heap → (Builtin.firstCells i.size n x').run P w2 = .ok news'.toArray w2 := by
   intro w2 hw2
   have := hread w2 hw2 n (Nat.le_refl _)
   rwa [List.take_of_length_le (by omega)] at this
 unfold app at he
 split at he
 · rename_i l0 c0
   cases hs with
   | atom _ hat =>
     simp only [atomic, Bool.and_eq_true, beq_iff_eq] at hat
     obtain ⟨rfl, rfl⟩ := hat
     by_cases hn : n = 0
     · rw [if_pos hn] at he
       simp only [Option.some.injEq, Prod.mk.injEq] at he
       obtain ⟨rfl, rfl⟩ := he
       subst hn
       exact .pure h (run_append_nil0 hu hu2 hi hlen (hread' w rfl)) (.atom _ rfl)
     · rw [if_neg hn] at he
       by_cases hm : n * i.bytes ≤ most ∧ n ≤ most
       · rw [if_pos hm] at he
         simp only [mkRow, Option.some.injEq, Prod.mk.injEq] at he
         obtain ⟨rfl, rfl⟩ := he
         obtain ⟨nc, rest, k1, k2, k3⟩ := run_append_new (P := P) (w := w) (ty := ty) (base := none) (len := 0) (cap := 0) (olds := []) hu hu2 hi hz
           (fun w2 _ => by simp [Builtin.firstCells]) hlen hread' (by omega) (by simpa using hm.1) (by simpa using hm.2)
         simp only [Nat.zero_add, List.nil_append] at k1 k2 k3
         have hsz : (news'.toArray ++ rest).size = nc * i.size := by
           simp only [Array.size_append, List.size_toArray, hnl', k2, hzs, ← Nat.add_mul]
           congr 1; omega
         have h1 := step_drawn_heap h
         have st := Step.alloc (w := { w with drawn := w.drawn + 1 }) (w' := { w with drawn := w.drawn + 1, heap := w.heap.push (.cells (news'.toArray ++ rest) e) }) h1.rel i.size news (news'.toArray ++ rest) e
           (by have := hv.1; simp only [Array.size_append, List.size_toArray]; omega)
           (fun j a b => by
             have a' : j < news'.length := by rw [← hv.1]; exact a
             have : (news'.toArray ++ rest)[j] = news'[j] := by simp [a']
             rw [this]; exact hv.2 j a a') rfl rfl rfl rfl
         exact ⟨_, _, _, k3, .slice H.next 0 ⟨w.heap.size, 0, i.size, (news'.toArray ++ rest).size⟩ _ _ _ _ (by simp [Mp.add]) (Nat.le_refl _) k1 rfl rfl (.inr ⟨rfl, by simp only [Nat.zero_add]; omega⟩), h1.trans st⟩
       · rw [if_neg hm] at he; simp at he
 · rename_i a len cap
   obtain ⟨L, a', c', hsp, hm, hnc, hc, hb', hs', ha, rfl⟩ := hs.slice_inv
   cases hl : look H a with
   | none => simp [hl] at he
   | some y =>
     simp only [hl] at he
     by_cases hok : y.rw = true ∧ y.es = i.size ∧ a.off + len * i.size ≤ y.cells.length ∧ news.all Value.oneCell' = true ∧ (len + n) * i.bytes ≤ most ∧ len + n ≤ most
     · rw [if_pos hok] at he
       obtain ⟨hrw, hes, hin, h1c, hmb, hmn⟩ := hok
       obtain ⟨_, hg, ho, hLes, hfit, cs, elem, fz, g1, g2, g3, g4⟩ := h.look' hm hl
       obtain ⟨ab, aoff, asp⟩ := a
       simp only at hsp hm hg hin; subst hsp
       by_cases hroom : len + n ≤ cap
       · rw [if_pos hroom] at he
         by_cases hcap : aoff + cap * i.size ≤ y.cells.length
         · rw [if_pos hcap] at he
           simp only [Option.some.injEq, Prod.mk.injEq] at he
           obtain ⟨rfl, rfl⟩ := he
           by_cases hc0 : c' = 0
           · -- no room at all: nothing is written
             have hl0 : len = 0 := by omega
             have hn0 : n = 0 := by omega
             subst hl0; subst hn0; subst hc0
             have hcap0 : cap = 0 := by omega
             subst hcap0
             have hnw : news = [] := List.eq_nil_of_length_eq_zero (by simpa using hnl)
             have hnw' : news' = [] := List.eq_nil_of_length_eq_zero (by simpa using hnl')
             subst hnw; subst hnw'
             have hlen0 : aoff + 0 ≤ y.cells.length := by simpa using hin
             have hst : (storeCells (a'.add (0 * i.size)) ([] : List Value)).run P w = .ok () w := by simp [storeCells]
             refine ⟨m, _, w, run_append_in (a := a') hu hu2 hi hlen (hread' w rfl) (by omega) hst, .slice ab aoff L a' 0 0 0 hm (Nat.le_refl _) (Nat.le_refl _) hb' hs' (.inl rfl), ?_⟩
             obtain ⟨w2, q1, q2⟩ := Step.overwrite h hm hl hrw (aoff + 0 * i.size) [] [] (VRs.nil m) (by simpa using hin) rfl P
             simp only [storeCells, Sem.run_pure, Result.ok.injEq, true_and] at q1
             subst q1
             exact q2
           · have hae := slice_addr hb' hs' ha hc0
             subst hae
             have hw : aoff + len * i.size + news.length ≤ y.cells.length := by
               rw [hnl, Nat.add_assoc, ← Nat.add_mul]
               exact Nat.le_trans (Nat.add_le_add_left (Nat.mul_le_mul_right _ hroom) _) hcap
             obtain ⟨w2, q1, q2⟩ := Step.overwrite h hm hl hrw (aoff + len * i.size) news news' hv hw h1c P
             rw [← Nat.add_assoc] at q1
             have hst : (storeCells ((⟨L.c, L.base + aoff, none⟩ : Addr).add (len * i.size)) news').run P w = .ok () w2 := by rw [Addr.add_eq]; exact q1
             refine ⟨m, _, w2, run_append_in hu hu2 hi hlen (hread' w rfl) (by omega) hst, .slice ab aoff L _ _ _ _ hm hroom hc rfl rfl (.inr ?_), q2⟩
             rcases ha with ha | ha
             · exact absurd ha hc0
             · exact ha
         · rw [if_neg hcap] at he; simp at he
       · rw [if_neg hroom] at he
         simp only [mkRow, Option.some.injEq, Prod.mk.injEq] at he
         obtain ⟨rfl, rfl⟩ := he
         obtain ⟨ys, k1, k2, k3⟩ := cells_at g1 g2 hfit g3 aoff (len * i.size) hin
         have hH : (H.drop ab).next = H.next := rfl
         by_cases hfits : len + n ≤ c'
         · -- in place
           have hc0 : c' ≠ 0 := by omega
           have hae := slice_addr hb' hs' ha hc0
           subst hae
           have hca : L.base + aoff + c' * L.es ≤ L.e := by
             rcases ha with ha | ha
             · exact absurd ha hc0
             · exact ha.2
           have hLi : L.es = i.size := by rw [hLes, hes]
           have hend : L.base + (aoff + len * i.size) + 0 + news'.length ≤ cs.size := by
             rw [hnl', g2, Nat.add_zero]
             rw [hLi] at hca
             have : (len + n) * i.size ≤ c' * i.size := Nat.mul_le_mul_right _ hfits
             rw [Nat.add_mul] at this
             omega
           have hst := run_storeCells' (P := P) L.c (L.base + (aoff + len * i.size)) elem fz news' 0 cs w g1 hend (oneCells hv h1c) (g4 hrw)
           simp only [Nat.add_zero] at hst hend
           have hst2 : (storeCells ((⟨L.c, L.base + aoff, none⟩ : Addr).add (len * i.size)) news').run P w = .ok () (setRowW w L.c (overA cs (L.base + (aoff + len * i.size)) news') elem fz) := by
             rw [Addr.add_eq, Nat.add_assoc]; exact hst
           have hxl : ((y.cells.drop aoff).take (len * i.size) ++ news).length = len * i.size + n * i.size := by
             simp only [List.length_append, List.length_take, List.length_drop, hnl]; omega
           have st := Step.regrow (w' := setRowW w L.c (overA cs (L.base + (aoff + len * i.size)) news') elem fz) h hg hrw ho hm ((y.cells.drop aoff).take (len * i.size) ++ news) (L.base + aoff) cs
             (overA cs (L.base + (aoff + len * i.size)) news') elem fz g1 (overA_size hend)
             (by rw [hxl]; rw [hnl', g2] at hend; omega)
             (fun j a b => by
               have e2 := overA_get hend (L.base + aoff + j)
               rw [Array.getElem?_eq_getElem b] at e2
               rw [List.getElem_append]
               by_cases hj : j < ((y.cells.drop aoff).take (len * i.size)).length
               · rw [dif_pos hj]
                 have hj2 : j < len * i.size := by simp only [List.length_take, List.length_drop] at hj; omega
                 have hj3 : L.base + aoff + j < cs.size := by omega
                 rw [if_pos (by omega), Array.getElem?_eq_getElem hj3, Option.some.injEq] at e2
                 rw [e2]
                 have := g3 (aoff + j) (by omega) (by omega)
                 simp only [List.getElem_take, List.getElem_drop]
                 simpa [Nat.add_assoc] using this
               · rw [dif_neg hj]
                 have hl0 : ((y.cells.drop aoff).take (len * i.size)).length = len * i.size := by simp only [List.length_take, List.length_drop]; omega
                 rw [hl0] at hj
                 have hj2 : j - len * i.size < news.length := by rw [hxl] at a; rw [hnl]; omega
                 have hj3 : j - len * i.size < news'.length := by rw [← hv.1]; exact hj2
                 rw [if_neg (by omega), if_pos (by omega), show L.base + aoff + j - (L.base + (aoff + len * i.size)) = j - len * i.size by omega, List.getElem?_eq_getElem hj3, Option.some.injEq] at e2
                 rw [e2]
                 simp only [hl0]
                 exact hv.2 _ hj2 hj3) rfl rfl rfl rfl
           rw [hes] at st
           refine ⟨_, _, _, run_append_in hu hu2 hi hlen (hread' w rfl) hfits hst2, .slice H.next 0 ⟨L.c, L.base + aoff, L.es, L.e⟩ _ _ _ _ (by simp [Mp.add]) (Nat.le_refl _) hfits rfl rfl (.inr ⟨rfl, hca⟩), st⟩
         · -- a new row
           have hold : ∀ (w2 : World), w2.heap = w.heap → (Builtin.firstCells i.size len (.slice (some a') len c')).run P w2 = .ok ys.toArray w2 := by
             intro w2 hw2
             have hcell : ∀ (b : Addr), w2.cell? b = w.cell? b := by intro b; simp [World.cell?, hw2]
             by_cases hl0 : len = 0
             · subst hl0
               have : ys = [] := List.eq_nil_of_length_eq_zero (by simpa using k1)
               subst this
               simp [Builtin.firstCells, loadCells, loadCellsFrom]
             · have hae := slice_addr hb' hs' ha (by omega)
               subst hae
               simp only [Builtin.firstCells]
               exact run_loadCells_ys k1 (fun j v hj => by rw [hcell]; exact k3 j v hj)
           obtain ⟨nc, rest, q1, q2, q3⟩ := run_append_new (P := P) (w := w) (ty := ty) (base := some a') (len := len) (cap := c') (olds := ys) hu hu2 hi hz hold hlen hread' (by omega) hmb hmn
           have hsz : ((ys ++ news').toArray ++ rest).size = nc * i.size := by
             simp only [Array.size_append, List.size_toArray, List.length_append, hnl', k1, q2, hzs, ← Nat.add_mul]
             congr 1; omega
           have h1 := step_drawn_heap h
           have h2 := Step.drop h1.rel ab
           have hvv : VRs m ((y.cells.drop aoff).take (len * i.size) ++ news) (ys ++ news') := k2.append hv
           have st := Step.alloc (w := { w with drawn := w.drawn + 1 }) (w' := { w with drawn := w.drawn + 1, heap := w.heap.push (.cells ((ys ++ news').toArray ++ rest) e) }) h2.rel i.size ((y.cells.drop aoff).take (len * i.size) ++ news) ((ys ++ news').toArray ++ rest) e
             (by have := hvv.1; simp only [Array.size_append, List.size_toArray]; omega)
             (fun j a b => by
               have a2 : j < (ys ++ news').length := by rw [← hvv.1]; exact a
               have : ((ys ++ news').toArray ++ rest)[j] = (ys ++ news')[j] := by
                 rw [Array.getElem_append, dif_pos (by simpa using a2)]
                 simp
               rw [this]; exact hvv.2 j a a2) rfl rfl rfl rfl
           exact ⟨_, _, _, q3, .slice H.next 0 ⟨w.heap.size, 0, i.size, ((ys ++ news').toArray ++ rest).size⟩ _ _ _ _ (by simp [Mp.add, hH]) (Nat.le_refl _) q1 rfl rfl (.inr ⟨rfl, by simp only [Nat.zero_add]; omega⟩), h1.trans (h2.trans st)⟩
     · rw [if_neg hok] at he; simp at he
 · simp at he
theorem appendA_sound (h : Rel m H w) {ts : Array TypeId} {ty : TypeId} (hts : ts.size = 2) {s s' x x' v : Value} (hs : VR m s s') (hx : VR m x x')
   (he : appendA P ts s x H = some (v, H')) : Snd P (Builtin.append_ ts ty #[s', x']) m H w v H' := by
 have hts2 : ∃ t u, ts = #[t, u] := by
   obtain ⟨l⟩ := ts
   match l, hts with
   | [t, u], _ => exact ⟨t, u, rfl⟩
 obtain ⟨t, u, rfl⟩ := hts2
 unfold appendA at he
 simp only [List.getElem?_toArray, List.getElem?_cons_zero, List.getElem?_cons_succ] at he
 have core : ∀ e, P.underlying t = some (.slice e) → ((∃ e2, P.underlying u = some (.slice e2)) ∨ P.underlying u = some .string) →
     (match P.info? e, zeroT P e with
     | some i, some z => if z.length = i.size ∧ 0 < i.size then match srcCells H i.size x with
       | some (n, news) => app H i.size i.bytes s n news
       | none => none
       else none
     | _, _ => none) = some (v, H') → Snd P (Builtin.append_ #[t, u] ty #[s', x']) m H w v H' := by
   intro e hu hu2 he
   split at he
   · rename_i i z hi hz
     by_cases hzl : z.length = i.size ∧ 0 < i.size
     · rw [if_pos hzl] at he
       obtain ⟨i', zv, h1, h2, rfl, h4⟩ := zeroT_spec hz
       rw [hi] at h1; simp only [Option.some.injEq] at h1; subst h1
       split at he
       · rename_i n news hsrc
         exact app_sound h hu hu2 hi h2 (by simpa using hzl.1) hs hx hsrc he
       · simp at he
     · rw [if_neg hzl] at he; simp at he
   · simp at he
 split at he
 · rename_i e e2 hu hu2
   exact core e hu (.inl ⟨e2, hu2⟩) he
 · rename_i e hu hu2
   exact core e hu (.inr hu2) he
 · simp at he
theorem copyA_sound (h : Rel m H w) {ts : Array TypeId} {ty : TypeId} {d d' x x' v : Value} (hd : VR m d d') (hx : VR m x x')
   (he : copyA P ts d x H = some (v, H')) : Snd P (Builtin.copy_ ts ty #[d', x']) m H w v H' := by
 unfold copyA at he; cases he
end Go.Aw
namespace Go.Aw
inductive End where
 | ret (v : Value)
 | pan (c : List PanicEntry)
abbrev R := Option (End × Heap)
abbrev Kf := FuncId → Array Value → Heap → R
abbrev Xf := FuncId → Array Value → Heap → VH
def bindV (x : VH) (k : Value → Heap → R) : R := match x with | some (v, H) => k v H | none => none
def bindO (x : Option Value) (k : Value → R) : R := match x with | some v => k v | none => none
def bindR (x : R) (k : Value → Heap → R) (kp : List PanicEntry → Heap → R) : R :=
 match x with
 | some (.ret v, H) => k v H
 | some (.pan c, H) => kp c H
 | none => none
theorem jb0 {x : VH} {k : Value → Heap → R} {r : End × Heap} (h : bindV x k = some r) : ∃ v H, x = some (v, H) ∧ k v H = some r := by
 unfold bindV at h
 split at h
 · exact ⟨_, _, rfl, h⟩
 · simp at h
theorem jb1 {x : Option Value} {k : Value → R} {r : End × Heap} (h : bindO x k = some r) : ∃ v, x = some v ∧ k v = some r := by
 unfold bindO at h
 split at h
 · exact ⟨_, rfl, h⟩
 · simp at h
def typed (_ : Option TypeDesc) (v : Value) (k : Value → R) : R := k v
theorem js7 {d : Option TypeDesc} {v : Value} {k : Value → R} {r : End × Heap} (h : typed d v k = some r) : k v = some r := h
def pickV (t : Bool) (a b : Value) : Value :=
 match a, b with
 | .bool x, .bool y => .bool (cond t x y)
 | a, b => cond t a b
theorem pickV_eq (t : Bool) (a b : Value) : pickV t a b = if t then a else b := by
 unfold pickV
 split <;> cases t <;> rfl
def builtinK (P : Program) (b : Builtin) (ts : Array TypeId) (args : Array Value) (H : Heap) (k : Value → Heap → R) : R :=
 match b, args.toList with
 | .len, [x] => match ts[0]? with | some t => bindO (lenA P t x H) fun v => k v H | none => none
 | .append, [s, x] => if ts.size = 2 then bindV (appendA P ts s x H) k else none
 | .copy, [d, s] => bindV (copyA P ts d s H) k
 | .min, [.int ka a, .int kb b] => if ka = kb then k (.int ka (if b < a then b else a)) H else none
 | .max, [.int ka a, .int kb b] => if ka = kb then k (.int ka (if b > a then b else a)) H else none
 | _, _ => none
def callK (P : Program) (X : Xf) (K : Kf) (f : FuncId) (args : Array Value) (H : Heap) (k : Value → Heap → R) (kp : List PanicEntry → Heap → R) : R :=
 match P.funcs[f]? with
 | some fn => if fn.name == "runtime.NumGoroutine" then none else if fn.body.isNone then bindV (X f args H) k else bindR (K f args H) k kp
 | none => none
def groundK (v : Value) (k : R) : R := if ground v then k else none
def mapK (P : Program) (ρ : Operand → Value) (op : Op) (H : Heap) (k : Value → Heap → R) : R :=
 match op with
 | .makeMap t r => bindV (makeMapA P t (r.map ρ) H) k
 | .lookup t x i ok => bindO (lookupA P t (ρ x) (ρ i) ok H) fun v => k v H
 | .mapUpdate t x i v => bindV (mapUpdateA P t (ρ x) (ρ i) (ρ v) H) k
 | _ => none
def opK (P : Program) (X : Xf) (K : Kf) (ρ : Operand → Value) (o : Oper) (H : Heap) (k : Value → Heap → R) (kp : List PanicEntry → Heap → R) : R :=
 match o.op with
 | .move x | .assign x => k (ρ x) H
 | .pick c a b => match ρ c with | .bool t => k (pickV t (ρ a) (ρ b)) H | _ => none
 | .alloc e => bindV (allocA P e H) k
 | .box e x => bindV (boxA P e (ρ x) H) k
 | .build t parts => bindO (buildA P t (parts.map fun (i, x) => (i, ρ x))) fun v => k v H
 | .buildSlice t len parts => bindV (buildSliceA P t len (parts.map fun (i, x) => (i, ρ x)) H) k
 | .load t a => bindV (loadA P t (ρ a) H) k
 | .store t a x => bindV (storeA P t (ρ a) (ρ x) H) k
 | .nilCheck x => bindO (nilCheckA (ρ x)) fun v => k v H
 | .binOp op t x y _ => bindO (binA P op t x y (ρ x) (ρ y)) fun v => groundK v (k v H)
 | .unOp op _ x => bindO (unA P op (ρ x)) fun v => groundK v (k v H)
 | .convert s d x => bindV (convertA P s d (ρ x) H) k
 | .makeInterface t x => match P.underlying t with | some (.interface _) => none | some _ => k (.iface t (ρ x)) H | none => none
 | .makeFunc fn first cap => k (.func fn (first.map ρ) (cap.map ρ)) H
 | .makeSlice t l c => bindV (makeSliceA P t (ρ l) (ρ c) H) k
 | .slice t x lo hi mx => bindO (sliceOpA P t (ρ x) (lo.map ρ) (hi.map ρ) (mx.map ρ) H) fun v => k v H
 | .fieldAddr s x f => bindO (fieldAddrA P s (ρ x) f) fun v => k v H
 | .field t x f => bindO (fieldA P t (ρ x) f) fun v => k v H
 | .indexAddr t x i => bindO (indexAddrA P t (ρ x) (ρ i)) fun v => k v H
 | .index t x i => bindO (indexA P t (ρ x) (ρ i)) fun v => k v H
 | .extract t i => bindO (extractA (ρ t) i) fun v => k v H
 | .range t x => bindV (rangeA P t (ρ x) H) k
 | .next it str => bindV (nextA (ρ it) str H) k
 | .typeAssert x t u ok => bindO (assertA P (ρ x) t u ok) fun v => k v H
 | .panic x => match ρ x with | .iface t v => kp [{ v := .iface t v, recovered := false }] H | _ => none
 | .call c =>
   match c.callee with
   | .builtin b => builtinK P b c.argTypes (c.args.map ρ) H k
   | .value f => match ρ f with | .func (.func g) first cap => callK P X K g (first ++ c.args.map ρ ++ cap) H k kp | _ => none
   | .invoke _ _ => none
 | op => mapK P ρ op H k
inductive Out where
 | norm
 | exit (id : Nat)
 | goto (l : Nat)
 | ret
 | pan (c : List PanicEntry)
def splitB (b : Bool) (k : Bool → R) : R := cond b (k true) (k false)
theorem jp7 (b : Bool) (k : Bool → R) : splitB b k = k b := by cases b <;> rfl
def deferOf (ρ : Operand → Value) (c : Call) : Option Deferred :=
 match c.callee with
 | .value f => match ρ f with | .func fn first cap => some { target := .fn fn cap, args := first ++ c.args.map ρ } | _ => none
 | _ => none
def operandOk (P : Program) : Operand → Bool
 | .const v => ground v
 | .global g => decide (g < P.globals.size)
 | _ => true
def opOk (P : Program) (o : Oper) : Bool := o.op.operands.toList.all (operandOk P)
def execOp1 (P : Program) (X : Xf) (K : Kf) (o : Oper) (a : Act) (H : Heap) (k : Act → Heap → R) (kp : List PanicEntry → Act → Heap → R) : R :=
 cond (opOk P o) (match o.op with
 | .defer c => match deferOf a.eval c with
   | some d => k ({ a with defers := d :: a.defers }.put o.dst undef) H
   | none => none
 | _ => opK P X K a.eval o H (fun v H => typed (P.underlying o.type) v fun v => k (a.put o.dst v) H) (fun c H => kp c a H)) none
def guardK (ops : Array Oper) (o : Oper) (a : Act) (run : Act → R) (skip : Act → R) : R :=
 match o.guard with
 | none => run a
 | some (j, want) =>
   match (ops[j]?).bind (·.dst) with
   | none => skip a
   | some d =>
     match a.tmps[d]? with
     | some (.bool b) => splitB b fun b' => cond (b' == want) (run { a with tmps := a.tmps.setIfInBounds d (.bool b') }) (skip { a with tmps := a.tmps.setIfInBounds d (.bool b') })
     | some (.tuple _) => skip a
     | _ => none
def execOps (P : Program) (X : Xf) (K : Kf) (ops : Array Oper) : List Oper → Act → Heap → (Act → Heap → R) → (List PanicEntry → Act → Heap → R) → R
 | [], a, H, k, _ => k a H
 | o :: rest, a, H, k, kp =>
   guardK ops o a (fun a => execOp1 P X K o a H (fun a H => execOps P X K ops rest a H k kp) kp) (fun a => execOps P X K ops rest (a.put o.dst undef) H k kp)
def cls (P : Program) (o : Oper) : Nat :=
 match o.op with
 | .move _ | .assign _ | .pick .. | .build .. | .nilCheck _ | .binOp .. | .unOp .. | .makeInterface .. | .makeFunc .. | .fieldAddr .. | .field .. | .indexAddr .. | .index .. | .extract .. | .typeAssert .. => 0
 | .load .. | .slice .. => 1
 | .convert _ d _ => match P.underlying d with | some (.slice _) => 2 | some .string => 1 | some _ => 0 | none => 2
 | .call { callee := .builtin .len, .. } | .call { callee := .builtin .min, .. } | .call { callee := .builtin .max, .. } => 1
 | _ => 2
def noX : Xf := fun _ _ _ => none
def noK : Kf := fun _ _ _ => none
def qval (P : Program) (ρ : Operand → Value) (o : Oper) (H : Heap) : Option Value :=
 match opK P noX noK ρ o H (fun v H' => some (.ret v, H')) (fun _ _ => none) with
 | some (.ret v, _) => some v
 | _ => none
def veq0 : Value → Value → Bool
 | .bool a, .bool b => a == b
 | .int k a, .int k' b => k == k' && a == b
 | .string a, .string b => a.data.toList == b.data.toList
 | .pointer a, .pointer b => a == b
 | .slice a l c, .slice a' l' c' => a == a' && l == l' && c == c'
 | .map a, .map b => a == b
 | .nilFunc, .nilFunc => true
 | .nilIface, .nilIface => true
 | _, _ => false
def veqs : List Value → List Value → Bool
 | [], [] => true
 | a :: r, b :: s => veq0 a b && veqs r s
 | _, _ => false
def veq : Value → Value → Bool
 | .agg xs, .agg ys => veqs xs.toList ys.toList
 | .iface t v, .iface u w => t == u && veq0 v w
 | .func (.func g) xs ys, .func (.func h) zs us => g == h && (veqs xs.toList zs.toList && veqs ys.toList us.toList)
 | a, b => veq0 a b
def maskOf (acc : List Nat) (o : Oper) : Nat :=
 (o.after.toList.filter fun e => Region.binds .any e).foldl (fun s e => s ||| 2 ^ e.on ||| acc.getD e.on 0) 0
def masks : List Oper → List Nat → List Nat
 | [], acc => acc
 | o :: r, acc => masks r (acc ++ [maskOf acc o])
def dstIs (o : Oper) (t : Tmp) : Bool := match o.dst with | some d => d == t | none => false
def looks (ops : List Oper) (o : Oper) : List Tmp :=
 (o.op.operands.toList.filterMap fun | .tmp t => some t | _ => none) ++
 (match o.guard with
   | some (j, _) => match ops[j]? with | some oj => oj.dst.toList | none => []
   | none => [])
def isDefer (o : Oper) : Bool := match o.op with | .defer _ => true | _ => false
def drawOk (P : Program) (ops : List Oper) : Bool :=
 let b := masks ops []
 let n := ops.length
 (List.range n).all fun i =>
   match ops[i]? with
   | none => false
   | some oi =>
     !isDefer oi && decide (b.getD i 0 < 2 ^ i) &&
     (oi.after.toList.all fun e => !Region.binds .any e || decide (e.on < i)) &&
     (List.range n).all fun j =>
       match ops[j]? with
       | none => false
       | some oj =>
         (match oj.dst with
           | none => true
           | some d => (i == j || !dstIs oi d) && ((looks ops oi).all fun t => !(t == d) || (i != j && ((b.getD i 0).testBit j || (b.getD j 0).testBit i)))) &&
         (!(decide (i < j) && cls P oi == 2 && cls P oj == 2) || (b.getD j 0).testBit i)
def guardB (ops : Array Oper) (o : Oper) (a : Act) : Option Bool :=
 match o.guard with
 | none => some true
 | some (j, want) =>
   match (ops[j]?).bind (·.dst) with
   | none => some false
   | some d =>
     match a.tmps[d]? with
     | some (.bool b) => some (b == want)
     | some (.tuple _) => some false
     | _ => none
def drawChk (P : Program) (ops : Array Oper) (tr : List (Act × Heap)) : Bool :=
 let b := masks ops.toList []
 let n := ops.toList.length
 (List.range n).all fun i =>
   match ops.toList[i]?, tr[i]?, tr[i + 1]? with
   | some oi, some ti, some tn =>
     if cls P oi = 1 ∧ guardB ops oi ti.1 = some true then
       (List.range n).all fun p =>
         match ops.toList[p]? with
         | some op =>
           if cls P op = 2 ∧ (b.getD i 0).testBit p = false ∧ (b.getD p 0).testBit i = false then
             match tr[p]?, tr[p + 1]?, oi.dst with
             | some tp, some tq, some d =>
               (match qval P ti.1.eval oi tp.2 with | some v => veq v (tn.1.tmps.getD d undef) | none => false) &&
               (match qval P ti.1.eval oi tq.2 with | some v => veq v (tn.1.tmps.getD d undef) | none => false)
             | _, _, _ => false
           else true
         | none => true
     else true
   | _, _, _ => false
def execTr (P : Program) (X : Xf) (K : Kf) (ops : Array Oper) : List Oper → Act → Heap → List (Act × Heap) → (List (Act × Heap) → Act → Heap → R) → R
 | [], a, H, tr, k => k (tr ++ [(a, H)]) a H
 | o :: rest, a, H, tr, k =>
   guardK ops o a (fun b => execOp1 P X K o b H (fun a' H' => execTr P X K ops rest a' H' (tr ++ [(b, H)]) k) (fun _ _ _ => none)) (fun b => execTr P X K ops rest (b.put o.dst undef) H (tr ++ [(b, H)]) k)
def loopC (body : Act → Heap → (Out → Act → Heap → R) → R) : Nat → Act → Heap → (Out → Act → Heap → R) → R
 | 0, _, _, _ => none
 | n + 1, a, H, k => body a H fun o a H => match o with | .norm => loopC body n a H k | o => k o a H
def hasLabel (l : Nat) : Code → Bool
 | .seq a b => hasLabel l a || hasLabel l b
 | .label l' => l' == l
 | _ => false
def scopeC (c : Code) (body : Option Nat → Act → Heap → (Out → Act → Heap → R) → R) : Nat → Option Nat → Act → Heap → (Out → Act → Heap → R) → R
 | 0, _, _, _, _ => none
 | n + 1, s, a, H, k => body s a H fun o a H => match o with | .goto l => cond (hasLabel l c) (scopeC c body n (some l) a H k) (k (.goto l) a H) | o => k o a H
def exec (P : Program) (X : Xf) (K : Kf) (N : Nat) : Code → Option Nat → Act → Heap → (Out → Act → Heap → R) → R
 | .seq x y, none, a, H, k => exec P X K N x none a H fun o a H => match o with | .norm => exec P X K N y none a H k | o => k o a H
 | .seq x y, some l, a, H, k => cond (hasLabel l x) (exec P X K N x (some l) a H fun o a H => match o with | .norm => exec P X K N y none a H k | o => k o a H) (exec P X K N y (some l) a H k)
 | .label l', some l, a, H, k => cond (l' == l) (k .norm a H) none
 | .label _, none, a, H, k => k .norm a H
 | .skip, none, a, H, k => k .norm a H
 | .region _ ops draw, none, a, H, k =>
   cond draw (cond (drawOk P ops.toList) (execTr P X K ops ops.toList a H [] fun tr af Hf => cond (drawChk P ops tr) (k .norm af Hf) none) none)
     (execOps P X K ops ops.toList a H (fun a H => k .norm a H) (fun c a H => k (.pan c) a H))
 | .cond c x y, none, a, H, k => match a.eval c with | .bool t => cond t (exec P X K N x none a H k) (exec P X K N y none a H k) | _ => none
 | .block id b, none, a, H, k => exec P X K N b none a H fun o a H => match o with | .exit i => cond (i == id) (k .norm a H) (k (.exit i) a H) | o => k o a H
 | .loop b, none, a, H, k => loopC (exec P X K N b none) N a H k
 | .exit id, none, a, H, k => k (.exit id) a H
 | .scope b, none, a, H, k => scopeC b (exec P X K N b) N none a H k
 | .goto l, none, a, H, k => k (.goto l) a H
 | .ret, none, a, H, k => k .ret a H
 | _, _, _, _, _ => none
end Go.Aw
namespace Go.Aw
variable {P : Program} {m : Mp} {H : Heap} {w : World}
theorem makeMapA_sound {H' : Heap} (h : Rel m H w) {t : TypeId} {x x' : Option Value} (hn : x = none → x' = none) (hx : ∀ y, x = some y → ∃ y', x' = some y' ∧ VR m y y') {v : Value} (he : makeMapA P t x H = some (v, H')) :
   Snd P (Instr.makeMap t x') m H w v H' := by
 unfold makeMapA at he; cases he
theorem lookupA_sound (h : Rel m H w) {t : TypeId} {x x' k k' v : Value} {ok : Bool} (hx : VR m x x') (hk : VR m k k') (he : lookupA P t x k ok H = some v) :
   Snd P (Instr.lookup t x' k' ok) m H w v H := by
 unfold lookupA at he; cases he
theorem mapUpdateA_sound {H' : Heap} (h : Rel m H w) {t : TypeId} {x x' k k' u u' v : Value} (hx : VR m x x') (hk : VR m k k') (hv : VR m u u') (he : mapUpdateA P t x k u H = some (v, H')) :
   v = undef ∧ ∃ m' w', (Instr.mapUpdate t x' k' u').run P w = .ok () w' ∧ Step m H w m' H' w' := by
 unfold mapUpdateA at he; cases he
end Go.Aw
