/- Soundness of single operations within a run. -/
import Derived.Test.YtmliebodadgpbaaGreatDoorM15
import Derived.Laws.Small
import Derived.ScopeJumps
import Derived.Orders
namespace Go.Aw
variable {P : Program} {m m' : Mp} {a' : Act} {ρ ρ' : Operand → Value}
def Gl (P : Program) (m : Mp) : Prop := ∀ g, g < P.globals.size → ∃ L, m g = some L ∧ L.c = g ∧ L.base = 0
theorem Gl.mono (h : Gl P m) (hm : m.le m') : Gl P m' := fun g hg => let ⟨L, a, b⟩ := h g hg; ⟨L, hm _ _ a, b⟩
def PanR (m : Mp) (c c' : List PanicEntry) : Prop := c.length = c'.length ∧ ∀ i (a : i < c.length) (b : i < c'.length), VR m c[i].v c'[i].v ∧ c[i].recovered = c'[i].recovered ∧ c[i].goexit = c'[i].goexit
theorem PanR.mono (hm : m.le m') {c c' : List PanicEntry} (h : PanR m c c') : PanR m' c c' := ⟨h.1, fun i a b => ⟨(h.2 i a b).1.mono hm, (h.2 i a b).2⟩⟩
def DR (m : Mp) (d d' : Deferred) : Prop := ∃ fn cap cap', d.target = .fn fn cap ∧ d'.target = .fn fn cap' ∧ VRa m cap cap' ∧ VRa m d.args d'.args
theorem DR.mono (hm : m.le m') {d d' : Deferred} (h : DR m d d') : DR m' d d' := let ⟨fn, c, c', a, b, x, y⟩ := h; ⟨fn, c, c', a, b, x.mono hm, y.mono hm⟩
inductive DRs (m : Mp) : List Deferred → List Deferred → Prop where
 | nil : DRs m [] []
 | cons {d d' : Deferred} {l l' : List Deferred} (h : DR m d d') (t : DRs m l l') : DRs m (d :: l) (d' :: l')
theorem DRs.mono (hm : m.le m') {l l' : List Deferred} (h : DRs m l l') : DRs m' l l' := by
 induction h with
 | nil => exact .nil
 | cons h _ ih => exact .cons (h.mono hm) ih
structure ActR (m : Mp) (a a' : Act) : Prop where
 tmps : VRa m a.tmps a'.tmps
 defers : DRs m a.defers a'.defers
theorem ActR.mono (hm : m.le m') {a a' : Act} (h : ActR m a a') : ActR m' a a' := ⟨h.tmps.mono hm, h.defers.mono hm⟩
theorem ActR.put {a : Act} (h : ActR m a a') (dst : Option Tmp) {v v' : Value} (hv : VR m v v') : ActR m (a.put dst v) (a'.put dst v') := by
 cases dst with
 | none => exact h
 | some d => exact ⟨h.tmps.set d hv, h.defers⟩
def EndR (m : Mp) : End → Ending → Prop
 | .ret v, .returned v' => VR m v v'
 | .pan c, .panicked c' => PanR m c c'
 | _, _ => False
def KSnd (P : Program) (K : Kf) : Prop := ∀ f args H r H', K f args H = some (r, H') → ∀ m w args', Rel m H w → Gl P m → VRa m args args' →
 Calls P f args' w fun e w' => ∃ m', EndR m' r e ∧ Step m H w m' H' w'
def XSnd (P : Program) (X : Xf) : Prop := ∀ f args H v H', X f args H = some (v, H') → ∀ m w args', Rel m H w → Gl P m → VRa m args args' →
 ∃ m' v' w', (callFunc f args').run P w = .ok (.value v') w' ∧ VR m' v v' ∧ Step m H w m' H' w'
theorem yc6 {a : Act} (h : ActR m a a') (hg : Gl P m) {x : Operand} (hx : operandOk P x = true) : VR m (a.eval x) (a'.eval x) := by
 cases x with
 | tmp t => exact h.tmps.getD t (.undef m)
 | const v => exact .of_ground hx
 | global g =>
   have hlt : g < P.globals.size := by simpa [operandOk] using hx
   obtain ⟨L, h1, h2, h3⟩ := hg g hlt
   have := VR.ptr (m := m) g 0 L h1
   rw [h2, h3] at this
   exact this
 | func f => exact .func (.func f) #[] #[] #[] #[] rfl rfl (fun i h => absurd h (by simp)) (fun i h => absurd h (by simp))
structure Goes (P : Program) (o : Oper) (a' : Act) (m : Mp) (H : Heap) (w : World) (k : Value → Heap → R) (kp : List PanicEntry → Heap → R) (r : End × Heap)
   (next : Act → World → Prop) (Q : Exit → Act → World → Prop) : Prop where
 val : ∀ m' v v' H' w', VR m' v v' → Step m H w m' H' w' → k v H' = some r → next (a'.put o.dst v') w'
 pan : ∀ m' c c' H' w', PanR m' c c' → Step m H w m' H' w' → kp c H' = some r → Q (.panic c') a' w'
theorem upon_of_snd {o : Oper} {H : Heap} {w : World} {k : Value → Heap → R} {kp : List PanicEntry → Heap → R} {r : End × Heap} {next : Act → World → Prop} {Q : Exit → Act → World → Prop}
   (hg : Goes P o a' m H w k kp r next Q) {s : Sem Value} (he : execOp a'.eval o = (do Pure.pure (.value (← s)))) {v : Value} {H' : Heap} (hs : Snd P s m H w v H') (hk : k v H' = some r) :
   o.upon P a' next Q ((execOp a'.eval o).run P w) := by
 obtain ⟨m', v', w', h1, h2, h3⟩ := hs
 rw [he, Sem.run_bind, h1]
 exact hg.val m' v v' H' w' h2 h3 hk
theorem VRp_map {ρ ρ' : Operand → Value} {parts : Array (Nat × Operand)} (h : ∀ x ∈ (parts.toList.map (·.2)), VR m (ρ x) (ρ' x)) :
   VRp m (parts.map fun (i, x) => (i, ρ x)).toList (parts.map fun (i, x) => (i, ρ' x)).toList := by
 refine ⟨by simp, fun i a b => ?_⟩
 simp only [Array.toList_map, List.getElem_map, Array.getElem_toList, true_and]
 refine h _ (List.mem_map.2 ⟨parts[i]'(by simpa using a), by simp, rfl⟩)
theorem VRa_map {ρ ρ' : Operand → Value} {xs : Array Operand} (h : ∀ x ∈ xs.toList, VR m (ρ x) (ρ' x)) : VRa m (xs.map ρ) (xs.map ρ') :=
 ⟨by simp, fun i a b => by simp only [Array.getElem_map]; exact h _ (by simp)⟩
theorem VRo_map {ρ ρ' : Operand → Value} {x : Option Operand} (h : ∀ y ∈ x.toList, VR m (ρ y) (ρ' y)) : VRo m (x.map ρ) (x.map ρ') := by
 cases x with
 | none => trivial
 | some y => exact h y (by simp)
theorem j0q {X : Xf} {K : Kf} (hX : XSnd P X) (hK : KSnd P K) {o : Oper} {a' : Act} {m : Mp} {H : Heap} {w : World} (h : Rel m H w) (hgl : Gl P m)
   {k : Value → Heap → R} {kp : List PanicEntry → Heap → R} {r : End × Heap} {next : Act → World → Prop} {Q : Exit → Act → World → Prop} (hg : Goes P o a' m H w k kp r next Q)
   {f : FuncId} {args args' : Array Value} (hargs : VRa m args args') (he : callK P X K f args H k kp = some r) :
   o.upon P a' next Q ((callFunc f args').run P w) := by
 unfold callK at he
 split at he
 · rename_i fn hf
   by_cases hn : (fn.name == "runtime.NumGoroutine") = true
   · rw [if_pos hn] at he; simp at he
   · rw [if_neg hn] at he
     by_cases hb : fn.body.isNone = true
     · rw [if_pos hb] at he
       obtain ⟨v, H', hx, hk⟩ := jb0 he
       obtain ⟨m', v', w', h1, h2, h3⟩ := hX f args H v H' hx m w args' h hgl hargs
       rw [h1]
       exact hg.val m' v v' H' w' h2 h3 hk
     · rw [if_neg hb] at he
       have hrun : (callFunc f args').run P w = .ok (.enter f args') w := by
         unfold callFunc
         simp only [Sem.run_bind, run_program, Result.andThen_ok, hf]
         rw [if_neg hn, if_neg hb]
         rfl
       rw [hrun, Oper.upon_enter]
       unfold bindR at he
       split at he
       · rename_i v H' hk
         refine (hK f args H _ _ hk m w args' h hgl hargs).mono fun e w' ⟨m', h1, h2⟩ => ?_
         cases e with
         | returned v' => exact hg.val m' v v' H' w' h1 h2 he
         | panicked c' => exact h1.elim
         | outgrown => exact h1.elim
       · rename_i c H' hk
         refine (hK f args H _ _ hk m w args' h hgl hargs).mono fun e w' ⟨m', h1, h2⟩ => ?_
         cases e with
         | returned v' => exact h1.elim
         | panicked c' => exact hg.pan m' c c' H' w' h1 h2 he
         | outgrown => exact h1.elim
       · simp at he
 · simp at he
theorem jq8 {o : Oper} {H : Heap} {w : World} (h : Rel m H w)
   {k : Value → Heap → R} {kp : List PanicEntry → Heap → R} {r : End × Heap} {next : Act → World → Prop} {Q : Exit → Act → World → Prop} (hg : Goes P o a' m H w k kp r next Q)
   {b : Builtin} {ts : Array TypeId} {ty : TypeId} {cs : Array Bool} {args args' : Array Value} (hargs : VRa m args args') (he : builtinK P b ts args H k = some r) :
   o.upon P a' next Q ((builtin b ts ty cs args').run P w) := by
 have hl := hargs.toList
 obtain ⟨args⟩ := args
 obtain ⟨args'⟩ := args'
 simp only at hl
 have fin : ∀ {s : Sem Value} {v : Value} {H' : Heap}, Snd P s m H w v H' → k v H' = some r → o.upon P a' next Q ((do Pure.pure (Next.value (← s)) : Sem Next).run P w) := by
   intro s v H' hs hk
   obtain ⟨m', v', w', h1, h2, h3⟩ := hs
   rw [Sem.run_bind, h1]
   exact hg.val m' v v' H' w' h2 h3 hk
 unfold builtinK at he
 split at he
 · rename_i x hx
   simp only at hx; subst hx
   match args', hl with
   | [x'], hl =>
     split at he
     · rename_i t ht
       obtain ⟨v, hv, hk⟩ := jb1 he
       exact fin (lenA_sound h ht hl.head hv) hk
     · simp at he
   | [], hl => have := hl.1; simp at this
   | _ :: _ :: _, hl => have := hl.1; simp at this
 · rename_i x y hx
   simp only at hx; subst hx
   match args', hl with
   | [x', y'], hl =>
     by_cases h2 : ts.size = 2
     · rw [if_pos h2] at he
       obtain ⟨v, H', hv, hk⟩ := jb0 he
       exact fin (appendA_sound h h2 hl.head hl.tail.head hv) hk
     · rw [if_neg h2] at he; simp at he
   | [], hl => have := hl.1; simp at this
   | [_], hl => have := hl.1; simp at this
   | _ :: _ :: _ :: _, hl => have := hl.1; simp at this
 · rename_i x y hx
   simp only at hx; subst hx
   match args', hl with
   | [x', y'], hl =>
     obtain ⟨v, H', hv, hk⟩ := jb0 he
     exact fin (copyA_sound h hl.head hl.tail.head hv) hk
   | [], hl => have := hl.1; simp at this
   | [_], hl => have := hl.1; simp at this
   | _ :: _ :: _ :: _, hl => have := hl.1; simp at this
 · rename_i ka a kb b hx
   simp only at hx; subst hx
   match args', hl with
   | [x', y'], hl =>
     have e1 := hl.head.int_inv; have e2 := hl.tail.head.int_inv
     subst e1; subst e2
     by_cases hkk : ka = kb
     · rw [if_pos hkk] at he
       subst hkk
       refine fin (s := Builtin.min_ ts ty #[.int ka a, .int ka b]) (.pure h ?_ (.int m ka _)) he
       rw [run_min_int2]
     · rw [if_neg hkk] at he; simp at he
   | [], hl => have := hl.1; simp at this
   | [_], hl => have := hl.1; simp at this
   | _ :: _ :: _ :: _, hl => have := hl.1; simp at this
 · rename_i ka a kb b hx
   simp only at hx; subst hx
   match args', hl with
   | [x', y'], hl =>
     have e1 := hl.head.int_inv; have e2 := hl.tail.head.int_inv
     subst e1; subst e2
     by_cases hkk : ka = kb
     · rw [if_pos hkk] at he
       subst hkk
       refine fin (s := Builtin.max_ ts ty #[.int ka a, .int ka b]) (.pure h ?_ (.int m ka _)) he
       rw [run_max_int2]
     · rw [if_neg hkk] at he; simp at he
   | [], hl => have := hl.1; simp at this
   | [_], hl => have := hl.1; simp at this
   | _ :: _ :: _ :: _, hl => have := hl.1; simp at this
 · simp at he
end Go.Aw
namespace Go.Aw
theorem j2u {P : Program} {o : Oper} {a' : Act} {m : Mp} {H : Heap} {w : World} (h : Rel m H w)
   {ρ : Operand → Value} (hρ : ∀ x ∈ o.op.operands.toList, VR m (ρ x) (a'.eval x))
   {k : Value → Heap → R} {kp : List PanicEntry → Heap → R} {r : End × Heap} {next : Act → World → Prop} {Q : Exit → Act → World → Prop} (hg : Goes P o a' m H w k kp r next Q)
   (he : mapK P ρ o.op H k = some r) : o.upon P a' next Q ((execOp a'.eval o).run P w) := by
 unfold mapK at he
 split at he
 · rename_i t hint ho
   obtain ⟨v, H', hv, hk⟩ := jb0 he
   refine upon_of_snd (s := Instr.makeMap t (hint.map a'.eval)) hg (by simp only [execOp, ho]) (makeMapA_sound h (fun e => ?_) (fun y e => ?_) hv) hk
   · cases hint with
     | none => rfl
     | some x => cases e
   · cases hint with
     | none => cases e
     | some x =>
       simp only [Option.map_some, Option.some.injEq] at e
       subst e
       exact ⟨_, rfl, hρ x (by simp [ho, Op.operands])⟩
 · rename_i t x i ok ho
   have hx := hρ x (by simp [ho, Op.operands])
   have hi := hρ i (by simp [ho, Op.operands])
   obtain ⟨v, hv, hk⟩ := jb1 he
   exact upon_of_snd (s := Instr.lookup t (a'.eval x) (a'.eval i) ok) hg (by simp only [execOp, ho]) (lookupA_sound h hx hi hv) hk
 · rename_i t x i y ho
   have hx := hρ x (by simp [ho, Op.operands])
   have hi := hρ i (by simp [ho, Op.operands])
   have hy := hρ y (by simp [ho, Op.operands])
   obtain ⟨v, H', hv, hk⟩ := jb0 he
   obtain ⟨rfl, m', w', h1, h2⟩ := mapUpdateA_sound h hx hi hy hv
   have hex : (execOp a'.eval o).run P w = .ok .skip w' := by simp only [execOp, ho, Sem.run_bind, h1, Result.andThen_ok, Sem.run_pure]
   rw [hex]
   exact hg.val m' _ _ H' w' (.undef m') h2 hk
 · cases he
theorem jp8 {P : Program} {X : Xf} {K : Kf} (hX : XSnd P X) (hK : KSnd P K) {o : Oper} {a' : Act} {m : Mp} {H : Heap} {w : World} (h : Rel m H w) (hgl : Gl P m)
   {ρ : Operand → Value} (hρ : ∀ x ∈ o.op.operands.toList, VR m (ρ x) (a'.eval x))
   {k : Value → Heap → R} {kp : List PanicEntry → Heap → R} {r : End × Heap} {next : Act → World → Prop} {Q : Exit → Act → World → Prop} (hg : Goes P o a' m H w k kp r next Q)
   (he : opK P X K ρ o H k kp = some r) : o.upon P a' next Q ((execOp a'.eval o).run P w) := by
 unfold opK at he
 split at he
 · rename_i x ho
   have hx := hρ x (by simp [ho, Op.operands])
   rw [show execOp a'.eval o = Pure.pure (.value (a'.eval x)) by simp only [execOp, ho]]
   exact hg.val m _ _ H w hx (.refl h) he
 · rename_i x ho
   have hx := hρ x (by simp [ho, Op.operands])
   rw [show execOp a'.eval o = Pure.pure (.value (a'.eval x)) by simp only [execOp, ho]]
   exact hg.val m _ _ H w hx (.refl h) he
 · rename_i c x y ho
   have hc := hρ c (by simp [ho, Op.operands])
   have hx := hρ x (by simp [ho, Op.operands])
   have hy := hρ y (by simp [ho, Op.operands])
   split at he
   · rename_i t ht
     rw [ht] at hc
     have hc' := hc.bool_inv
     rw [show (execOp a'.eval o).run P w = .ok (.value (if t then a'.eval x else a'.eval y)) w by simp only [execOp, ho, Sem.run_bind, hc', asBool, Sem.run_pure, Result.andThen_ok]]
     refine hg.val m _ _ H w ?_ (.refl h) he
     rw [pickV_eq]; cases t <;> assumption
   · simp at he
 · rename_i e ho
   obtain ⟨v, H', hv, hk⟩ := jb0 he
   exact upon_of_snd hg (by simp only [execOp, ho]) (allocA_sound h hv) hk
 · rename_i e x ho
   have hx := hρ x (by simp [ho, Op.operands])
   obtain ⟨v, H', hv, hk⟩ := jb0 he
   exact upon_of_snd hg (by simp only [execOp, ho]) (boxA_sound h hx hv) hk
 · rename_i t parts ho
   obtain ⟨v, hv, hk⟩ := jb1 he
   refine upon_of_snd hg (by simp only [execOp, ho]) (buildA_sound h (VRp_map (fun x hx => hρ x ?_)) hv) hk
   simp only [ho, Op.operands]; exact hx
 · rename_i t len parts ho
   obtain ⟨v, H', hv, hk⟩ := jb0 he
   refine upon_of_snd hg (by simp only [execOp, ho]) (buildSliceA_sound h (VRp_map (fun x hx => hρ x ?_)) hv) hk
   simp only [ho, Op.operands]; exact hx
 · rename_i t x ho
   have hx := hρ x (by simp [ho, Op.operands])
   obtain ⟨v, H', hv, hk⟩ := jb0 he
   exact upon_of_snd hg (by simp only [execOp, ho]) (loadA_sound h hx hv) hk
 · rename_i t x y ho
   have hx := hρ x (by simp [ho, Op.operands])
   have hy := hρ y (by simp [ho, Op.operands])
   obtain ⟨v, H', hv, hk⟩ := jb0 he
   obtain ⟨rfl, m', w', h1, h2⟩ := storeA_sound h hx hy hv
   have hex : (execOp a'.eval o).run P w = .ok .skip w' := by simp only [execOp, ho, Sem.run_bind, h1, Result.andThen_ok, Sem.run_pure]
   rw [hex]
   exact hg.val m' _ _ H' w' (.undef m') h2 hk
 · rename_i x ho
   have hx := hρ x (by simp [ho, Op.operands])
   obtain ⟨v, hv, hk⟩ := jb1 he
   obtain ⟨v', h1, h2⟩ := nilCheckA_sound (P := P) (w := w) ho hx hv
   rw [h1]
   exact hg.val m v v' H w h2 (.refl h) hk
 · rename_i op t x y yt ho
   have hx := hρ x (by simp [ho, Op.operands])
   have hy := hρ y (by simp [ho, Op.operands])
   obtain ⟨v, hv, hk⟩ := jb1 he
   unfold groundK at hk
   by_cases hgr : ground v = true
   · rw [if_pos hgr] at hk
     exact upon_of_snd hg (by simp only [execOp, ho]) (binA_sound h hx hy hv hgr) hk
   · rw [if_neg hgr] at hk; simp at hk
 · rename_i op t x ho
   have hx := hρ x (by simp [ho, Op.operands])
   obtain ⟨v, hv, hk⟩ := jb1 he
   unfold groundK at hk
   by_cases hgr : ground v = true
   · rw [if_pos hgr] at hk
     exact upon_of_snd hg (by simp only [execOp, ho]) (unA_sound h hx hv hgr) hk
   · rw [if_neg hgr] at hk; simp at hk
 · rename_i s d x ho
   have hx := hρ x (by simp [ho, Op.operands])
   obtain ⟨v, H', hv, hk⟩ := jb0 he
   exact upon_of_snd hg (by simp only [execOp, ho]) (convertA_sound h hx hv) hk
 · rename_i t x ho
   have hx := hρ x (by simp [ho, Op.operands])
   split at he
   · simp at he
   · rename_i d hu hni
     have hrun : (Instr.makeInterface t (a'.eval x)).run P w = .ok (.iface t (a'.eval x)) w := by
       simp only [Instr.makeInterface, Sem.run_bind]
       first
         | (rw [run_und hu, Result.andThen_ok]; cases d <;> first | rfl | exact absurd rfl (hni _))
         | (rw [run_und hni, Result.andThen_ok]; cases d <;> first | rfl | exact absurd rfl (hu _))
     exact upon_of_snd hg (by simp only [execOp, ho]) (.pure h hrun (.iface t _ _ hx)) he
   · simp at he
 · rename_i fn first cap ho
   have h1 : VRa m (first.map ρ) (first.map a'.eval) := VRa_map (fun x hx => hρ x (by simp [ho, Op.operands]; exact .inl (by simpa using hx)))
   have h2 : VRa m (cap.map ρ) (cap.map a'.eval) := VRa_map (fun x hx => hρ x (by simp [ho, Op.operands]; exact .inr (by simpa using hx)))
   exact upon_of_snd hg (s := Instr.makeFunc fn (first.map a'.eval) (cap.map a'.eval)) (by simp only [execOp, ho]) (.pure h rfl (.func fn _ _ _ _ h1.1 h2.1 h1.2 h2.2)) he
 · rename_i t x y ho
   have hx := hρ x (by simp [ho, Op.operands])
   have hy := hρ y (by simp [ho, Op.operands])
   obtain ⟨v, H', hv, hk⟩ := jb0 he
   exact upon_of_snd hg (by simp only [execOp, ho]) (makeSliceA_sound h hx hy hv) hk
 · rename_i t x lo hi mx ho
   have hx := hρ x (by simp [ho, Op.operands])
   obtain ⟨v, hv, hk⟩ := jb1 he
   refine upon_of_snd hg (by simp only [execOp, ho]) (sliceOpA_sound h hx (VRo_map fun y hy => hρ y ?_) (VRo_map fun y hy => hρ y ?_) (VRo_map fun y hy => hρ y ?_) hv) hk
   · simp [ho, Op.operands] at hy ⊢; simp [hy]
   · simp [ho, Op.operands] at hy ⊢; simp [hy]
   · simp [ho, Op.operands] at hy ⊢; simp [hy]
 · rename_i s x f ho
   have hx := hρ x (by simp [ho, Op.operands])
   obtain ⟨v, hv, hk⟩ := jb1 he
   exact upon_of_snd hg (by simp only [execOp, ho]) (fieldAddrA_sound h hx hv) hk
 · rename_i t x f ho
   have hx := hρ x (by simp [ho, Op.operands])
   obtain ⟨v, hv, hk⟩ := jb1 he
   exact upon_of_snd hg (by simp only [execOp, ho]) (fieldA_sound h hx hv) hk
 · rename_i t x y ho
   have hx := hρ x (by simp [ho, Op.operands])
   have hy := hρ y (by simp [ho, Op.operands])
   obtain ⟨v, hv, hk⟩ := jb1 he
   exact upon_of_snd hg (by simp only [execOp, ho]) (indexAddrA_sound h hx hy hv) hk
 · rename_i t x y ho
   have hx := hρ x (by simp [ho, Op.operands])
   have hy := hρ y (by simp [ho, Op.operands])
   obtain ⟨v, hv, hk⟩ := jb1 he
   exact upon_of_snd hg (by simp only [execOp, ho]) (indexA_sound h hx hy hv) hk
 · rename_i x i ho
   have hx := hρ x (by simp [ho, Op.operands])
   obtain ⟨v, hv, hk⟩ := jb1 he
   exact upon_of_snd hg (by simp only [execOp, ho]) (extractA_sound h hx hv) hk
 · rename_i t x ho
   have hx := hρ x (by simp [ho, Op.operands])
   obtain ⟨v, H', hv, hk⟩ := jb0 he
   exact upon_of_snd hg (by simp only [execOp, ho]) (rangeA_sound h hx hv) hk
 · rename_i x str ho
   have hx := hρ x (by simp [ho, Op.operands])
   obtain ⟨v, H', hv, hk⟩ := jb0 he
   exact upon_of_snd hg (by simp only [execOp, ho]) (nextA_sound (t := o.type) h hx hv) hk
 · rename_i x t u ok ho
   have hx := hρ x (by simp [ho, Op.operands])
   obtain ⟨v, hv, hk⟩ := jb1 he
   exact upon_of_snd hg (by simp only [execOp, ho]) (assertA_sound h hx hv) hk
 · rename_i x ho
   have hx := hρ x (by simp [ho, Op.operands])
   split at he
   · rename_i t v hv
     rw [hv] at hx
     generalize hz : a'.eval x = z at hx
     cases hx with
     | atom _ hh => simp [atomic] at hh
     | iface _ _ v' hv' =>
       have hex : (execOp a'.eval o).run P w = .halt (.panic (.iface t v')) w := by
         simp only [execOp, ho, hz, Instr.panic, Sem.run_bind, run_goPanic, Result.andThen_halt]
       rw [hex]
       refine hg.pan m _ [{ v := .iface t v', recovered := false }] H w ?_ (.refl h) he
       refine ⟨rfl, fun i a b => ?_⟩
       have : i = 0 := by simp at a; omega
       subst this
       exact ⟨.iface t _ _ hv', rfl, rfl⟩
   · simp at he
 · rename_i c ho
   have hargs : VRa m (c.args.map ρ) (c.args.map a'.eval) := VRa_map (fun x hx => hρ x (by simp only [ho, Op.operands, Call.operands]; simp at hx ⊢; exact .inr hx))
   split at he
   · rename_i b hb
     have hex : execOp a'.eval o = builtin b c.argTypes o.type (c.args.map fun | .const _ => true | _ => false) (c.args.map a'.eval) := by
       simp only [execOp, ho, resolve, hb]
       rfl
     rw [hex]
     exact jq8 h hg hargs he
   · rename_i f hf
     have hfv := hρ f (by simp [ho, Op.operands, Call.operands, hf])
     split at he
     · rename_i g first cap hgv
       rw [hgv] at hfv
       generalize hz : a'.eval f = z at hfv
       cases hfv with
       | atom _ hh => simp [atomic] at hh
       | func _ _ first' _ cap' q1 q2 q3 q4 =>
         have hex : execOp a'.eval o = callFunc g (first' ++ c.args.map a'.eval ++ cap') := by
           simp only [execOp, ho, resolve, hf, hz, Deferred.ofValue]
           rfl
         rw [hex]
         exact j0q hX hK h hgl hg ((VRa.append ⟨q1, q3⟩ hargs).append ⟨q2, q4⟩) he
     · simp at he
   · simp at he
 · exact j2u h hρ hg he
end Go.Aw
namespace Go.Aw
variable {P : Program} {m m1 : Mp} {a a' : Act} {H H1 : Heap} {w w1 : World} {X : Xf} {K : Kf} {r : End × Heap} {c : Code}
structure StR (P : Program) (m : Mp) (a : Act) (H : Heap) (a' : Act) (w : World) : Prop where
 act : ActR m a a'
 rel : Rel m H w
 gl : Gl P m
theorem StR.step {m' : Mp} {H' : Heap} {w' : World} (h : StR P m a H a' w) (hs : Step m H w m' H' w') : StR P m' a H' a' w' :=
 ⟨h.act.mono hs.later.1, hs.rel, h.gl.mono hs.later.1⟩
theorem StR.put (h : StR P m a H a' w) (dst : Option Tmp) {v v' : Value} (hv : VR m v v') : StR P m (a.put dst v) H (a'.put dst v') w :=
 ⟨h.act.put dst hv, h.rel, h.gl⟩
def After (P : Program) (m : Mp) (H : Heap) (w : World) (k : Act → Heap → Prop) (a' : Act) (w' : World) : Prop :=
 ∃ m' a H', StR P m' a H' a' w' ∧ Step m H w m' H' w' ∧ k a H'
theorem After.mono {k k' : Act → Heap → Prop} (hs : Step m H w m1 H1 w1) (hk : ∀ a H, k a H → k' a H) {a' : Act} {w' : World} (h : After P m1 H1 w1 k a' w') :
   After P m H w k' a' w' := let ⟨m', a, H', x, y, z⟩ := h; ⟨m', a, H', x, hs.trans y, hk _ _ z⟩
def AfterP (P : Program) (m : Mp) (H : Heap) (w : World) (c' : List PanicEntry) (k : List PanicEntry → Act → Heap → Prop) (a' : Act) (w' : World) : Prop :=
 ∃ m' c a H', PanR m' c c' ∧ StR P m' a H' a' w' ∧ Step m H w m' H' w' ∧ k c a H'
theorem AfterP.mono {c' : List PanicEntry} {k k' : List PanicEntry → Act → Heap → Prop} (hs : Step m H w m1 H1 w1) (hk : ∀ c a H, k c a H → k' c a H) {a' : Act} {w' : World} (h : AfterP P m1 H1 w1 c' k a' w') :
   AfterP P m H w c' k' a' w' := let ⟨m', c, a, H', p, x, y, z⟩ := h; ⟨m', c, a, H', p, x, hs.trans y, hk _ _ _ z⟩
theorem jj2 (hX : XSnd P X) (hK : KSnd P K) {o : Oper} {a a' : Act} {m : Mp} {H : Heap} {w : World} (h : StR P m a H a' w)
   {k : Act → Heap → R} {kp : List PanicEntry → Act → Heap → R} {r : End × Heap} (he : execOp1 P X K o a H k kp = some r) {next : Act → World → Prop} {Q : Exit → Act → World → Prop}
   (hn : ∀ b' w', After P m H w (fun b H' => k b H' = some r) b' w' → next b' w')
   (hp : ∀ c' b' w', AfterP P m H w c' (fun c b H' => kp c b H' = some r) b' w' → Q (.panic c') b' w') : o.wp P a' w next Q := by
 unfold execOp1 at he
 cases hok : opOk P o with
 | false => rw [hok] at he; simp at he
 | true =>
   rw [hok] at he
   simp only [cond_true] at he
   have hρ : ∀ x ∈ o.op.operands.toList, VR m (a.eval x) (a'.eval x) := fun x hx => yc6 h.act h.gl (List.all_eq_true.1 hok x hx)
   unfold Oper.wp
   split at he
   · rename_i c ho
     split at he
     · rename_i d hd
       unfold deferOf at hd
       split at hd
       · rename_i f hf
         split at hd
         · rename_i fn first cap hgv
           simp only [Option.some.injEq] at hd; subst hd
           have hfv := hρ f (by simp [ho, Op.operands, Call.operands, hf])
           rw [hgv] at hfv
           generalize hz : a'.eval f = z at hfv
           have hargs : VRa m (c.args.map a.eval) (c.args.map a'.eval) := VRa_map (fun x hx => hρ x (by simp only [ho, Op.operands, Call.operands]; simp at hx ⊢; exact .inr hx))
           cases hfv with
           | atom _ hh => simp [atomic] at hh
           | func _ _ first' _ cap' q1 q2 q3 q4 =>
             have hex : (execOp a'.eval o).run P w = .ok (.defer { target := .fn fn cap', args := first' ++ c.args.map a'.eval }) w := by
               simp only [execOp, ho, resolve, hf, hz, Deferred.ofValue]
               rfl
             rw [hex, Oper.upon_defer]
             refine hn _ _ ⟨m, _, H, ?_, .refl h.rel, he⟩
             refine ⟨?_, h.rel, h.gl⟩
             refine ActR.put (a := { a with defers := _ :: a.defers }) (a' := { a' with defers := _ :: a'.defers }) ⟨h.act.tmps, .cons ?_ h.act.defers⟩ o.dst (.undef m)
             exact ⟨fn, cap, cap', rfl, rfl, ⟨q2, q4⟩, VRa.append ⟨q1, q3⟩ hargs⟩
         · simp at hd
       · simp at hd
     · simp at he
   · refine jp8 hX hK h.rel h.gl hρ ⟨?_, ?_⟩ he
     · intro m' v v' H' w' hv hs hk
       exact hn _ _ ⟨m', a.put o.dst v, H', (h.step hs).put o.dst hv, hs, js7 hk⟩
     · intro m' c c' H' w' hc hs hk
       exact hp _ _ _ ⟨m', c, a, H', hc, h.step hs, hs, hk⟩
theorem jl6 {ops : Array Oper} {o : Oper} (h : StR P m a H a' w) {run skip : Act → R} {r : End × Heap} (he : guardK ops o a run skip = some r) :
   ∃ b, StR P m b H a' w ∧ ((Region.wanted o (yielded ops a'.tmps) = true ∧ run b = some r) ∨ (Region.wanted o (yielded ops a'.tmps) = false ∧ skip b = some r)) := by
 unfold guardK at he
 split at he
 · rename_i hgd
   exact ⟨a, h, .inl ⟨by simp [Region.wanted, hgd], he⟩⟩
 · rename_i j want hgd
   split at he
   · rename_i hd
     refine ⟨a, h, .inr ⟨?_, he⟩⟩
     simp [Region.wanted, hgd, yielded, hd]
   · rename_i d hd
     have hsz := h.act.tmps.1
     split at he
     · rename_i b hb
       obtain ⟨hlt, hb2⟩ := Array.getElem?_eq_some_iff.1 hb
       have hlt' : d < a'.tmps.size := hsz ▸ hlt
       have hv := h.act.tmps.2 d hlt hlt'
       rw [hb2] at hv
       have hv' := hv.bool_inv
       have hy : yielded ops a'.tmps j = some b := by
         simp [yielded, hd, hlt', hv']
       rw [jp7] at he
       have hset : StR P m { a with tmps := a.tmps.setIfInBounds d (.bool b) } H a' w := by
         refine ⟨⟨?_, h.act.defers⟩, h.rel, h.gl⟩
         refine ⟨by simpa using hsz, fun i x y => ?_⟩
         have x' : i < a.tmps.size := by simpa using x
         by_cases e : d = i
         · subst e
           have : (a.tmps.setIfInBounds d (.bool b))[d] = .bool b := by simp
           rw [this, hv']; exact .bool m b
         · have : (a.tmps.setIfInBounds d (.bool b))[i] = a.tmps[i] := by simp [e, x']
           rw [this]; exact h.act.tmps.2 i x' y
       refine ⟨_, hset, ?_⟩
       cases hw : (b == want) with
       | true =>
         rw [hw] at he
         have := eq_of_beq hw; subst this
         exact .inl ⟨by simp [Region.wanted, hgd, hy], he⟩
       | false =>
         rw [hw] at he
         refine .inr ⟨?_, he⟩
         have : b ≠ want := by intro e; subst e; simp at hw
         simp [Region.wanted, hgd, hy, this]
     · rename_i vs hb
       obtain ⟨hlt, hb2⟩ := Array.getElem?_eq_some_iff.1 hb
       have hlt' : d < a'.tmps.size := hsz ▸ hlt
       have hv := h.act.tmps.2 d hlt hlt'
       rw [hb2] at hv
       obtain ⟨vs', hv', _⟩ := hv.tuple_inv
       refine ⟨a, h, .inr ⟨?_, he⟩⟩
       simp [Region.wanted, hgd, yielded, hd, hlt', hv']
     · simp at he
theorem jw0 (hX : XSnd P X) (hK : KSnd P K) {ops : Array Oper} {r : End × Heap} {k : Act → Heap → R} {kp : List PanicEntry → Act → Heap → R} {Q : Exit → Act → World → Prop} :
   ∀ (l : List Oper) (n : Nat) (_ : l = ops.toList.drop n) {a a' : Act} {m : Mp} {H : Heap} {w : World}, StR P m a H a' w → execOps P X K ops l a H k kp = some r →
   (∀ b' w', After P m H w (fun b H' => k b H' = some r) b' w' → Q .normal b' w') →
   (∀ c' b' w', AfterP P m H w c' (fun c b H' => kp c b H' = some r) b' w' → Q (.panic c') b' w') →
   wpOps P ops Q ((List.range ops.size).drop n) a' w := by
 intro l
 induction l with
 | nil =>
   intro n hl a a' m H w h he hn hp
   have hlen : ops.size ≤ n := by
     have := congrArg List.length hl
     simp at this; omega
   rw [List.drop_of_length_le (by simpa using hlen)]
   exact hn _ _ ⟨m, a, H, h, .refl h.rel, he⟩
 | cons o rest ih =>
   intro n hl a a' m H w h he hn hp
   have hlt : n < ops.size := by
     have := congrArg List.length hl
     simp at this; omega
   have hd : (List.range ops.size).drop n = n :: (List.range ops.size).drop (n + 1) := by
     rw [List.drop_eq_getElem_cons (by simpa using hlt)]
     simp
   have hl2 : ops.toList.drop n = ops[n] :: ops.toList.drop (n + 1) := by
     rw [List.drop_eq_getElem_cons (by simpa using hlt)]
     simp
   rw [hl2] at hl
   simp only [List.cons.injEq] at hl
   obtain ⟨rfl, hrest⟩ := hl
   rw [hd]
   simp only [wpOps, Array.getElem?_eq_getElem hlt]
   simp only [execOps] at he
   obtain ⟨b, hb, hc⟩ := jl6 h he
   rcases hc with ⟨hw, hr⟩ | ⟨hw, hr⟩
   · rw [if_pos hw]
     left
     refine jj2 hX hK hb hr (fun b2 w2 ha => ?_) (fun c2 b2 w2 ha => hp c2 b2 w2 ha)
     obtain ⟨m2, b3, H3, s1, s2, s3⟩ := ha
     exact ih (n + 1) hrest s1 s3 (fun b4 w4 ha4 => hn b4 w4 (ha4.mono s2 (fun _ _ x => x))) (fun c4 b4 w4 ha4 => hp c4 b4 w4 (ha4.mono s2 (fun _ _ _ x => x)))
   · rw [if_neg (by simp [hw])]
     exact ih (n + 1) hrest (hb.put _ (.undef m)) hr hn hp
def DSnd (P : Program) (X : Xf) (K : Kf) : Prop := ∀ (ops : Array Oper) (r : End × Heap) (k : Act → Heap → R) (Q : Exit → Act → World → Prop), drawOk P ops.toList = true →
 ∀ {a a' : Act} {m : Mp} {H : Heap} {w : World}, StR P m a H a' w → execTr P X K ops ops.toList a H [] (fun tr af Hf => cond (drawChk P ops tr) (k af Hf) none) = some r →
   (∀ b' w', After P m H w (fun b H' => k b H' = some r) b' w' → Q .normal b' w') → ∀ id, (Code.region id ops true).wp P Q a' w
def OutQ (P : Program) (m : Mp) (H : Heap) (w : World) (k : Out → Act → Heap → R) (r : End × Heap) : Exit → Act → World → Prop
 | .normal, a', w' => After P m H w (fun a H' => k .norm a H' = some r) a' w'
 | .exit id, a', w' => After P m H w (fun a H' => k (.exit id) a H' = some r) a' w'
 | .goto l, a', w' => After P m H w (fun a H' => k (.goto l) a H' = some r) a' w'
 | .ret, a', w' => After P m H w (fun a H' => k .ret a H' = some r) a' w'
 | .panic c', a', w' => AfterP P m H w c' (fun c a H' => k (.pan c) a H' = some r) a' w'
 | .outgrown, _, _ => False
theorem OutQ.of {k : Out → Act → Heap → R} (hs : Step m H w m1 H1 w1) {e : Exit} {a' : Act} {w' : World} (h : OutQ P m1 H1 w1 k r e a' w') :
   OutQ P m H w k r e a' w' := by
 cases e <;> first
   | exact After.mono hs (fun _ _ x => x) h
   | exact AfterP.mono hs (fun _ _ _ x => x) h
   | exact h
theorem hasLabel_find (l : Nat) : ∀ c : Code, hasLabel l c = (findLabel c l).isSome
 | .seq a b => by
   have ha := hasLabel_find l a
   have hb := hasLabel_find l b
   simp only [hasLabel, findLabel, ha, hb]
   cases findLabel a l <;> simp
 | .label l' => by
   simp only [hasLabel, findLabel]
   by_cases e : (l' == l) = true
   · simp [e]
   · simp [e]
 | .skip | .region .. | .cond .. | .block .. | .loop .. | .rangeFunc .. | .exit .. | .scope .. | .goto .. | .ret | .refuse .. => by simp [hasLabel, findLabel]
def Begins (c : Code) : Option Nat → Code → Prop
 | none, c' => c' = c
 | some l, c' => findLabel c l = some c'
theorem OutQ.wp_mono {Q Q' : Exit → Act → World → Prop} (h : c.wp P Q a w) (hq : ∀ e a w, Q e a w → Q' e a w) : c.wp P Q' a w := Go.wp_mono h hq
theorem j2v {body : Act → Heap → (Out → Act → Heap → R) → R}
   (hb : ∀ {a a' : Act} {m : Mp} {H : Heap} {w : World} {k : Out → Act → Heap → R}, StR P m a H a' w → body a H k = some r → c.wp P (OutQ P m H w k r) a' w) :
   ∀ (n : Nat) {a a' : Act} {m : Mp} {H : Heap} {w : World} {k : Out → Act → Heap → R}, StR P m a H a' w → loopC body n a H k = some r →
     ∀ (b : Frame) (kk : List Item) (cs : List Frame), ∃ e a2 w2, OutQ P m H w k r e a2 w2 ∧ Arrives P (lone (b.at a' (.code c :: .inLoop c :: kk)) cs w) b kk cs e a2 w2 := by
 intro n
 induction n with
 | zero => intro a a' m H w k h he; simp [loopC] at he
 | succ n ih =>
   intro a a' m H w k h he b kk cs
   simp only [loopC] at he
   obtain ⟨e, a1, w1, hq, harr⟩ := hb h he b (.inLoop c :: kk) cs
   cases e with
   | normal =>
     obtain ⟨m1, a2, H1, s1, s2, s3⟩ := hq
     obtain ⟨e2, a3, w3, hq2, harr2⟩ := ih s1 s3 b kk cs
     exact ⟨e2, a3, w3, OutQ.of s2 hq2, .of_steps (Steps.trans harr (.one step_inLoop)) harr2⟩
   | exit id => exact ⟨.exit id, a1, w1, hq, .pass (x := .inLoop c) rfl (fun _ _ => .inl (by simp)) harr⟩
   | goto l => exact ⟨.goto l, a1, w1, hq, .pass (x := .inLoop c) rfl (fun _ _ => .inl (by simp)) harr⟩
   | ret => exact ⟨.ret, a1, w1, hq, .pass (x := .inLoop c) rfl (fun _ _ => .inl (by simp)) harr⟩
   | panic ch => exact ⟨.panic ch, a1, w1, hq, .pass (x := .inLoop c) rfl (fun _ _ => .inl (by simp)) harr⟩
   | outgrown => exact hq.elim
theorem j0r {body : Option Nat → Act → Heap → (Out → Act → Heap → R) → R}
   (hb : ∀ (s : Option Nat) (c' : Code) {a a' : Act} {m : Mp} {H : Heap} {w : World} {k : Out → Act → Heap → R}, Begins c s c' → StR P m a H a' w → body s a H k = some r → c'.wp P (OutQ P m H w k r) a' w) :
   ∀ (n : Nat) (s : Option Nat) (c' : Code) {a a' : Act} {m : Mp} {H : Heap} {w : World} {k : Out → Act → Heap → R}, Begins c s c' → StR P m a H a' w → scopeC c body n s a H k = some r →
     ∀ (b : Frame) (kk : List Item) (cs : List Frame), ∃ e a2 w2, OutQ P m H w k r e a2 w2 ∧ Arrives P (lone (b.at a' (.code c' :: .inScope c :: kk)) cs w) b kk cs e a2 w2 := by
 intro n
 induction n with
 | zero => intro s c' a a' m H w k hs h he; simp [scopeC] at he
 | succ n ih =>
   intro s c' a a' m H w k hs h he b kk cs
   simp only [scopeC] at he
   obtain ⟨e, a1, w1, hq, harr⟩ := hb s c' hs h he b (.inScope c :: kk) cs
   cases e with
   | normal => exact ⟨.normal, a1, w1, hq, Steps.trans harr (.one step_inScope)⟩
   | exit id => exact ⟨.exit id, a1, w1, hq, fun k' hk => harr k' (by simpa [exitTo] using hk)⟩
   | goto l =>
     obtain ⟨m1, a2, H1, s1, s2, s3⟩ := hq
     change (bif hasLabel l c then scopeC c body n (some l) a2 H1 k else k (.goto l) a2 H1) = some r at s3
     cases hl : hasLabel l c with
     | true =>
       rw [hl] at s3
       simp only [cond_true] at s3
       rw [hasLabel_find] at hl
       obtain ⟨rest, hr⟩ := Option.isSome_iff_exists.1 hl
       obtain ⟨e2, a3, w3, hq2, harr2⟩ := ih (some l) rest hr s1 s3 b kk cs
       exact ⟨e2, a3, w3, OutQ.of s2 hq2, .of_steps (harr _ (by simp [gotoIn, hr])) harr2⟩
     | false =>
       rw [hl] at s3
       simp only [cond_false] at s3
       rw [hasLabel_find] at hl
       have hnone : findLabel c l = none := by simpa using hl
       exact ⟨.goto l, a1, w1, ⟨m1, a2, H1, s1, s2, s3⟩, fun k' hk => harr k' (by simpa [gotoIn, hnone] using hk)⟩
   | ret => exact ⟨.ret, a1, w1, hq, harr⟩
   | panic ch => exact ⟨.panic ch, a1, w1, hq, harr⟩
   | outgrown => exact hq.elim
theorem jk5 {N : Nat} (hX : XSnd P X) (hK : KSnd P K) (hD : DSnd P X K) (r : End × Heap) :
   ∀ (c : Code) (s : Option Nat) (c' : Code) {a a' : Act} {m : Mp} {H : Heap} {w : World} {k : Out → Act → Heap → R}, Begins c s c' → StR P m a H a' w → exec P X K N c s a H k = some r →
     c'.wp P (OutQ P m H w k r) a' w := by
 intro c
 induction c with
 | skip =>
   intro s c' a a' m H w k hs h he
   cases s with
   | none => simp only [Begins] at hs; subst hs; exact wp_skip ⟨m, a, H, h, .refl h.rel, by simpa [exec] using he⟩
   | some l => simp [exec] at he
 | label l' =>
   intro s c' a a' m H w k hs h he
   cases s with
   | none => simp only [Begins] at hs; subst hs; exact wp_label ⟨m, a, H, h, .refl h.rel, by simpa [exec] using he⟩
   | some l =>
     simp only [exec] at he
     cases e : (l' == l) with
     | false => rw [e] at he; simp at he
     | true =>
       rw [e] at he
       simp only [Begins, findLabel, e, if_true, Option.some.injEq] at hs
       subst hs
       exact wp_skip ⟨m, a, H, h, .refl h.rel, he⟩
 | region id ops draw =>
   intro s c' a a' m H w k hs h he
   cases s with
   | some l => simp [exec] at he
   | none =>
     simp only [Begins] at hs; subst hs
     simp only [exec] at he
     cases draw with
     | false =>
       simp only [cond_false] at he
       refine wp_region ?_
       have := jw0 hX hK (Q := OutQ P m H w k r) ops.toList 0 (by simp) h he (fun _ _ x => x) (fun _ _ _ x => x)
       simpa using this
     | true =>
       simp only [cond_true] at he
       cases e : drawOk P ops.toList with
       | false => rw [e] at he; simp at he
       | true =>
         rw [e] at he
         simp only [cond_true] at he
         exact hD ops r _ _ e h he (fun _ _ x => x) id
 | seq x y ihx ihy =>
   intro s c' a a' m H w k hs h he
   have key : ∀ (x' : Code) {a a' : Act} {m : Mp} {H : Heap} {w : World}, (∀ {k : Out → Act → Heap → R}, ∀ s, exec P X K N x s a H k = some r → Begins x s x' → StR P m a H a' w → x'.wp P (OutQ P m H w k r) a' w) →
       ∀ s, Begins x s x' → StR P m a H a' w → exec P X K N x s a H (fun o a H => match o with | .norm => exec P X K N y none a H k | o => k o a H) = some r → (Code.seq x' y).wp P (OutQ P m H w k r) a' w := by
     intro x' a a' m H w hx s hs h he
     refine wp_seq (OutQ.wp_mono (hx s he hs h) ?_)
     intro e a1 w1 hq
     cases e with
     | normal =>
       obtain ⟨m1, a2, H1, s1, s2, s3⟩ := hq
       exact OutQ.wp_mono (ihy none y rfl s1 s3) (fun e a w hq => OutQ.of s2 hq)
     | _ => exact hq
   cases s with
   | none =>
     simp only [Begins] at hs; subst hs
     simp only [exec] at he
     exact key x (fun s he hs h => ihx s x hs h he) none rfl h he
   | some l =>
     simp only [exec] at he
     cases hl : hasLabel l x with
     | true =>
       rw [hl] at he
       simp only [cond_true] at he
       rw [hasLabel_find] at hl
       obtain ⟨rest, hr⟩ := Option.isSome_iff_exists.1 hl
       simp only [Begins, findLabel, hr, Option.some.injEq] at hs
       subst hs
       exact key rest (fun s he hs h => ihx s rest hs h he) (some l) hr h he
     | false =>
       rw [hl] at he
       simp only [cond_false] at he
       rw [hasLabel_find] at hl
       have hnone : findLabel x l = none := by simpa using hl
       simp only [Begins, findLabel, hnone] at hs
       exact ihy (some l) c' hs h he
 | cond x c1 c2 ih1 ih2 =>
   intro s c' a a' m H w k hs h he
   cases s with
   | some l => simp [exec] at he
   | none =>
     simp only [Begins] at hs; subst hs
     simp only [exec] at he
     split at he
     · rename_i t ht
       have hx : a'.eval x = .bool t := by
         cases x with
         | tmp j =>
           have hv := h.act.tmps.getD j (.undef m)
           have e1 : a.eval (.tmp j) = a.tmps.getD j undef := rfl
           rw [← e1, ht] at hv
           exact hv.bool_inv
         | const v => exact ht
         | global g => simp [Act.eval] at ht
         | func f => simp [Act.eval] at ht
       refine wp_cond hx ?_
       cases t with
       | true => exact ih1 none c1 rfl h he
       | false => exact ih2 none c2 rfl h he
     · simp at he
 | block id b ih =>
   intro s c' a a' m H w k hs h he
   cases s with
   | some l => simp [exec] at he
   | none =>
     simp only [Begins] at hs; subst hs
     simp only [exec] at he
     refine wp_block (OutQ.wp_mono (ih none b rfl h he) ?_)
     intro e a1 w1 hq
     cases e with
     | exit i =>
       obtain ⟨m1, a2, H1, s1, s2, s3⟩ := hq
       change (bif i == id then k .norm a2 H1 else k (.exit i) a2 H1) = some r at s3
       by_cases e : i = id
       · subst e
         simp only [BEq.rfl, cond_true] at s3
         simp only [Exit.inBlock, if_true]
         exact ⟨m1, a2, H1, s1, s2, s3⟩
       · have e' : (i == id) = false := by simpa using e
         simp only [e', cond_false] at s3
         simp only [Exit.inBlock, e, if_false]
         exact ⟨m1, a2, H1, s1, s2, s3⟩
     | _ => exact hq
 | loop b ih =>
   intro s c' a a' m H w k hs h he
   cases s with
   | some l => simp [exec] at he
   | none =>
     simp only [Begins] at hs; subst hs
     simp only [exec] at he
     intro fr kk cs
     obtain ⟨e, a2, w2, hq, harr⟩ := j2v (c := b) (fun h he => ih none b rfl h he) N h he fr kk cs
     exact ⟨e, a2, w2, hq, .of_steps (.one step_loop) harr⟩
 | rangeFunc f ps x y _ _ => intro s c' a a' m H w k hs h he; cases s <;> simp [exec] at he
 | exit id =>
   intro s c' a a' m H w k hs h he
   cases s with
   | none => simp only [Begins] at hs; subst hs; exact wp_exit ⟨m, a, H, h, .refl h.rel, by simpa [exec] using he⟩
   | some l => simp [exec] at he
 | scope b ih =>
   intro s c' a a' m H w k hs h he
   cases s with
   | some l => simp [exec] at he
   | none =>
     simp only [Begins] at hs; subst hs
     simp only [exec] at he
     intro fr kk cs
     obtain ⟨e, a2, w2, hq, harr⟩ := j0r (c := b) (fun s c' {_ _ _ _ _ _} hs h he => ih s c' hs h he) N none b rfl h he fr kk cs
     exact ⟨e, a2, w2, hq, .of_steps (.one step_scope) harr⟩
 | goto l =>
   intro s c' a a' m H w k hs h he
   cases s with
   | none => simp only [Begins] at hs; subst hs; exact wp_goto ⟨m, a, H, h, .refl h.rel, by simpa [exec] using he⟩
   | some l => simp [exec] at he
 | ret =>
   intro s c' a a' m H w k hs h he
   cases s with
   | none => simp only [Begins] at hs; subst hs; exact wp_ret ⟨m, a, H, h, .refl h.rel, by simpa [exec] using he⟩
   | some l => simp [exec] at he
 | refuse why => intro s c' a a' m H w k hs h he; cases s <;> simp [exec] at he
end Go.Aw
namespace Go.Aw
variable {P : Program} {X : Xf} {K : Kf} {o : Oper} {H : Heap}
def Yl (P : Program) (X : Xf) (K : Kf) (ρ : Operand → Value) (o : Oper) (H : Heap) (v : Value) (H' : Heap) : Prop := ∀ k kp, opK P X K ρ o H k kp = k v H'
def Pn (P : Program) (X : Xf) (K : Kf) (ρ : Operand → Value) (o : Oper) (H : Heap) (c : List PanicEntry) (H' : Heap) : Prop := ∀ k kp, opK P X K ρ o H k kp = kp c H'
def Lin (f : (Value → Heap → R) → (List PanicEntry → Heap → R) → R) : Prop :=
 (∃ v H', ∀ k kp, f k kp = k v H') ∨ (∃ c H', ∀ k kp, f k kp = kp c H') ∨ (∀ k kp, f k kp = none)
theorem Lin.bindV (x : VH) : Lin fun k _ => bindV x k := by
 cases x with
 | none => exact .inr (.inr fun _ _ => rfl)
 | some y => exact .inl ⟨y.1, y.2, fun _ _ => rfl⟩
theorem Lin.bindO (x : Option Value) (H : Heap) : Lin fun k _ => bindO x fun v => k v H := by
 cases x with
 | none => exact .inr (.inr fun _ _ => rfl)
 | some y => exact .inl ⟨y, H, fun _ _ => rfl⟩
theorem Lin.none : Lin fun _ _ => none := .inr (.inr fun _ _ => rfl)
theorem Lin.val (v : Value) (H : Heap) : Lin fun k _ => k v H := .inl ⟨v, H, fun _ _ => rfl⟩
theorem Lin.pan (c : List PanicEntry) (H : Heap) : Lin fun _ kp => kp c H := .inr (.inl ⟨c, H, fun _ _ => rfl⟩)
theorem Lin.bindG (x : Option Value) (H : Heap) : Lin fun k _ => Aw.bindO x fun v => groundK v (k v H) := by
 cases x with
 | none => exact .inr (.inr fun _ _ => rfl)
 | some y =>
   unfold groundK
   by_cases h : ground y = true
   · exact .inl ⟨y, H, fun _ _ => by simp [Aw.bindO, h]⟩
   · exact .inr (.inr fun _ _ => by simp [Aw.bindO, h])
theorem Lin.builtin (P : Program) (b : Builtin) (ts : Array TypeId) (args : Array Value) (H : Heap) : Lin fun k _ => builtinK P b ts args H k := by
 unfold builtinK
 split
 · cases ts[0]? with
   | none => exact Lin.none
   | some t => exact Lin.bindO _ H
 · by_cases h : ts.size = 2
   · simp only [h, if_true]; exact Lin.bindV _
   · simp only [h, if_false]; exact Lin.none
 · exact Lin.bindV _
 · rename_i ka a kb b _
   by_cases h : ka = kb
   · simp only [h, if_true]; exact Lin.val _ _
   · simp only [h, if_false]; exact Lin.none
 · rename_i ka a kb b _
   by_cases h : ka = kb
   · simp only [h, if_true]; exact Lin.val _ _
   · simp only [h, if_false]; exact Lin.none
 · exact Lin.none
theorem Lin.call (P : Program) (X : Xf) (K : Kf) (f : FuncId) (args : Array Value) (H : Heap) : Lin fun k kp => callK P X K f args H k kp := by
 unfold callK
 split
 · rename_i fn _
   by_cases h1 : (fn.name == "runtime.NumGoroutine") = true
   · simp only [h1, if_true]; exact Lin.none
   · by_cases h2 : fn.body.isNone = true
     · simp only [if_neg h1, if_pos h2]; exact Lin.bindV _
     · simp only [if_neg h1, if_neg h2]
       unfold bindR
       split
       · exact Lin.val _ _
       · exact Lin.pan _ _
       · exact Lin.none
 · exact Lin.none
theorem j7r (P : Program) (ρ : Operand → Value) (o : Op) (H : Heap) : Lin fun k _ => mapK P ρ o H k := by
 unfold mapK
 split
 · exact Lin.bindV _
 · exact Lin.bindO _ H
 · exact Lin.bindV _
 · exact Lin.none
theorem yc7 (P : Program) (X : Xf) (K : Kf) (ρ : Operand → Value) (o : Oper) (H : Heap) : Lin fun k kp => opK P X K ρ o H k kp := by
 unfold opK
 split
 all_goals first
   | exact Lin.val _ _
   | exact Lin.bindV _
   | exact Lin.bindO _ H
   | exact Lin.bindG _ H
   | exact Lin.none
   | skip
 · split
   · exact Lin.val _ _
   · exact Lin.none
 · split
   · exact Lin.none
   · exact Lin.val _ _
   · exact Lin.none
 · split
   · exact Lin.pan _ _
   · exact Lin.none
 · split
   · exact Lin.builtin _ _ _ _ _
   · split
     · exact Lin.call _ _ _ _ _ _
     · exact Lin.none
   · exact Lin.none
 · exact j7r P ρ o.op H
theorem j5c {ρ : Operand → Value} {k : Value → Heap → R} {kp : List PanicEntry → Heap → R} {r : End × Heap} (h : opK P X K ρ o H k kp = some r) :
   (∃ v H', Yl P X K ρ o H v H' ∧ k v H' = some r) ∨ (∃ c H', Pn P X K ρ o H c H' ∧ kp c H' = some r) := by
 rcases yc7 P X K ρ o H with ⟨v, H', hh⟩ | ⟨c, H', hh⟩ | hh
 · exact .inl ⟨v, H', hh, by rw [← hh k kp]; exact h⟩
 · exact .inr ⟨c, H', hh, by rw [← hh k kp]; exact h⟩
 · have := hh k kp
   simp only at this
   rw [this] at h; simp at h
def Quiet (f : Xf → Kf → Heap → (Value → Heap → R) → (List PanicEntry → Heap → R) → R) : Prop :=
 ∀ H, (∃ v, ∀ X K k kp, f X K H k kp = k v H) ∨ (∀ X K k kp, f X K H k kp = none)
theorem Quiet.bindO (x : Heap → Option Value) : Quiet fun _ _ H k _ => Aw.bindO (x H) fun v => k v H := by
 intro H
 simp only
 cases x H with
 | none => exact .inr fun _ _ _ _ => rfl
 | some y => exact .inl ⟨y, fun _ _ _ _ => rfl⟩
theorem j5d {x : VH} (h : ∀ v H', x = some (v, H') → H' = H) : (∃ v, ∀ (_ : Xf) (_ : Kf) (k : Value → Heap → R) (_ : List PanicEntry → Heap → R), bindV x k = k v H) ∨ (∀ (_ : Xf) (_ : Kf) (k : Value → Heap → R) (_ : List PanicEntry → Heap → R), bindV x k = none) := by
 cases x with
 | none => exact .inr fun _ _ _ _ => rfl
 | some y =>
   obtain ⟨v, H'⟩ := y
   have := h v H' rfl
   subst this
   exact .inl ⟨v, fun _ _ _ _ => rfl⟩
theorem loadA_same {t : TypeId} {x : Value} {v : Value} {H' : Heap} (h : loadA P t x H = some (v, H')) : H' = H := by
 unfold loadA at h
 split at h
 · split at h
   · split at h
     · unfold ldN at h
       split at h
       · split at h
         · simp only [Option.some.injEq, Prod.mk.injEq] at h; exact h.2.symm
         · simp at h
       · simp at h
     · simp at h
   · unfold ld1 at h
     split at h
     · split at h
       · simp only [Option.some.injEq, Prod.mk.injEq] at h; exact h.2.symm
       · simp at h
     · simp at h
   · simp at h
 · simp at h
theorem convertA_same {s d : TypeId} {x : Value} {v : Value} {H' : Heap} (hd : ∀ e, P.underlying d ≠ some (.slice e)) (h : convertA P s d x H = some (v, H')) : H' = H := by
 unfold convertA at h
 split at h
 · simp only [Option.some.injEq, Prod.mk.injEq] at h; exact h.2.symm
 · simp only [Option.some.injEq, Prod.mk.injEq] at h; exact h.2.symm
 · simp only [Option.some.injEq, Prod.mk.injEq] at h; exact h.2.symm
 · rename_i h2; exact absurd h2 (hd _)
 · rename_i h2; exact absurd h2 (hd _)
 · split at h
   · split at h
     · simp only [Option.some.injEq, Prod.mk.injEq] at h; exact h.2.symm
     · simp at h
   · simp at h
 · simp at h
theorem jw1 (P : Program) {b : Builtin} (hb : b = .len ∨ b = .min ∨ b = .max) (ts : Array TypeId) (args : Array Value) (H : Heap) :
   (∃ v, ∀ (_ : Xf) (_ : Kf) (k : Value → Heap → R) (_ : List PanicEntry → Heap → R), builtinK P b ts args H k = k v H) ∨ (∀ (_ : Xf) (_ : Kf) (k : Value → Heap → R) (_ : List PanicEntry → Heap → R), builtinK P b ts args H k = none) := by
 unfold builtinK
 split
 · cases ts[0]? with
   | none => exact .inr fun _ _ _ _ => rfl
   | some t =>
     simp only
     rcases Quiet.bindO (fun H => lenA P t _ H) H with ⟨v, hv⟩ | hv
     · exact .inl ⟨v, fun X K k kp => hv X K k kp⟩
     · exact .inr fun X K k kp => hv X K k kp
 · rcases hb with h | h | h <;> simp at h
 · rcases hb with h | h | h <;> simp at h
 · rename_i ka a kb b _
   by_cases h : ka = kb
   · exact .inl ⟨.int ka (if b < a then b else a), fun _ _ _ _ => by rw [if_pos h]⟩
   · exact .inr fun _ _ _ _ => by rw [if_neg h]
 · rename_i ka a kb b _
   by_cases h : ka = kb
   · exact .inl ⟨.int ka (if b > a then b else a), fun _ _ _ _ => by rw [if_pos h]⟩
   · exact .inr fun _ _ _ _ => by rw [if_neg h]
 · exact .inr fun _ _ _ _ => rfl
theorem jz2 (hc : cls P o < 2) (ρ : Operand → Value) (H : Heap) :
   (∃ v, ∀ X K k kp, opK P X K ρ o H k kp = k v H) ∨ (∀ X K k kp, opK P X K ρ o H k kp = none) := by
 obtain ⟨dst, op, type, pos, after, guard⟩ := o
 simp only [cls] at hc
 simp only [opK]
 have bo : ∀ (x : Option Value), (∃ v, ∀ (_ : Xf) (_ : Kf) (k : Value → Heap → R) (_ : List PanicEntry → Heap → R), (bindO x fun v => k v H) = k v H) ∨ (∀ (_ : Xf) (_ : Kf) (k : Value → Heap → R) (_ : List PanicEntry → Heap → R), (bindO x fun v => k v H) = none) := by
   intro x; exact Quiet.bindO (fun _ => x) H
 have bg : ∀ (x : Option Value), (∃ v, ∀ (_ : Xf) (_ : Kf) (k : Value → Heap → R) (_ : List PanicEntry → Heap → R), (bindO x fun v => groundK v (k v H)) = k v H) ∨ (∀ (_ : Xf) (_ : Kf) (k : Value → Heap → R) (_ : List PanicEntry → Heap → R), (bindO x fun v => groundK v (k v H)) = none) := by
   intro x
   cases x with
   | none => exact .inr fun _ _ _ _ => rfl
   | some y =>
     by_cases h : ground y = true
     · exact .inl ⟨y, fun _ _ _ _ => by simp [bindO, groundK, h]⟩
     · exact .inr fun _ _ _ _ => by simp [bindO, groundK, h]
 cases op <;> simp only at hc ⊢ <;> first
   | exact bo _
   | exact bg _
   | exact .inl ⟨_, fun _ _ _ _ => rfl⟩
   | (exfalso; omega)
   | skip
 case pick c a b =>
   split
   · exact .inl ⟨_, fun _ _ _ _ => rfl⟩
   · exact .inr fun _ _ _ _ => rfl
 case load t a => exact j5d (fun v H' h => loadA_same h)
 case convert s d x =>
   refine j5d (fun v H' h => convertA_same ?_ h)
   intro e he
   rw [he] at hc
   simp at hc
 case makeInterface t x =>
   split
   · exact .inr fun _ _ _ _ => rfl
   · exact .inl ⟨_, fun _ _ _ _ => rfl⟩
   · exact .inr fun _ _ _ _ => rfl
 case call c =>
   obtain ⟨callee, args, ts⟩ := c
   cases callee with
   | value f => simp at hc
   | invoke x y => simp at hc
   | builtin b => cases b <;> simp at hc <;> exact jw1 P (by simp) _ _ _
theorem j5e (hc : cls P o < 2) {ρ : Operand → Value} {H : Heap} {v : Value} (h : qval P ρ o H = some v) (X : Xf) (K : Kf) : Yl P X K ρ o H v H := by
 unfold qval at h
 rcases jz2 hc ρ H with ⟨u, hu⟩ | hu
 · rw [hu] at h
   simp only [Option.some.injEq] at h
   subst h
   exact fun k kp => hu X K k kp
 · rw [hu] at h; simp at h
theorem j5f (hc : cls P o < 2) {ρ : Operand → Value} {H H' : Heap} {v : Value} (h : Yl P X K ρ o H v H') : H' = H := by
 rcases jz2 hc ρ H with ⟨u, hu⟩ | hu
 · have h1 := h (fun v H => some (.ret v, H)) (fun _ _ => none)
   rw [hu] at h1
   simp only [Option.some.injEq, Prod.mk.injEq] at h1
   exact h1.2.symm
 · have h1 := h (fun v H => some (.ret v, H)) (fun _ _ => none)
   rw [hu] at h1; simp at h1
theorem convertA_pure (P : Program) (s d : TypeId) (x : Value) {dd : TypeDesc} (hd : P.underlying d = some dd) (h1 : ∀ e, dd ≠ .slice e) (h2 : dd ≠ .string) :
   (∃ v, ∀ H, convertA P s d x H = some (v, H)) ∨ (∀ H, convertA P s d x H = none) := by
 unfold convertA
 cases hs : P.underlying s with
 | none => exact .inr fun _ => rfl
 | some ds =>
   rw [hd]
   cases dd with
   | int k => cases x <;> first | exact .inl ⟨_, fun _ => rfl⟩ | exact .inr fun _ => rfl
   | slice e => exact absurd rfl (h1 e)
   | string => exact absurd rfl h2
   | _ => cases x <;> first | exact .inr fun _ => rfl | (cases ds <;> exact .inr fun _ => rfl)
theorem j7s (hc : cls P o = 0) (ρ : Operand → Value) :
   (∃ v, ∀ X K H k kp, opK P X K ρ o H k kp = k v H) ∨ (∀ X K H k kp, opK P X K ρ o H k kp = none) := by
 obtain ⟨dst, op, type, pos, after, guard⟩ := o
 simp only [cls] at hc
 simp only [opK]
 have bo : ∀ (x : Option Value), (∃ v, ∀ (_ : Xf) (_ : Kf) (H : Heap) (k : Value → Heap → R) (_ : List PanicEntry → Heap → R), (bindO x fun v => k v H) = k v H) ∨ (∀ (_ : Xf) (_ : Kf) (H : Heap) (k : Value → Heap → R) (_ : List PanicEntry → Heap → R), (bindO x fun v => k v H) = none) := by
   intro x
   cases x with
   | none => exact .inr fun _ _ _ _ _ => rfl
   | some y => exact .inl ⟨y, fun _ _ _ _ _ => rfl⟩
 have bg : ∀ (x : Option Value), (∃ v, ∀ (_ : Xf) (_ : Kf) (H : Heap) (k : Value → Heap → R) (_ : List PanicEntry → Heap → R), (bindO x fun v => groundK v (k v H)) = k v H) ∨ (∀ (_ : Xf) (_ : Kf) (H : Heap) (k : Value → Heap → R) (_ : List PanicEntry → Heap → R), (bindO x fun v => groundK v (k v H)) = none) := by
   intro x
   cases x with
   | none => exact .inr fun _ _ _ _ _ => rfl
   | some y =>
     by_cases h : ground y = true
     · exact .inl ⟨y, fun _ _ _ _ _ => by simp [bindO, groundK, h]⟩
     · exact .inr fun _ _ _ _ _ => by simp [bindO, groundK, h]
 cases op <;> simp only at hc ⊢ <;> first
   | exact bo _
   | exact bg _
   | exact .inl ⟨_, fun _ _ _ _ _ => rfl⟩
   | (exfalso; omega)
   | skip
 case pick c a b =>
   split
   · exact .inl ⟨_, fun _ _ _ _ _ => rfl⟩
   · exact .inr fun _ _ _ _ _ => rfl
 case convert s d x =>
   cases hd : P.underlying d with
   | none => rw [hd] at hc; simp at hc
   | some dd =>
     rw [hd] at hc
     have h1 : ∀ e, dd ≠ .slice e := by intro e he; subst he; simp at hc
     have h2 : dd ≠ .string := by intro he; subst he; simp at hc
     rcases convertA_pure P s d (ρ x) hd h1 h2 with ⟨v, hv⟩ | hv
     · exact .inl ⟨v, fun _ _ H _ _ => by rw [hv H]; rfl⟩
     · exact .inr fun _ _ H _ _ => by rw [hv H]; rfl
 case makeInterface t x =>
   split
   · exact .inr fun _ _ _ _ _ => rfl
   · exact .inl ⟨_, fun _ _ _ _ _ => rfl⟩
   · exact .inr fun _ _ _ _ _ => rfl
 case call c =>
   obtain ⟨callee, args, ts⟩ := c
   cases callee with
   | value f => simp at hc
   | invoke x y => simp at hc
   | builtin b => cases b <;> simp at hc
theorem yo4 (hc : cls P o = 0) {ρ : Operand → Value} {H H' : Heap} {v : Value} (h : Yl P X K ρ o H v H') (H2 : Heap) : Yl P X K ρ o H2 v H2 := by
 have h1 := h (fun v H => some (.ret v, H)) (fun _ _ => none)
 rcases j7s hc ρ with ⟨u, hu⟩ | hu
 · rw [hu] at h1
   simp only [Option.some.injEq, Prod.mk.injEq, End.ret.injEq] at h1
   obtain ⟨rfl, _⟩ := h1
   exact fun k kp => hu X K H2 k kp
 · rw [hu] at h1; simp at h1
end Go.Aw
namespace Go.Aw
variable {ops : List Oper} {o : Oper} {r : End × Heap} {P : Program}
theorem jw2 {a b : Value} (h : veq0 a b = true) : a = b := by
 unfold veq0 at h
 split at h
 · rw [eq_of_beq h]
 · simp only [Bool.and_eq_true] at h; rw [eq_of_beq h.1, eq_of_beq h.2]
 · rename_i a b
   have := eq_of_beq h
   obtain ⟨⟨l⟩⟩ := a
   obtain ⟨⟨l'⟩⟩ := b
   simp only at this
   rw [this]
 · rw [eq_of_beq h]
 · simp only [Bool.and_eq_true] at h; rw [eq_of_beq h.1.1, eq_of_beq h.1.2, eq_of_beq h.2]
 · rw [eq_of_beq h]
 · rfl
 · rfl
 · simp at h
theorem jk6 : ∀ {a b : List Value}, veqs a b = true → a = b
 | [], [], _ => rfl
 | [], _ :: _, h => by simp [veqs] at h
 | _ :: _, [], h => by simp [veqs] at h
 | x :: r, y :: s, h => by
   simp only [veqs, Bool.and_eq_true] at h
   rw [jw2 h.1, jk6 h.2]
theorem j12 {a b : Value} (h : veq a b = true) : a = b := by
 unfold veq at h
 split at h
 · rename_i xs ys
   have := jk6 h
   obtain ⟨l⟩ := xs
   obtain ⟨l'⟩ := ys
   simp only at this
   rw [this]
 · simp only [Bool.and_eq_true] at h; rw [eq_of_beq h.1, jw2 h.2]
 · simp only [Bool.and_eq_true] at h; rw [eq_of_beq h.1, Array.toList_inj.mp (jk6 h.2.1), Array.toList_inj.mp (jk6 h.2.2)]
 · exact jw2 h
theorem set_same {a : Array Value} {d : Nat} {v : Value} (h : a[d]? = some v) : a.setIfInBounds d v = a := by
 apply Array.ext_getElem?
 intro i
 rw [Array.getElem?_setIfInBounds]
 by_cases e : d = i
 · subst e
   have hlt := (Array.getElem?_eq_some_iff.1 h).1
   rw [if_pos rfl, if_pos hlt, h]
 · rw [if_neg e]
theorem j0s {ops : Array Oper} {a : Act} {run skip : Act → R} (he : guardK ops o a run skip = some r) :
   (guardB ops o a = some true ∧ run a = some r) ∨ (guardB ops o a = some false ∧ skip a = some r) := by
 unfold guardK at he
 unfold guardB
 split at he
 · rename_i hg; try rw [hg]
   exact .inl ⟨rfl, he⟩
 · rename_i j want hg
   try rw [hg]
   split at he
   · rename_i hd
     exact .inr ⟨by first | rfl | trivial, he⟩
   · rename_i d hd
     try simp only [hd]
     split at he
     · rename_i b hb
       try simp only [hb]
       rw [jp7] at he
       rw [set_same hb] at he
       cases hw : (b == want) with
       | true => rw [hw] at he; exact .inl ⟨by first | rfl | trivial, he⟩
       | false => rw [hw] at he; exact .inr ⟨by first | rfl | trivial, he⟩
     · rename_i vs hb
       exact .inr ⟨by first | rfl | trivial, he⟩
     · simp at he
def StepC (P : Program) (X : Xf) (K : Kf) (ops : Array Oper) (o : Oper) (a : Act) (H : Heap) (a' : Act) (H' : Heap) : Prop :=
 (guardB ops o a = some true ∧ opOk P o = true ∧ ∃ v, Yl P X K a.eval o H v H' ∧ a' = a.put o.dst v) ∨
 (guardB ops o a = some false ∧ a' = a.put o.dst undef ∧ H' = H)
def TrP (P : Program) (X : Xf) (K : Kf) (ops : Array Oper) (k : List (Act × Heap) → Act → Heap → R) (r : End × Heap) (l : List Oper) (a : Act) (H : Heap) (tr : List (Act × Heap)) : Prop :=
 ∃ ts : List (Act × Heap), ts.length = l.length + 1 ∧ ts[0]? = some (a, H) ∧
   (∀ i o x y, l[i]? = some o → ts[i]? = some x → ts[i + 1]? = some y → StepC P X K ops o x.1 x.2 y.1 y.2) ∧
   ∃ af Hf, ts[l.length]? = some (af, Hf) ∧ k (tr ++ ts) af Hf = some r
theorem TrP.cons {X : Xf} {K : Kf} {ops : Array Oper} {k : List (Act × Heap) → Act → Heap → R} {rest : List Oper} {a a' : Act} {H H' : Heap} {tr : List (Act × Heap)}
   (hs : StepC P X K ops o a H a' H') (hr : TrP P X K ops k r rest a' H' (tr ++ [(a, H)])) : TrP P X K ops k r (o :: rest) a H tr := by
 obtain ⟨ts, k1, k2, k3, af, Hf, k4, k5⟩ := hr
 refine ⟨(a, H) :: ts, by simp [k1], rfl, ?_, af, Hf, by simpa using k4, by simpa using k5⟩
 intro i o' x y h1 h2 h3
 cases i with
 | zero =>
   simp only [List.getElem?_cons_zero, Option.some.injEq, Nat.zero_add, List.getElem?_cons_succ] at h1 h2 h3
   subst h1; subst h2
   rw [k2] at h3
   simp only [Option.some.injEq] at h3
   subst h3
   exact hs
 | succ i =>
   simp only [List.getElem?_cons_succ] at h1 h2 h3
   exact k3 i o' x y h1 h2 h3
theorem jh7 {X : Xf} {K : Kf} {ops : Array Oper} {k : List (Act × Heap) → Act → Heap → R} :
   ∀ (l : List Oper) {a : Act} {H : Heap} {tr : List (Act × Heap)}, (∀ o ∈ l, isDefer o = false) → execTr P X K ops l a H tr k = some r → TrP P X K ops k r l a H tr
 | [], a, H, tr, _, he => ⟨[(a, H)], rfl, rfl, fun i o x y h => by simp at h, a, H, rfl, he⟩
 | o :: rest, a, H, tr, hd, he => by
   simp only [execTr] at he
   rcases j0s he with ⟨hg, hr⟩ | ⟨hg, hr⟩
   · unfold execOp1 at hr
     cases hok : opOk P o with
     | false => rw [hok] at hr; simp at hr
     | true =>
       rw [hok] at hr
       simp only [cond_true] at hr
       have hnd := hd o (by simp)
       split at hr
       · rename_i c hc; simp [isDefer, hc] at hnd
       · rcases j5c hr with ⟨v, H', hy, hk⟩ | ⟨c, H', hy, hk⟩
         · exact TrP.cons (.inl ⟨hg, hok, v, hy, rfl⟩) (jh7 rest (fun x hx => hd x (by simp [hx])) (js7 hk))
         · simp at hk
   · exact TrP.cons (.inr ⟨hg, rfl, rfl⟩) (jh7 rest (fun x hx => hd x (by simp [hx])) hr)
theorem foldl_or_bit (acc : List Nat) (i : Nat) : ∀ (l : List Edge) (s : Nat), (l.foldl (fun s e => s ||| 2 ^ e.on ||| acc.getD e.on 0) s).testBit i = true →
   s.testBit i = true ∨ ∃ e ∈ l, e.on = i ∨ (acc.getD e.on 0).testBit i = true
 | [], s, h => .inl h
 | e :: r, s, h => by
   simp only [List.foldl_cons] at h
   rcases foldl_or_bit acc i r _ h with h1 | ⟨e', he', h2⟩
   · simp only [Nat.testBit_or, Bool.or_eq_true, Nat.testBit_two_pow, decide_eq_true_eq] at h1
     rcases h1 with (h1 | h1) | h1
     · exact .inl h1
     · exact .inr ⟨e, by simp, .inl h1⟩
     · exact .inr ⟨e, by simp, .inr h1⟩
   · exact .inr ⟨e', by simp [he'], h2⟩
theorem masks_acc : ∀ (l : List Oper) (acc : List Nat), ∃ t, masks l acc = acc ++ t
 | [], acc => ⟨[], by simp [masks]⟩
 | o :: r, acc => by
   obtain ⟨t, ht⟩ := masks_acc r (acc ++ [maskOf acc o])
   exact ⟨maskOf acc o :: t, by simp [masks, ht]⟩
theorem masks_get : ∀ (l : List Oper) (acc : List Nat) (i : Nat) (o : Oper), l[i]? = some o → ∃ t, t.length = i ∧ (masks l acc).getD (acc.length + i) 0 = maskOf (acc ++ t) o ∧ ∃ u, masks l acc = acc ++ t ++ u
 | [], acc, i, o, h => by simp at h
 | o' :: r, acc, 0, o, h => by
   simp only [List.getElem?_cons_zero, Option.some.injEq] at h
   subst h
   obtain ⟨t, ht⟩ := masks_acc r (acc ++ [maskOf acc o'])
   refine ⟨[], rfl, ?_, ⟨maskOf acc o' :: t, by simp [masks, ht]⟩⟩
   simp [masks, ht]
 | o' :: r, acc, i + 1, o, h => by
   simp only [List.getElem?_cons_succ] at h
   obtain ⟨t, h1, h2, u, h3⟩ := masks_get r (acc ++ [maskOf acc o']) i o h
   refine ⟨maskOf acc o' :: t, by simp [h1], ?_, u, ?_⟩
   · simp only [masks]
     have e : (acc ++ [maskOf acc o']).length + i = acc.length + (i + 1) := by simp; omega
     rw [← e, h2]
     simp
   · simp only [masks, h3]; simp
theorem mask_spec {i j : Nat} (ho : ops[i]? = some o) (hon : ∀ e ∈ o.after, Region.binds .any e = true → e.on < i) (h : ((masks ops []).getD i 0).testBit j = true) :
   ∃ e ∈ o.after, Region.binds .any e = true ∧ (e.on = j ∨ ((masks ops []).getD e.on 0).testBit j = true) := by
 obtain ⟨t, h1, h2, u, h3⟩ := masks_get ops [] i o ho
 simp only [List.length_nil, Nat.zero_add, List.nil_append] at h2 h3
 rw [h2] at h
 unfold maskOf at h
 rcases foldl_or_bit t j _ 0 h with h4 | ⟨e, he, h4⟩
 · simp at h4
 · rw [List.mem_filter] at he
   have hea : e ∈ o.after := by simpa using he.1
   refine ⟨e, hea, he.2, ?_⟩
   rcases h4 with h4 | h4
   · exact .inl h4
   · right
     have hlt := hon e hea he.2
     rw [h3]
     rw [List.getD_eq_getElem?_getD, List.getElem?_append_left (by omega), ← List.getD_eq_getElem?_getD]
     exact h4
structure Sta (P : Program) (ops : List Oper) : Prop where
 nd : ∀ o ∈ ops, isDefer o = false
 edge : ∀ (i : Nat) (o : Oper), ops[i]? = some o → ∀ e ∈ o.after, Region.binds .any e = true → e.on < i
 lt : ∀ (i : Nat) (o : Oper), ops[i]? = some o → (masks ops []).getD i 0 < 2 ^ i
 dst : ∀ (i j : Nat) (oi oj : Oper) (d : Tmp), ops[i]? = some oi → ops[j]? = some oj → oi.dst = some d → oj.dst = some d → i = j
 look : ∀ (i j : Nat) (oi oj : Oper) (d : Tmp), ops[i]? = some oi → ops[j]? = some oj → oj.dst = some d → d ∈ looks ops oi →
   i ≠ j ∧ (((masks ops []).getD i 0).testBit j = true ∨ ((masks ops []).getD j 0).testBit i = true)
 eff : ∀ (i j : Nat) (oi oj : Oper), ops[i]? = some oi → ops[j]? = some oj → i < j → cls P oi = 2 → cls P oj = 2 → ((masks ops []).getD j 0).testBit i = true
theorem drawOk_spec (h : drawOk P ops = true) : Sta P ops := by
 unfold drawOk at h
 simp only [List.all_eq_true, List.mem_range] at h
 have hi : ∀ (i : Nat) (o : Oper), ops[i]? = some o → i < ops.length := fun i o ho => (List.getElem?_eq_some_iff.1 ho).1
 have key := fun (i : Nat) (oi : Oper) (ho : ops[i]? = some oi) => by
   have := h i (hi i oi ho)
   simp only [ho, Bool.and_eq_true, Bool.not_eq_true', decide_eq_true_eq, List.all_eq_true, List.mem_range] at this
   exact this
 refine ⟨?_, ?_, ?_, ?_, ?_, ?_⟩
 · intro o ho
   obtain ⟨i, hlt, rfl⟩ := List.getElem_of_mem ho
   exact (key i ops[i] (List.getElem?_eq_getElem hlt)).1.1.1
 · intro i o ho e he hb
   have := (key i o ho).1.2 e (by simpa using he)
   simpa [hb] using this
 · intro i o ho
   exact (key i o ho).1.1.2
 · intro i j oi oj d h1 h2 d1 d2
   have := (key i oi h1).2 j (hi j oj h2)
   simp only [h2, d2, Bool.and_eq_true, Bool.or_eq_true, beq_iff_eq] at this
   rcases this.1.1 with e | e
   · exact e
   · simp [dstIs, d1] at e
 · intro i j oi oj d h1 h2 d2 hl
   have := (key i oi h1).2 j (hi j oj h2)
   simp only [h2, d2, Bool.and_eq_true, List.all_eq_true] at this
   have := this.1.2 d hl
   simpa using this
 · intro i j oi oj h1 h2 hlt c1 c2
   have := (key i oi h1).2 j (hi j oj h2)
   simp only [h2, Bool.and_eq_true] at this
   have := this.2
   simpa [hlt, c1, c2] using this
theorem sta_bit_lt (hs : Sta P ops) {i j : Nat} {o : Oper} (ho : ops[i]? = some o) (h : ((masks ops []).getD i 0).testBit j = true) : j < i := by
 have h1 := hs.lt i o ho
 rcases Nat.lt_or_ge j i with h2 | h2
 · exact h2
 · have : (masks ops []).getD i 0 < 2 ^ j := Nat.lt_of_lt_of_le h1 (Nat.pow_le_pow_right (by omega) h2)
   rw [Nat.testBit_lt_two_pow this] at h
   simp at h
def Down (ops : List Oper) (L : Nat → Bool) : Prop := ∀ (i : Nat) (o : Oper), ops[i]? = some o → L i = true → ∀ e ∈ o.after, Region.binds .any e = true → L e.on = true
theorem down_bit (hs : Sta P ops) {L : Nat → Bool} (hd : Down ops L) : ∀ (i : Nat) (o : Oper) (j : Nat), ops[i]? = some o →
   (∀ e ∈ o.after, Region.binds .any e = true → L e.on = true) → ((masks ops []).getD i 0).testBit j = true → L j = true := by
 intro i
 induction i using Nat.strongRecOn with
 | _ i ih =>
   intro o j ho hp hb
   obtain ⟨e, he, hbi, h⟩ := mask_spec ho (hs.edge i o ho) hb
   have hlt := hs.edge i o ho e he hbi
   rcases h with h | h
   · rw [← h]; exact hp e he hbi
   · have hlt2 : e.on < ops.length := Nat.lt_trans hlt (List.getElem?_eq_some_iff.1 ho).1
     have ho2 : ops[e.on]? = some ops[e.on] := List.getElem?_eq_getElem hlt2
     exact ih e.on hlt ops[e.on] j ho2 (hd e.on _ ho2 (hp e he hbi)) h
end Go.Aw
namespace Go.Aw
theorem count_lt {α : Type} {p q : α → Bool} : ∀ (l : List α), (∀ x ∈ l, q x = true → p x = true) → (∃ x ∈ l, p x = true ∧ q x = false) → l.countP q < l.countP p
 | [], _, ⟨x, hx, _⟩ => by simp at hx
 | y :: r, h, ⟨x, hx, h1, h2⟩ => by
   have hle : r.countP q ≤ r.countP p := List.countP_mono_left (fun z hz => h z (by simp [hz]))
   rw [List.countP_cons, List.countP_cons]
   rcases List.mem_cons.1 hx with rfl | hx
   · simp [h1, h2]; omega
   · have := count_lt r (fun z hz => h z (by simp [hz])) ⟨x, hx, h1, h2⟩
     have h3 := h y (by simp)
     cases hq : q y with
     | true => simp [h3 hq]; omega
     | false => cases p y <;> simp <;> omega
structure Tra (P : Program) (X : Xf) (K : Kf) (ops : Array Oper) (A : Nat → Act) (Hs : Nat → Heap) : Prop where
 step : ∀ (i : Nat) (o : Oper), ops.toList[i]? = some o → StepC P X K ops o (A i) (Hs i) (A (i + 1)) (Hs (i + 1))
 chk : ∀ (i p : Nat) (oi op : Oper), ops.toList[i]? = some oi → ops.toList[p]? = some op → cls P oi = 1 → guardB ops oi (A i) = some true → cls P op = 2 →
   ((masks ops.toList []).getD i 0).testBit p = false → ((masks ops.toList []).getD p 0).testBit i = false →
   ∃ v, (∀ H v' H', Yl P X K (A i).eval oi H v' H' → A (i + 1) = (A i).put oi.dst v' → v' = v) ∧ qval P (A i).eval oi (Hs p) = some v ∧ qval P (A i).eval oi (Hs (p + 1)) = some v
theorem j13 (a : Act) (dst : Option Tmp) (v : Value) : (a.put dst v).tmps.size = a.tmps.size := by
 cases dst <;> simp [Act.put]
theorem js8 (a : Act) (dst : Option Tmp) (v : Value) : (a.put dst v).defers = a.defers := by cases dst <;> rfl
theorem j0t (a : Act) (dst : Option Tmp) (v : Value) (t : Nat) (h : dst ≠ some t) : (a.put dst v).tmps[t]? = a.tmps[t]? := by
 cases dst with
 | none => rfl
 | some d =>
   have : d ≠ t := fun e => h (by rw [e])
   simp [Act.put, this]
theorem StepC.put {P : Program} {X : Xf} {K : Kf} {ops : Array Oper} {o : Oper} {a a' : Act} {H H' : Heap} (h : StepC P X K ops o a H a' H') : ∃ v, a' = a.put o.dst v := by
 rcases h with ⟨_, _, v, _, h⟩ | ⟨_, h, _⟩
 · exact ⟨v, h⟩
 · exact ⟨undef, h⟩
section
variable {P : Program} {X : Xf} {K : Kf} {ops : Array Oper} {A : Nat → Act} {Hs : Nat → Heap}
theorem Tra.size (h : Tra P X K ops A Hs) : ∀ i, i ≤ ops.toList.length → (A i).tmps.size = (A 0).tmps.size
 | 0, _ => rfl
 | i + 1, hi => by
   obtain ⟨v, hv⟩ := (h.step i ops.toList[i] (List.getElem?_eq_getElem (by omega))).put
   rw [hv, j13, h.size i (by omega)]
theorem Tra.defers (h : Tra P X K ops A Hs) : ∀ i, i ≤ ops.toList.length → (A i).defers = (A 0).defers
 | 0, _ => rfl
 | i + 1, hi => by
   obtain ⟨v, hv⟩ := (h.step i ops.toList[i] (List.getElem?_eq_getElem (by omega))).put
   rw [hv, js8, h.defers i (by omega)]
theorem Tra.slot (h : Tra P X K ops A Hs) (t : Nat) (i : Nat) : ∀ k, i + k ≤ ops.toList.length → (∀ j o, i ≤ j → j < i + k → ops.toList[j]? = some o → o.dst ≠ some t) → (A (i + k)).tmps[t]? = (A i).tmps[t]?
 | 0, _, _ => rfl
 | k + 1, hk, hn => by
   have hlt : i + k < ops.toList.length := by omega
   obtain ⟨v, hv⟩ := (h.step (i + k) ops.toList[i + k] (List.getElem?_eq_getElem hlt)).put
   rw [show i + (k + 1) = i + k + 1 by omega, hv, j0t _ _ _ _ (hn (i + k) _ (by omega) (by omega) (List.getElem?_eq_getElem hlt))]
   exact h.slot t i k (by omega) (fun j o h1 h2 h3 => hn j o h1 (by omega) h3)
theorem Tra.heap (h : Tra P X K ops A Hs) (i : Nat) : ∀ k, i + k ≤ ops.toList.length → (∀ j o, i ≤ j → j < i + k → ops.toList[j]? = some o → cls P o ≠ 2) → Hs (i + k) = Hs i
 | 0, _, _ => rfl
 | k + 1, hk, hn => by
   have hlt : i + k < ops.toList.length := by omega
   have hc := hn (i + k) _ (by omega) (by omega) (List.getElem?_eq_getElem hlt)
   have hc2 : cls P ops.toList[i + k] < 2 := by
     have : ∀ o, cls P o ≤ 2 := by
       intro o
       unfold cls
       split
       all_goals first
         | omega
         | (split <;> omega)
     have := this ops.toList[i + k]
     omega
   have : Hs (i + k + 1) = Hs (i + k) := by
     rcases h.step (i + k) ops.toList[i + k] (List.getElem?_eq_getElem hlt) with ⟨_, _, v, hy, _⟩ | ⟨_, _, hh⟩
     · exact j5f hc2 hy
     · exact hh
   rw [show i + (k + 1) = i + k + 1 by omega, this]
   exact h.heap i k (by omega) (fun j o h1 h2 h3 => hn j o h1 (by omega) h3)
end
theorem cls_le (P : Program) (o : Oper) : cls P o ≤ 2 := by
 unfold cls
 split
 all_goals first
   | omega
   | (split <;> omega)
theorem next_eff (P : Program) (l : List Oper) : ∀ (k i : Nat), i + k = l.length → ∃ q, i ≤ q ∧ q ≤ l.length ∧ (∀ j o, i ≤ j → j < q → l[j]? = some o → cls P o ≠ 2) ∧ (∀ o, l[q]? = some o → cls P o = 2)
 | 0, i, h => ⟨i, Nat.le_refl _, by omega, fun j o h1 h2 => by omega, fun o ho => by rw [List.getElem?_eq_none (by omega)] at ho; simp at ho⟩
 | k + 1, i, h => by
   have hlt : i < l.length := by omega
   by_cases hc : cls P l[i] = 2
   · exact ⟨i, Nat.le_refl _, by omega, fun j o h1 h2 => by omega, fun o ho => by rw [List.getElem?_eq_getElem hlt] at ho; simp only [Option.some.injEq] at ho; rw [← ho]; exact hc⟩
   · obtain ⟨q, h1, h2, h3, h4⟩ := next_eff P l k (i + 1) (by omega)
     refine ⟨q, by omega, h2, fun j o a b c => ?_, h4⟩
     rcases Nat.eq_or_lt_of_le a with e | e
     · subst e; rw [List.getElem?_eq_getElem hlt] at c; simp only [Option.some.injEq] at c; rw [← c]; exact hc
     · exact h3 j o e b c
theorem last_eff (P : Program) (l : List Oper) (i : Nat) : ∀ (k : Nat), i + k ≤ l.length → (∀ j o, i ≤ j → j < i + k → l[j]? = some o → cls P o ≠ 2) ∨
   ∃ e o, i ≤ e ∧ e < i + k ∧ l[e]? = some o ∧ cls P o = 2 ∧ ∀ j o, e < j → j < i + k → l[j]? = some o → cls P o ≠ 2
 | 0, _ => .inl fun j o h1 h2 => by omega
 | k + 1, h => by
   have hlt : i + k < l.length := by omega
   by_cases hc : cls P l[i + k] = 2
   · exact .inr ⟨i + k, l[i + k], by omega, by omega, List.getElem?_eq_getElem hlt, hc, fun j o h1 h2 => by omega⟩
   · rcases last_eff P l i k (by omega) with hn | ⟨e, o, h1, h2, h3, h4, h5⟩
     · refine .inl fun j o a b c => ?_
       rcases Nat.lt_or_ge j (i + k) with d | d
       · exact hn j o a d c
       · have : j = i + k := by omega
         subst this; rw [List.getElem?_eq_getElem hlt] at c; simp only [Option.some.injEq] at c; rw [← c]; exact hc
     · refine .inr ⟨e, o, h1, by omega, h3, h4, fun j o a b c => ?_⟩
       rcases Nat.lt_or_ge j (i + k) with d | d
       · exact h5 j o a d c
       · have : j = i + k := by omega
         subst this; rw [List.getElem?_eq_getElem hlt] at c; simp only [Option.some.injEq] at c; rw [← c]; exact hc
end Go.Aw
namespace Go.Aw
section
variable {P : Program} {X : Xf} {K : Kf} {ops : Array Oper} {A : Nat → Act} {Hs : Nat → Heap}
structure Inv (P : Program) (ops : Array Oper) (A : Nat → Act) (Hs : Nat → Heap) (m0 : Mp) (w0 : World) (L : Nat → Bool) (q : Nat) (m : Mp) (a' : Act) (w' : World) : Prop where
 rel : Rel m (Hs q) w'
 gl : Gl P m
 step : Step m0 (Hs 0) w0 m (Hs q) w'
 defers : DRs m (A 0).defers a'.defers
 size : (A 0).tmps.size = a'.tmps.size
 done : ∀ (j : Nat) (o : Oper) (t : Nat) (v v' : Value), ops.toList[j]? = some o → o.dst = some t → L j = true → (A ops.toList.length).tmps[t]? = some v → a'.tmps[t]? = some v' → VR m v v'
 kept : ∀ (t : Nat) (v v' : Value), (∀ (j : Nat) (o : Oper), ops.toList[j]? = some o → L j = true → o.dst ≠ some t) → (A 0).tmps[t]? = some v → a'.tmps[t]? = some v' → VR m v v'
 qle : q ≤ ops.toList.length
 qeff : ∀ o, ops.toList[q]? = some o → cls P o = 2 ∧ L q = false
 qlow : ∀ (j : Nat) (o : Oper), j < q → ops.toList[j]? = some o → cls P o = 2 → L j = true
theorem Inv.sees (hs : Sta P ops.toList) (ht : Tra P X K ops A Hs) {m0 : Mp} {w0 : World} {L : Nat → Bool} {q : Nat} {m : Mp} {a' : Act} {w' : World} (h : Inv P ops A Hs m0 w0 L q m a' w') (hd : Down ops.toList L)
   {i : Nat} {o : Oper} (ho : ops.toList[i]? = some o) (hp : ∀ e ∈ o.after, Region.binds .any e = true → L e.on = true) (hL : L i = false) {t : Nat} (hl : t ∈ looks ops.toList o) {v v' : Value}
   (hv : (A i).tmps[t]? = some v) (hv' : a'.tmps[t]? = some v') : VR m v v' := by
 have hi := (List.getElem?_eq_some_iff.1 ho).1
 by_cases hw : ∃ (j : Nat) (oj : Oper), ops.toList[j]? = some oj ∧ oj.dst = some t
 · obtain ⟨j, oj, hj, hjd⟩ := hw
   have hj2 := (List.getElem?_eq_some_iff.1 hj).1
   have uniq : ∀ k ok, ops.toList[k]? = some ok → ok.dst = some t → k = j := fun k ok h1 h2 => hs.dst k j ok oj t h1 hj h2 hjd
   obtain ⟨hne, hb⟩ := hs.look i j o oj t ho hj hjd hl
   rcases hb with hb | hb
   · have hLj := down_bit hs hd i o j ho hp hb
     have hji := sta_bit_lt hs ho hb
     refine h.done j oj t v v' hj hjd hLj ?_ hv'
     have := ht.slot t i (ops.toList.length - i) (by omega) (fun k ok a b c d => by have := uniq k ok c d; omega)
     rw [show i + (ops.toList.length - i) = ops.toList.length by omega] at this
     rw [this, hv]
   · have hij := sta_bit_lt hs hj hb
     have hLj : L j = false := by
       cases e : L j with
       | false => rfl
       | true =>
         have := down_bit hs hd j oj i hj (fun x hx hbx => hd j oj hj e x hx hbx) hb
         rw [this] at hL; simp at hL
     refine h.kept t v v' (fun k ok a b c => ?_) ?_ hv'
     · have := uniq k ok a c; subst this; rw [hLj] at b; simp at b
     · have := ht.slot t 0 i (by omega) (fun k ok a b c d => by have := uniq k ok c d; omega)
       rw [Nat.zero_add] at this
       rw [← this, hv]
 · refine h.kept t v v' (fun k ok a _ c => hw ⟨k, ok, a, c⟩) ?_ hv'
   have := ht.slot t 0 i (by omega) (fun k ok a b c d => hw ⟨k, ok, c, d⟩)
   rw [Nat.zero_add] at this
   rw [← this, hv]
theorem eval_sees {m : Mp} {a a' : Act} (hg : Gl P m) (hsz : a.tmps.size = a'.tmps.size) {x : Operand} (hx : operandOk P x = true) (h : ∀ t, x = .tmp t → ∀ v v', a.tmps[t]? = some v → a'.tmps[t]? = some v' → VR m v v') :
   VR m (a.eval x) (a'.eval x) := by
 cases x with
 | tmp t =>
   simp only [Act.eval]
   by_cases hlt : t < a.tmps.size
   · have hlt' : t < a'.tmps.size := hsz ▸ hlt
     have := h t rfl a.tmps[t] a'.tmps[t] (Array.getElem?_eq_getElem hlt) (Array.getElem?_eq_getElem hlt')
     simpa [Array.getD, hlt, hlt'] using this
   · have hlt' : ¬ t < a'.tmps.size := hsz ▸ hlt
     simpa [Array.getD, hlt, hlt'] using VR.undef m
 | const v => exact .of_ground hx
 | global g =>
   have hlt : g < P.globals.size := by simpa [operandOk] using hx
   obtain ⟨L, h1, h2, h3⟩ := hg g hlt
   have := VR.ptr (m := m) g 0 L h1
   rw [h2, h3] at this
   exact this
 | func f => exact .func (.func f) #[] #[] #[] #[] rfl rfl (fun i h => absurd h (by simp)) (fun i h => absurd h (by simp))
theorem j0u {m : Mp} {o : Oper} {a a' : Act} (hsz : a.tmps.size = a'.tmps.size) {b : Bool} (hb : guardB ops o a = some b)
   (h : ∀ j want d, o.guard = some (j, want) → (ops[j]?).bind (·.dst) = some d → ∀ v v', a.tmps[d]? = some v → a'.tmps[d]? = some v' → VR m v v') : Region.wanted o (yielded ops a'.tmps) = b := by
 unfold guardB at hb
 split at hb
 · rename_i hg; simp only [Option.some.injEq] at hb; subst hb; simp [Region.wanted, hg]
 · rename_i j want hg
   split at hb
   · rename_i hd; simp only [Option.some.injEq] at hb; subst hb; simp [Region.wanted, hg, yielded, hd]
   · rename_i d hd
     split at hb
     · rename_i x hx
       simp only [Option.some.injEq] at hb; subst hb
       have hlt := (Array.getElem?_eq_some_iff.1 hx).1
       have hlt' : d < a'.tmps.size := hsz ▸ hlt
       have := (h j want d hg hd _ _ hx (Array.getElem?_eq_getElem hlt')).bool_inv
       simp only [Region.wanted, hg, yielded, hd, Option.bind_some, Array.getElem?_eq_getElem hlt', this]
       cases x <;> cases want <;> rfl
     · rename_i vs hx
       simp only [Option.some.injEq] at hb; subst hb
       have hlt := (Array.getElem?_eq_some_iff.1 hx).1
       have hlt' : d < a'.tmps.size := hsz ▸ hlt
       obtain ⟨vs', e, _⟩ := (h j want d hg hd _ _ hx (Array.getElem?_eq_getElem hlt')).tuple_inv
       simp [Region.wanted, hg, yielded, hd, hlt', e]
     · simp at hb
theorem Inv.quiet (hs : Sta P ops.toList) (ht : Tra P X K ops A Hs) {m0 : Mp} {w0 : World} {L : Nat → Bool} {q : Nat} {m : Mp} {a' : Act} {w' : World} (h : Inv P ops A Hs m0 w0 L q m a' w') (hd : Down ops.toList L)
   {i : Nat} {o : Oper} (ho : ops.toList[i]? = some o) (hp : ∀ e ∈ o.after, Region.binds .any e = true → L e.on = true) (hL : L i = false) (hg : guardB ops o (A i) = some true) (hc : cls P o < 2)
   {v : Value} {H' : Heap} (hy : Yl P X K (A i).eval o (Hs i) v H') (hA : A (i + 1) = (A i).put o.dst v) : Yl P X K (A i).eval o (Hs q) v (Hs q) := by
 have hi := (List.getElem?_eq_some_iff.1 ho).1
 rcases Nat.eq_zero_or_pos (cls P o) with h0 | hpos
 · exact yo4 h0 hy (Hs q)
 · have h1 : cls P o = 1 := by omega
   have hH' := j5f hc hy
   subst hH'
   have unord : ∀ p op, ops.toList[p]? = some op → L p = true → ((masks ops.toList []).getD p 0).testBit i = false := by
     intro p op hop hLp
     cases e : ((masks ops.toList []).getD p 0).testBit i with
     | false => rfl
     | true =>
       have := down_bit hs hd p op i hop (fun x hx hbx => hd p op hop hLp x hx hbx) e
       rw [this] at hL; simp at hL
   rcases Nat.lt_or_ge i q with hiq | hiq
   · rcases last_eff P ops.toList i (q - i) (by have := h.qle; omega) with hn | ⟨e, oe, e1, e2, e3, e4, e5⟩
     · have := ht.heap i (q - i) (by have := h.qle; omega) hn
       rw [show i + (q - i) = q by omega] at this
       rw [this]; exact hy
     · have hei : e ≠ i := by
         intro e'; subst e'; rw [ho] at e3; simp only [Option.some.injEq] at e3; subst e3; omega
       have hLe := h.qlow e oe (by omega) e3 e4
       have u1 := unord e oe e3 hLe
       have u2 : ((masks ops.toList []).getD i 0).testBit e = false := by
         cases b : ((masks ops.toList []).getD i 0).testBit e with
         | false => rfl
         | true => have := sta_bit_lt hs ho b; omega
       obtain ⟨u, k0, k1, k2⟩ := ht.chk i e o oe ho e3 h1 hg e4 u2 u1
       have hvu := k0 _ _ _ hy hA
       subst hvu
       have hh := ht.heap (e + 1) (q - (e + 1)) (by have := h.qle; omega) (fun j oj a b c => e5 j oj (by omega) (by omega) c)
       rw [show e + 1 + (q - (e + 1)) = q by omega] at hh
       rw [hh]
       exact j5e hc k2 X K
   · rcases Nat.eq_or_lt_of_le hiq with e | e
     · subst e; exact hy
     · have hq2 : q < ops.toList.length := by omega
       have hq3 := List.getElem?_eq_getElem hq2
       obtain ⟨c2, Lq⟩ := h.qeff _ hq3
       have u2 : ((masks ops.toList []).getD i 0).testBit q = false := by
         cases b : ((masks ops.toList []).getD i 0).testBit q with
         | false => rfl
         | true => have := down_bit hs hd i o q ho hp b; rw [this] at Lq; simp at Lq
       have u1 : ((masks ops.toList []).getD q 0).testBit i = false := by
         cases b : ((masks ops.toList []).getD q 0).testBit i with
         | false => rfl
         | true => have := sta_bit_lt hs hq3 b; omega
       obtain ⟨u, k0, k1, k2⟩ := ht.chk i q o _ ho hq3 h1 hg c2 u2 u1
       have hvu := k0 _ _ _ hy hA
       subst hvu
       exact j5e hc k1 X K
theorem Inv.next (hs : Sta P ops.toList) {m0 : Mp} {w0 : World} {L : Nat → Bool} {q : Nat} {m : Mp} {a' : Act} {w' : World} (h : Inv P ops A Hs m0 w0 L q m a' w') (hd : Down ops.toList L)
   {i : Nat} {o : Oper} (ho : ops.toList[i]? = some o) (hp : ∀ e ∈ o.after, Region.binds .any e = true → L e.on = true) (hL : L i = false) (hc : cls P o = 2) : i = q := by
 rcases Nat.lt_trichotomy i q with e | e | e
 · have := h.qlow i o e ho hc; rw [this] at hL; simp at hL
 · exact e
 · have hi := (List.getElem?_eq_some_iff.1 ho).1
   have hq2 : q < ops.toList.length := by omega
   have hq3 := List.getElem?_eq_getElem hq2
   obtain ⟨c2, Lq⟩ := h.qeff _ hq3
   have hb := hs.eff q i _ o hq3 ho e c2 hc
   have := down_bit hs hd i o q ho hp hb
   rw [this] at Lq; simp at Lq
theorem Inv.put (hs : Sta P ops.toList) (ht : Tra P X K ops A Hs) {m0 : Mp} {w0 : World} {L : Nat → Bool} {q : Nat} {m m2 : Mp} {a' : Act} {w' w2 : World} (h : Inv P ops A Hs m0 w0 L q m a' w')
   {i : Nat} {o : Oper} (ho : ops.toList[i]? = some o) (hL : L i = false) {v v' : Value} (hA : A (i + 1) = (A i).put o.dst v) {q2 : Nat} (hst : Step m (Hs q) w' m2 (Hs q2) w2) (hv : VR m2 v v')
   (q2le : q2 ≤ ops.toList.length) (q2eff : ∀ oq, ops.toList[q2]? = some oq → cls P oq = 2 ∧ L q2 = false ∧ q2 ≠ i) (q2low : ∀ (j : Nat) (oj : Oper), j < q2 → ops.toList[j]? = some oj → cls P oj = 2 → L j = true ∨ j = i) :
   Inv P ops A Hs m0 w0 (fun j => if j = i then true else L j) q2 m2 (a'.put o.dst v') w2 := by
 have hi := (List.getElem?_eq_some_iff.1 ho).1
 have hm := hst.later.1
 refine ⟨hst.rel, h.gl.mono hm, h.step.trans hst, ?_, ?_, ?_, ?_, q2le, ?_, ?_⟩
 · rw [js8]; exact h.defers.mono hm
 · rw [j13]; exact h.size
 · intro j oj t u u' hj hjd hLj hu hu'
   by_cases e : j = i
   · subst e
     rw [ho] at hj; simp only [Option.some.injEq] at hj; subst hj
     have hsl := ht.slot t (j + 1) (ops.toList.length - (j + 1)) (by omega) (fun k ok a b c d => by have := hs.dst k j ok o t c ho d hjd; omega)
     rw [show j + 1 + (ops.toList.length - (j + 1)) = ops.toList.length by omega, hA] at hsl
     have hszs := ht.size ops.toList.length (Nat.le_refl _)
     have hlt : t < (A ops.toList.length).tmps.size := (Array.getElem?_eq_some_iff.1 hu).1
     have hlt2 : t < (A j).tmps.size := by rw [ht.size j (by omega), ← hszs]; exact hlt
     have hlt3 : t < a'.tmps.size := by rw [← h.size, ← hszs]; exact hlt
     rw [hsl] at hu
     simp only [Act.put, hjd, Array.getElem?_setIfInBounds, if_true, hlt2, hlt3, Option.some.injEq] at hu hu'
     subst hu; subst hu'
     exact hv
   · simp only [e, if_false] at hLj
     have hne : o.dst ≠ some t := by
       intro hd; exact e (hs.dst j i oj o t hj ho hjd hd)
     rw [j0t _ _ _ _ hne] at hu'
     exact (h.done j oj t u u' hj hjd hLj hu hu').mono hm
 · intro t u u' hn hu hu'
   have hne : o.dst ≠ some t := hn i o ho (by simp)
   rw [j0t _ _ _ _ hne] at hu'
   refine (h.kept t u u' (fun j oj hj hLj => ?_) hu hu').mono hm
   refine hn j oj hj ?_
   by_cases e : j = i <;> simp [e, hLj]
 · intro oq hq
   obtain ⟨a1, a2, a3⟩ := q2eff oq hq
   exact ⟨a1, by simp [a3, a2]⟩
 · intro j oj hj1 hj2 hj3
   rcases q2low j oj hj1 hj2 hj3 with e | e
   · by_cases e' : j = i <;> simp [e', e]
   · simp [e]
end
end Go.Aw
