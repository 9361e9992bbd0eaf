/- Soundness of single operations within a run. -/
import Derived.Test.YtpfpfpeockbbpaaGreatDoorAmE
import Derived.Test.YtpfpfpeockbbpaaGreatDoorAmJm
import Derived.Laws.Small
namespace Go.Am

/-- How many cells a package-level variable has. -/
def szG (P : Program) (g : Nat) : Nat := match P.globals[g]? with | some x => P.cellsOf x.type | none => 0
def Gl (P : Program) (m : Mp) : Prop := ∀ g, g < P.globals.size → ∃ L, m g = some L ∧ L.c = g ∧ L.base = 0 ∧ L.e = szG P g
theorem Gl.mono {P : Program} {m m' : Mp} (h : Gl P m) (hm : m.le m') : Gl P m' := fun g hg => let ⟨L, a, b⟩ := h g hg; ⟨L, hm _ _ a, b⟩

def PanR (m : Mp) (c c' : List PanicEntry) : Prop := c.length = c'.length ∧ ∀ i (a : i < c.length) (b : i < c'.length), VR m c[i].v c'[i].v ∧ c[i].recovered = c'[i].recovered ∧ c[i].goexit = c'[i].goexit
theorem PanR.mono {m m' : Mp} (hm : m.le m') {c c' : List PanicEntry} (h : PanR m c c') : PanR m' c c' := ⟨h.1, fun i a b => ⟨(h.2 i a b).1.mono hm, (h.2 i a b).2⟩⟩

def DR (m : Mp) (d d' : Deferred) : Prop := ∃ fn cap cap', d.target = .fn fn cap ∧ d'.target = .fn fn cap' ∧ VRa m cap cap' ∧ VRa m d.args d'.args
theorem DR.mono {m m' : Mp} (hm : m.le m') {d d' : Deferred} (h : DR m d d') : DR m' d d' := let ⟨fn, c, c', a, b, x, y⟩ := h; ⟨fn, c, c', a, b, x.mono hm, y.mono hm⟩

inductive DRs (m : Mp) : List Deferred → List Deferred → Prop where
  | nil : DRs m [] []
  | cons {d d' : Deferred} {l l' : List Deferred} (h : DR m d d') (t : DRs m l l') : DRs m (d :: l) (d' :: l')
theorem DRs.mono {m m' : Mp} (hm : m.le m') {l l' : List Deferred} (h : DRs m l l') : DRs m' l l' := by
  induction h with
  | nil => exact .nil
  | cons h _ ih => exact .cons (h.mono hm) ih

structure ActR (m : Mp) (a a' : Act) : Prop where
  tmps : VRa m a.tmps a'.tmps
  defers : DRs m a.defers a'.defers

theorem ActR.mono {m m' : Mp} (hm : m.le m') {a a' : Act} (h : ActR m a a') : ActR m' a a' := ⟨h.tmps.mono hm, h.defers.mono hm⟩

theorem ActR.put {m : Mp} {a a' : Act} (h : ActR m a a') (dst : Option Tmp) {v v' : Value} (hv : VR m v v') : ActR m (a.put dst v) (a'.put dst v') := by
  cases dst with
  | none => exact h
  | some d => exact ⟨h.tmps.set d hv, h.defers⟩

def EndR (m : Mp) : End → Ending → Prop
  | .ret v, .returned v' => VR m v v'
  | .pan c, .panicked c' => PanR m c c'
  | _, _ => False

def KSnd (P : Program) (K : Kf) : Prop := ∀ f args H r H', K f args H = some (r, H') → ∀ m w args', Rel m H w → Gl P m → VRa m args args' →
  Calls P f args' w fun e w' => ∃ m', EndR m' r e ∧ Step m H w m' H' w'

def XSnd (P : Program) (X : Xf) : Prop := ∀ f args H v H', X f args H = some (v, H') → ∀ m w args', Rel m H w → Gl P m → VRa m args args' →
  ∃ m' v' w', (callFunc f args').run P w = .ok (.value v') w' ∧ VR m' v v' ∧ Step m H w m' H' w'

theorem eval_ok {P : Program} {m : Mp} {a a' : Act} (h : ActR m a a') (hg : Gl P m) {x : Operand} (hx : operandOk P x = true) : VR m (a.eval x) (a'.eval x) := by
  cases x with
  | tmp t => exact h.tmps.getD t (.undef m)
  | const v => exact .of_ground hx
  | global g =>
    have hlt : g < P.globals.size := by simpa [operandOk] using hx
    obtain ⟨L, h1, h2, h3, _⟩ := hg g hlt
    have := VR.ptr (m := m) g 0 L h1
    rw [h2, h3] at this
    exact this
  | func f => exact .func (.func f) #[] #[] #[] #[] rfl rfl (fun i h => absurd h (by simp)) (fun i h => absurd h (by simp))

/-- What must hold behind one operation. -/
structure Goes (P : Program) (o : Oper) (a' : Act) (m : Mp) (H : Heap) (w : World) (k : Value → Heap → R) (kp : List PanicEntry → Heap → R) (r : End × Heap)
    (next : Act → World → Prop) (Q : Exit → Act → World → Prop) : Prop where
  val : ∀ m' v v' H' w', VR m' v v' → Step m H w m' H' w' → k v H' = some r → next (a'.put o.dst v') w'
  pan : ∀ m' c c' H' w', PanR m' c c' → Step m H w m' H' w' → kp c H' = some r → Q (.panic c') a' w'

theorem upon_of_snd {P : Program} {o : Oper} {a' : Act} {m : Mp} {H : Heap} {w : World} {k : Value → Heap → R} {kp : List PanicEntry → Heap → R} {r : End × Heap} {next : Act → World → Prop} {Q : Exit → Act → World → Prop}
    (hg : Goes P o a' m H w k kp r next Q) {s : Sem Value} (he : execOp a'.eval o = (do Pure.pure (.value (← s)))) {v : Value} {H' : Heap} (hs : Snd P s m H w v H') (hk : k v H' = some r) :
    o.upon P a' next Q ((execOp a'.eval o).run P w) := by
  obtain ⟨m', v', w', h1, h2, h3⟩ := hs
  rw [he, Sem.run_bind, h1]
  exact hg.val m' v v' H' w' h2 h3 hk

theorem VRp_map {m : Mp} {ρ ρ' : Operand → Value} {parts : Array (Nat × Operand)} (h : ∀ x ∈ (parts.toList.map (·.2)), VR m (ρ x) (ρ' x)) :
    VRp m (parts.map fun (i, x) => (i, ρ x)).toList (parts.map fun (i, x) => (i, ρ' x)).toList := by
  refine ⟨by simp, fun i a b => ?_⟩
  simp only [Array.toList_map, List.getElem_map, Array.getElem_toList, true_and]
  refine h _ (List.mem_map.2 ⟨parts[i]'(by simpa using a), by simp, rfl⟩)

theorem VRa_map {m : Mp} {ρ ρ' : Operand → Value} {xs : Array Operand} (h : ∀ x ∈ xs.toList, VR m (ρ x) (ρ' x)) : VRa m (xs.map ρ) (xs.map ρ') :=
  ⟨by simp, fun i a b => by simp only [Array.getElem_map]; exact h _ (by simp)⟩

theorem VRo_map {m : Mp} {ρ ρ' : Operand → Value} {x : Option Operand} (h : ∀ y ∈ x.toList, VR m (ρ y) (ρ' y)) : VRo m (x.map ρ) (x.map ρ') := by
  cases x with
  | none => trivial
  | some y => exact h y (by simp)

theorem callK_sound {P : Program} {X : Xf} {K : Kf} (hX : XSnd P X) (hK : KSnd P K) {o : Oper} {a' : Act} {m : Mp} {H : Heap} {w : World} (h : Rel m H w) (hgl : Gl P m)
    {k : Value → Heap → R} {kp : List PanicEntry → Heap → R} {r : End × Heap} {next : Act → World → Prop} {Q : Exit → Act → World → Prop} (hg : Goes P o a' m H w k kp r next Q)
    {f : FuncId} {args args' : Array Value} (hargs : VRa m args args') (he : callK P X K f args H k kp = some r) :
    o.upon P a' next Q ((callFunc f args').run P w) := by
  unfold callK at he
  split at he
  · rename_i fn hf
    by_cases hn : (fn.name == "runtime.NumGoroutine") = true
    · rw [if_pos hn] at he; simp at he
    · rw [if_neg hn] at he
      by_cases hb : fn.body.isNone = true
      · rw [if_pos hb] at he
        obtain ⟨v, H', hx, hk⟩ := bindV_some he
        obtain ⟨m', v', w', h1, h2, h3⟩ := hX f args H v H' hx m w args' h hgl hargs
        rw [h1]
        exact hg.val m' v v' H' w' h2 h3 hk
      · rw [if_neg hb] at he
        have hrun : (callFunc f args').run P w = .ok (.enter f args') w := by
          unfold callFunc
          simp only [Sem.run_bind, run_program, Result.andThen_ok, hf]
          rw [if_neg hn, if_neg hb]
          rfl
        rw [hrun, Oper.upon_enter]
        unfold bindR at he
        split at he
        · rename_i v H' hk
          refine (hK f args H _ _ hk m w args' h hgl hargs).mono fun e w' ⟨m', h1, h2⟩ => ?_
          cases e with
          | returned v' => exact hg.val m' v v' H' w' h1 h2 he
          | panicked c' => exact h1.elim
          | outgrown => exact h1.elim
        · rename_i c H' hk
          refine (hK f args H _ _ hk m w args' h hgl hargs).mono fun e w' ⟨m', h1, h2⟩ => ?_
          cases e with
          | returned v' => exact h1.elim
          | panicked c' => exact hg.pan m' c c' H' w' h1 h2 he
          | outgrown => exact h1.elim
        · simp at he
  · simp at he

theorem builtinK_sound {P : Program} {o : Oper} {a' : Act} {m : Mp} {H : Heap} {w : World} (h : Rel m H w)
    {k : Value → Heap → R} {kp : List PanicEntry → Heap → R} {r : End × Heap} {next : Act → World → Prop} {Q : Exit → Act → World → Prop} (hg : Goes P o a' m H w k kp r next Q)
    {b : Builtin} {ts : Array TypeId} {ty : TypeId} {cs : Array Bool} {args args' : Array Value} (hargs : VRa m args args') (he : builtinK P b ts args H k = some r) :
    o.upon P a' next Q ((builtin b ts ty cs args').run P w) := by
  have hl := hargs.toList
  obtain ⟨args⟩ := args
  obtain ⟨args'⟩ := args'
  simp only at hl
  have fin : ∀ {s : Sem Value} {v : Value} {H' : Heap}, Snd P s m H w v H' → k v H' = some r → o.upon P a' next Q ((do Pure.pure (Next.value (← s)) : Sem Next).run P w) := by
    intro s v H' hs hk
    obtain ⟨m', v', w', h1, h2, h3⟩ := hs
    rw [Sem.run_bind, h1]
    exact hg.val m' v v' H' w' h2 h3 hk
  unfold builtinK at he
  split at he
  · rename_i x hx
    simp only at hx; subst hx
    match args', hl with
    | [x'], hl =>
      split at he
      · rename_i t ht
        obtain ⟨v, hv, hk⟩ := bindO_some he
        exact fin (lenA_sound h ht hl.head hv) hk
      · simp at he
    | [], hl => have := hl.1; simp at this
    | _ :: _ :: _, hl => have := hl.1; simp at this
  · rename_i x y hx
    simp only at hx; subst hx
    match args', hl with
    | [x', y'], hl =>
      by_cases h2 : ts.size = 2
      · rw [if_pos h2] at he
        obtain ⟨v, H', hv, hk⟩ := bindV_some he
        exact fin (appendA_sound h h2 hl.head hl.tail.head hv) hk
      · rw [if_neg h2] at he; simp at he
    | [], hl => have := hl.1; simp at this
    | [_], hl => have := hl.1; simp at this
    | _ :: _ :: _ :: _, hl => have := hl.1; simp at this
  · rename_i x y hx
    simp only at hx; subst hx
    match args', hl with
    | [x', y'], hl =>
      obtain ⟨v, H', hv, hk⟩ := bindV_some he
      exact fin (copyA_sound h hl.head hl.tail.head hv) hk
    | [], hl => have := hl.1; simp at this
    | [_], hl => have := hl.1; simp at this
    | _ :: _ :: _ :: _, hl => have := hl.1; simp at this
  · rename_i ka a kb b hx
    simp only at hx; subst hx
    match args', hl with
    | [x', y'], hl =>
      have e1 := hl.head.int_inv; have e2 := hl.tail.head.int_inv
      subst e1; subst e2
      by_cases hkk : ka = kb
      · rw [if_pos hkk] at he
        subst hkk
        refine fin (s := Builtin.min_ ts ty #[.int ka a, .int ka b]) (.pure h ?_ (.int m ka _)) he
        rw [run_min_int2]
      · rw [if_neg hkk] at he; simp at he
    | [], hl => have := hl.1; simp at this
    | [_], hl => have := hl.1; simp at this
    | _ :: _ :: _ :: _, hl => have := hl.1; simp at this
  · rename_i x hx
    simp only at hx; subst hx
    match args', hl with
    | [x'], hl =>
      obtain ⟨v, H', hv, hk⟩ := bindV_some he
      exact fin (dataA_sound h hl.head hv) hk
    | [], hl => have := hl.1; simp at this
    | _ :: _ :: _, hl => have := hl.1; simp at this
  · rename_i x y hx
    simp only at hx; subst hx
    match args', hl with
    | [x', y'], hl =>
      by_cases h2 : ts.size = 2
      · rw [if_pos h2] at he
        obtain ⟨v, H', hv, hk⟩ := bindV_some he
        exact fin (unsafeStrA_sound h h2 hl.head hl.tail.head hv) hk
      · rw [if_neg h2] at he; simp at he
    | [], hl => have := hl.1; simp at this
    | [_], hl => have := hl.1; simp at this
    | _ :: _ :: _ :: _, hl => have := hl.1; simp at this
  · rename_i ka a kb b hx
    simp only at hx; subst hx
    match args', hl with
    | [x', y'], hl =>
      have e1 := hl.head.int_inv; have e2 := hl.tail.head.int_inv
      subst e1; subst e2
      by_cases hkk : ka = kb
      · rw [if_pos hkk] at he
        subst hkk
        refine fin (s := Builtin.max_ ts ty #[.int ka a, .int ka b]) (.pure h ?_ (.int m ka _)) he
        rw [run_max_int2]
      · rw [if_neg hkk] at he; simp at he
    | [], hl => have := hl.1; simp at this
    | [_], hl => have := hl.1; simp at this
    | _ :: _ :: _ :: _, hl => have := hl.1; simp at this
  · simp at he

end Go.Am
