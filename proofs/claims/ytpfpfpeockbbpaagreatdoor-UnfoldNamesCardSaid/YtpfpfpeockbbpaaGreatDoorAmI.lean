/- Soundness of runs of code. -/
import Derived.Test.YtpfpfpeockbbpaaGreatDoorAmG
import Derived.ScopeJumps
namespace Go.Am

/-- The state of a run: frames alike, heaps alike. -/
structure StR (P : Program) (m : Mp) (a : Act) (H : Heap) (a' : Act) (w : World) : Prop where
  act : ActR m a a'
  rel : Rel m H w
  gl : Gl P m

theorem StR.step {P : Program} {m m' : Mp} {a : Act} {H H' : Heap} {a' : Act} {w w' : World} (h : StR P m a H a' w) (hs : Step m H w m' H' w') : StR P m' a H' a' w' :=
  ⟨h.act.mono hs.later.1, hs.rel, h.gl.mono hs.later.1⟩

theorem StR.put {P : Program} {m : Mp} {a : Act} {H : Heap} {a' : Act} {w : World} (h : StR P m a H a' w) (dst : Option Tmp) {v v' : Value} (hv : VR m v v') : StR P m (a.put dst v) H (a'.put dst v') w :=
  ⟨h.act.put dst hv, h.rel, h.gl⟩

/-- A run's later state, from an earlier one. -/
def After (P : Program) (m : Mp) (H : Heap) (w : World) (k : Act → Heap → Prop) (a' : Act) (w' : World) : Prop :=
  ∃ m' a H', StR P m' a H' a' w' ∧ Step m H w m' H' w' ∧ k a H'

theorem After.mono {P : Program} {m m1 : Mp} {H H1 : Heap} {w w1 : World} {k k' : Act → Heap → Prop} (hs : Step m H w m1 H1 w1) (hk : ∀ a H, k a H → k' a H) {a' : Act} {w' : World} (h : After P m1 H1 w1 k a' w') :
    After P m H w k' a' w' := let ⟨m', a, H', x, y, z⟩ := h; ⟨m', a, H', x, hs.trans y, hk _ _ z⟩

def isUndef : Value → Bool
  | .tuple vs => vs.isEmpty
  | _ => false
/-- Frames alike but for what is not known any more. -/
structure ActW (m : Mp) (a a' : Act) : Prop where
  size : a.tmps.size = a'.tmps.size
  tmps : ∀ (t : Nat) (h : t < a.tmps.size) (h' : t < a'.tmps.size), isUndef a.tmps[t] = true ∨ VR m a.tmps[t] a'.tmps[t]
  defers : DRs m a.defers a'.defers
theorem ActR.weak {m : Mp} {a a' : Act} (h : ActR m a a') : ActW m a a' := ⟨h.tmps.1, fun t h1 h2 => .inr (h.tmps.2 t h1 h2), h.defers⟩
theorem ActW.mono {m m' : Mp} (hm : m.le m') {a a' : Act} (h : ActW m a a') : ActW m' a a' := ⟨h.size, fun t h1 h2 => (h.tmps t h1 h2).imp id fun x => x.mono hm, h.defers.mono hm⟩
structure StW (P : Program) (m : Mp) (a : Act) (H : Heap) (a' : Act) (w : World) : Prop where
  act : ActW m a a'
  rel : Rel m H w
  gl : Gl P m
theorem StR.weak {P : Program} {m : Mp} {a : Act} {H : Heap} {a' : Act} {w : World} (h : StR P m a H a' w) : StW P m a H a' w := ⟨h.act.weak, h.rel, h.gl⟩
/-- The same for a run that ends in a panic: the frame may hold anything that it does not name any more. -/
def AfterP (P : Program) (m : Mp) (H : Heap) (w : World) (c' : List PanicEntry) (k : List PanicEntry → Act → Heap → Prop) (a' : Act) (w' : World) : Prop :=
  ∃ m' c a H', PanR m' c c' ∧ StW P m' a H' a' w' ∧ Step m H w m' H' w' ∧ k c a H'

theorem AfterP.mono {P : Program} {m m1 : Mp} {H H1 : Heap} {w w1 : World} {c' : List PanicEntry} {k k' : List PanicEntry → Act → Heap → Prop} (hs : Step m H w m1 H1 w1) (hk : ∀ c a H, k c a H → k' c a H) {a' : Act} {w' : World} (h : AfterP P m1 H1 w1 c' k a' w') :
    AfterP P m H w c' k' a' w' := let ⟨m', c, a, H', p, x, y, z⟩ := h; ⟨m', c, a, H', p, x, hs.trans y, hk _ _ _ z⟩

/-- One operation that is wanted. -/
theorem execOp1_sound {P : Program} {X : Xf} {K : Kf} (hX : XSnd P X) (hK : KSnd P K) {o : Oper} {a a' : Act} {m : Mp} {H : Heap} {w : World} (h : StR P m a H a' w)
    {k : Act → Heap → R} {kp : List PanicEntry → Act → Heap → R} {r : End × Heap} (he : execOp1 P X K o a H k kp = some r) {next : Act → World → Prop} {Q : Exit → Act → World → Prop}
    (hn : ∀ b' w', After P m H w (fun b H' => k b H' = some r) b' w' → next b' w')
    (hp : ∀ c' b' w', AfterP P m H w c' (fun c b H' => kp c b H' = some r) b' w' → Q (.panic c') b' w') : o.wp P a' w next Q := by
  unfold execOp1 at he
  cases hok : opOk P o with
  | false => rw [hok] at he; simp at he
  | true =>
    rw [hok] at he
    simp only [cond_true] at he
    have hρ : ∀ x ∈ o.op.operands.toList, VR m (a.eval x) (a'.eval x) := fun x hx => eval_ok h.act h.gl (List.all_eq_true.1 hok x hx)
    unfold Oper.wp
    split at he
    · rename_i c ho
      split at he
      · rename_i d hd
        unfold deferOf at hd
        split at hd
        · rename_i f hf
          split at hd
          · rename_i fn first cap hgv
            simp only [Option.some.injEq] at hd; subst hd
            have hfv := hρ f (by simp [ho, Op.operands, Call.operands, hf])
            rw [hgv] at hfv
            generalize hz : a'.eval f = z at hfv
            have hargs : VRa m (c.args.map a.eval) (c.args.map a'.eval) := VRa_map (fun x hx => hρ x (by simp only [ho, Op.operands, Call.operands]; simp at hx ⊢; exact .inr hx))
            cases hfv with
            | atom _ hh => simp [atomic] at hh
            | func _ _ first' _ cap' q1 q2 q3 q4 =>
              have hex : (execOp a'.eval o).run P w = .ok (.defer { target := .fn fn cap', args := first' ++ c.args.map a'.eval }) w := by
                simp only [execOp, ho, resolve, hf, hz, Deferred.ofValue]
                rfl
              rw [hex, Oper.upon_defer]
              refine hn _ _ ⟨m, _, H, ?_, .refl h.rel, he⟩
              refine ⟨?_, h.rel, h.gl⟩
              refine ActR.put (a := { a with defers := _ :: a.defers }) (a' := { a' with defers := _ :: a'.defers }) ⟨h.act.tmps, .cons ?_ h.act.defers⟩ o.dst (.undef m)
              exact ⟨fn, cap, cap', rfl, rfl, ⟨q2, q4⟩, VRa.append ⟨q1, q3⟩ hargs⟩
          · simp at hd
        · simp at hd
      · simp at he
    · refine opK_sound hX hK h.rel h.gl hρ ⟨?_, ?_⟩ he
      · intro m' v v' H' w' hv hs hk
        exact hn _ _ ⟨m', a.put o.dst v, H', (h.step hs).put o.dst hv, hs, typed_some hk⟩
      · intro m' c c' H' w' hc hs hk
        exact hp _ _ _ ⟨m', c, a, H', hc, (h.step hs).weak, hs, hk⟩

/-- What a guard says. -/
theorem guardK_sound {P : Program} {ops : Array Oper} {o : Oper} {a a' : Act} {m : Mp} {H : Heap} {w : World} (h : StR P m a H a' w) {run skip : Act → R} {r : End × Heap} (he : guardK ops o a run skip = some r) :
    ∃ b, StR P m b H a' w ∧ ((Region.wanted o (yielded ops a'.tmps) = true ∧ run b = some r) ∨ (Region.wanted o (yielded ops a'.tmps) = false ∧ skip b = some r)) := by
  unfold guardK at he
  split at he
  · rename_i hgd
    exact ⟨a, h, .inl ⟨by simp [Region.wanted, hgd], he⟩⟩
  · rename_i j want hgd
    split at he
    · rename_i hd
      refine ⟨a, h, .inr ⟨?_, he⟩⟩
      simp [Region.wanted, hgd, yielded, hd]
    · rename_i d hd
      have hsz := h.act.tmps.1
      split at he
      · rename_i b hb
        obtain ⟨hlt, hb2⟩ := Array.getElem?_eq_some_iff.1 hb
        have hlt' : d < a'.tmps.size := hsz ▸ hlt
        have hv := h.act.tmps.2 d hlt hlt'
        rw [hb2] at hv
        have hv' := hv.bool_inv
        have hy : yielded ops a'.tmps j = some b := by
          simp [yielded, hd, hlt', hv']
        rw [splitB_eq] at he
        have hset : StR P m { a with tmps := a.tmps.setIfInBounds d (.bool b) } H a' w := by
          refine ⟨⟨?_, h.act.defers⟩, h.rel, h.gl⟩
          refine ⟨by simpa using hsz, fun i x y => ?_⟩
          have x' : i < a.tmps.size := by simpa using x
          by_cases e : d = i
          · subst e
            have : (a.tmps.setIfInBounds d (.bool b))[d] = .bool b := by simp
            rw [this, hv']; exact .bool m b
          · have : (a.tmps.setIfInBounds d (.bool b))[i] = a.tmps[i] := by simp [e, x']
            rw [this]; exact h.act.tmps.2 i x' y
        refine ⟨_, hset, ?_⟩
        cases hw : (b == want) with
        | true =>
          rw [hw] at he
          have := eq_of_beq hw; subst this
          exact .inl ⟨by simp [Region.wanted, hgd, hy], he⟩
        | false =>
          rw [hw] at he
          refine .inr ⟨?_, he⟩
          have : b ≠ want := by intro e; subst e; simp at hw
          simp [Region.wanted, hgd, hy, this]
      · rename_i vs hb
        obtain ⟨hlt, hb2⟩ := Array.getElem?_eq_some_iff.1 hb
        have hlt' : d < a'.tmps.size := hsz ▸ hlt
        have hv := h.act.tmps.2 d hlt hlt'
        rw [hb2] at hv
        obtain ⟨vs', hv', _⟩ := hv.tuple_inv
        refine ⟨a, h, .inr ⟨?_, he⟩⟩
        simp [Region.wanted, hgd, yielded, hd, hlt', hv']
      · simp at he

/-- The operations of a region, in the order of the text. -/
theorem execOps_sound {P : Program} {X : Xf} {K : Kf} (hX : XSnd P X) (hK : KSnd P K) {ops : Array Oper} {r : End × Heap} {k : Act → Heap → R} {kp : List PanicEntry → Act → Heap → R} {Q : Exit → Act → World → Prop} :
    ∀ (l : List Oper) (n : Nat) (_ : l = ops.toList.drop n) {a a' : Act} {m : Mp} {H : Heap} {w : World}, StR P m a H a' w → execOps P X K ops l a H k kp = some r →
    (∀ b' w', After P m H w (fun b H' => k b H' = some r) b' w' → Q .normal b' w') →
    (∀ c' b' w', AfterP P m H w c' (fun c b H' => kp c b H' = some r) b' w' → Q (.panic c') b' w') →
    wpOps P ops Q ((List.range ops.size).drop n) a' w := by
  intro l
  induction l with
  | nil =>
    intro n hl a a' m H w h he hn hp
    have hlen : ops.size ≤ n := by
      have := congrArg List.length hl
      simp at this; omega
    rw [List.drop_of_length_le (by simpa using hlen)]
    exact hn _ _ ⟨m, a, H, h, .refl h.rel, he⟩
  | cons o rest ih =>
    intro n hl a a' m H w h he hn hp
    have hlt : n < ops.size := by
      have := congrArg List.length hl
      simp at this; omega
    have hd : (List.range ops.size).drop n = n :: (List.range ops.size).drop (n + 1) := by
      rw [List.drop_eq_getElem_cons (by simpa using hlt)]
      simp
    have hl2 : ops.toList.drop n = ops[n] :: ops.toList.drop (n + 1) := by
      rw [List.drop_eq_getElem_cons (by simpa using hlt)]
      simp
    rw [hl2] at hl
    simp only [List.cons.injEq] at hl
    obtain ⟨rfl, hrest⟩ := hl
    rw [hd]
    simp only [wpOps, Array.getElem?_eq_getElem hlt]
    simp only [execOps] at he
    obtain ⟨b, hb, hc⟩ := guardK_sound h he
    rcases hc with ⟨hw, hr⟩ | ⟨hw, hr⟩
    · rw [if_pos hw]
      left
      refine execOp1_sound hX hK hb hr (fun b2 w2 ha => ?_) (fun c2 b2 w2 ha => hp c2 b2 w2 ha)
      obtain ⟨m2, b3, H3, s1, s2, s3⟩ := ha
      exact ih (n + 1) hrest s1 s3 (fun b4 w4 ha4 => hn b4 w4 (ha4.mono s2 (fun _ _ x => x))) (fun c4 b4 w4 ha4 => hp c4 b4 w4 (ha4.mono s2 (fun _ _ _ x => x)))
    · rw [if_neg (by simp [hw])]
      exact ih (n + 1) hrest (hb.put _ (.undef m)) hr hn hp

/-- That regions that draw are sound; proved further on. -/
def DSnd (P : Program) (X : Xf) (K : Kf) : Prop := ∀ (ops : Array Oper) (r : End × Heap) (k : Act → Heap → R) (kp : List PanicEntry → Act → Heap → R) (Q : Exit → Act → World → Prop),
  ∀ {a a' : Act} {m : Mp} {H : Heap} {w : World}, StR P m a H a' w → drawK P X K ops a H k kp = some r →
    (∀ b' w', After P m H w (fun b H' => k b H' = some r) b' w' → Q .normal b' w') → (∀ c' b' w', AfterP P m H w c' (fun c b H' => kp c b H' = some r) b' w' → Q (.panic c') b' w') → ∀ id, (Code.region id ops true).wp P Q a' w

def OutQ (P : Program) (m : Mp) (H : Heap) (w : World) (k : Out → Act → Heap → R) (r : End × Heap) : Exit → Act → World → Prop
  | .normal, a', w' => After P m H w (fun a H' => k .norm a H' = some r) a' w'
  | .exit id, a', w' => After P m H w (fun a H' => k (.exit id) a H' = some r) a' w'
  | .goto l, a', w' => After P m H w (fun a H' => k (.goto l) a H' = some r) a' w'
  | .ret, a', w' => After P m H w (fun a H' => k .ret a H' = some r) a' w'
  | .panic c', a', w' => AfterP P m H w c' (fun c a H' => k (.pan c) a H' = some r) a' w'
  | .outgrown, _, _ => False

theorem OutQ.of {P : Program} {m : Mp} {H : Heap} {w : World} {k : Out → Act → Heap → R} {r : End × Heap} {m1 : Mp} {H1 : Heap} {w1 : World} (hs : Step m H w m1 H1 w1) {e : Exit} {a' : Act} {w' : World} (h : OutQ P m1 H1 w1 k r e a' w') :
    OutQ P m H w k r e a' w' := by
  cases e <;> first
    | exact After.mono hs (fun _ _ x => x) h
    | exact AfterP.mono hs (fun _ _ _ x => x) h
    | exact h


theorem hasLabel_find (l : Nat) : ∀ c : Code, hasLabel l c = (findLabel c l).isSome
  | .seq a b => by
    have ha := hasLabel_find l a
    have hb := hasLabel_find l b
    simp only [hasLabel, findLabel, ha, hb]
    cases findLabel a l <;> simp
  | .label l' => by
    simp only [hasLabel, findLabel]
    by_cases e : (l' == l) = true
    · simp [e]
    · simp [e]
  | .skip | .region .. | .cond .. | .block .. | .loop .. | .rangeFunc .. | .exit .. | .scope .. | .goto .. | .ret | .refuse .. => by simp [hasLabel, findLabel]

/-- Where code begins: at its head, or at a label of it. -/
def Begins (c : Code) : Option Nat → Code → Prop
  | none, c' => c' = c
  | some l, c' => findLabel c l = some c'

theorem OutQ.wp_mono {P : Program} {c : Code} {Q Q' : Exit → Act → World → Prop} {a : Act} {w : World} (h : c.wp P Q a w) (hq : ∀ e a w, Q e a w → Q' e a w) : c.wp P Q' a w := Go.wp_mono h hq

theorem loop_sound {P : Program} {c : Code} {body : Act → Heap → (Out → Act → Heap → R) → R} {r : End × Heap}
    (hb : ∀ {a a' : Act} {m : Mp} {H : Heap} {w : World} {k : Out → Act → Heap → R}, StR P m a H a' w → body a H k = some r → c.wp P (OutQ P m H w k r) a' w) :
    ∀ (n : Nat) {a a' : Act} {m : Mp} {H : Heap} {w : World} {k : Out → Act → Heap → R}, StR P m a H a' w → loopC body n a H k = some r →
      ∀ (b : Frame) (kk : List Item) (cs : List Frame), ∃ e a2 w2, OutQ P m H w k r e a2 w2 ∧ Arrives P (lone (b.at a' (.code c :: .inLoop c :: kk)) cs w) b kk cs e a2 w2 := by
  intro n
  induction n with
  | zero => intro a a' m H w k h he; simp [loopC] at he
  | succ n ih =>
    intro a a' m H w k h he b kk cs
    simp only [loopC] at he
    obtain ⟨e, a1, w1, hq, harr⟩ := hb h he b (.inLoop c :: kk) cs
    cases e with
    | normal =>
      obtain ⟨m1, a2, H1, s1, s2, s3⟩ := hq
      obtain ⟨e2, a3, w3, hq2, harr2⟩ := ih s1 s3 b kk cs
      exact ⟨e2, a3, w3, OutQ.of s2 hq2, .of_steps (Steps.trans harr (.one step_inLoop)) harr2⟩
    | exit id => exact ⟨.exit id, a1, w1, hq, .pass (x := .inLoop c) rfl (fun _ _ => .inl (by simp)) harr⟩
    | goto l => exact ⟨.goto l, a1, w1, hq, .pass (x := .inLoop c) rfl (fun _ _ => .inl (by simp)) harr⟩
    | ret => exact ⟨.ret, a1, w1, hq, .pass (x := .inLoop c) rfl (fun _ _ => .inl (by simp)) harr⟩
    | panic ch => exact ⟨.panic ch, a1, w1, hq, .pass (x := .inLoop c) rfl (fun _ _ => .inl (by simp)) harr⟩
    | outgrown => exact hq.elim

theorem scope_sound {P : Program} {c : Code} {body : Option Nat → Act → Heap → (Out → Act → Heap → R) → R} {r : End × Heap}
    (hb : ∀ (s : Option Nat) (c' : Code) {a a' : Act} {m : Mp} {H : Heap} {w : World} {k : Out → Act → Heap → R}, Begins c s c' → StR P m a H a' w → body s a H k = some r → c'.wp P (OutQ P m H w k r) a' w) :
    ∀ (n : Nat) (s : Option Nat) (c' : Code) {a a' : Act} {m : Mp} {H : Heap} {w : World} {k : Out → Act → Heap → R}, Begins c s c' → StR P m a H a' w → scopeC c body n s a H k = some r →
      ∀ (b : Frame) (kk : List Item) (cs : List Frame), ∃ e a2 w2, OutQ P m H w k r e a2 w2 ∧ Arrives P (lone (b.at a' (.code c' :: .inScope c :: kk)) cs w) b kk cs e a2 w2 := by
  intro n
  induction n with
  | zero => intro s c' a a' m H w k hs h he; simp [scopeC] at he
  | succ n ih =>
    intro s c' a a' m H w k hs h he b kk cs
    simp only [scopeC] at he
    obtain ⟨e, a1, w1, hq, harr⟩ := hb s c' hs h he b (.inScope c :: kk) cs
    cases e with
    | normal => exact ⟨.normal, a1, w1, hq, Steps.trans harr (.one step_inScope)⟩
    | exit id => exact ⟨.exit id, a1, w1, hq, fun k' hk => harr k' (by simpa [exitTo] using hk)⟩
    | goto l =>
      obtain ⟨m1, a2, H1, s1, s2, s3⟩ := hq
      change (bif hasLabel l c then scopeC c body n (some l) a2 H1 k else k (.goto l) a2 H1) = some r at s3
      cases hl : hasLabel l c with
      | true =>
        rw [hl] at s3
        simp only [cond_true] at s3
        rw [hasLabel_find] at hl
        obtain ⟨rest, hr⟩ := Option.isSome_iff_exists.1 hl
        obtain ⟨e2, a3, w3, hq2, harr2⟩ := ih (some l) rest hr s1 s3 b kk cs
        exact ⟨e2, a3, w3, OutQ.of s2 hq2, .of_steps (harr _ (by simp [gotoIn, hr])) harr2⟩
      | false =>
        rw [hl] at s3
        simp only [cond_false] at s3
        rw [hasLabel_find] at hl
        have hnone : findLabel c l = none := by simpa using hl
        exact ⟨.goto l, a1, w1, ⟨m1, a2, H1, s1, s2, s3⟩, fun k' hk => harr k' (by simpa [gotoIn, hnone] using hk)⟩
    | ret => exact ⟨.ret, a1, w1, hq, harr⟩
    | panic ch => exact ⟨.panic ch, a1, w1, hq, harr⟩
    | outgrown => exact hq.elim

theorem exec_sound {P : Program} {X : Xf} {K : Kf} {N : Nat} (hX : XSnd P X) (hK : KSnd P K) (hD : DSnd P X K) (r : End × Heap) :
    ∀ (c : Code) (s : Option Nat) (c' : Code) {a a' : Act} {m : Mp} {H : Heap} {w : World} {k : Out → Act → Heap → R}, Begins c s c' → StR P m a H a' w → exec P X K N c s a H k = some r →
      c'.wp P (OutQ P m H w k r) a' w := by
  intro c
  induction c with
  | skip =>
    intro s c' a a' m H w k hs h he
    cases s with
    | none => simp only [Begins] at hs; subst hs; exact wp_skip ⟨m, a, H, h, .refl h.rel, by simpa [exec] using he⟩
    | some l => simp [exec] at he
  | label l' =>
    intro s c' a a' m H w k hs h he
    cases s with
    | none => simp only [Begins] at hs; subst hs; exact wp_label ⟨m, a, H, h, .refl h.rel, by simpa [exec] using he⟩
    | some l =>
      simp only [exec] at he
      cases e : (l' == l) with
      | false => rw [e] at he; simp at he
      | true =>
        rw [e] at he
        simp only [Begins, findLabel, e, if_true, Option.some.injEq] at hs
        subst hs
        exact wp_skip ⟨m, a, H, h, .refl h.rel, he⟩
  | region id ops draw =>
    intro s c' a a' m H w k hs h he
    cases s with
    | some l => simp [exec] at he
    | none =>
      simp only [Begins] at hs; subst hs
      simp only [exec] at he
      cases draw with
      | false =>
        simp only [cond_false] at he
        refine wp_region ?_
        have := execOps_sound hX hK (Q := OutQ P m H w k r) ops.toList 0 (by simp) h he (fun _ _ x => x) (fun _ _ _ x => x)
        simpa using this
      | true =>
        simp only [cond_true] at he
        exact hD ops r (fun a H => k .norm a H) (fun c a H => k (.pan c) a H) _ h he (fun _ _ x => x) (fun _ _ _ x => x) id
  | seq x y ihx ihy =>
    intro s c' a a' m H w k hs h he
    have key : ∀ (x' : Code) {a a' : Act} {m : Mp} {H : Heap} {w : World}, (∀ {k : Out → Act → Heap → R}, ∀ s, exec P X K N x s a H k = some r → Begins x s x' → StR P m a H a' w → x'.wp P (OutQ P m H w k r) a' w) →
        ∀ s, Begins x s x' → StR P m a H a' w → exec P X K N x s a H (fun o a H => match o with | .norm => exec P X K N y none a H k | o => k o a H) = some r → (Code.seq x' y).wp P (OutQ P m H w k r) a' w := by
      intro x' a a' m H w hx s hs h he
      refine wp_seq (OutQ.wp_mono (hx s he hs h) ?_)
      intro e a1 w1 hq
      cases e with
      | normal =>
        obtain ⟨m1, a2, H1, s1, s2, s3⟩ := hq
        exact OutQ.wp_mono (ihy none y rfl s1 s3) (fun e a w hq => OutQ.of s2 hq)
      | _ => exact hq
    cases s with
    | none =>
      simp only [Begins] at hs; subst hs
      simp only [exec] at he
      exact key x (fun s he hs h => ihx s x hs h he) none rfl h he
    | some l =>
      simp only [exec] at he
      cases hl : hasLabel l x with
      | true =>
        rw [hl] at he
        simp only [cond_true] at he
        rw [hasLabel_find] at hl
        obtain ⟨rest, hr⟩ := Option.isSome_iff_exists.1 hl
        simp only [Begins, findLabel, hr, Option.some.injEq] at hs
        subst hs
        exact key rest (fun s he hs h => ihx s rest hs h he) (some l) hr h he
      | false =>
        rw [hl] at he
        simp only [cond_false] at he
        rw [hasLabel_find] at hl
        have hnone : findLabel x l = none := by simpa using hl
        simp only [Begins, findLabel, hnone] at hs
        exact ihy (some l) c' hs h he
  | cond x c1 c2 ih1 ih2 =>
    intro s c' a a' m H w k hs h he
    cases s with
    | some l => simp [exec] at he
    | none =>
      simp only [Begins] at hs; subst hs
      simp only [exec] at he
      split at he
      · rename_i t ht
        have hx : a'.eval x = .bool t := by
          cases x with
          | tmp j =>
            have hv := h.act.tmps.getD j (.undef m)
            have e1 : a.eval (.tmp j) = a.tmps.getD j undef := rfl
            rw [← e1, ht] at hv
            exact hv.bool_inv
          | const v => exact ht
          | global g => simp [Act.eval] at ht
          | func f => simp [Act.eval] at ht
        refine wp_cond hx ?_
        cases t with
        | true => exact ih1 none c1 rfl h he
        | false => exact ih2 none c2 rfl h he
      · simp at he
  | block id b ih =>
    intro s c' a a' m H w k hs h he
    cases s with
    | some l => simp [exec] at he
    | none =>
      simp only [Begins] at hs; subst hs
      simp only [exec] at he
      refine wp_block (OutQ.wp_mono (ih none b rfl h he) ?_)
      intro e a1 w1 hq
      cases e with
      | exit i =>
        obtain ⟨m1, a2, H1, s1, s2, s3⟩ := hq
        change (bif i == id then k .norm a2 H1 else k (.exit i) a2 H1) = some r at s3
        by_cases e : i = id
        · subst e
          simp only [BEq.rfl, cond_true] at s3
          simp only [Exit.inBlock, if_true]
          exact ⟨m1, a2, H1, s1, s2, s3⟩
        · have e' : (i == id) = false := by simpa using e
          simp only [e', cond_false] at s3
          simp only [Exit.inBlock, e, if_false]
          exact ⟨m1, a2, H1, s1, s2, s3⟩
      | _ => exact hq
  | loop b ih =>
    intro s c' a a' m H w k hs h he
    cases s with
    | some l => simp [exec] at he
    | none =>
      simp only [Begins] at hs; subst hs
      simp only [exec] at he
      intro fr kk cs
      obtain ⟨e, a2, w2, hq, harr⟩ := loop_sound (c := b) (fun h he => ih none b rfl h he) N h he fr kk cs
      exact ⟨e, a2, w2, hq, .of_steps (.one step_loop) harr⟩
  | rangeFunc f ps x y _ _ => intro s c' a a' m H w k hs h he; cases s <;> simp [exec] at he
  | exit id =>
    intro s c' a a' m H w k hs h he
    cases s with
    | none => simp only [Begins] at hs; subst hs; exact wp_exit ⟨m, a, H, h, .refl h.rel, by simpa [exec] using he⟩
    | some l => simp [exec] at he
  | scope b ih =>
    intro s c' a a' m H w k hs h he
    cases s with
    | some l => simp [exec] at he
    | none =>
      simp only [Begins] at hs; subst hs
      simp only [exec] at he
      intro fr kk cs
      obtain ⟨e, a2, w2, hq, harr⟩ := scope_sound (c := b) (fun s c' {_ _ _ _ _ _} hs h he => ih s c' hs h he) N none b rfl h he fr kk cs
      exact ⟨e, a2, w2, hq, .of_steps (.one step_scope) harr⟩
  | goto l =>
    intro s c' a a' m H w k hs h he
    cases s with
    | none => simp only [Begins] at hs; subst hs; exact wp_goto ⟨m, a, H, h, .refl h.rel, by simpa [exec] using he⟩
    | some l => simp [exec] at he
  | ret =>
    intro s c' a a' m H w k hs h he
    cases s with
    | none => simp only [Begins] at hs; subst hs; exact wp_ret ⟨m, a, H, h, .refl h.rel, by simpa [exec] using he⟩
    | some l => simp [exec] at he
  | refuse why => intro s c' a a' m H w k hs h he; cases s <;> simp [exec] at he

end Go.Am
