/- Functions: their bodies, their results, calls to any depth. -/
import Derived.Test.YtpfpfpeockbbpaaGreatDoorAmLM
import Derived.Test.YtpfpfpeockbbpaaGreatDoorAmM
namespace Go.Am

def resL (P : Program) (tmps : Array Value) (H : Heap) : List ResultVar → Option (List Value)
  | [] => some []
  | .tmp t :: r => match resL P tmps H r with | some l => some (tmps.getD t undef :: l) | none => none
  | .cell a t :: r => match loadA P t (tmps.getD a undef) H with
    | some (v, _) => match resL P tmps H r with | some l => some (v :: l) | none => none
    | none => none

def oneOf : List Value → Value
  | [v] => v
  | l => .tuple l.toArray

def finish (P : Program) (fn : Func) (o : Out) (a : Act) (H : Heap) : R :=
  match o with
  | .norm | .ret => match a.defers with
    | [] => match resL P a.tmps H fn.results.toList with | some l => some (.ret (oneOf l), H) | none => none
    | _ => none
  | .pan c => match a.defers with | [] => some (.pan c, H) | _ => none
  | _ => none

abbrev Hook := FuncId → Array Value → Heap → Option R

def call (P : Program) (X : Xf) (N : Nat) (hk : Hook) : Nat → Kf
  | 0 => fun _ _ _ => none
  | d + 1 => fun f args H =>
    match hk f args H with
    | some r => r
    | none =>
      match P.funcs[f]? with
      | some fn => match fn.body with
        | some c => exec P X (call P X N hk d) N c none { tmps := args ++ Array.replicate (fn.ntmps - args.size) undef, defers := [] } H (finish P fn)
        | none => none
      | none => none

theorem resL_sound {P : Program} {m : Mp} {H : Heap} {w : World} (h : Rel m H w) {ts ts' : Array Value} (hts : VRa m ts ts') : ∀ (l : List ResultVar) (vs : List Value), resL P ts H l = some vs →
    ∃ vs', (List.mapM (fun | .tmp t => Pure.pure (ts'.getD t undef) | .cell a t => (do loadVar t (← asAddr (ts'.getD a undef)) : Sem Value)) l : Sem (List Value)).run P w = .ok vs' w ∧ VRs m vs vs'
  | [], vs, he => by simp only [resL, Option.some.injEq] at he; subst he; exact ⟨[], by simp, VRs.nil m⟩
  | .tmp t :: r, vs, he => by
    simp only [resL] at he
    split at he
    · rename_i l hl
      simp only [Option.some.injEq] at he; subst he
      obtain ⟨vs', k1, k2⟩ := resL_sound h hts r l hl
      exact ⟨ts'.getD t undef :: vs', by simp only [List.mapM_cons, Sem.run_bind, Sem.run_pure, Result.andThen_ok, k1], VRs.cons (hts.getD t (.undef m)) k2⟩
    · simp at he
  | .cell a t :: r, vs, he => by
    simp only [resL] at he
    split at he
    · rename_i v H' hv
      split at he
      · rename_i l hl
        simp only [Option.some.injEq] at he; subst he
        obtain ⟨vs', k1, k2⟩ := resL_sound h hts r l hl
        have hx := hts.getD a (VR.undef m)
        obtain ⟨v', q1, q2, q3⟩ := loadA_read h hx hv
        have hp : ∃ b, ts.getD a undef = .pointer (some b) := by
          unfold loadA at hv
          split at hv
          · rename_i b hb; exact ⟨b, hb⟩
          · simp at hv
        obtain ⟨b, hb⟩ := hp
        rw [hb] at hx
        obtain ⟨L, _, _, e⟩ := hx.ptr_inv
        rw [e] at q1
        have q1' : (loadVar t ⟨L.c, L.base + b.off, none⟩).run P w = .ok v' w := by
          simpa [Instr.loadAt, Instr.sureAddr] using q1
        refine ⟨v' :: vs', ?_, VRs.cons q2 k2⟩
        have hA : (asAddr (ts'.getD a undef)).run P w = .ok ⟨L.c, L.base + b.off, none⟩ w := by rw [e]; rfl
        simp only [List.mapM_cons, Sem.run_bind, hA, Result.andThen_ok, q1', k1, Sem.run_pure]
      · simp at he
    · simp at he

theorem oneOf_sound {m : Mp} {l l' : List Value} (h : VRs m l l') : VR m (oneOf l) (if hs : l'.toArray.size = 1 then l'.toArray[0] else .tuple l'.toArray) := by
  match l, l', h with
  | [], [], h => exact .tuple _ _ rfl (fun i a => absurd a (by simp))
  | [x], [y], h => exact h.head
  | x :: y :: r, x' :: y' :: r', h =>
    have : ¬ (x' :: y' :: r').toArray.size = 1 := by simp
    rw [dif_neg this]
    exact .tuple _ _ (h.toArray).1 (h.toArray).2
  | [], _ :: _, h => have := h.1; simp at this
  | _ :: _, [], h => have := h.1; simp at this
  | [_], _ :: _ :: _, h => have := h.1; simp at this
  | _ :: _ :: _, [_], h => have := h.1; simp at this

theorem results_sound {P : Program} {m : Mp} {H : Heap} {w : World} (h : Rel m H w) {fn : Func} {ts ts' : Array Value} (hts : VRa m ts ts') {vs : List Value} (he : resL P ts H fn.results.toList = some vs) :
    ∃ v', (results fn ts').run P w = .ok v' w ∧ VR m (oneOf vs) v' := by
  obtain ⟨vs', k1, k2⟩ := resL_sound h hts fn.results.toList vs he
  refine ⟨_, ?_, oneOf_sound k2⟩
  unfold results
  have : (fn.results.mapM (fun | .tmp t => Pure.pure (ts'.getD t undef) | .cell a t => (do loadVar t (← asAddr (ts'.getD a undef)) : Sem Value)) : Sem (Array Value)).run P w = .ok vs'.toArray w := by
    rw [Array.mapM_eq_mapM_toList, Sem.run_map, k1]; rfl
  rw [Sem.run_bind]
  refine (congrArg (fun z => Result.andThen z _) this).trans ?_
  rfl

/-- What hooks say is so. -/
def HookSnd (P : Program) (hk : Hook) : Prop := ∀ f args H r H', hk f args H = some (some (r, H')) → ∀ m w args', Rel m H w → Gl P m → VRa m args args' →
  Calls P f args' w fun e w' => ∃ m', EndR m' r e ∧ Step m H w m' H' w'

theorem call_sound {P : Program} {X : Xf} {N : Nat} {hk : Hook} (hX : XSnd P X) (hH : HookSnd P hk) (hm : P.follows .mixedOrders = true) : ∀ d, KSnd P (call P X N hk d)
  | 0 => fun f args H r H' he => by simp [call] at he
  | d + 1 => by
    have hK := call_sound (X := X) (N := N) hX hH hm d
    intro f args H r H' he m w args' hrel hgl hargs
    simp only [call] at he
    split at he
    · rename_i r' hr
      rw [he] at hr
      exact hH f args H r H' hr m w args' hrel hgl hargs
    · split at he
      · rename_i fn hf
        split at he
        · rename_i c hb
          have hD : DSnd P X (call P X N hk d) := fun ops r k kp Q _ _ _ _ _ h he hQ hP id => drawK_sound hX hK hm h he hQ hP id
          have hst : StR P m { tmps := args ++ Array.replicate (fn.ntmps - args.size) undef, defers := [] } H { tmps := args' ++ Array.replicate (fn.ntmps - args'.size) undef, defers := [] } w := by
            refine ⟨⟨?_, .nil⟩, hrel, hgl⟩
            simp only [← hargs.1]
            exact hargs.append (VRa.replicate _ (.undef m))
          refine calls_of_wp hf hb (OutQ.wp_mono (exec_sound hX hK hD (r, H') c none c rfl hst he) ?_)
          have fin : ∀ (a : Act) (m1 : Mp) (a1 : Act) (H1 : Heap) (w1 : World), StR P m1 a1 H1 a w1 → Step m H w m1 H1 w1 → (match a1.defers with
              | [] => match resL P a1.tmps H1 fn.results.toList with | some l => some (End.ret (oneOf l), H1) | none => none
              | _ => none) = some (r, H') → a.defers = [] ∧ ∃ v, (results fn a.tmps).run P w1 = .ok v w1 ∧ ∃ m', EndR m' r (.returned v) ∧ Step m H w m' H' w1 := by
            intro a m1 a1 H1 w1 s1 s2 s3
            split at s3
            · rename_i hd
              have hd' : a.defers = [] := by
                have := s1.act.defers
                rw [hd] at this
                generalize a.defers = ds at this ⊢
                cases this; rfl
              split at s3
              · rename_i l hl
                simp only [Option.some.injEq, Prod.mk.injEq] at s3
                obtain ⟨rfl, rfl⟩ := s3
                obtain ⟨v', q1, q2⟩ := results_sound s1.rel s1.act.tmps hl
                exact ⟨hd', v', q1, m1, q2, s2⟩
              · simp at s3
            · simp at s3
          intro e a w1 hq
          cases e with
          | normal => obtain ⟨m1, a1, H1, s1, s2, s3⟩ := hq; exact fin a m1 a1 H1 w1 s1 s2 s3
          | ret => obtain ⟨m1, a1, H1, s1, s2, s3⟩ := hq; exact fin a m1 a1 H1 w1 s1 s2 s3
          | exit id => obtain ⟨m1, a1, H1, s1, s2, s3⟩ := hq; simp [finish] at s3
          | goto l => obtain ⟨m1, a1, H1, s1, s2, s3⟩ := hq; simp [finish] at s3
          | panic c' =>
            obtain ⟨m1, c1, a1, H1, s0, s1, s2, s3⟩ := hq
            simp only [finish] at s3
            split at s3
            · rename_i hd
              simp only [Option.some.injEq, Prod.mk.injEq] at s3
              obtain ⟨rfl, rfl⟩ := s3
              have hd' : a.defers = [] := by
                have := s1.act.defers
                rw [hd] at this
                generalize a.defers = ds at this ⊢
                cases this; rfl
              exact ⟨hd', m1, s0, s2⟩
            · simp at s3
          | outgrown => exact hq.elim
        · simp at he
      · simp at he

end Go.Am
