/- Operations on abstract heaps, one of them at a time; calls by what is known of them. -/
import Derived.Test.YtmliebodadgpbaaGreatDoorM02
import Derived.Laws.Small
import Derived.Scope
import Derived.ScopeJumps
import Derived.Recover
import Derived.Orders
namespace Go.Am
variable {H H' : Heap} {v : Value} {P : Program} {m m' : Mp} {f : FuncId} {args : Array Value} {w : World} {ρ ρ' : Operand → Value} {o : Oper} {a' : Act}
inductive End where
 | ret (v : Value)
 | pan (c : List PanicEntry)
abbrev Env := Nat → Value
abbrev KV := Value → Heap → Prop
abbrev KP := List PanicEntry → Heap → Prop
def bindV (x : VH) (k : KV) : Prop := match x with | some (v, H) => k v H | none => False
def bindO (x : Option Value) (k : Value → Prop) : Prop := match x with | some v => k v | none => False
def withH (H : Heap) (x : Option Value) : VH := x.map fun v => (v, H)
theorem ja9 {x : Option Value} (h : withH H x = some (v, H')) : x = some v ∧ H' = H := by
 cases x with
 | none => cases h
 | some u => cases h; exact ⟨rfl, rfl⟩
theorem jm4 {x : Option Value} {p : Value → Bool} (h : x.filter p = some v) : x = some v ∧ p v = true := by
 rw [Option.filter_eq_some_iff] at h; exact h
def pickV (t : Bool) (a b : Value) : Value :=
 match a, b with
 | .bool x, .bool y => .bool (cond t x y)
 | a, b => cond t a b
theorem pickV_eq (t : Bool) (a b : Value) : pickV t a b = if t then a else b := by
 unfold pickV
 split <;> cases t <;> rfl
def builtinA (P : Program) (b : Builtin) (ts : Array TypeId) (args : Array Value) (H : Heap) : VH :=
 match b, args.toList with
 | .len, [x] => match ts[0]? with | some t => withH H (lenA P t x H) | none => none
 | .append, [s, x] => if ts.size = 2 then appendA P ts s x H else none
 | .copy, [d, s] => copyA P ts d s H
 | .min, [.int ka a, .int kb b] => if ka = kb then some (.int ka (if b < a then b else a), H) else none
 | .max, [.int ka a, .int kb b] => if ka = kb then some (.int ka (if b > a then b else a), H) else none
 | _, _ => none
def opA (P : Program) (ρ : Operand → Value) (op : Op) (H : Heap) : VH :=
 match op with
 | .move x | .assign x => some (ρ x, H)
 | .pick c a b => match ρ c with | .bool t => some (pickV t (ρ a) (ρ b), H) | _ => none
 | .alloc e => allocA P e H
 | .box e x => boxA P e (ρ x) H
 | .build t parts => withH H (buildA P t (parts.map fun (i, x) => (i, ρ x)))
 | .buildSlice t len parts => buildSliceA P t len (parts.map fun (i, x) => (i, ρ x)) H
 | .load t a => loadA P t (ρ a) H
 | .store t a x => storeA P t (ρ a) (ρ x) H
 | .nilCheck x => withH H (nilCheckA (ρ x))
 | .binOp op t x y _ => withH H ((binA P op t x y (ρ x) (ρ y)).filter ground)
 | .unOp op _ x => withH H ((unA P op (ρ x)).filter ground)
 | .convert s d x => convertA P s d (ρ x) H
 | .makeInterface t x => match P.underlying t with | some (.interface _) => none | some _ => some (.iface t (ρ x), H) | none => none
 | .makeFunc fn first cap => some (.func fn (first.map ρ) (cap.map ρ), H)
 | .makeSlice t l c => makeSliceA P t (ρ l) (ρ c) H
 | .slice t x lo hi mx => withH H (sliceOpA P t (ρ x) (lo.map ρ) (hi.map ρ) (mx.map ρ) H)
 | .fieldAddr s x f => withH H (fieldAddrA P s (ρ x) f)
 | .field t x f => withH H (fieldA P t (ρ x) f)
 | .indexAddr t x i => withH H (indexAddrA P t (ρ x) (ρ i))
 | .index t x i => withH H (indexA P t (ρ x) (ρ i))
 | .extract t i => withH H (extractA (ρ t) i)
 | .range t x => rangeA P t (ρ x) H
 | .next it str => nextA (ρ it) str H
 | .typeAssert x t u ok => withH H (assertA P (ρ x) t u ok)
 | .call c => match c.callee with | .builtin b => builtinA P b c.argTypes (c.args.map ρ) H | _ => none
 | .makeMap t r => makeMapA P t (r.map ρ) H
 | .lookup t x i ok => withH H (lookupA P t (ρ x) (ρ i) ok H)
 | .mapUpdate t x i v => mapUpdateA P t (ρ x) (ρ i) (ρ v) H
 | _ => none
def szG (P : Program) (g : Nat) : Nat := match P.globals[g]? with | some x => P.cellsOf x.type | none => 0
def Gl (P : Program) (m : Mp) : Prop := ∀ g, g < P.globals.size → ∃ L, m g = some L ∧ L.c = g ∧ L.base = 0 ∧ L.e = szG P g
theorem Gl.mono (h : Gl P m) (hm : m.le m') : Gl P m' := fun g hg => let ⟨L, a, b⟩ := h g hg; ⟨L, hm _ _ a, b⟩
def PanR (m : Mp) (c c' : List PanicEntry) : Prop := c.length = c'.length ∧ ∀ i (a : i < c.length) (b : i < c'.length), VR m c[i].v c'[i].v ∧ c[i].recovered = c'[i].recovered ∧ c[i].goexit = c'[i].goexit
theorem PanR.mono (hm : m.le m') {c c' : List PanicEntry} (h : PanR m c c') : PanR m' c c' := ⟨h.1, fun i a b => ⟨(h.2 i a b).1.mono hm, (h.2 i a b).2⟩⟩
def DR (m : Mp) (d d' : Deferred) : Prop := ∃ fn cap cap', d.target = .fn fn cap ∧ d'.target = .fn fn cap' ∧ VRa m cap cap' ∧ VRa m d.args d'.args
theorem DR.mono (hm : m.le m') {d d' : Deferred} (h : DR m d d') : DR m' d d' := let ⟨fn, c, c', a, b, x, y⟩ := h; ⟨fn, c, c', a, b, x.mono hm, y.mono hm⟩
inductive DRs (m : Mp) : List Deferred → List Deferred → Prop where
 | nil : DRs m [] []
 | cons {d d' : Deferred} {l l' : List Deferred} (h : DR m d d') (t : DRs m l l') : DRs m (d :: l) (d' :: l')
theorem DRs.mono (hm : m.le m') {l l' : List Deferred} (h : DRs m l l') : DRs m' l l' := by
 induction h with
 | nil => exact .nil
 | cons h _ ih => exact .cons (h.mono hm) ih
def EndR (m : Mp) : End → Ending → Prop
 | .ret v, .returned v' => VR m v v'
 | .pan c, .panicked c' => PanR m c c'
 | _, _ => False
def CallS (P : Program) (f : FuncId) (args : Array Value) (w : World) (Q : Ending → World → Prop) : Prop :=
 (∃ v w', (callFunc f args).run P w = .ok (.value v) w' ∧ Q (.returned v) w') ∨ ((callFunc f args).run P w = .ok (.enter f args) w ∧ Calls P f args w Q)
def Ans (P : Program) (f : FuncId) (args : Array Value) (H : Heap) (e : End) (H' : Heap) : Prop := ∀ m w args', Rel m H w → Gl P m → VRa m args args' →
 CallS P f args' w fun e' w' => ∃ m', EndR m' e e' ∧ Step m H w m' H' w'
theorem CallS.mono {Q Q' : Ending → World → Prop} (h : CallS P f args w Q) (hq : ∀ e w, Q e w → Q' e w) : CallS P f args w Q' := by
 rcases h with ⟨v, w', h1, h2⟩ | ⟨h1, h2⟩
 · exact .inl ⟨v, w', h1, hq _ _ h2⟩
 · exact .inr ⟨h1, h2.mono fun e w h => hq e w h⟩
def callW (P : Program) (f : FuncId) (args : Array Value) (H : Heap) (k : KV) (kp : KP) : Prop := (∃ v H', Ans P f args H (.ret v) H' ∧ k v H') ∨ ∃ c H', Ans P f args H (.pan c) H' ∧ kp c H'
theorem Ans.ret {k : KV} {kp : KP} (h : Ans P f args H (.ret v) H') (hk : k v H') : callW P f args H k kp := .inl ⟨v, H', h, hk⟩
theorem Ans.pan {c : List PanicEntry} {k : KV} {kp : KP} (h : Ans P f args H (.pan c) H') (hk : kp c H') : callW P f args H k kp := .inr ⟨c, H', h, hk⟩
theorem Ans.ghost {H0 H1 : Heap} {e : End} (h : Ans P f args H0 e H1) (g : Ghost H H0) (g' : Ghost H1 H') : Ans P f args H e H' := fun m w args' hr hg ha => by
 have s := g.step hr
 exact (h m w args' s.rel hg ha).mono fun e' w' ⟨m', h1, h2⟩ => ⟨m', h1, (s.trans h2).trans (g'.step h2.rel)⟩
theorem Ans.beside {L : List (Nat × Blk)} {e : End} (h : Ans P f args H e H') (d : Beside H L) : Ans P f args (H.plus L) e (H'.plus L) := fun m w args' hr hg ha =>
 (h m w args' (hr.aside d) hg ha).mono fun e' w' ⟨m', h1, h2⟩ => ⟨m', h1, (h2.beside d hr).2⟩
def callOf (ρ : Operand → Value) (op : Op) : Option (FuncId × Array Value) :=
 match op with
 | .call c => match c.callee with
   | .value f => match ρ f with | .func (.func g) first cap => some (g, first ++ c.args.map ρ ++ cap) | _ => none
   | _ => none
 | _ => none
def Yl (P : Program) (ρ : Operand → Value) (op : Op) (H : Heap) (v : Value) (H' : Heap) : Prop := opA P ρ op H = some (v, H') ∨ ∃ g args, callOf ρ op = some (g, args) ∧ Ans P g args H (.ret v) H'
def Pn (P : Program) (ρ : Operand → Value) (op : Op) (H : Heap) (c : List PanicEntry) (H' : Heap) : Prop :=
 (∃ x t v, op = .panic x ∧ ρ x = .iface t v ∧ c = [{ v := .iface t v, recovered := false }] ∧ H' = H) ∨ ∃ g args, callOf ρ op = some (g, args) ∧ Ans P g args H (.pan c) H'
def opW (P : Program) (ρ : Operand → Value) (op : Op) (H : Heap) (k : KV) (kp : KP) : Prop :=
 match op with
 | .panic x => match ρ x with | .iface t v => kp [{ v := .iface t v, recovered := false }] H | _ => False
 | .call c => match c.callee with
   | .value f => match ρ f with | .func (.func g) first cap => callW P g (first ++ c.args.map ρ ++ cap) H k kp | _ => False
   | .builtin b => bindV (builtinA P b c.argTypes (c.args.map ρ) H) k
   | _ => False
 | op => bindV (opA P ρ op H) k
theorem j07 {ρ : Operand → Value} {op : Op} {k : KV} {kp : KP} {x : VH} (h : bindV x k) (e : x = opA P ρ op H) : (∃ v H', Yl P ρ op H v H' ∧ k v H') ∨ ∃ c H', Pn P ρ op H c H' ∧ kp c H' := by
 subst e
 cases q : opA P ρ op H with
 | none => rw [q] at h; exact h.elim
 | some y => rw [q] at h; exact .inl ⟨y.1, y.2, .inl q, h⟩
theorem jw7 {ρ : Operand → Value} {op : Op} {k : KV} {kp : KP} (h : opW P ρ op H k kp) : (∃ v H', Yl P ρ op H v H' ∧ k v H') ∨ ∃ c H', Pn P ρ op H c H' ∧ kp c H' := by
 unfold opW at h
 split at h
 · split at h
   · exact .inr ⟨_, _, .inl ⟨_, _, _, rfl, by assumption, rfl, rfl⟩, h⟩
   · exact h.elim
 · rename_i c
   split at h
   · rename_i f hf
     split at h
     · rename_i g a b hg
       have e : callOf ρ (.call c) = some (g, a ++ c.args.map ρ ++ b) := by simp [callOf, hf, hg]
       rcases h with ⟨v, H', h1, h2⟩ | ⟨c', H', h1, h2⟩
       · exact .inl ⟨v, H', .inr ⟨_, _, e, h1⟩, h2⟩
       · exact .inr ⟨c', H', .inr ⟨_, _, e, h1⟩, h2⟩
     · exact h.elim
   · rename_i b hb
     exact j07 h (by simp [opA, hb])
   · exact h.elim
 · exact j07 h rfl
theorem upon_of_snd {next : Act → World → Prop} {Q : Exit → Act → World → Prop}
   (hg : ∀ m' v' w', VR m' v v' → Step m H w m' H' w' → next (a'.put o.dst v') w') {s : Sem Value} (he : execOp a'.eval o = (do Pure.pure (.value (← s)))) (hs : Snd P s m H w v H') :
   o.upon P a' next Q ((execOp a'.eval o).run P w) := by
 obtain ⟨m', v', w', h1, h2, h3⟩ := hs
 rw [he, Sem.run_bind, h1]
 exact hg m' v' w' h2 h3
theorem VRp_map {ρ ρ' : Operand → Value} {parts : Array (Nat × Operand)} (h : ∀ x ∈ (parts.toList.map (·.2)), VR m (ρ x) (ρ' x)) :
   VRp m (parts.map fun (i, x) => (i, ρ x)).toList (parts.map fun (i, x) => (i, ρ' x)).toList := by
 refine ⟨by simp, fun i a b => ?_⟩
 simp only [Array.toList_map, List.getElem_map, Array.getElem_toList, true_and]
 refine h _ (List.mem_map.2 ⟨parts[i]'(by simpa using a), by simp, rfl⟩)
theorem VRa_map {ρ ρ' : Operand → Value} {xs : Array Operand} (h : ∀ x ∈ xs.toList, VR m (ρ x) (ρ' x)) : VRa m (xs.map ρ) (xs.map ρ') :=
 ⟨by simp, fun i a b => by simp only [Array.getElem_map]; exact h _ (by simp)⟩
theorem VRo_map {ρ ρ' : Operand → Value} {x : Option Operand} (h : ∀ y ∈ x.toList, VR m (ρ y) (ρ' y)) : VRo m (x.map ρ) (x.map ρ') := by
 cases x with
 | none => trivial
 | some y => exact h y (by simp)
theorem jr0 {next : Act → World → Prop} {Q : Exit → Act → World → Prop} {R : Ending → World → Prop} (h : CallS P f args w R)
   (h1 : ∀ v w', R (.returned v) w' → next (a'.put o.dst v) w') (h2 : ∀ c w', R (.panicked c) w' → Q (.panic c) a' w') (h3 : ∀ w', ¬ R .outgrown w') : o.upon P a' next Q ((callFunc f args).run P w) := by
 rcases h with ⟨v, w', e, hr⟩ | ⟨e, hr⟩
 · rw [e]; exact h1 v w' hr
 · rw [e, Oper.upon_enter]
   refine hr.mono fun e w' hq => ?_
   cases e with
   | returned v => exact h1 v w' hq
   | panicked c => exact h2 c w' hq
   | outgrown => exact absurd hq (h3 w')
theorem jq5 (h : Rel m H w) {v : Value} {H' : Heap} {next : Act → World → Prop} {Q : Exit → Act → World → Prop}
   (hg : ∀ m' v' w', VR m' v v' → Step m H w m' H' w' → next (a'.put o.dst v') w') {b : Builtin} {ts : Array TypeId} {ty : TypeId} {cs : Array Bool} {args args' : Array Value} (hargs : VRa m args args') (he : builtinA P b ts args H = some (v, H')) :
   o.upon P a' next Q ((builtin b ts ty cs args').run P w) := by
 have hl := hargs.toList
 obtain ⟨args⟩ := args
 obtain ⟨args'⟩ := args'
 simp only at hl
 have fin : ∀ {s : Sem Value}, Snd P s m H w v H' → o.upon P a' next Q ((do Pure.pure (Next.value (← s)) : Sem Next).run P w) := by
   intro s hs
   obtain ⟨m', v', w', h1, h2, h3⟩ := hs
   rw [Sem.run_bind, h1]
   exact hg m' v' w' h2 h3
 unfold builtinA at he
 split at he
 · rename_i x hx
   simp only at hx; subst hx
   match args', hl with
   | [x'], hl =>
     split at he
     · rename_i t ht
       obtain ⟨hv, rfl⟩ := ja9 he
       exact fin (lenA_sound h ht hl.head hv)
     · simp at he
   | [], hl => have := hl.1; simp at this
   | _ :: _ :: _, hl => have := hl.1; simp at this
 · rename_i x y hx
   simp only at hx; subst hx
   match args', hl with
   | [x', y'], hl =>
     by_cases h2 : ts.size = 2
     · rw [if_pos h2] at he
       exact fin (appendA_sound h h2 hl.head hl.tail.head he)
     · rw [if_neg h2] at he; simp at he
   | [], hl => have := hl.1; simp at this
   | [_], hl => have := hl.1; simp at this
   | _ :: _ :: _ :: _, hl => have := hl.1; simp at this
 · rename_i x y hx
   simp only at hx; subst hx
   match args', hl with
   | [x', y'], hl =>
     exact fin (copyA_sound h hl.head hl.tail.head he)
   | [], hl => have := hl.1; simp at this
   | [_], hl => have := hl.1; simp at this
   | _ :: _ :: _ :: _, hl => have := hl.1; simp at this
 · rename_i ka a kb b hx
   simp only at hx; subst hx
   match args', hl with
   | [x', y'], hl =>
     have e1 := hl.head.int_inv; have e2 := hl.tail.head.int_inv
     subst e1; subst e2
     by_cases hkk : ka = kb
     · rw [if_pos hkk] at he
       subst hkk
       cases he
       refine fin (s := Builtin.min_ ts ty #[.int ka a, .int ka b]) (.pure h ?_ (.int m ka _))
       rw [run_min_int2]
     · rw [if_neg hkk] at he; simp at he
   | [], hl => have := hl.1; simp at this
   | [_], hl => have := hl.1; simp at this
   | _ :: _ :: _ :: _, hl => have := hl.1; simp at this
 · rename_i ka a kb b hx
   simp only at hx; subst hx
   match args', hl with
   | [x', y'], hl =>
     have e1 := hl.head.int_inv; have e2 := hl.tail.head.int_inv
     subst e1; subst e2
     by_cases hkk : ka = kb
     · rw [if_pos hkk] at he
       subst hkk
       cases he
       refine fin (s := Builtin.max_ ts ty #[.int ka a, .int ka b]) (.pure h ?_ (.int m ka _))
       rw [run_max_int2]
     · rw [if_neg hkk] at he; simp at he
   | [], hl => have := hl.1; simp at this
   | [_], hl => have := hl.1; simp at this
   | _ :: _ :: _ :: _, hl => have := hl.1; simp at this
 · simp at he
theorem jw8 (h : Rel m H w) {ρ : Operand → Value} (hρ : ∀ x ∈ o.op.operands.toList, VR m (ρ x) (a'.eval x))
   {v : Value} {H' : Heap} {next : Act → World → Prop} {Q : Exit → Act → World → Prop} (hg : ∀ m' v' w', VR m' v v' → Step m H w m' H' w' → next (a'.put o.dst v') w')
   (he : opA P ρ o.op H = some (v, H')) : o.upon P a' next Q ((execOp a'.eval o).run P w) := by
 unfold opA at he
 split at he
 · rename_i x ho
   have hx := hρ x (by simp [ho, Op.operands])
   rw [show execOp a'.eval o = Pure.pure (.value (a'.eval x)) by simp only [execOp, ho]]
   cases he
   exact hg m _ w hx (.refl h)
 · rename_i x ho
   have hx := hρ x (by simp [ho, Op.operands])
   rw [show execOp a'.eval o = Pure.pure (.value (a'.eval x)) by simp only [execOp, ho]]
   cases he
   exact hg m _ w hx (.refl h)
 · rename_i c x y ho
   have hc := hρ c (by simp [ho, Op.operands])
   have hx := hρ x (by simp [ho, Op.operands])
   have hy := hρ y (by simp [ho, Op.operands])
   split at he
   · rename_i t ht
     rw [ht] at hc
     have hc' := hc.bool_inv
     rw [show (execOp a'.eval o).run P w = .ok (.value (if t then a'.eval x else a'.eval y)) w by simp only [execOp, ho, Sem.run_bind, hc', asBool, Sem.run_pure, Result.andThen_ok]]
     cases he
     refine hg m _ w ?_ (.refl h)
     rw [pickV_eq]; cases t <;> assumption
   · simp at he
 · rename_i e ho
   exact upon_of_snd hg (by simp only [execOp, ho]) (allocA_sound h he)
 · rename_i e x ho
   have hx := hρ x (by simp [ho, Op.operands])
   exact upon_of_snd hg (by simp only [execOp, ho]) (boxA_sound h hx he)
 · rename_i t parts ho
   obtain ⟨hv, rfl⟩ := ja9 he
   refine upon_of_snd hg (by simp only [execOp, ho]) (buildA_sound h (VRp_map (fun x hx => hρ x ?_)) hv)
   simp only [ho, Op.operands]; exact hx
 · rename_i t len parts ho
   refine upon_of_snd hg (by simp only [execOp, ho]) (buildSliceA_sound h (VRp_map (fun x hx => hρ x ?_)) he)
   simp only [ho, Op.operands]; exact hx
 · rename_i t x ho
   have hx := hρ x (by simp [ho, Op.operands])
   exact upon_of_snd hg (by simp only [execOp, ho]) (loadA_sound h hx he)
 · rename_i t x y ho
   have hx := hρ x (by simp [ho, Op.operands])
   have hy := hρ y (by simp [ho, Op.operands])
   obtain ⟨rfl, m', w', h1, h2⟩ := storeA_sound h hx hy he
   have hex : (execOp a'.eval o).run P w = .ok .skip w' := by simp only [execOp, ho, Sem.run_bind, h1, Result.andThen_ok, Sem.run_pure]
   rw [hex]
   exact hg m' _ w' (.undef m') h2
 · rename_i x ho
   have hx := hρ x (by simp [ho, Op.operands])
   obtain ⟨hv, rfl⟩ := ja9 he
   obtain ⟨v', h1, h2⟩ := nilCheckA_sound (P := P) (w := w) ho hx hv
   rw [h1]
   exact hg m v' w h2 (.refl h)
 · rename_i op t x y yt ho
   have hx := hρ x (by simp [ho, Op.operands])
   have hy := hρ y (by simp [ho, Op.operands])
   obtain ⟨hv, rfl⟩ := ja9 he
   obtain ⟨hv, hgr⟩ := jm4 hv
   exact upon_of_snd hg (by simp only [execOp, ho]) (binA_sound h hx hy hv hgr)
 · rename_i op t x ho
   have hx := hρ x (by simp [ho, Op.operands])
   obtain ⟨hv, rfl⟩ := ja9 he
   obtain ⟨hv, hgr⟩ := jm4 hv
   exact upon_of_snd hg (by simp only [execOp, ho]) (unA_sound h hx hv hgr)
 · rename_i s d x ho
   have hx := hρ x (by simp [ho, Op.operands])
   exact upon_of_snd hg (by simp only [execOp, ho]) (convertA_sound h hx he)
 · rename_i t x ho
   have hx := hρ x (by simp [ho, Op.operands])
   split at he
   · simp at he
   · rename_i d hu hni
     cases he
     have hrun : (Instr.makeInterface t (a'.eval x)).run P w = .ok (.iface t (a'.eval x)) w := by
       simp only [Instr.makeInterface, Sem.run_bind]
       first
         | (rw [run_und hu, Result.andThen_ok]; cases d <;> first | rfl | exact absurd rfl (hni _))
         | (rw [run_und hni, Result.andThen_ok]; cases d <;> first | rfl | exact absurd rfl (hu _))
     exact upon_of_snd hg (by simp only [execOp, ho]) (.pure h hrun (.iface t _ _ hx))
   · simp at he
 · rename_i fn first cap ho
   have h1 : VRa m (first.map ρ) (first.map a'.eval) := VRa_map (fun x hx => hρ x (by simp [ho, Op.operands]; exact .inl (by simpa using hx)))
   have h2 : VRa m (cap.map ρ) (cap.map a'.eval) := VRa_map (fun x hx => hρ x (by simp [ho, Op.operands]; exact .inr (by simpa using hx)))
   cases he
   exact upon_of_snd hg (s := Instr.makeFunc fn (first.map a'.eval) (cap.map a'.eval)) (by simp only [execOp, ho]) (.pure h rfl (.func fn _ _ _ _ h1.1 h2.1 h1.2 h2.2))
 · rename_i t x y ho
   have hx := hρ x (by simp [ho, Op.operands])
   have hy := hρ y (by simp [ho, Op.operands])
   exact upon_of_snd hg (by simp only [execOp, ho]) (makeSliceA_sound h hx hy he)
 · rename_i t x lo hi mx ho
   have hx := hρ x (by simp [ho, Op.operands])
   obtain ⟨hv, rfl⟩ := ja9 he
   refine upon_of_snd hg (by simp only [execOp, ho]) (sliceOpA_sound h hx (VRo_map fun y hy => hρ y ?_) (VRo_map fun y hy => hρ y ?_) (VRo_map fun y hy => hρ y ?_) hv)
   · simp [ho, Op.operands] at hy ⊢; simp [hy]
   · simp [ho, Op.operands] at hy ⊢; simp [hy]
   · simp [ho, Op.operands] at hy ⊢; simp [hy]
 · rename_i s x f ho
   have hx := hρ x (by simp [ho, Op.operands])
   obtain ⟨hv, rfl⟩ := ja9 he
   exact upon_of_snd hg (by simp only [execOp, ho]) (fieldAddrA_sound h hx hv)
 · rename_i t x f ho
   have hx := hρ x (by simp [ho, Op.operands])
   obtain ⟨hv, rfl⟩ := ja9 he
   exact upon_of_snd hg (by simp only [execOp, ho]) (fieldA_sound h hx hv)
 · rename_i t x y ho
   have hx := hρ x (by simp [ho, Op.operands])
   have hy := hρ y (by simp [ho, Op.operands])
   obtain ⟨hv, rfl⟩ := ja9 he
   exact upon_of_snd hg (by simp only [execOp, ho]) (indexAddrA_sound h hx hy hv)
 · rename_i t x y ho
   have hx := hρ x (by simp [ho, Op.operands])
   have hy := hρ y (by simp [ho, Op.operands])
   obtain ⟨hv, rfl⟩ := ja9 he
   exact upon_of_snd hg (by simp only [execOp, ho]) (indexA_sound h hx hy hv)
 · rename_i x i ho
   have hx := hρ x (by simp [ho, Op.operands])
   obtain ⟨hv, rfl⟩ := ja9 he
   exact upon_of_snd hg (by simp only [execOp, ho]) (extractA_sound h hx hv)
 · rename_i t x ho
   have hx := hρ x (by simp [ho, Op.operands])
   exact upon_of_snd hg (by simp only [execOp, ho]) (rangeA_sound h hx he)
 · rename_i x str ho
   have hx := hρ x (by simp [ho, Op.operands])
   exact upon_of_snd hg (by simp only [execOp, ho]) (nextA_sound (t := o.type) h hx he)
 · rename_i x t u ok ho
   have hx := hρ x (by simp [ho, Op.operands])
   obtain ⟨hv, rfl⟩ := ja9 he
   exact upon_of_snd hg (by simp only [execOp, ho]) (assertA_sound h hx hv)
 · rename_i c ho
   have hargs : VRa m (c.args.map ρ) (c.args.map a'.eval) := VRa_map (fun x hx => hρ x (by simp only [ho, Op.operands, Call.operands]; simp at hx ⊢; exact .inr hx))
   split at he
   · rename_i b hb
     have hex : execOp a'.eval o = builtin b c.argTypes o.type (c.args.map fun | .const _ => true | _ => false) (c.args.map a'.eval) := by
       simp only [execOp, ho, resolve, hb]
       rfl
     rw [hex]
     exact jq5 h hg hargs he
   · cases he
 · rename_i t hint ho
   refine upon_of_snd (s := Instr.makeMap t (hint.map a'.eval)) hg (by simp only [execOp, ho]) (makeMapA_sound h (fun e => ?_) (fun y e => ?_) he)
   · cases hint with
     | none => rfl
     | some x => cases e
   · cases hint with
     | none => cases e
     | some x =>
       cases e
       exact ⟨_, rfl, hρ x (by simp [ho, Op.operands])⟩
 · rename_i t x i ok ho
   obtain ⟨hv, rfl⟩ := ja9 he
   exact upon_of_snd (s := Instr.lookup t (a'.eval x) (a'.eval i) ok) hg (by simp only [execOp, ho]) (lookupA_sound h (hρ x (by simp [ho, Op.operands])) (hρ i (by simp [ho, Op.operands])) hv)
 · rename_i t x i y ho
   obtain ⟨rfl, m', w', h1, h2⟩ := mapUpdateA_sound h (hρ x (by simp [ho, Op.operands])) (hρ i (by simp [ho, Op.operands])) (hρ y (by simp [ho, Op.operands])) he
   have hex : (execOp a'.eval o).run P w = .ok .skip w' := by simp only [execOp, ho, Sem.run_bind, h1, Result.andThen_ok, Sem.run_pure]
   rw [hex]
   exact hg m' _ w' (.undef m') h2
 · cases he
theorem j08 {ρ : Operand → Value} (hρ : ∀ x ∈ o.op.operands.toList, VR m (ρ x) (a'.eval x)) {g : FuncId} {args : Array Value} (h : callOf ρ o.op = some (g, args)) :
   ∃ args', VRa m args args' ∧ execOp a'.eval o = callFunc g args' := by
 unfold callOf at h
 split at h
 · rename_i c ho
   have hargs : VRa m (c.args.map ρ) (c.args.map a'.eval) := VRa_map (fun x hx => hρ x (by simp only [ho, Op.operands, Call.operands]; simp at hx ⊢; exact .inr hx))
   split at h
   · rename_i f hf
     have hfv := hρ f (by simp [ho, Op.operands, Call.operands, hf])
     split at h
     · rename_i g' first cap hgv
       cases h
       rw [hgv] at hfv
       generalize hz : a'.eval f = z at hfv
       cases hfv with
       | atom _ hh => simp [atomic] at hh
       | func _ _ first' _ cap' q1 q2 q3 q4 =>
         refine ⟨_, (VRa.append ⟨q1, q3⟩ hargs).append ⟨q2, q4⟩, ?_⟩
         simp only [execOp, ho, resolve, hf, hz, Deferred.ofValue]
         rfl
     · cases h
   · cases h
 · cases h
theorem j09 (h : Rel m H w) (hgl : Gl P m) {ρ : Operand → Value} (hρ : ∀ x ∈ o.op.operands.toList, VR m (ρ x) (a'.eval x))
   {v : Value} {H' : Heap} {next : Act → World → Prop} {Q : Exit → Act → World → Prop} (hg : ∀ m' v' w', VR m' v v' → Step m H w m' H' w' → next (a'.put o.dst v') w')
   (he : Yl P ρ o.op H v H') : o.upon P a' next Q ((execOp a'.eval o).run P w) := by
 rcases he with he | ⟨g, args, hc, ha⟩
 · exact jw8 h hρ hg he
 · obtain ⟨args', hargs, e⟩ := j08 hρ hc
   rw [e]
   exact jr0 (ha m w args' h hgl hargs) (fun v' w' ⟨m', h1, h2⟩ => hg m' v' w' h1 h2) (fun c w' ⟨m', h1, _⟩ => h1.elim) fun w' ⟨m', h1, _⟩ => h1.elim
theorem j1a (h : Rel m H w) (hgl : Gl P m) {ρ : Operand → Value} (hρ : ∀ x ∈ o.op.operands.toList, VR m (ρ x) (a'.eval x))
   {c : List PanicEntry} {H' : Heap} {next : Act → World → Prop} {Q : Exit → Act → World → Prop} (hg : ∀ m' c' w', PanR m' c c' → Step m H w m' H' w' → Q (.panic c') a' w')
   (he : Pn P ρ o.op H c H') : o.upon P a' next Q ((execOp a'.eval o).run P w) := by
 rcases he with ⟨x, t, v, ho, hv, rfl, rfl⟩ | ⟨g, args, hc, ha⟩
 · have hx := hρ x (by simp [ho, Op.operands])
   rw [hv] at hx
   generalize hz : a'.eval x = z at hx
   cases hx with
   | atom _ hh => simp [atomic] at hh
   | iface _ _ v' hv' =>
     have hex : (execOp a'.eval o).run P w = .halt (.panic (.iface t v')) w := by
       simp only [execOp, ho, hz, Instr.panic, Sem.run_bind, run_goPanic, Result.andThen_halt]
     rw [hex]
     refine hg m [{ v := .iface t v', recovered := false }] w ⟨rfl, fun i a b => ?_⟩ (.refl h)
     have : i = 0 := by simp at a; omega
     subst this
     exact ⟨.iface t _ _ hv', rfl, rfl⟩
 · obtain ⟨args', hargs, e⟩ := j08 hρ hc
   rw [e]
   exact jr0 (ha m w args' h hgl hargs) (fun v' w' ⟨m', h1, _⟩ => h1.elim) (fun c w' ⟨m', h1, h2⟩ => hg m' c w' h1 h2) fun w' ⟨m', h1, _⟩ => h1.elim
end Go.Am
namespace Go.Am
def upd (E : Env) (d : Option Tmp) (v : Value) : Env := match d with | none => E | some i => fun j => if j = i then v else E j
def evalE (E : Env) : Operand → Value
 | .tmp t => E t
 | .const v => v
 | .global g => .pointer (some ⟨g, 0, none⟩)
 | .func f => .func (.func f) #[] #[]
def startE (args : Array Value) : Env := fun i => args.getD i undef
abbrev KE := Env → List Deferred → Heap → Prop
inductive Out where
 | norm
 | exit (id : Nat)
 | goto (l : Nat)
 | ret
 | pan (c : List PanicEntry)
abbrev KO := Out → KE
def guardBE (ops : Array Oper) (o : Oper) (E : Env) : Option Bool :=
 match o.guard with
 | none => some true
 | some (j, want) =>
   match (ops[j]?).bind (·.dst) with
   | none => some false
   | some d => match E d with
     | .bool b => some (b == want)
     | .tuple _ => some false
     | _ => none
def guardW (ops : Array Oper) (o : Oper) (E : Env) (run skip : Prop) : Prop := match guardBE ops o E with | some b => cond b run skip | none => False
def deferOf (ρ : Operand → Value) (c : Call) : Option Deferred :=
 match c.callee with
 | .value f => match ρ f with | .func fn first cap => some { target := .fn fn cap, args := first ++ c.args.map ρ } | _ => none
 | _ => none
def operandOk (P : Program) : Operand → Bool
 | .const v => ground v
 | .global g => decide (g < P.globals.size)
 | _ => true
def opOk (P : Program) (o : Oper) : Bool := o.op.operands.toList.all (operandOk P)
def stepW (P : Program) (o : Oper) (E : Env) (ds : List Deferred) (H : Heap) (k : KE) (kp : List PanicEntry → KE) : Prop :=
 match o.op with
 | .defer c => match deferOf (evalE E) c with | some d => k (upd E o.dst undef) (d :: ds) H | none => False
 | op => opW P (evalE E) op H (fun v H => k (upd E o.dst v) ds H) (fun c H => kp c E ds H)
def opsW (P : Program) (ops : Array Oper) : List Oper → Env → List Deferred → Heap → KE → (List PanicEntry → KE) → Prop
 | [], E, ds, H, k, _ => k E ds H
 | o :: r, E, ds, H, k, kp => guardW ops o E (stepW P o E ds H (fun E ds H => opsW P ops r E ds H k kp) kp) (opsW P ops r (upd E o.dst undef) ds H k kp)
def isUndef : Value → Bool
 | .tuple vs => vs.isEmpty
 | _ => false
structure StR (P : Program) (n : Nat) (wk : Bool) (m : Mp) (E : Env) (ds : List Deferred) (H : Heap) (a' : Act) (w : World) : Prop where
 tmps : ∀ t, (wk = true ∧ isUndef (E t) = true) ∨ VR m (E t) (a'.tmps.getD t undef)
 size : a'.tmps.size = n
 defers : DRs m ds a'.defers
 rel : Rel m H w
 gl : Gl P m
section
variable {P : Program} {n : Nat} {wk : Bool} {m m' : Mp} {E E' : Env} {ds ds' : List Deferred} {H H' : Heap} {a' : Act} {w w' : World}
theorem StR.step (h : StR P n wk m E ds H a' w) (hs : Step m H w m' H' w') : StR P n wk m' E ds H' a' w' :=
 ⟨fun t => (h.tmps t).imp id fun x => x.mono hs.later.le, h.size, h.defers.mono hs.later.le, hs.rel, h.gl.mono hs.later.le⟩
theorem StR.get (h : StR P n false m E ds H a' w) (t : Nat) : VR m (E t) (a'.tmps.getD t undef) := (h.tmps t).resolve_left fun x => by cases x.1
theorem StR.weak (h : StR P n false m E ds H a' w) : StR P n wk m E ds H a' w := ⟨fun t => .inr (h.get t), h.size, h.defers, h.rel, h.gl⟩
def dstOk (n : Nat) (o : Oper) : Bool := match o.dst with | some i => decide (i < n) | none => true
theorem j1b (a : Act) (d : Nat) (v : Value) (t : Nat) (hd : d < a.tmps.size) : (a.put (some d) v).tmps.getD t undef = if t = d then v else a.tmps.getD t undef := by
 simp only [Act.put, Array.getD_eq_getD_getElem?, Array.getElem?_setIfInBounds, hd, if_true]
 by_cases e : d = t
 · subst e; simp
 · simp [e, Ne.symm e]
theorem StR.put (h : StR P n false m E ds H a' w) {o : Oper} (ho : dstOk n o = true) {v v' : Value} (hv : VR m v v') : StR P n false m (upd E o.dst v) ds H (a'.put o.dst v') w := by
 unfold dstOk at ho
 cases hd : o.dst with
 | none => exact h
 | some d =>
   rw [hd] at ho
   have hlt : d < a'.tmps.size := by rw [h.size]; simpa using ho
   refine ⟨fun t => .inr ?_, by simp [Act.put, h.size], h.defers, h.rel, h.gl⟩
   rw [j1b _ _ _ _ hlt]
   simp only [upd]
   by_cases e : t = d
   · rw [if_pos e, if_pos e]; exact hv
   · rw [if_neg e, if_neg e]; exact h.get t
theorem eval_sees {x : Operand} (hg : Gl P m) (hx : operandOk P x = true) (h : ∀ t, x = .tmp t → VR m (E t) (a'.tmps.getD t undef)) : VR m (evalE E x) (a'.eval x) := by
 cases x with
 | tmp t => exact h t rfl
 | const v => exact .of_ground hx
 | global g =>
   obtain ⟨L, h1, h2, h3, _⟩ := hg g (by simpa [operandOk] using hx)
   have := VR.ptr (m := m) g 0 L h1
   rw [h2, h3] at this
   exact this
 | func f => exact .func (.func f) #[] #[] #[] #[] rfl rfl (fun i h => absurd h (by simp)) (fun i h => absurd h (by simp))
theorem StR.ops (h : StR P n false m E ds H a' w) {o : Oper} (ho : opOk P o = true) : ∀ x ∈ o.op.operands.toList, VR m (evalE E x) (a'.eval x) := fun x hx => eval_sees h.gl (List.all_eq_true.1 ho x hx) fun t _ => h.get t
theorem jr1 {ops : Array Oper} {o : Oper} {b : Bool} (hb : guardBE ops o E = some b) (h : ∀ j want d, o.guard = some (j, want) → (ops[j]?).bind (·.dst) = some d → VR m (E d) (a'.tmps.getD d undef)) : Region.wanted o (yielded ops a'.tmps) = b := by
 unfold guardBE at hb
 split at hb
 · rename_i hg; cases hb; simp [Region.wanted, hg]
 · rename_i j want hg
   split at hb
   · rename_i hd; cases hb; simp [Region.wanted, hg, yielded, hd]
   · rename_i d hd
     have hv := h _ _ d hg hd
     have hy : ∀ v, a'.tmps.getD d undef = v → v ≠ undef → a'.tmps[d]? = some v := fun v e hne => by
       rw [Array.getD_eq_getD_getElem?] at e
       cases q : a'.tmps[d]? with
       | none => rw [q] at e; exact absurd e.symm hne
       | some u => rw [q] at e; rw [← e]; rfl
     split at hb
     · rename_i x hx
       cases hb
       rw [hx] at hv
       have := hy _ hv.bool_inv (by simp [undef])
       simp only [Region.wanted, hg, yielded, hd, Option.bind_some, this]
       cases x <;> cases want <;> rfl
     · rename_i vs hx
       cases hb
       rw [hx] at hv
       obtain ⟨vs', e, _⟩ := hv.tuple_inv
       simp only [Region.wanted, hg, yielded, hd, Option.bind_some]
       cases q : a'.tmps[d]? with
       | none => rfl
       | some u =>
         rw [Array.getD_eq_getD_getElem?, q] at e; simp only [Option.getD_some] at e; rw [e]; rfl
     · cases hb
theorem StR.guard (h : StR P n false m E ds H a' w) {ops : Array Oper} {o : Oper} {b : Bool} (hb : guardBE ops o E = some b) : Region.wanted o (yielded ops a'.tmps) = b := jr1 hb fun _ _ d _ _ => h.get d
end
def isPan : Out → Bool | .pan _ => true | _ => false
def outE (m : Mp) : Out → Exit → Prop
 | .norm, .normal => True
 | .exit i, .exit j => i = j
 | .goto l, .goto l' => l = l'
 | .ret, .ret => True
 | .pan c, .panic c' => PanR m c c'
 | _, _ => False
def OutR (P : Program) (n : Nat) (m : Mp) (H : Heap) (w : World) (o : Out) (E : Env) (ds : List Deferred) (H' : Heap) (e : Exit) (a' : Act) (w' : World) : Prop :=
 ∃ m', outE m' o e ∧ StR P n (isPan o) m' E ds H' a' w' ∧ Step m H w m' H' w'
theorem OutR.of {P : Program} {n : Nat} {m m1 : Mp} {H H1 H' : Heap} {w w1 w' : World} {o : Out} {E : Env} {ds : List Deferred} {e : Exit} {a' : Act} (hs : Step m H w m1 H1 w1) (h : OutR P n m1 H1 w1 o E ds H' e a' w') : OutR P n m H w o E ds H' e a' w' :=
 let ⟨m', x, y, z⟩ := h; ⟨m', x, y, hs.trans z⟩
theorem jz7 {P : Program} {n : Nat} {o : Oper} (hd : dstOk n o = true) (hok : opOk P o = true) {E : Env} {ds : List Deferred} {H : Heap} {k : KE} {kp : List PanicEntry → KE} (he : stepW P o E ds H k kp) :
   (∃ E' ds' H', k E' ds' H' ∧ ∀ m a' w, StR P n false m E ds H a' w → ∀ next Q, (∀ m' a'' w', StR P n false m' E' ds' H' a'' w' → Step m H w m' H' w' → next a'' w') → o.wp P a' w next Q) ∨
   (∃ c H', kp c E ds H' ∧ ∀ m a' w, StR P n false m E ds H a' w → ∀ next Q, (∀ m' c' w', PanR m' c c' → StR P n true m' E ds H' a' w' → Step m H w m' H' w' → Q (.panic c') a' w') → o.wp P a' w next Q) := by
 unfold stepW at he
 split at he
 · rename_i c ho
   split at he
   · rename_i d hq
     refine .inl ⟨_, _, _, he, fun m a' w h next Q hn => ?_⟩
     unfold deferOf at hq
     split at hq
     · rename_i f hf
       split at hq
       · rename_i fn first cap hgv
         cases hq
         have hρ := h.ops hok
         have hfv := hρ f (by simp [ho, Op.operands, Call.operands, hf])
         rw [hgv] at hfv
         generalize hz : a'.eval f = z at hfv
         have hargs : VRa m (c.args.map (evalE E)) (c.args.map a'.eval) := VRa_map (fun x hx => hρ x (by simp only [ho, Op.operands, Call.operands]; simp at hx ⊢; exact .inr hx))
         cases hfv with
         | atom _ hh => simp [atomic] at hh
         | func _ _ first' _ cap' q1 q2 q3 q4 =>
           have hex : (execOp a'.eval o).run P w = .ok (.defer { target := .fn fn cap', args := first' ++ c.args.map a'.eval }) w := by
             simp only [execOp, ho, resolve, hf, hz, Deferred.ofValue]
             rfl
           unfold Oper.wp
           rw [hex, Oper.upon_defer]
           have hp := h.put hd (.undef m)
           refine hn m _ w ⟨fun t => ?_, ?_, ?_, h.rel, h.gl⟩ (.refl h.rel)
           · cases hdd : o.dst <;> (have := hp.tmps t; rw [hdd] at this; exact this)
           · cases hdd : o.dst <;> (have := hp.size; rw [hdd] at this; exact this)
           · have hc : DRs m ({ target := .fn fn cap, args := first ++ c.args.map (evalE E) } :: ds) ({ target := .fn fn cap', args := first' ++ c.args.map a'.eval } :: a'.defers) := .cons ⟨fn, cap, cap', rfl, rfl, ⟨q2, q4⟩, VRa.append ⟨q1, q3⟩ hargs⟩ h.defers
             cases hdd : o.dst <;> exact hc
       · cases hq
     · cases hq
   · exact he.elim
 · rcases jw7 he with ⟨v, H', hy, hk⟩ | ⟨c, H', hy, hk⟩
   · exact .inl ⟨_, _, _, hk, fun m a' w h next Q hn => j09 h.rel h.gl (h.ops hok) (fun m' v' w' hv hs => hn m' _ w' ((h.step hs).put hd hv) hs) hy⟩
   · exact .inr ⟨c, H', hk, fun m a' w h next Q hn => j1a h.rel h.gl (h.ops hok) (fun m' c' w' hc hs => hn m' c' w' hc (h.step hs).weak hs) hy⟩
theorem wpOpsS_cons {P : Program} {ops : Array Oper} {Q : Exit → Act → List Frame → World → Prop} {cs : List Frame} {n : Nat} {rest : List Nat} {o : Oper} {a : Act} {w : World} (ho : ops[n]? = some o)
   (hw : Region.wanted o (yielded ops a.tmps) = true) (h : o.wp P a w (fun a' w' => wpOpsS P ops Q rest a' cs w') (fun e a' w' => Q e a' cs w')) : wpOpsS P ops Q (n :: rest) a cs w := by
 simp only [wpOpsS, ho, hw, if_true]
 unfold Oper.wp at h
 split
 · rename_i w' hr
   rw [hr] at h
   exact h.elim
 · exact h
def opsOk (P : Program) (n : Nat) (o : Oper) : Bool := opOk P o && dstOk n o
theorem jr2 {P : Program} {n : Nat} {ops : Array Oper} {k : KE} {kp : List PanicEntry → KE} :
   ∀ (l : List Oper) (_ : ∀ o ∈ l, opsOk P n o = true) (j : Nat) (_ : l = ops.toList.drop j) (E : Env) (ds : List Deferred) (H : Heap), opsW P ops l E ds H k kp →
   ∃ o E' ds' H', ((o = .norm ∧ k E' ds' H') ∨ ∃ c, o = .pan c ∧ kp c E' ds' H') ∧ ∀ m a' w, StR P n false m E ds H a' w →
     (∀ Q, (∀ e a w', OutR P n m H w o E' ds' H' e a w' → Q e a w') → wpOps P ops Q ((List.range ops.size).drop j) a' w) ∧
     ∀ cs Q, (∀ e a w', OutR P n m H w o E' ds' H' e a w' → Q e a cs w') → wpOpsS P ops Q ((List.range ops.size).drop j) a' cs w := by
 intro l
 induction l with
 | nil =>
   intro _ j hl E ds H he
   refine ⟨.norm, E, ds, H, .inl ⟨rfl, he⟩, fun m a' w h => ?_⟩
   have hlen : ops.size ≤ j := by
     have := congrArg List.length hl
     simp at this; omega
   rw [List.drop_of_length_le (by simpa using hlen)]
   exact ⟨fun Q q => q _ _ _ ⟨m, trivial, h, .refl h.rel⟩, fun cs Q q => q _ _ _ ⟨m, trivial, h, .refl h.rel⟩⟩
 | cons o rest ih =>
   intro hall j hl E ds H he
   have hlt : j < ops.size := by
     have := congrArg List.length hl
     simp at this; omega
   have hd : (List.range ops.size).drop j = j :: (List.range ops.size).drop (j + 1) := by
     rw [List.drop_eq_getElem_cons (by simpa using hlt)]
     simp
   have hl2 : ops.toList.drop j = ops[j] :: ops.toList.drop (j + 1) := by
     rw [List.drop_eq_getElem_cons (by simpa using hlt)]
     simp
   rw [hl2] at hl
   simp only [List.cons.injEq] at hl
   obtain ⟨rfl, hrest⟩ := hl
   have hoj := Array.getElem?_eq_getElem hlt
   have ho := hall _ (List.mem_cons_self ..)
   simp only [opsOk, Bool.and_eq_true] at ho
   have hr := fun x hx => hall x (List.mem_cons_of_mem _ hx)
   unfold opsW guardW at he
   split at he
   · rename_i b hb
     cases b with
     | true =>
       simp only [cond_true] at he
       rcases jz7 ho.2 ho.1 he with ⟨E1, ds1, H1, hk, snd⟩ | ⟨c, H1, hk, snd⟩
       · obtain ⟨o2, E2, ds2, H2, h2, s2⟩ := ih hr (j + 1) hrest E1 ds1 H1 hk
         refine ⟨o2, E2, ds2, H2, h2, fun m a' w h => ?_⟩
         rw [hd]
         refine ⟨fun Q q => ?_, fun cs Q q => ?_⟩
         · simp only [wpOps, hoj]
           rw [if_pos (h.guard hb)]
           exact .inl (snd m a' w h _ _ fun m' a2 w' h' hs => (s2 m' a2 w' h').1 Q fun e a w'' r => q _ _ _ (r.of hs))
         · refine wpOpsS_cons hoj (h.guard hb) (snd m a' w h _ _ fun m' a2 w' h' hs => (s2 m' a2 w' h').2 cs Q fun e a w'' r => q _ _ _ (r.of hs))
       · refine ⟨.pan c, E, ds, H1, .inr ⟨c, rfl, hk⟩, fun m a' w h => ?_⟩
         rw [hd]
         refine ⟨fun Q q => ?_, fun cs Q q => ?_⟩
         · simp only [wpOps, hoj]
           rw [if_pos (h.guard hb)]
           exact .inl (snd m a' w h _ _ fun m' c' w' hc h' hs => q _ _ _ ⟨m', hc, h', hs⟩)
         · exact wpOpsS_cons hoj (h.guard hb) (snd m a' w h _ _ fun m' c' w' hc h' hs => q _ _ _ ⟨m', hc, h', hs⟩)
     | false =>
       simp only [cond_false] at he
       obtain ⟨o2, E2, ds2, H2, h2, s2⟩ := ih hr (j + 1) hrest _ ds H he
       refine ⟨o2, E2, ds2, H2, h2, fun m a' w h => ?_⟩
       rw [hd]
       have hp := h.put ho.2 (.undef m)
       refine ⟨fun Q q => ?_, fun cs Q q => ?_⟩
       · simp only [wpOps, hoj]
         rw [if_neg (by simp [h.guard hb])]
         exact (s2 m _ w hp).1 Q q
       · simp only [wpOpsS, hoj]
         rw [if_neg (by simp [h.guard hb])]
         exact (s2 m _ w hp).2 cs Q q
   · exact he.elim
end Go.Am
namespace Go.Am
variable {P : Program} {H H' : Heap} {v : Value} {o : Oper} {ops : List Oper}
def cls (P : Program) (o : Oper) : Nat :=
 match o.op with
 | .move _ | .assign _ | .pick .. | .build .. | .nilCheck _ | .binOp .. | .unOp .. | .makeInterface .. | .makeFunc .. | .fieldAddr .. | .field .. | .indexAddr .. | .index .. | .extract .. | .typeAssert .. => 0
 | .load .. | .slice .. => 1
 | .convert _ d _ => match P.underlying d with | some (.slice _) => 2 | some .string => 1 | some _ => 0 | none => 2
 | .call { callee := .builtin .len, .. } | .call { callee := .builtin .min, .. } | .call { callee := .builtin .max, .. } => 1
 | _ => 2
def maskOf (acc : List Nat) (o : Oper) : Nat :=
 (o.after.toList.filter fun e => Region.binds .any e).foldl (fun s e => s ||| 2 ^ e.on ||| acc.getD e.on 0) 0
def masks : List Oper → List Nat → List Nat
 | [], acc => acc
 | o :: r, acc => masks r (acc ++ [maskOf acc o])
def dstIs (o : Oper) (t : Tmp) : Bool := match o.dst with | some d => d == t | none => false
def looks (ops : List Oper) (o : Oper) : List Tmp :=
 (o.op.operands.toList.filterMap fun | .tmp t => some t | _ => none) ++
 (match o.guard with
   | some (j, _) => match ops[j]? with | some oj => oj.dst.toList | none => []
   | none => [])
def isDefer (o : Oper) : Bool := match o.op with | .defer _ => true | _ => false
def drawOk (P : Program) (ops : List Oper) : Bool :=
 let b := masks ops []
 let n := ops.length
 (List.range n).all fun i =>
   match ops[i]? with
   | none => false
   | some oi =>
     !isDefer oi && decide (b.getD i 0 < 2 ^ i) &&
     (oi.after.toList.all fun e => !Region.binds .any e || decide (e.on < i)) &&
     (List.range n).all fun j =>
       match ops[j]? with
       | none => false
       | some oj =>
         (match oj.dst with
           | none => true
           | some d => (i == j || !dstIs oi d) && ((looks ops oi).all fun t => !(t == d) || (i != j && ((b.getD i 0).testBit j || (b.getD j 0).testBit i)))) &&
         (!(decide (i < j) && cls P oi == 2 && cls P oj == 2) || (b.getD j 0).testBit i)
def mayPan (o : Oper) : Bool := match o.op with | .panic _ => true | .call c => (match c.callee with | .value _ => true | _ => false) | _ => false
def panAll (P : Program) (ops : List Oper) : Bool :=
 let b := masks ops []
 ((List.range ops.length).all fun i => match ops[i]? with
   | none => true
   | some o => match o.guard with | some (j, _) => decide (j < i) | none => true) &&
 (List.range ops.length).all fun p =>
   match ops[p]? with
   | none => true
   | some op => !mayPan op || ((List.range ops.length).all fun j => !decide (p < j) || (b.getD j 0).testBit p) &&
     (List.range p).all fun i => match ops[i]? with
       | none => true
       | some oi => !(cls P oi == 1) || (List.range p).all fun e => match ops[e]? with
         | none => true
         | some oe => !(cls P oe == 2) || ((b.getD i 0).testBit e || (b.getD e 0).testBit i)
def writes (ops : Array Oper) (i : Nat) : Bool := ops.toList.any fun o => dstIs o i
def eraseE (ops : Array Oper) (E : Env) : Env := fun i => cond (writes ops i) undef (E i)
def drawPairs (P : Program) (ops : List Oper) : List (Nat × Nat) :=
 let b := masks ops []
 let n := ops.length
 (List.range n).flatMap fun i => match ops[i]? with
   | some oi => cond (decide (cls P oi = 1)) ((List.range n).filter fun p => match ops[p]? with
       | some op => decide (cls P op = 2 ∧ (b.getD i 0).testBit p = false ∧ (b.getD p 0).testBit i = false)
       | none => false) [] |>.map fun p => (i, p)
   | none => []
theorem loadA_same {t : TypeId} {x : Value} (h : loadA P t x H = some (v, H')) : H' = H := by
 unfold loadA at h
 split at h
 · split at h
   · split at h
     · unfold ldN at h
       split at h
       · split at h
         · simp only [Option.some.injEq, Prod.mk.injEq] at h; exact h.2.symm
         · simp at h
       · simp at h
     · simp at h
   · unfold ld1 at h
     split at h
     · split at h
       · simp only [Option.some.injEq, Prod.mk.injEq] at h; exact h.2.symm
       · simp at h
     · simp at h
   · simp at h
 · simp at h
theorem convertA_same {s d : TypeId} {x : Value} (hd : ∀ e, P.underlying d ≠ some (.slice e)) (h : convertA P s d x H = some (v, H')) : H' = H := by
 unfold convertA at h
 split at h
 · simp only [Option.some.injEq, Prod.mk.injEq] at h; exact h.2.symm
 · simp only [Option.some.injEq, Prod.mk.injEq] at h; exact h.2.symm
 · simp only [Option.some.injEq, Prod.mk.injEq] at h; exact h.2.symm
 · rename_i h2; exact absurd h2 (hd _)
 · rename_i h2; exact absurd h2 (hd _)
 · split at h
   · split at h
     · simp only [Option.some.injEq, Prod.mk.injEq] at h; exact h.2.symm
     · simp at h
   · simp at h
 · simp at h
theorem cls_le (P : Program) (o : Oper) : cls P o ≤ 2 := by
 unfold cls
 split
 all_goals first
   | omega
   | (split <;> omega)
theorem jr3 {x : Option Value} (h : withH H x = some (v, H')) : H' = H := (ja9 h).2
theorem j27 (hc : cls P o < 2) {ρ : Operand → Value} {H H' : Heap} {v : Value} (h : opA P ρ o.op H = some (v, H')) : H' = H := by
 obtain ⟨dst, op, type, pos, after, guard⟩ := o
 simp only [cls] at hc
 simp only [opA] at h
 cases op <;> simp only at hc h <;> first
   | exact jr3 h
   | (cases h; rfl)
   | (exfalso; omega)
   | exact loadA_same h
   | skip
 case pick c a b => split at h <;> cases h; rfl
 case convert s d x =>
   refine convertA_same (fun e he => ?_) h
   rw [he] at hc
   simp at hc
 case makeInterface t x => split at h <;> cases h; rfl
 case call c =>
   obtain ⟨callee, args, ts⟩ := c
   cases callee with
   | value f => simp at hc
   | invoke x y => simp at hc
   | builtin b =>
     simp only [builtinA] at h
     cases b <;> simp at hc <;> (split at h <;> first
       | (split at h <;> first | exact jr3 h | (cases h; done) | (cases h; rfl))
       | (cases h; done)
       | simp_all)
theorem convertA_pure (P : Program) (s d : TypeId) (x : Value) {dd : TypeDesc} (hd : P.underlying d = some dd) (h1 : ∀ e, dd ≠ .slice e) (h2 : dd ≠ .string) :
   (∃ v, ∀ H, convertA P s d x H = some (v, H)) ∨ (∀ H, convertA P s d x H = none) := by
 unfold convertA
 cases hs : P.underlying s with
 | none => exact .inr fun _ => rfl
 | some ds =>
   rw [hd]
   cases dd with
   | int k => cases x <;> first | exact .inl ⟨_, fun _ => rfl⟩ | exact .inr fun _ => rfl
   | slice e => exact absurd rfl (h1 e)
   | string => exact absurd rfl h2
   | _ => cases x <;> first | exact .inr fun _ => rfl | (cases ds <;> exact .inr fun _ => rfl)
theorem j28 {H2 : Heap} {x : Option Value} (h : withH H x = some (v, H')) : withH H2 x = some (v, H2) := by rw [(ja9 h).1]; rfl
theorem j5s (hc : cls P o = 0) {ρ : Operand → Value} {H H' : Heap} {v : Value} (h : opA P ρ o.op H = some (v, H')) (H2 : Heap) : opA P ρ o.op H2 = some (v, H2) := by
 obtain ⟨dst, op, type, pos, after, guard⟩ := o
 simp only [cls] at hc
 simp only [opA] at h ⊢
 cases op <;> simp only at hc h ⊢ <;> first
   | exact j28 h
   | (cases h; rfl)
   | (exfalso; omega)
   | skip
 case pick c a b => split at h <;> cases h; rfl
 case convert s d x =>
   cases hd : P.underlying d with
   | none => rw [hd] at hc; simp at hc
   | some dd =>
     rw [hd] at hc
     have h1 : ∀ e, dd ≠ .slice e := by intro e he; subst he; simp at hc
     have h2 : dd ≠ .string := by intro he; subst he; simp at hc
     rcases convertA_pure P s d (ρ x) hd h1 h2 with ⟨v, hv⟩ | hv
     · rw [hv] at h ⊢; cases h; rfl
     · rw [hv] at h; cases h
 case makeInterface t x => split at h <;> cases h; rfl
 case call c =>
   obtain ⟨callee, args, ts⟩ := c
   cases callee with
   | value f => simp at hc
   | invoke x y => simp at hc
   | builtin b => cases b <;> simp at hc
theorem jt4 {ρ : Operand → Value} {x : FuncId × Array Value} (h : callOf ρ o.op = some x) : cls P o = 2 ∧ mayPan o = true := by
 obtain ⟨dst, op, type, pos, after, guard⟩ := o
 simp only [callOf] at h
 cases op <;> simp only at h <;> first | (cases h; done) | skip
 rename_i c
 obtain ⟨callee, args, ts⟩ := c
 cases callee with
 | value f => exact ⟨by simp [cls], rfl⟩
 | invoke x y => cases h
 | builtin b => cases h
theorem j1c (hc : cls P o < 2) {ρ : Operand → Value} {H H' : Heap} {v : Value} (h : Yl P ρ o.op H v H') : opA P ρ o.op H = some (v, H) ∧ H' = H := by
 rcases h with h | ⟨g, args, h, _⟩
 · have := j27 hc h
   subst this
   exact ⟨h, rfl⟩
 · have := (jt4 (P := P) h).1; omega
theorem j72 {ρ : Operand → Value} {c : List PanicEntry} (h : Pn P ρ o.op H c H') : mayPan o = true ∧ cls P o = 2 := by
 rcases h with ⟨x, t, v, h, _⟩ | ⟨g, args, h, _⟩
 · obtain ⟨dst, op, type, pos, after, guard⟩ := o
   simp only at h; subst h
   exact ⟨rfl, rfl⟩
 · exact ⟨(jt4 (P := P) h).2, (jt4 h).1⟩
theorem foldl_or_bit (acc : List Nat) (i : Nat) : ∀ (l : List Edge) (s : Nat), (l.foldl (fun s e => s ||| 2 ^ e.on ||| acc.getD e.on 0) s).testBit i = true →
   s.testBit i = true ∨ ∃ e ∈ l, e.on = i ∨ (acc.getD e.on 0).testBit i = true
 | [], s, h => .inl h
 | e :: r, s, h => by
   simp only [List.foldl_cons] at h
   rcases foldl_or_bit acc i r _ h with h1 | ⟨e', he', h2⟩
   · simp only [Nat.testBit_or, Bool.or_eq_true, Nat.testBit_two_pow, decide_eq_true_eq] at h1
     rcases h1 with (h1 | h1) | h1
     · exact .inl h1
     · exact .inr ⟨e, by simp, .inl h1⟩
     · exact .inr ⟨e, by simp, .inr h1⟩
   · exact .inr ⟨e', by simp [he'], h2⟩
theorem masks_acc : ∀ (l : List Oper) (acc : List Nat), ∃ t, masks l acc = acc ++ t
 | [], acc => ⟨[], by simp [masks]⟩
 | o :: r, acc => by
   obtain ⟨t, ht⟩ := masks_acc r (acc ++ [maskOf acc o])
   exact ⟨maskOf acc o :: t, by simp [masks, ht]⟩
theorem masks_get : ∀ (l : List Oper) (acc : List Nat) (i : Nat) (o : Oper), l[i]? = some o → ∃ t, t.length = i ∧ (masks l acc).getD (acc.length + i) 0 = maskOf (acc ++ t) o ∧ ∃ u, masks l acc = acc ++ t ++ u
 | [], acc, i, o, h => by simp at h
 | o' :: r, acc, 0, o, h => by
   simp only [List.getElem?_cons_zero, Option.some.injEq] at h
   subst h
   obtain ⟨t, ht⟩ := masks_acc r (acc ++ [maskOf acc o'])
   refine ⟨[], rfl, ?_, ⟨maskOf acc o' :: t, by simp [masks, ht]⟩⟩
   simp [masks, ht]
 | o' :: r, acc, i + 1, o, h => by
   simp only [List.getElem?_cons_succ] at h
   obtain ⟨t, h1, h2, u, h3⟩ := masks_get r (acc ++ [maskOf acc o']) i o h
   refine ⟨maskOf acc o' :: t, by simp [h1], ?_, u, ?_⟩
   · simp only [masks]
     have e : (acc ++ [maskOf acc o']).length + i = acc.length + (i + 1) := by simp; omega
     rw [← e, h2]
     simp
   · simp only [masks, h3]; simp
theorem mask_spec {i j : Nat} (ho : ops[i]? = some o) (hon : ∀ e ∈ o.after, Region.binds .any e = true → e.on < i) (h : ((masks ops []).getD i 0).testBit j = true) :
   ∃ e ∈ o.after, Region.binds .any e = true ∧ (e.on = j ∨ ((masks ops []).getD e.on 0).testBit j = true) := by
 obtain ⟨t, h1, h2, u, h3⟩ := masks_get ops [] i o ho
 simp only [List.length_nil, Nat.zero_add, List.nil_append] at h2 h3
 rw [h2] at h
 unfold maskOf at h
 rcases foldl_or_bit t j _ 0 h with h4 | ⟨e, he, h4⟩
 · simp at h4
 · rw [List.mem_filter] at he
   have hea : e ∈ o.after := by simpa using he.1
   refine ⟨e, hea, he.2, ?_⟩
   rcases h4 with h4 | h4
   · exact .inl h4
   · right
     have hlt := hon e hea he.2
     rw [h3]
     rw [List.getD_eq_getElem?_getD, List.getElem?_append_left (by omega), ← List.getD_eq_getElem?_getD]
     exact h4
structure Sta (P : Program) (ops : List Oper) : Prop where
 nd : ∀ o ∈ ops, isDefer o = false
 edge : ∀ (i : Nat) (o : Oper), ops[i]? = some o → ∀ e ∈ o.after, Region.binds .any e = true → e.on < i
 lt : ∀ (i : Nat) (o : Oper), ops[i]? = some o → (masks ops []).getD i 0 < 2 ^ i
 dst : ∀ (i j : Nat) (oi oj : Oper) (d : Tmp), ops[i]? = some oi → ops[j]? = some oj → oi.dst = some d → oj.dst = some d → i = j
 look : ∀ (i j : Nat) (oi oj : Oper) (d : Tmp), ops[i]? = some oi → ops[j]? = some oj → oj.dst = some d → d ∈ looks ops oi →
   i ≠ j ∧ (((masks ops []).getD i 0).testBit j = true ∨ ((masks ops []).getD j 0).testBit i = true)
 eff : ∀ (i j : Nat) (oi oj : Oper), ops[i]? = some oi → ops[j]? = some oj → i < j → cls P oi = 2 → cls P oj = 2 → ((masks ops []).getD j 0).testBit i = true
theorem drawOk_spec (h : drawOk P ops = true) : Sta P ops := by
 unfold drawOk at h
 simp only [List.all_eq_true, List.mem_range] at h
 have hi : ∀ (i : Nat) (o : Oper), ops[i]? = some o → i < ops.length := fun i o ho => (List.getElem?_eq_some_iff.1 ho).1
 have key := fun (i : Nat) (oi : Oper) (ho : ops[i]? = some oi) => by
   have := h i (hi i oi ho)
   simp only [ho, Bool.and_eq_true, Bool.not_eq_true', decide_eq_true_eq, List.all_eq_true, List.mem_range] at this
   exact this
 refine ⟨?_, ?_, ?_, ?_, ?_, ?_⟩
 · intro o ho
   obtain ⟨i, hlt, rfl⟩ := List.getElem_of_mem ho
   exact (key i ops[i] (List.getElem?_eq_getElem hlt)).1.1.1
 · intro i o ho e he hb
   have := (key i o ho).1.2 e (by simpa using he)
   simpa [hb] using this
 · intro i o ho
   exact (key i o ho).1.1.2
 · intro i j oi oj d h1 h2 d1 d2
   have := (key i oi h1).2 j (hi j oj h2)
   simp only [h2, d2, Bool.and_eq_true, Bool.or_eq_true, beq_iff_eq] at this
   rcases this.1.1 with e | e
   · exact e
   · simp [dstIs, d1] at e
 · intro i j oi oj d h1 h2 d2 hl
   have := (key i oi h1).2 j (hi j oj h2)
   simp only [h2, d2, Bool.and_eq_true, List.all_eq_true] at this
   have := this.1.2 d hl
   simpa using this
 · intro i j oi oj h1 h2 hlt c1 c2
   have := (key i oi h1).2 j (hi j oj h2)
   simp only [h2, Bool.and_eq_true] at this
   have := this.2
   simpa [hlt, c1, c2] using this
theorem sta_bit_lt (hs : Sta P ops) {i j : Nat} {o : Oper} (ho : ops[i]? = some o) (h : ((masks ops []).getD i 0).testBit j = true) : j < i := by
 have h1 := hs.lt i o ho
 rcases Nat.lt_or_ge j i with h2 | h2
 · exact h2
 · have : (masks ops []).getD i 0 < 2 ^ j := Nat.lt_of_lt_of_le h1 (Nat.pow_le_pow_right (by omega) h2)
   rw [Nat.testBit_lt_two_pow this] at h
   simp at h
def Down (ops : List Oper) (L : Nat → Bool) : Prop := ∀ (i : Nat) (o : Oper), ops[i]? = some o → L i = true → ∀ e ∈ o.after, Region.binds .any e = true → L e.on = true
theorem down_bit (hs : Sta P ops) {L : Nat → Bool} (hd : Down ops L) : ∀ (i : Nat) (o : Oper) (j : Nat), ops[i]? = some o →
   (∀ e ∈ o.after, Region.binds .any e = true → L e.on = true) → ((masks ops []).getD i 0).testBit j = true → L j = true := by
 intro i
 induction i using Nat.strongRecOn with
 | _ i ih =>
   intro o j ho hp hb
   obtain ⟨e, he, hbi, h⟩ := mask_spec ho (hs.edge i o ho) hb
   have hlt := hs.edge i o ho e he hbi
   rcases h with h | h
   · rw [← h]; exact hp e he hbi
   · have hlt2 : e.on < ops.length := Nat.lt_trans hlt (List.getElem?_eq_some_iff.1 ho).1
     have ho2 : ops[e.on]? = some ops[e.on] := List.getElem?_eq_getElem hlt2
     exact ih e.on hlt ops[e.on] j ho2 (hd e.on _ ho2 (hp e he hbi)) h
theorem count_lt {α : Type} {p q : α → Bool} : ∀ (l : List α), (∀ x ∈ l, q x = true → p x = true) → (∃ x ∈ l, p x = true ∧ q x = false) → l.countP q < l.countP p
 | [], _, ⟨x, hx, _⟩ => by simp at hx
 | y :: r, h, ⟨x, hx, h1, h2⟩ => by
   have hle : r.countP q ≤ r.countP p := List.countP_mono_left (fun z hz => h z (by simp [hz]))
   rw [List.countP_cons, List.countP_cons]
   rcases List.mem_cons.1 hx with rfl | hx
   · simp [h1, h2]; omega
   · have := count_lt r (fun z hz => h z (by simp [hz])) ⟨x, hx, h1, h2⟩
     have h3 := h y (by simp)
     cases hq : q y with
     | true => simp [h3 hq]; omega
     | false => cases p y <;> simp <;> omega
theorem looks_operand {t : Tmp} (h : Operand.tmp t ∈ o.op.operands.toList) : t ∈ looks ops o := by
 unfold looks
 rw [List.mem_append]
 left
 exact List.mem_filterMap.2 ⟨_, h, rfl⟩
theorem looks_guard {ops : Array Oper} {j : Nat} {want : Bool} {d : Tmp} (hg : o.guard = some (j, want)) (hd : (ops[j]?).bind (·.dst) = some d) : d ∈ looks ops.toList o := by
 unfold looks
 rw [List.mem_append]
 right
 rw [hg]
 cases hj : ops[j]? with
 | none => rw [hj] at hd; simp at hd
 | some oj =>
   rw [hj] at hd
   simp only [Option.bind_some] at hd
   have : ops.toList[j]? = some oj := by simpa using hj
   simp [this, hd]
end Go.Am
namespace Go.Am
def trW (P : Program) (ops : Array Oper) : List Oper → Env → List Deferred → Heap → List (Env × Heap) → (List (Env × Heap) → KE) → (List PanicEntry → KE) → Prop
 | [], E, ds, H, tr, k, _ => k (tr ++ [(E, H)]) E ds H
 | o :: r, E, ds, H, tr, k, kp => guardW ops o E (stepW P o E ds H (fun E' ds' H' => trW P ops r E' ds' H' (tr ++ [(E, H)]) k kp) kp) (trW P ops r (upd E o.dst undef) ds H (tr ++ [(E, H)]) k kp)
def pairChk (P : Program) (ops : Array Oper) (tr : List (Env × Heap)) (i p : Nat) : Prop :=
 match ops.toList[i]?, tr[i]?, tr[i + 1]?, tr[p]?, tr[p + 1]? with
 | some oi, some ti, some tn, some tp, some tq =>
   (match guardBE ops oi ti.1 with
   | some true => (match oi.dst with
     | some d => opA P (evalE ti.1) oi.op tp.2 = some (tn.1 d, tp.2) ∧ opA P (evalE ti.1) oi.op tq.2 = some (tn.1 d, tq.2)
     | none => False)
   | _ => True)
 | _, _, _, _, _ => False
def StepC (P : Program) (ops : Array Oper) (o : Oper) (E : Env) (H : Heap) (E' : Env) (H' : Heap) : Prop :=
 (guardBE ops o E = some true ∧ ∃ v, Yl P (evalE E) o.op H v H' ∧ E' = upd E o.dst v) ∨ (guardBE ops o E = some false ∧ E' = upd E o.dst undef ∧ H' = H)
theorem StepC.upd {P : Program} {ops : Array Oper} {o : Oper} {E E' : Env} {H H' : Heap} (h : StepC P ops o E H E' H') : ∃ v, E' = upd E o.dst v := by
 rcases h with ⟨_, v, _, h⟩ | ⟨_, h, _⟩
 · exact ⟨v, h⟩
 · exact ⟨_, h⟩
def TrS (P : Program) (ops : Array Oper) (ds : List Deferred) (k : List (Env × Heap) → KE) (kp : List PanicEntry → KE) (l : List Oper) (E : Env) (H : Heap) (tr : List (Env × Heap)) : Prop :=
 ∃ (p : Nat) (A : Nat → Env) (Hs : Nat → Heap), p ≤ l.length ∧ A 0 = E ∧ Hs 0 = H ∧ (∀ i o, i < p → l[i]? = some o → StepC P ops o (A i) (Hs i) (A (i + 1)) (Hs (i + 1))) ∧
   ((p = l.length ∧ k (tr ++ (List.range (p + 1)).map fun i => (A i, Hs i)) (A p) ds (Hs p)) ∨
     ∃ o c H', l[p]? = some o ∧ guardBE ops o (A p) = some true ∧ Pn P (evalE (A p)) o.op (Hs p) c H' ∧ kp c (A p) ds H')
theorem j1d {P : Program} {ops : Array Oper} {ds : List Deferred} {k : List (Env × Heap) → KE} {kp : List PanicEntry → KE} : ∀ (l : List Oper) (E : Env) (H : Heap) (tr : List (Env × Heap)), (∀ o ∈ l, isDefer o = false) → trW P ops l E ds H tr k kp → TrS P ops ds k kp l E H tr
 | [], E, H, tr, _, h => ⟨0, fun _ => E, fun _ => H, Nat.le_refl _, rfl, rfl, fun i o hi => by omega, .inl ⟨rfl, h⟩⟩
 | o :: r, E, H, tr, hd, h => by
   have cons : ∀ E1 H1, StepC P ops o E H E1 H1 → trW P ops r E1 ds H1 (tr ++ [(E, H)]) k kp → TrS P ops ds k kp (o :: r) E H tr := fun E1 H1 hs h1 => by
     obtain ⟨p, A, Hs, h0, hA, hH, h2, h3⟩ := j1d r E1 H1 _ (fun o ho => hd o (List.mem_cons_of_mem _ ho)) h1
     refine ⟨p + 1, fun i => match i with | 0 => E | i + 1 => A i, fun i => match i with | 0 => H | i + 1 => Hs i, by simpa using h0, rfl, rfl, fun i x hi hx => ?_, ?_⟩
     · cases i with
       | zero => cases hx; show StepC P ops o E H (A 0) (Hs 0); rw [hA, hH]; exact hs
       | succ i => exact h2 i x (by omega) (by simpa using hx)
     · rcases h3 with ⟨e, hk⟩ | ⟨x, c, H', e, hg, hp, hk⟩
       · refine .inl ⟨by simp [e], ?_⟩
         rw [List.range_succ_eq_map, List.map_cons, List.map_map, List.append_cons]
         exact hk
       · exact .inr ⟨x, c, H', by simpa using e, hg, hp, hk⟩
   unfold trW guardW at h
   split at h
   · rename_i b hb
     cases b with
     | true =>
       simp only [cond_true] at h
       unfold stepW at h
       have hnd := hd o (by simp)
       split at h
       · rename_i c hc; simp [isDefer, hc] at hnd
       · rcases jw7 h with ⟨v, H1, hy, hk⟩ | ⟨c, H1, hy, hk⟩
         · exact cons _ H1 (.inl ⟨hb, v, hy, rfl⟩) hk
         · exact ⟨0, fun _ => E, fun _ => H, Nat.zero_le _, rfl, rfl, fun i o hi => by omega, .inr ⟨o, c, H1, rfl, hb, hy, hk⟩⟩
     | false => exact cons _ H (.inr ⟨hb, rfl, rfl⟩) h
   · exact h.elim
theorem next_eff (c : Nat → Prop) : ∀ (k i : Nat), ∃ q, i ≤ q ∧ q ≤ i + k ∧ (∀ j, i ≤ j → j < q → ¬ c j) ∧ (q < i + k → c q)
 | 0, i => ⟨i, Nat.le_refl _, Nat.le_refl _, fun j _ _ => by omega, fun _ => by omega⟩
 | k + 1, i => by
   by_cases h : c i
   · exact ⟨i, Nat.le_refl _, by omega, fun j _ _ => by omega, fun _ => h⟩
   · obtain ⟨q, h1, h2, h3, h4⟩ := next_eff c k (i + 1)
     refine ⟨q, by omega, by omega, fun j a b => ?_, fun _ => h4 (by omega)⟩
     rcases Nat.eq_or_lt_of_le a with e | e
     · exact e ▸ h
     · exact h3 j e b
theorem last_eff (c : Nat → Prop) (i : Nat) : ∀ (k : Nat), (∀ j, i ≤ j → j < i + k → ¬ c j) ∨ ∃ e, i ≤ e ∧ e < i + k ∧ c e ∧ ∀ j, e < j → j < i + k → ¬ c j
 | 0 => .inl fun j _ _ => by omega
 | k + 1 => by
   by_cases h : c (i + k)
   · exact .inr ⟨i + k, by omega, by omega, h, fun j _ _ => by omega⟩
   · rcases last_eff c i k with hn | ⟨e, h1, h2, h3, h4⟩
     · exact .inl fun j a b => (Nat.lt_or_ge j (i + k)).elim (hn j a) fun d => (by omega : j = i + k) ▸ h
     · exact .inr ⟨e, h1, by omega, h3, fun j a b => (Nat.lt_or_ge j (i + k)).elim (h4 j a) fun d => (by omega : j = i + k) ▸ h⟩
def Eff (P : Program) (ops : List Oper) (j : Nat) : Prop := ∃ o, ops[j]? = some o ∧ cls P o = 2
structure Tra (P : Program) (ops : Array Oper) (p : Nat) (A : Nat → Env) (Hs : Nat → Heap) : Prop where
 le : p ≤ ops.toList.length
 step : ∀ i o, i < p → ops.toList[i]? = some o → StepC P ops o (A i) (Hs i) (A (i + 1)) (Hs (i + 1))
 chk : ∀ i e oi oe v, i < p → e < p → ops.toList[i]? = some oi → ops.toList[e]? = some oe → cls P oi = 1 → guardBE ops oi (A i) = some true → cls P oe = 2 →
   ((masks ops.toList []).getD i 0).testBit e = false → ((masks ops.toList []).getD e 0).testBit i = false → opA P (evalE (A i)) oi.op (Hs i) = some (v, Hs i) → A (i + 1) = upd (A i) oi.dst v →
   opA P (evalE (A i)) oi.op (Hs e) = some (v, Hs e) ∧ opA P (evalE (A i)) oi.op (Hs (e + 1)) = some (v, Hs (e + 1))
theorem yd3 (E : Env) (d : Option Tmp) (v : Value) (t : Nat) (h : d ≠ some t) : upd E d v t = E t := by
 cases d with
 | none => rfl
 | some i => simp only [upd]; rw [if_neg fun e => h (by rw [e])]
section
variable {P : Program} {ops : Array Oper} {p : Nat} {A : Nat → Env} {Hs : Nat → Heap}
theorem Tra.slot (h : Tra P ops p A Hs) (t i : Nat) : ∀ k, i + k ≤ p → (∀ j o, i ≤ j → j < i + k → ops.toList[j]? = some o → o.dst ≠ some t) → A (i + k) t = A i t
 | 0, _, _ => rfl
 | k + 1, hk, hn => by
   have hlt : i + k < ops.toList.length := Nat.lt_of_lt_of_le hk h.le
   have ho := List.getElem?_eq_getElem hlt
   obtain ⟨v, hv⟩ := (h.step (i + k) _ hk ho).upd
   rw [show i + (k + 1) = i + k + 1 by omega, hv, yd3 _ _ _ _ (hn (i + k) _ (by omega) (by omega) ho)]
   exact h.slot t i k (by omega) (fun j o h1 h2 h3 => hn j o h1 (by omega) h3)
theorem Tra.heap (h : Tra P ops p A Hs) (i : Nat) : ∀ k, i + k ≤ p → (∀ j, i ≤ j → j < i + k → ¬ Eff P ops.toList j) → Hs (i + k) = Hs i
 | 0, _, _ => rfl
 | k + 1, hk, hn => by
   have hlt : i + k < ops.toList.length := Nat.lt_of_lt_of_le hk h.le
   have ho := List.getElem?_eq_getElem hlt
   have hc : cls P ops.toList[i + k] < 2 := by
     have := cls_le P ops.toList[i + k]
     have : cls P ops.toList[i + k] ≠ 2 := fun e => hn (i + k) (by omega) (by omega) ⟨_, ho, e⟩
     omega
   have : Hs (i + k + 1) = Hs (i + k) := by
     rcases h.step (i + k) _ hk ho with ⟨_, v, hy, _⟩ | ⟨_, _, hh⟩
     · exact (j1c hc hy).2
     · exact hh
   rw [show i + (k + 1) = i + k + 1 by omega, this]
   exact h.heap i k (by omega) (fun j h1 h2 => hn j h1 (by omega))
structure Inv (P : Program) (ops : Array Oper) (p : Nat) (A : Nat → Env) (Hs : Nat → Heap) (n : Nat) (ds : List Deferred) (m0 : Mp) (w0 : World) (L : Nat → Bool) (q : Nat) (m : Mp) (a' : Act) (w' : World) : Prop where
 rel : Rel m (Hs q) w'
 gl : Gl P m
 step : Step m0 (Hs 0) w0 m (Hs q) w'
 defers : DRs m ds a'.defers
 size : a'.tmps.size = n
 done : ∀ (j : Nat) (o : Oper) (t : Nat), ops.toList[j]? = some o → o.dst = some t → L j = true → VR m (A p t) (a'.tmps.getD t undef)
 kept : ∀ (t : Nat), (∀ (j : Nat) (o : Oper), ops.toList[j]? = some o → L j = true → o.dst ≠ some t) → VR m (A 0 t) (a'.tmps.getD t undef)
 qle : q ≤ p
 qeff : q < p → Eff P ops.toList q ∧ L q = false
 qlow : ∀ j, j < q → Eff P ops.toList j → L j = true
 low : ∀ j, p ≤ j → L j = false
variable {n : Nat} {ds : List Deferred} {m0 m : Mp} {w0 w' : World} {L : Nat → Bool} {q : Nat} {a' : Act}
theorem Inv.sees (hs : Sta P ops.toList) (ht : Tra P ops p A Hs) (h : Inv P ops p A Hs n ds m0 w0 L q m a' w') (hd : Down ops.toList L)
   {i : Nat} {o : Oper} (ho : ops.toList[i]? = some o) (hip : i ≤ p) (hp : ∀ e ∈ o.after, Region.binds .any e = true → L e.on = true) (hL : L i = false) {t : Nat} (hl : t ∈ looks ops.toList o) : VR m (A i t) (a'.tmps.getD t undef) := by
 by_cases hw : ∃ (j : Nat) (oj : Oper), ops.toList[j]? = some oj ∧ oj.dst = some t
 · obtain ⟨j, oj, hj, hjd⟩ := hw
   have uniq : ∀ k ok, ops.toList[k]? = some ok → ok.dst = some t → k = j := fun k ok h1 h2 => hs.dst k j ok oj t h1 hj h2 hjd
   obtain ⟨hne, hb⟩ := hs.look i j o oj t ho hj hjd hl
   rcases hb with hb | hb
   · have hji := sta_bit_lt hs ho hb
     have := ht.slot t i (p - i) (by omega) (fun k ok a b c d => by have := uniq k ok c d; omega)
     rw [show i + (p - i) = p by omega] at this
     rw [← this]
     exact h.done j oj t hj hjd (down_bit hs hd i o j ho hp hb)
   · have hij := sta_bit_lt hs hj hb
     have hLj : L j = false := by
       cases e : L j with
       | false => rfl
       | true =>
         have := down_bit hs hd j oj i hj (fun x hx hbx => hd j oj hj e x hx hbx) hb
         rw [this] at hL; cases hL
     have := ht.slot t 0 i (by omega) (fun k ok a b c d => by have := uniq k ok c d; omega)
     rw [Nat.zero_add] at this
     rw [this]
     refine h.kept t fun k ok a b c => ?_
     rw [uniq k ok a c, hLj] at b; cases b
 · have := ht.slot t 0 i (by omega) (fun k ok a b c d => hw ⟨k, ok, c, d⟩)
   rw [Nat.zero_add] at this
   rw [this]
   exact h.kept t fun k ok a _ c => hw ⟨k, ok, a, c⟩
theorem Inv.quiet (hs : Sta P ops.toList) (ht : Tra P ops p A Hs) (h : Inv P ops p A Hs n ds m0 w0 L q m a' w') (hd : Down ops.toList L)
   {i : Nat} {o : Oper} (ho : ops.toList[i]? = some o) (hip : i < p) (hp : ∀ e ∈ o.after, Region.binds .any e = true → L e.on = true) (hL : L i = false) (hg : guardBE ops o (A i) = some true) (hc : cls P o < 2)
   {v : Value} (hy : opA P (evalE (A i)) o.op (Hs i) = some (v, Hs i)) (hA : A (i + 1) = upd (A i) o.dst v) : opA P (evalE (A i)) o.op (Hs q) = some (v, Hs q) := by
 rcases Nat.eq_zero_or_pos (cls P o) with h0 | hpos
 · exact j5s h0 hy (Hs q)
 · have h1 : cls P o = 1 := by omega
   have unord : ∀ j oj, ops.toList[j]? = some oj → L j = true → ((masks ops.toList []).getD j 0).testBit i = false := by
     intro j oj hoj hLj
     cases e : ((masks ops.toList []).getD j 0).testBit i with
     | false => rfl
     | true =>
       have := down_bit hs hd j oj i hoj (fun x hx hbx => hd j oj hoj hLj x hx hbx) e
       rw [this] at hL; cases hL
   rcases Nat.lt_trichotomy i q with hiq | hiq | hiq
   · rcases last_eff (Eff P ops.toList) i (q - i) with hn | ⟨e, e1, e2, ⟨oe, e3, e4⟩, e5⟩
     · have := ht.heap i (q - i) (by have := h.qle; omega) hn
       rw [show i + (q - i) = q by omega] at this
       rw [this]; exact hy
     · have hei : e ≠ i := by
         intro e'; subst e'; rw [ho] at e3; cases e3; omega
       have u2 : ((masks ops.toList []).getD i 0).testBit e = false := by
         cases b : ((masks ops.toList []).getD i 0).testBit e with
         | false => rfl
         | true => have := sta_bit_lt hs ho b; omega
       have := (ht.chk i e o oe v hip (by have := h.qle; omega) ho e3 h1 hg e4 u2 (unord e oe e3 (h.qlow e (by omega) ⟨oe, e3, e4⟩)) hy hA).2
       have hh := ht.heap (e + 1) (q - (e + 1)) (by have := h.qle; omega) (fun j a b => e5 j (by omega) (by omega))
       rw [show e + 1 + (q - (e + 1)) = q by omega] at hh
       rw [hh]
       exact this
   · subst hiq; exact hy
   · obtain ⟨⟨oq, hq3, c2⟩, Lq⟩ := h.qeff (by omega)
     have u2 : ((masks ops.toList []).getD i 0).testBit q = false := by
       cases b : ((masks ops.toList []).getD i 0).testBit q with
       | false => rfl
       | true => have := down_bit hs hd i o q ho hp b; rw [this] at Lq; cases Lq
     have u1 : ((masks ops.toList []).getD q 0).testBit i = false := by
       cases b : ((masks ops.toList []).getD q 0).testBit i with
       | false => rfl
       | true => have := sta_bit_lt hs hq3 b; omega
     exact (ht.chk i q o oq v hip (by omega) ho hq3 h1 hg c2 u2 u1 hy hA).1
theorem Inv.next (hs : Sta P ops.toList) (h : Inv P ops p A Hs n ds m0 w0 L q m a' w') (hd : Down ops.toList L)
   {i : Nat} {o : Oper} (ho : ops.toList[i]? = some o) (hip : i ≤ p) (hp : ∀ e ∈ o.after, Region.binds .any e = true → L e.on = true) (hL : L i = false) (hc : cls P o = 2) : i = q := by
 rcases Nat.lt_trichotomy i q with e | e | e
 · have := h.qlow i e ⟨o, ho, hc⟩; rw [this] at hL; cases hL
 · exact e
 · obtain ⟨⟨oq, hq3, c2⟩, Lq⟩ := h.qeff (by omega)
   have := down_bit hs hd i o q ho hp (hs.eff q i _ o hq3 ho e c2 hc)
   rw [this] at Lq; cases Lq
theorem Inv.put (hs : Sta P ops.toList) (ht : Tra P ops p A Hs) (h : Inv P ops p A Hs n ds m0 w0 L q m a' w') {m2 : Mp} {w2 : World}
   {i : Nat} {o : Oper} (ho : ops.toList[i]? = some o) (hip : i < p) (hok : dstOk n o = true) {v v' : Value} (hA : A (i + 1) = upd (A i) o.dst v) {q2 : Nat} (hst : Step m (Hs q) w' m2 (Hs q2) w2) (hv : VR m2 v v')
   (q2le : q2 ≤ p) (q2eff : q2 < p → Eff P ops.toList q2 ∧ L q2 = false ∧ q2 ≠ i) (q2low : ∀ j, j < q2 → Eff P ops.toList j → L j = true ∨ j = i) :
   Inv P ops p A Hs n ds m0 w0 (fun j => if j = i then true else L j) q2 m2 (a'.put o.dst v') w2 := by
 have hm := hst.later.le
 have hpd : ∀ t, (a'.put o.dst v').tmps.getD t undef = if o.dst = some t then v' else a'.tmps.getD t undef := fun t => by
   cases hd : o.dst with
   | none => simp [Act.put]
   | some d =>
     have hlt : d < a'.tmps.size := by
       rw [h.size]
       simpa [dstOk, hd] using hok
     rw [j1b _ _ _ _ hlt]
     by_cases e : t = d
     · simp [e]
     · simp [e, Ne.symm e]
 refine ⟨hst.rel, h.gl.mono hm, h.step.trans hst, ?_, ?_, fun j oj t hj hjd hLj => ?_, fun t hn => ?_, q2le, fun hq => ?_, fun j hj hc => ?_, fun j hj => ?_⟩
 · have : (a'.put o.dst v').defers = a'.defers := by cases o.dst <;> rfl
   rw [this]; exact h.defers.mono hm
 · have : (a'.put o.dst v').tmps.size = a'.tmps.size := by cases o.dst <;> simp [Act.put]
   rw [this]; exact h.size
 · rw [hpd]
   by_cases e : j = i
   · subst e
     rw [ho] at hj; cases hj
     have hsl := ht.slot t (j + 1) (p - (j + 1)) (by omega) (fun k ok a b c d => by have := hs.dst k j ok o t c ho d hjd; omega)
     rw [show j + 1 + (p - (j + 1)) = p by omega, hA] at hsl
     rw [hsl, if_pos hjd, hjd]
     simpa [upd] using hv
   · simp only [e, if_false] at hLj
     rw [if_neg fun hd => e (hs.dst j i oj o t hj ho hjd hd)]
     exact (h.done j oj t hj hjd hLj).mono hm
 · rw [hpd, if_neg (hn i o ho (by simp))]
   refine (h.kept t fun j oj hj hLj => hn j oj hj ?_).mono hm
   by_cases e : j = i <;> simp [e, hLj]
 · obtain ⟨a1, a2, a3⟩ := q2eff hq
   exact ⟨a1, by simp [a3, a2]⟩
 · rcases q2low j hj hc with e | e
   · by_cases e' : j = i <;> simp [e', e]
   · simp [e]
 · have : j ≠ i := by omega
   simp [this, h.low j hj]
end
end Go.Am
