/- Externs; closed runs on a small heap, used within a great one. -/
import Derived.Test.YtpfpfpeockbbpaaGreatDoorAmC
namespace Go.Am

def groundT : Value → Bool
  | .tuple vs => vs.toList.all atomic
  | v => ground v
theorem VR.of_groundT {m : Mp} {v : Value} (hg : groundT v = true) : VR m v v := by
  cases v with
  | tuple cs => exact .tuple _ _ rfl (fun i a _ => .atom _ (List.all_eq_true.1 hg _ (by simp)))
  | _ => exact .of_ground hg

/-- The library's own rows, where they look at no memory. -/
def extX (P : Program) : Xf := fun f args H =>
  match P.funcs[f]? with
  | some fn =>
    if fn.name == "runtime.NumGoroutine" then none
    else if fn.body.isNone && args.toList.all atomic then
      match Extern.findNext fn with
      | some _ => none
      | none => match Extern.find fn with
        | some e => match pureRun P (e args) with | some v => if groundT v then some (v, H) else none | none => none
        | none => none
    else none
  | none => none

theorem VRs.eq_of_atomic {m : Mp} : ∀ {l l' : List Value}, VRs m l l' → l.all atomic = true → l' = l
  | [], [], _, _ => rfl
  | [], _ :: _, h, _ => by have := h.1; simp at this
  | _ :: _, [], h, _ => by have := h.1; simp at this
  | x :: r, y :: s, h, ha => by
    simp only [List.all_cons, Bool.and_eq_true] at ha
    rw [h.head.eq_of_atomic ha.1, VRs.eq_of_atomic h.tail ha.2]

theorem VRa.eq_of_atomic {m : Mp} {a a' : Array Value} (h : VRa m a a') (ha : a.toList.all atomic = true) : a' = a := by
  have := VRs.eq_of_atomic h.toList ha
  exact Array.toList_inj.mp this

theorem VRs.of_atomic (m : Mp) : ∀ {l : List Value}, l.all atomic = true → VRs m l l
  | [], _ => VRs.nil m
  | x :: r, ha => by
    simp only [List.all_cons, Bool.and_eq_true] at ha
    exact VRs.cons (.atom x ha.1) (VRs.of_atomic m ha.2)

theorem extX_sound (P : Program) : XSnd P (extX P) := by
  intro f args H v H' he m w args' h hg ha
  unfold extX at he
  split at he
  · rename_i fn hf
    split at he
    · simp at he
    · rename_i hn
      split at he
      · rename_i hb
        simp only [Bool.and_eq_true] at hb
        split at he
        · simp at he
        · rename_i hfn
          split at he
          · rename_i e hfe
            split at he
            · rename_i v0 hv
              split at he
              · rename_i hgr
                simp only [Option.some.injEq, Prod.mk.injEq] at he
                obtain ⟨rfl, rfl⟩ := he
                have hargs := VRa.eq_of_atomic ha hb.2
                subst hargs
                refine ⟨m, v0, w, ?_, .of_groundT hgr, .refl h⟩
                have hr := pureRun_run hv w
                have hn' : ¬ fn.name = "runtime.NumGoroutine" := by simpa using hn
                have hb' : fn.body = none := by simpa using hb.1
                simp [callFunc, hf, hn', hb', hfn, hfe, hr]
              · simp at he
            · simp at he
          · simp at he
      · simp at he
  · simp at he

/-- All addresses lie below. -/
def within (n : Nat) : Value → Bool
  | .pointer (some a) => decide (a.block < n)
  | .iface _ v => within n v
  | .agg xs => match xs.toList with | [.pointer (some a)] => decide (a.block < n) | _ => false
  | v => atomic v

theorem within_atomic {n : Nat} {v : Value} (h : atomic v = true) : within n v = true := by
  cases v <;> first | exact h | (simp [atomic] at h; done) | (rename_i a; cases a <;> first | rfl | simp [atomic] at h)

theorem VR.within {m m' : Mp} {n : Nat} (hm : ∀ b L, b < n → m b = some L → m' b = some L) {v v' : Value} (h : VR m v v') (hw : within n v = true) : VR m' v v' := by
  induction h with
  | atom v h => exact .atom v h
  | ptr b off L h => exact .ptr b off L (hm b L (by simpa [Am.within] using hw) h)
  | slice b off L a' len cap cap' h => simp [Am.within, atomic] at hw
  | map b L h => simp [Am.within, atomic] at hw
  | func => simp [Am.within, atomic] at hw
  | iface t v v' _ ih => exact .iface t v v' (ih (by simpa [Am.within] using hw))
  | agg xs xs' hx kx ih =>
    unfold Am.within at hw
    split at hw
    · rename_i a he
      have hs : xs.size = 1 := by rw [← Array.length_toList, he]; rfl
      refine .agg xs xs' hx fun i a1 a2 => ih i a1 a2 ?_
      have : xs[i] = .pointer (some a) := by
        have h0 : i = 0 := by omega
        subst h0
        have e2 := congrArg (fun l => l[0]?) he
        have e3 : xs[0]? = some (.pointer (some a)) := by simpa using e2
        exact (Array.getElem?_eq_some_iff.mp e3).2
      rw [this]
      simpa [Am.within] using hw
    · simp at hw
  | tuple => simp [Am.within, atomic] at hw

/-- A small heap of tables that none writes. -/
structure Tabs (P : Program) (G : Heap) : Prop where
  ro : ∀ b x, G.get b = some x → x.rw = false ∧ x.o = none ∧ x.cells.all (within G.next) = true ∧ x.ty = none
  next : P.globals.size ≤ G.next
  fresh : ∀ b, G.next ≤ b → G.get b = none

/-- A heap in which the tables lie. -/
structure Over (G H : Heap) : Prop where
  next : G.next ≤ H.next
  blk : ∀ b x, G.get b = some x → ∃ y, H.get b = some y ∧ y.cells = x.cells ∧ y.es = x.es ∧ y.o = none

def cut (G : Heap) (m : Mp) : Mp := fun b => if b < G.next then m b else none

theorem Tabs.rel {P : Program} {G H : Heap} (ht : Tabs P G) (ho : Over G H) {m : Mp} {w : World} (h : Rel m H w) : Rel (cut G m) G w := by
  have hlt : ∀ b x, G.get b = some x → b < G.next := fun b x hb => by
    rcases Nat.lt_or_ge b G.next with h1 | h1
    · exact h1
    · rw [ht.fresh b h1] at hb; simp at hb
  refine ⟨fun b x hb => ?_, fun b x hb hrw => ?_, fun b L hm => ?_, fun b hb => ⟨?_, ht.fresh b hb⟩⟩
  · obtain ⟨y, h1, h2, h3, h4⟩ := ho.blk b x hb
    obtain ⟨hro, hxo, hat, hty⟩ := ht.ro b x hb
    obtain ⟨L, k1, k2⟩ := h.blk b y h1
    refine ⟨L, by simp [cut, hlt b x hb, k1], k2.es.trans h3, by have := k2.fits; rwa [h2] at this, fun _ => ?_, fun o ho => by simp [hxo] at ho, fun t n e => by simp [hty] at e⟩
    obtain ⟨cs, elem, fz, q1, q2, q3, q4⟩ := k2.ex h4
    refine ⟨cs, elem, fz, q1, q2, fun i a c => ?_, fun hr => by simp [hro] at hr⟩
    have a' : i < y.cells.length := by rw [h2]; exact a
    have q := q3 i a' c
    have e : y.cells[i] = x.cells[i] := by simp only [h2]
    rw [e] at q
    have hati : within G.next x.cells[i] = true := List.all_eq_true.mp hat _ (List.getElem_mem a)
    exact q.within (fun b L hb hm => by simp [cut, hb, hm]) hati
  · simp [(ht.ro b x hb).1] at hrw
  · unfold cut at hm
    split at hm
    · exact h.bound b L hm
    · simp at hm
  · simp [cut, Nat.not_lt.mpr hb]

theorem Tabs.owns {P : Program} {G : Heap} (ht : Tabs P G) (m : Mp) (c : Nat) : ¬ Owns m G c := fun ⟨b, x, _, hb, hrw, _⟩ => by simp [(ht.ro b x hb).1] at hrw

/-- All that was there is as it was. -/
theorem Step.still {m : Mp} {H : Heap} {w w' : World} (h : Rel m H w) (ho : w'.os = w.os) (ht : w'.tape = w.tape) (hp : w'.output = w.output) (hs : w.heap.size ≤ w'.heap.size)
    (hb : ∀ c, c < w.heap.size → w'.heap[c]? = w.heap[c]?) : Step m H w m H w' := by
  refine ⟨⟨fun b x hx => ?_, h.apart, fun b L hm => Nat.lt_of_lt_of_le (h.bound b L hm) hs, h.fresh⟩, .refl .., ⟨ho, ht, hp, hs, fun c hc _ => hb c hc⟩⟩
  obtain ⟨L, h1, h2⟩ := h.blk b x hx
  exact ⟨L, h1, h2.mono (Mp.le_refl m) (hb _ (h.bound b L h1))⟩

/-- A closed run that hands back a plain value. -/
theorem local_pure {P : Program} {K : Kf} (hK : KSnd P K) {G : Heap} (ht : Tabs P G) {f : FuncId} {args : Array Value} {v : Value} {Hs : Heap} (he : K f args G = some (.ret v, Hs))
    (ha : args.toList.all atomic = true) (hv : atomic v = true) {H : Heap} (ho : Over G H) {m : Mp} {w : World} {args' : Array Value} (h : Rel m H w) (hg : Gl P m) (hargs : VRa m args args') :
    Calls P f args' w fun e w' => ∃ m', EndR m' (.ret v) e ∧ Step m H w m' H w' := by
  have hrel := ht.rel ho h
  have hgl : Gl P (cut G m) := fun g hgs => by
    obtain ⟨L, a, b⟩ := hg g hgs
    exact ⟨L, by simp [cut, Nat.lt_of_lt_of_le hgs ht.next, a], b⟩
  have e := hargs.eq_of_atomic ha
  subst e
  refine (hK f args' G (.ret v) Hs he (cut G m) w args' hrel hgl (VRs.of_atomic _ ha).toArray).mono fun e w' ⟨m', h1, h2⟩ => ?_
  refine ⟨m, ?_, Step.still h h2.keep.os h2.keep.tape h2.keep.output h2.keep.size fun c hc => h2.keep.block c hc (ht.owns _ c)⟩
  cases e with
  | returned v' =>
    have := VR.eq_of_atomic (show VR m' v v' from h1) hv
    subst this
    exact VR.atom v' hv
  | panicked c => exact h1.elim
  | _ => exact h1.elim

/-- A closed run that hands back a row of plain values. -/
theorem local_row {P : Program} {K : Kf} (hK : KSnd P K) {G : Heap} (ht : Tabs P G) {f : FuncId} {args : Array Value} {b len cap : Nat} {x : Blk} {Hs : Heap}
    (he : K f args G = some (.ret (.slice (some ⟨b, 0, none⟩) len cap), Hs)) (hb : Hs.get b = some x) (hx : x.rw = true ∧ x.o = none ∧ x.cells.all atomic = true)
    (ha : args.toList.all atomic = true) {H : Heap} (ho : Over G H) {m : Mp} {w : World} {args' : Array Value} (h : Rel m H w) (hg : Gl P m) (hargs : VRa m args args') :
    Calls P f args' w fun e w' => ∃ m', EndR m' (.ret (.slice (some ⟨H.next, 0, none⟩) len cap)) e ∧ Step m H w m' (H.alloc x.es x.cells) w' := by
  have hrel := ht.rel ho h
  have hgl : Gl P (cut G m) := fun g hgs => by
    obtain ⟨L, a, b⟩ := hg g hgs
    exact ⟨L, by simp [cut, Nat.lt_of_lt_of_le hgs ht.next, a], b⟩
  have e := hargs.eq_of_atomic ha
  subst e
  refine (hK f args' G _ Hs he (cut G m) w args' hrel hgl (VRs.of_atomic _ ha).toArray).mono fun e w' ⟨m', h1, h2⟩ => ?_
  obtain ⟨L, k1, k2⟩ := h2.rel.blk b x hb
  have hnew : w.heap.size ≤ L.c := by
    rcases Nat.lt_or_ge L.c w.heap.size with hlt | hge
    · exact absurd (h2.later.2.1 L.c hlt ⟨b, x, L, hb, hx.1, k1, rfl⟩) (ht.owns _ _)
    · exact hge
  have hst := Step.still h h2.keep.os h2.keep.tape h2.keep.output h2.keep.size fun c hc => h2.keep.block c hc (ht.owns _ c)
  have hfr := h.fresh H.next (Nat.le_refl _)
  have hle : m.le (m.add H.next L) := Mp.le_add hfr.1
  refine ⟨m.add H.next L, ?_, ⟨⟨?_, ?_, ?_, ?_⟩, ⟨hle, ?_, later_add (.inr hnew)⟩, hst.keep⟩⟩
  · cases e with
    | returned v' =>
      have hv : VR m' (.slice (some ⟨b, 0, none⟩) len cap) v' := h1
      cases hv with
      | slice _ _ L1 a' _ _ cap' g1 g2 g3 g4 g5 g6 =>
        rw [k1] at g1
        obtain rfl := Option.some.inj g1
        exact VR.slice H.next 0 L a' len cap cap' (by simp [Mp.add]) g2 g3 g4 g5 g6
      | atom _ hat => simp [atomic] at hat
    | panicked c => exact h1.elim
    | _ => exact h1.elim
  · intro k y hk
    rw [Heap.get_alloc] at hk
    by_cases e : k = H.next
    · subst e
      simp only [if_true, Option.some.injEq] at hk
      subst hk
      refine ⟨L, by simp [Mp.add], k2.es, k2.fits, fun _ => ?_, fun o ho => by simp at ho, fun t n e => by cases e⟩
      obtain ⟨cs, elem, fz, q1, q2, q3, q4⟩ := k2.ex hx.2.1
      refine ⟨cs, elem, fz, q1, q2, fun i a c => ?_, fun _ => q4 hx.1⟩
      have hati : atomic x.cells[i] = true := List.all_eq_true.mp hx.2.2 _ (List.getElem_mem a)
      have q := q3 i a c
      show VR _ x.cells[i] _
      rw [q.eq_of_atomic hati]
      exact .atom _ hati
    · simp only [e, if_false] at hk
      obtain ⟨L2, p1, p2⟩ := hst.rel.blk k y hk
      exact ⟨L2, by simp [Mp.add, e, p1], p2.mono hle rfl⟩
  · intro k y hk hrw k' y' L2 L3 hk' hm hm' hc
    rw [Heap.get_alloc] at hk hk'
    by_cases e : k = H.next <;> by_cases e' : k' = H.next
    · rw [e, e']
    · subst e
      simp only [Mp.add, if_true, Option.some.injEq, e', if_false] at hm hm'
      subst hm
      have := h.bound _ _ hm'
      omega
    · subst e'
      simp only [Mp.add, if_true, Option.some.injEq, e, if_false] at hm hm'
      subst hm'
      have := h.bound _ _ hm
      omega
    · simp only [Mp.add, e, e', if_false] at hk hk' hm hm'
      exact h.apart k y hk hrw k' y' L2 L3 hk' hm hm' hc
  · intro k L2 hm
    by_cases e : k = H.next
    · subst e
      simp only [Mp.add, if_true, Option.some.injEq] at hm
      subst hm
      exact h2.rel.bound b L k1
    · simp only [Mp.add, e, if_false] at hm
      exact hst.rel.bound k L2 hm
  · intro k hk
    have hk' : H.next + 1 ≤ k := hk
    have e : k ≠ H.next := by omega
    rw [Heap.get_alloc]
    simp only [Mp.add, e, if_false]
    exact h.fresh k (by omega)
  · intro c hc ⟨k, y, L2, hk, hrw, hm, hcl⟩
    rw [Heap.get_alloc] at hk
    by_cases e : k = H.next
    · subst e
      simp only [Mp.add, if_true, Option.some.injEq] at hm
      subst hm
      omega
    · simp only [Mp.add, e, if_false] at hk hm
      exact ⟨k, y, L2, hk, hrw, hm, hcl⟩

/-- Do the tables lie in the heap? -/
def veqC : Value → Value → Bool
  | .iface t v, .iface u w => t == u && veq v w
  | a, b => veq a b
theorem veqC_eq {a b : Value} (h : veqC a b = true) : a = b := by
  unfold veqC at h
  split at h
  · simp only [Bool.and_eq_true] at h; rw [eq_of_beq h.1, veq_eq h.2]
  · exact veq_eq h
def veqL : List Value → List Value → Bool
  | [], [] => true
  | a :: r, b :: s => veqC a b && veqL r s
  | _, _ => false
theorem veqL_eq : ∀ {a b : List Value}, veqL a b = true → a = b
  | [], [], _ => rfl
  | [], _ :: _, h => by simp [veqL] at h
  | _ :: _, [], h => by simp [veqL] at h
  | x :: r, y :: s, h => by
    simp only [veqL, Bool.and_eq_true] at h
    rw [veqC_eq h.1, veqL_eq h.2]
def sameB (x y : Blk) : Bool := veqL y.cells x.cells && decide (y.es = x.es) && y.o.isNone
def overB (G : Heap) (gs : List Nat) (H : Heap) : Bool :=
  decide (G.next ≤ H.next) && gs.all fun g => match G.get g, H.get g with | some x, some y => sameB x y | _, _ => false
theorem overB_over {G H : Heap} {gs : List Nat} (hd : ∀ b x, G.get b = some x → b ∈ gs) (h : overB G gs H = true) : Over G H := by
  simp only [overB, Bool.and_eq_true, decide_eq_true_eq] at h
  refine ⟨h.1, fun b x hb => ?_⟩
  have := List.all_eq_true.mp h.2 b (hd b x hb)
  rw [hb] at this
  revert this
  cases hy : H.get b with
  | none => simp
  | some y =>
    simp only [sameB, Bool.and_eq_true, decide_eq_true_eq, Option.isNone_iff_eq_none]
    intro ⟨⟨a, b⟩, c⟩
    exact ⟨y, rfl, veqL_eq a, b, c⟩
end Go.Am
