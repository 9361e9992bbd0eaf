/- One operation over a frame that is a tree; whole numbers first. -/
import Derived.Test.YtmliebodadgpbaaGreatDoorM17
import Derived.Test.YtmliebodadgpbaaGreatDoorM05
import Derived.Test.YtmliebodadgpbaaGreatDoorM13
import Derived.Stop.LaidErr
import Derived.Below
import Derived.MakeChecks
import Derived.Lib.LaidTab
import Derived.Test.YtmliebodadgpbaaGreatDoorRows
import Derived.LaidLaws
namespace Go.Aw
variable {k : IntKind}
def typedF (d : Option TypeDesc) (v : Value) (k : Value → R) : R :=
 match d with
 | some (.int K) => match v with | .int K' n => cond (K' == K) (k (.int K n)) none | _ => none
 | some .bool => match v with | .bool b => k (.bool b) | _ => none
 | some .string => match v with | .string s => k (.string s) | _ => none
 | some (.slice _) => match v with | .slice a l c => k (.slice a l c) | _ => none
 | some (.pointer _) => match v with | .pointer a => k (.pointer a) | _ => none
 | some (.struct _) => match v with | .agg cs => k (.agg cs) | _ => none
 | some (.array _ _) => match v with | .agg cs => k (.agg cs) | _ => none
 | _ => k v
theorem j03 {d : Option TypeDesc} {v : Value} {k : Value → R} {r : End × Heap} (h : typedF d v k = some r) : k v = some r := by
 unfold typedF at h
 split at h
 · split at h
   · rename_i K' n
     cases e : (K' == _) with
     | false => rw [e] at h; simp at h
     | true => rw [e] at h; have := eq_of_beq e; subst this; exact h
   · simp at h
 all_goals first
   | (split at h; exact h; simp at h)
   | exact h
noncomputable def forceN (n : Nat) (k : Nat → R) : R := Nat.rec (motive := fun _ => R) (k 0) (fun j _ => k (Nat.succ j)) n
theorem jz4 (n : Nat) (k : Nat → R) : forceN n k = k n := by cases n <;> rfl
def tagK : IntKind → Nat
 | .i8 => 0 | .i16 => 1 | .i32 => 2 | .i64 => 3 | .u8 => 4 | .u16 => 5 | .u32 => 6 | .u64 => 7
theorem j7w : ∀ {k k' : IntKind}, tagK k = tagK k' → k = k' := by
 intro k k'; cases k <;> cases k' <;> simp [tagK]
def limK : IntKind → Nat
 | .i8 | .u8 => 128
 | .i16 | .u16 => 32768
 | .i32 | .u32 => 2147483648
 | .i64 | .u64 => 9223372036854775808
theorem j16 {n : Nat} (h : n < limK k) : k.wrap (.ofNat n) = .ofNat n := by
 cases k <;> simp only [limK] at h <;> simp only [IntKind.wrap, IntKind.bits, IntKind.signed] <;> simp <;> omega
noncomputable def fastI (op : BinOp) (k : IntKind) (a b : Nat) (kv : Value → R) (gen : R) : R :=
 match op with
 | .eql => cond (Nat.beq a b) (kv (.bool true)) (kv (.bool false))
 | .neq => cond (Nat.beq a b) (kv (.bool false)) (kv (.bool true))
 | .lss => cond (Nat.ble b a) (kv (.bool false)) (kv (.bool true))
 | .leq => cond (Nat.ble a b) (kv (.bool true)) (kv (.bool false))
 | .gtr => cond (Nat.ble a b) (kv (.bool false)) (kv (.bool true))
 | .geq => cond (Nat.ble b a) (kv (.bool true)) (kv (.bool false))
 | .add => cond (Nat.ble (limK k) (a + b)) gen (forceN (a + b) fun n => kv (.int k (.ofNat n)))
 | .sub => cond (Nat.ble b a) (cond (Nat.ble (limK k) a) gen (forceN (a - b) fun n => kv (.int k (.ofNat n)))) gen
 | _ => gen
theorem jc4 {P : Program} {op : BinOp} {t : TypeId} {x y : Operand} {a b : Int} {v : Value} (h1 : (op matches .eql | .neq | .lss | .leq | .gtr | .geq) = true) (h2 : Op.intCmp op a b = .pure v) :
   binA P op t x y (.int k a) (.int k b) = some v := by
 unfold binA
 cases op <;> simp at h1 <;> simp [ground, atomic, eqGuard, binOp, h2] <;> rfl
theorem j21 {P : Program} {op : BinOp} {t : TypeId} {x y : Operand} {a b : Nat} {kv : Value → R} {gen : R} {r : End × Heap} (h : fastI op k a b kv gen = some r)
   (hg : gen = some r → bindO (binA P op t x y (.int k (.ofNat a)) (.int k (.ofNat b))) (fun v => groundK v (kv v)) = some r) :
   bindO (binA P op t x y (.int k (.ofNat a)) (.int k (.ofNat b))) (fun v => groundK v (kv v)) = some r := by
 have fin : ∀ v, binA P op t x y (.int k (.ofNat a)) (.int k (.ofNat b)) = some v → ground v = true → kv v = some r → bindO (binA P op t x y (.int k (.ofNat a)) (.int k (.ofNat b))) (fun v => groundK v (kv v)) = some r := by
   intro v h1 h2 h3
   rw [h1]
   simp [bindO, groundK, h2, h3]
 unfold fastI at h
 split at h
 · cases e : Nat.beq a b with
   | true => rw [e] at h; exact fin _ (jc4 rfl (by simp [Op.intCmp, Nat.eq_of_beq_eq_true e]; rfl)) rfl h
   | false => rw [e] at h; exact fin _ (jc4 rfl (by have := Nat.ne_of_beq_eq_false e; simp [Op.intCmp]; rw [show ((a : Int) == (b : Int)) = false by simp; omega]; rfl)) rfl h
 · cases e : Nat.beq a b with
   | true => rw [e] at h; exact fin _ (jc4 rfl (by simp [Op.intCmp, Nat.eq_of_beq_eq_true e]; rfl)) rfl h
   | false => rw [e] at h; exact fin _ (jc4 rfl (by have := Nat.ne_of_beq_eq_false e; simp [Op.intCmp, bne]; rw [show ((a : Int) == (b : Int)) = false by simp; omega]; rfl)) rfl h
 · cases e : Nat.ble b a with
   | true => rw [e] at h; have := Nat.le_of_ble_eq_true e; exact fin _ (jc4 rfl (by simp [Op.intCmp]; rw [decide_eq_false (by omega)]; rfl)) rfl h
   | false => rw [e] at h; have : ¬ b ≤ a := fun c => by rw [Nat.ble_eq_true_of_le c] at e; cases e
              exact fin _ (jc4 rfl (by simp [Op.intCmp]; rw [decide_eq_true (by omega)]; rfl)) rfl h
 · cases e : Nat.ble a b with
   | true => rw [e] at h; have := Nat.le_of_ble_eq_true e; exact fin _ (jc4 rfl (by simp [Op.intCmp]; rw [decide_eq_true (by omega)]; rfl)) rfl h
   | false => rw [e] at h; have : ¬ a ≤ b := fun c => by rw [Nat.ble_eq_true_of_le c] at e; cases e
              exact fin _ (jc4 rfl (by simp [Op.intCmp]; rw [decide_eq_false (by omega)]; rfl)) rfl h
 · cases e : Nat.ble a b with
   | true => rw [e] at h; have := Nat.le_of_ble_eq_true e; exact fin _ (jc4 rfl (by simp [Op.intCmp]; rw [decide_eq_false (by omega)]; rfl)) rfl h
   | false => rw [e] at h; have : ¬ a ≤ b := fun c => by rw [Nat.ble_eq_true_of_le c] at e; cases e
              exact fin _ (jc4 rfl (by simp [Op.intCmp]; rw [decide_eq_true (by omega)]; rfl)) rfl h
 · cases e : Nat.ble b a with
   | true => rw [e] at h; have := Nat.le_of_ble_eq_true e; exact fin _ (jc4 rfl (by simp [Op.intCmp]; rw [decide_eq_true (by omega)]; rfl)) rfl h
   | false => rw [e] at h; have : ¬ b ≤ a := fun c => by rw [Nat.ble_eq_true_of_le c] at e; cases e
              exact fin _ (jc4 rfl (by simp [Op.intCmp]; rw [decide_eq_false (by omega)]; rfl)) rfl h
 · cases e : Nat.ble (limK k) (a + b) with
   | true => rw [e] at h; exact hg h
   | false =>
     rw [e] at h
     simp only [cond_false, jz4] at h
     have : ¬ limK k ≤ a + b := fun c => by rw [Nat.ble_eq_true_of_le c] at e; cases e
     refine fin _ ?_ rfl h
     have w := j16 (k := k) (n := a + b) (by omega)
     have e2 : (Int.ofNat a + Int.ofNat b) = Int.ofNat (a + b) := rfl
     unfold binA
     simp only [ground, atomic, Bool.and_self, if_true, eqGuard, binOp, Op.intArith]
     rw [e2, w]
     simp
     rfl
 · cases e : Nat.ble b a with
   | false => rw [e] at h; exact hg h
   | true =>
     rw [e] at h
     simp only [cond_true] at h
     have l1 := Nat.le_of_ble_eq_true e
     cases e1 : Nat.ble (limK k) a with
     | true => rw [e1] at h; exact hg h
     | false =>
       rw [e1] at h
       simp only [cond_false, jz4] at h
       have : ¬ limK k ≤ a := fun c => by rw [Nat.ble_eq_true_of_le c] at e1; cases e1
       refine fin _ ?_ rfl h
       have w := j16 (k := k) (n := a - b) (by omega)
       have e2 : (Int.ofNat a - Int.ofNat b) = Int.ofNat (a - b) := by show (a : Int) - b = ((a - b : Nat) : Int); omega
       unfold binA
       simp only [ground, atomic, Bool.and_self, if_true, eqGuard, binOp, Op.intArith]
       rw [e2, w]
       simp
       rfl
 · exact hg h
end Go.Aw
namespace Go.Aw
variable {P : Program} {o : Oper} {t : T} {a : Act} {r : End × Heap} {X : Xf} {K K' : Kf} {ops : Array Oper}
structure Sim (t : T) (ds : List Deferred) (a : Act) : Prop where
 tree : Rep t a.tmps
 ds : a.defers = ds
abbrev KT := T → List Deferred → Heap → R
def KS (r : End × Heap) (k : KT) (k' : Act → Heap → R) : Prop := ∀ t ds a H, Sim t ds a → k t ds H = some r → k' a H = some r
def binOf (o : Oper) : Option (BinOp × Operand × Operand) := match o.op with | .binOp op _ x y _ => some (op, x, y) | _ => none
def movOf (o : Oper) : Option Operand := match o.op with | .move x | .assign x => some x | _ => none
def callOf (o : Oper) : Option Call := match o.op with | .defer c => some c | _ => none
noncomputable def stT (P : Program) (o : Oper) (t : T) (ds : List Deferred) (k : KT) (v : Value) (H : Heap) : R :=
 typedF (P.underlying o.type) v fun v => forceV v fun v => putT o.dst t v fun t => k t ds H
def asNat (v : Value) (f : IntKind → Nat → R) (g : R) : R := match v with | .int k (.ofNat n) => f k n | _ => g
noncomputable def binT (op : BinOp) (x y : Value) (kv : Value → R) (gen : R) : R :=
 asNat x (fun ka a => asNat y (fun kb b => cond (Nat.beq (tagK ka) (tagK kb)) (fastI op ka a b kv gen) gen) gen) gen
noncomputable def opT (P : Program) (X : Xf) (K : Kf) (o : Oper) (t : T) (ds : List Deferred) (H : Heap) (k : KT) (kp : List PanicEntry → KT) : R :=
 match movOf o with
   | some x => stT P o t ds k (evalT t x) H
   | none => match binOf o with
     | some (op, x, y) => binT op (evalT t x) (evalT t y) (fun v => stT P o t ds k v H) (opK P X K (evalT t) o H (stT P o t ds k) fun c H => kp c t ds H)
     | none => match callOf o with
       | some c => (match deferOf (evalT t) c with | some d => putT o.dst t undef fun t => k t (d :: ds) H | none => none)
       | none => opK P X K (evalT t) o H (stT P o t ds k) fun c H => kp c t ds H
theorem jw5 {ds : List Deferred} {k : KT} {k' : Act → Heap → R} (hs : Sim t ds a) (hk : KS r k k') {v : Value} {H : Heap} (h : stT P o t ds k v H = some r) :
   typed (P.underlying o.type) v (fun v => k' (a.put o.dst v) H) = some r := by
 have h := j03 h
 rw [j5j] at h
 obtain ⟨t', h1, h2, h3⟩ := jg4 h hs.tree
 exact hk _ _ _ _ ⟨h2, h3.trans hs.ds⟩ h1
theorem jt1 {v : Value} {f : IntKind → Nat → R} {g : R} (h : asNat v f g = some r) : (∃ k n, v = .int k (.ofNat n) ∧ f k n = some r) ∨ g = some r := by
 unfold asNat at h
 split at h
 · exact .inl ⟨_, _, rfl, h⟩
 · exact .inr h
theorem j5l (hK : KLe K K') {o : Oper} {t : T} {ds : List Deferred} {a : Act} {H : Heap} {r : End × Heap} {k : KT} {k' : Act → Heap → R} {kp : List PanicEntry → KT} {kp' : List PanicEntry → Act → Heap → R}
   (hok : opOk P o = true) (hs : Sim t ds a) (hk : KS r k k') (hp : ∀ c, KS r (kp c) (kp' c)) (h : opT P X K o t ds H k kp = some r) : execOp1 P X K' o a H k' kp' = some r := by
 unfold opT at h
 unfold execOp1
 rw [hok]
 simp only [cond_true]
 have gen : opK P X K (evalT t) o H (stT P o t ds k) (fun c H => kp c t ds H) = some r →
     opK P X K' a.eval o H (fun v H => typed (P.underlying o.type) v fun v => k' (a.put o.dst v) H) (fun c H => kp' c a H) = some r := by
   rw [je2 hs.tree]
   exact j7v hK (fun v H => jw5 hs hk) (fun c H => hp c _ _ _ _ hs)
 split at h
 · rename_i x hm
   unfold movOf at hm
   split at hm
   · rename_i y e
     obtain rfl := Option.some.inj hm
     rw [e]
     simp only [opK, e]
     rw [← je2 hs.tree]
     exact jw5 hs hk h
   · rename_i y e
     obtain rfl := Option.some.inj hm
     rw [e]
     simp only [opK, e]
     rw [← je2 hs.tree]
     exact jw5 hs hk h
   · cases hm
 · split at h
   · rename_i op x y hb
     unfold binOf at hb
     split at hb
     · rename_i op' ty x' y' q e
       obtain ⟨rfl, rfl, rfl⟩ : op' = op ∧ x' = x ∧ y' = y := by
         have := Option.some.inj hb
         simp only [Prod.mk.injEq] at this
         exact this
       have gen' := gen
       rw [e]
       simp only [opK, e] at gen' ⊢
       rcases jt1 h with ⟨ka, m, e1, h⟩ | h
       · rcases jt1 h with ⟨kb, n, e2, h⟩ | h
         · cases et : Nat.beq (tagK ka) (tagK kb) with
           | false => rw [et] at h; exact gen' (by simpa only [opK, e, cond_false] using h)
           | true =>
             rw [et] at h
             obtain rfl := j7w (Nat.eq_of_beq_eq_true et)
             rw [je2 hs.tree] at e1 e2
             simp only [cond_true] at h
             have big : fastI op' ka m n (fun v => stT P o t ds k v H) (opK P X K (evalT t) o H (stT P o t ds k) (fun c H => kp c t ds H)) = some r → _ :=
               fun h => j21 (P := P) (t := ty) (x := x') (y := y') h (fun h => by
                 rw [je2 hs.tree] at h
                 simp only [opK, e, e1, e2] at h
                 exact h)
             have h2 := big h
             rw [e1, e2]
             exact jf1 (fun v => jl8 (jw5 hs hk)) h2
         · exact gen' (by simpa only [opK, e] using h)
       · exact gen' (by simpa only [opK, e] using h)
     · cases hb
   · split at h
     · rename_i c hc
       unfold callOf at hc
       split at hc
       · rename_i c' e
         obtain rfl := Option.some.inj hc
         rw [e]
         simp only
         rw [je2 hs.tree] at h
         split at h
         · rename_i d hd
           rw [hd]
           simp only
           obtain ⟨t', h1, h2, h3⟩ := jg4 (a := { a with defers := d :: a.defers }) h hs.tree
           exact hk _ _ _ _ ⟨h2, h3.trans (by simp [hs.ds])⟩ h1
         · cases h
       · cases hc
     · rename_i hc
       have := gen h
       split
       · rename_i c e
         simp [callOf, e] at hc
       · exact this
noncomputable def guardT (ops : Array Oper) (o : Oper) (t : T) (run skip : R) : R :=
 match o.guard with
 | none => run
 | some (j, want) =>
   match (ops[j]?).bind (·.dst) with
   | none => skip
   | some d => match rdP (path d) t with
     | some (.bool b) => cond b (cond want run skip) (cond want skip run)
     | some (.tuple _) => skip
     | _ => none
theorem jt2 {ds : List Deferred} {run skip : R} {run' skip' : Act → R} (hs : Sim t ds a)
   (hr : ∀ a, Sim t ds a → run = some r → run' a = some r) (hk : ∀ a, Sim t ds a → skip = some r → skip' a = some r) (h : guardT ops o t run skip = some r) : guardK ops o a run' skip' = some r := by
 unfold guardT at h
 unfold guardK
 split at h
 · rename_i e; simp only [e]; exact hr a hs h
 · rename_i j want e
   simp only [e]
   split at h
   · rename_i e2; simp only [e2]; exact hk a hs h
   · rename_i d e2
     simp only [e2]
     rw [jk9, hs.tree d] at h
     split at h
     · rename_i b e3
       simp only [e3, jp7]
       have hs' : Sim t ds { a with tmps := a.tmps.setIfInBounds d (.bool b) } := by
         refine ⟨fun i => ?_, hs.ds⟩
         rw [hs.tree i, Array.getElem?_setIfInBounds]
         by_cases c : d = i
         · subst c
           have := (Array.getElem?_eq_some_iff.mp e3).1
           have e4 := (Array.getElem?_eq_some_iff.mp e3).2
           simp [this, e4]
         · simp [c]
       cases b <;> cases want <;> simp only [cond_true, cond_false] at h <;> first
         | exact hr _ hs' h
         | exact hk _ hs' h
     · rename_i e3; simp only [e3]; exact hk a hs h
     · cases h
noncomputable def execOpsT (P : Program) (X : Xf) (K : Kf) (ops : Array Oper) (l : List Oper) : T → List Deferred → Heap → KT → (List PanicEntry → KT) → R :=
 List.rec (motive := fun _ => T → List Deferred → Heap → KT → (List PanicEntry → KT) → R) (fun t ds H k _ => k t ds H)
   (fun o _ ih t ds H k kp => guardT ops o t (opT P X K o t ds H (fun t ds H => ih t ds H k kp) kp) (putT o.dst t undef fun t => ih t ds H k kp)) l
theorem je3 (hK : KLe K K') {ops : Array Oper} {r : End × Heap} {k : KT} {k' : Act → Heap → R} {kp : List PanicEntry → KT} {kp' : List PanicEntry → Act → Heap → R}
   (hk : KS r k k') (hp : ∀ c, KS r (kp c) (kp' c)) : ∀ (l : List Oper) (_ : ∀ o ∈ l, opOk P o = true) (t : T) (ds : List Deferred) (a : Act) (H : Heap), Sim t ds a → execOpsT P X K ops l t ds H k kp = some r → execOps P X K' ops l a H k' kp' = some r
 | [], _, t, ds, a, H, hs, h => hk _ _ _ _ hs h
 | o :: rest, hall, t, ds, a, H, hs, h => by
   have ho := hall o (List.mem_cons_self ..)
   have hr := fun o h => hall o (List.mem_cons_of_mem _ h)
   have h' : guardT ops o t (opT P X K o t ds H (fun t ds H => execOpsT P X K ops rest t ds H k kp) kp) (putT o.dst t undef fun t => execOpsT P X K ops rest t ds H k kp) = some r := h
   show guardK ops o a _ _ = some r
   refine jt2 hs (fun a hs h => ?_) (fun a hs h => ?_) h'
   · exact j5l hK ho hs (fun t ds a H hs h => je3 hK hk hp rest hr t ds a H hs h) hp h
   · obtain ⟨t', h1, h2, h3⟩ := jg4 h hs.tree
     exact je3 hK hk hp rest hr _ _ _ _ ⟨h2, h3.trans hs.ds⟩ h1
def TrR (l : List (T × Heap)) (l' : List (Act × Heap)) : Prop := l.length = l'.length ∧ ∀ (i : Nat) x y, l[i]? = some x → l'[i]? = some y → Rep x.1 y.1.tmps ∧ x.2 = y.2
theorem TrR.push {l : List (T × Heap)} {l' : List (Act × Heap)} (h : TrR l l') {t : T} {a : Act} (ha : Rep t a.tmps) (H : Heap) : TrR (l ++ [(t, H)]) (l' ++ [(a, H)]) := by
 refine ⟨by simp [h.1], fun i x y hx hy => ?_⟩
 by_cases c : i < l.length
 · have c' : i < l'.length := h.1 ▸ c
   rw [List.getElem?_append_left c] at hx
   rw [List.getElem?_append_left c'] at hy
   exact h.2 i x y hx hy
 · have c' : ¬ i < l'.length := h.1 ▸ c
   rw [List.getElem?_append_right (by omega)] at hx
   rw [List.getElem?_append_right (by omega)] at hy
   have e : i - l.length = i - l'.length := by rw [h.1]
   rw [e] at hx
   cases hj : i - l'.length with
   | zero => rw [hj] at hx hy; simp at hx hy; subst hx hy; exact ⟨ha, rfl⟩
   | succ j => rw [hj] at hx; simp at hx
noncomputable def execTrT (P : Program) (X : Xf) (K : Kf) (ops : Array Oper) (l : List Oper) : T → List Deferred → Heap → List (T × Heap) → (List (T × Heap) → KT) → R :=
 List.rec (motive := fun _ => T → List Deferred → Heap → List (T × Heap) → (List (T × Heap) → KT) → R) (fun t ds H tr k => k (tr ++ [(t, H)]) t ds H)
   (fun o _ ih t ds H tr k => guardT ops o t (opT P X K o t ds H (fun t' ds' H' => ih t' ds' H' (tr ++ [(t, H)]) k) (fun _ _ _ _ => none)) (putT o.dst t undef fun t' => ih t' ds H (tr ++ [(t, H)]) k)) l
theorem ji0 (hK : KLe K K') {ops : Array Oper} {r : End × Heap} {k : List (T × Heap) → KT} {k' : List (Act × Heap) → Act → Heap → R} :
   ∀ (l : List Oper) (_ : ∀ o ∈ l, opOk P o = true) (n : Nat) (_ : ∀ tr tr', TrR tr tr' → tr'.length = n + l.length + 1 → KS r (k tr) (k' tr')) (t : T) (ds : List Deferred) (a : Act) (H : Heap) (tr : List (T × Heap)) (tr' : List (Act × Heap)), TrR tr tr' → tr'.length = n → Sim t ds a →
     execTrT P X K ops l t ds H tr k = some r → execTr P X K' ops l a H tr' k' = some r
 | [], _, n, hk, t, ds, a, H, tr, tr', ht, hn, hs, h => hk _ _ (ht.push hs.tree H) (by simp [hn]) _ _ _ _ hs h
 | o :: rest, hall, n, hk, t, ds, a, H, tr, tr', ht, hn, hs, h => by
   have ho := hall o (List.mem_cons_self ..)
   have hr := fun o h => hall o (List.mem_cons_of_mem _ h)
   have h' : guardT ops o t (opT P X K o t ds H (fun t' ds' H' => execTrT P X K ops rest t' ds' H' (tr ++ [(t, H)]) k) (fun _ _ _ _ => none)) (putT o.dst t undef fun t' => execTrT P X K ops rest t' ds H (tr ++ [(t, H)]) k) = some r := h
   show guardK ops o a _ _ = some r
   have hk' : ∀ tr tr', TrR tr tr' → tr'.length = (n + 1) + rest.length + 1 → KS r (k tr) (k' tr') := fun tr tr' h1 h2 => hk tr tr' h1 (by rw [h2]; simp; omega)
   refine jt2 hs (fun a hs h => ?_) (fun a hs h => ?_) h'
   · exact j5l hK ho hs (fun t2 ds2 a2 H2 hs2 h2 => ji0 hK rest hr (n + 1) hk' t2 ds2 a2 H2 _ _ (ht.push hs.tree H) (by simp [hn]) hs2 h2) (fun c t ds a H hs h => by cases h) h
   · obtain ⟨t', h1, h2, h3⟩ := jg4 h hs.tree
     exact ji0 hK rest hr (n + 1) hk' _ _ _ _ _ _ (ht.push hs.tree H) (by simp [hn]) ⟨h2, h3.trans hs.ds⟩ h1
def drawPairs (P : Program) (ops : List Oper) : List (Nat × Nat) :=
 let b := masks ops []
 let n := ops.length
 (List.range n).flatMap fun i => match ops[i]? with
   | some oi => cond (decide (cls P oi = 1)) ((List.range n).filter fun p => match ops[p]? with
       | some op => decide (cls P op = 2 ∧ (b.getD i 0).testBit p = false ∧ (b.getD p 0).testBit i = false)
       | none => false) [] |>.map fun p => (i, p)
   | none => []
noncomputable def guardBT (ops : Array Oper) (o : Oper) (t : T) : Option Bool :=
 match o.guard with
 | none => some true
 | some (j, want) =>
   match (ops[j]?).bind (·.dst) with
   | none => some false
   | some d =>
     match rdP (path d) t with
     | some (.bool b) => some (b == want)
     | some (.tuple _) => some false
     | _ => none
theorem j22 (h : Rep t a.tmps) : guardBT ops o t = guardB ops o a := by
 unfold guardBT guardB
 cases o.guard with
 | none => rfl
 | some q =>
   obtain ⟨j, want⟩ := q
   simp only
   cases (ops[j]?).bind (·.dst) with
   | none => rfl
   | some d =>
     simp only [jk9, h d]
     cases a.tmps[d]? with
     | none => rfl
     | some v => cases v <;> rfl
noncomputable def pairChk (P : Program) (ops : Array Oper) (tr : List (T × Heap)) (i p : Nat) : Bool :=
 match ops.toList[i]?, tr[i]?, tr[i + 1]?, tr[p]?, tr[p + 1]? with
 | some oi, some ti, some tn, some tp, some tq =>
   match guardBT ops oi ti.1 with
   | some true => (match oi.dst with
     | some d =>
       (match qval P (evalT ti.1) oi tp.2 with | some v => veq v ((rdP (path d) tn.1).getD undef) | none => false) &&
       (match qval P (evalT ti.1) oi tq.2 with | some v => veq v ((rdP (path d) tn.1).getD undef) | none => false)
     | none => false)
   | _ => true
 | _, _, _, _, _ => false
noncomputable def drawChkT (P : Program) (ops : Array Oper) (tr : List (T × Heap)) : Bool := (drawPairs P ops.toList).all fun x => pairChk P ops tr x.1 x.2
theorem j23 {tr : List (T × Heap)} {tr' : List (Act × Heap)} (h : TrR tr tr') (hn : tr'.length = ops.toList.length + 1) (hc : drawChkT P ops tr = true) : drawChk P ops tr' = true := by
 unfold drawChk
 simp only [List.all_eq_true, List.mem_range]
 intro i hi
 have g0 : ∃ oi, ops.toList[i]? = some oi := ⟨_, List.getElem?_eq_getElem hi⟩
 have gt : ∀ j, j ≤ ops.toList.length → ∃ x y, tr[j]? = some x ∧ tr'[j]? = some y ∧ Rep x.1 y.1.tmps ∧ x.2 = y.2 := fun j hj => by
   have c' : j < tr'.length := by omega
   have c : j < tr.length := by rw [h.1]; exact c'
   exact ⟨_, _, List.getElem?_eq_getElem c, List.getElem?_eq_getElem c', h.2 j _ _ (List.getElem?_eq_getElem c) (List.getElem?_eq_getElem c')⟩
 obtain ⟨oi, e0⟩ := g0
 obtain ⟨xi, yi, a1, a2, a3, a4⟩ := gt i (by omega)
 obtain ⟨xn, yn, b1, b2, b3, b4⟩ := gt (i + 1) (by omega)
 rw [e0, a2, b2]
 simp only
 split
 · rename_i hg
   simp only [List.all_eq_true, List.mem_range]
   intro p hp
   obtain ⟨op, e1⟩ : ∃ op, ops.toList[p]? = some op := ⟨_, List.getElem?_eq_getElem hp⟩
   rw [e1]
   simp only
   split
   · rename_i hq
     obtain ⟨xp, yp, c1, c2, c3, c4⟩ := gt p (by omega)
     obtain ⟨xq, yq, d1, d2, d3, d4⟩ := gt (p + 1) (by omega)
     have hmem : (i, p) ∈ drawPairs P ops.toList := by
       unfold drawPairs
       simp only [List.mem_flatMap, List.mem_range]
       refine ⟨i, hi, ?_⟩
       rw [e0]
       simp only [hg.1, decide_true, cond_true, List.mem_map, List.mem_filter, List.mem_range]
       refine ⟨p, ⟨hp, ?_⟩, rfl⟩
       rw [e1]
       exact decide_eq_true hq
     have hchk := List.all_eq_true.mp hc _ hmem
     unfold pairChk at hchk
     rw [e0, a1, b1, c1, d1] at hchk
     simp only [j22 a3, hg.2] at hchk
     rw [c2, d2]
     cases hd : oi.dst with
     | none => rw [hd] at hchk; cases hchk
     | some d =>
       rw [hd] at hchk
       simp only [je2 a3, jk9, b3 d, c4, d4] at hchk ⊢
       generalize qval P yi.1.eval oi yp.2 = q1 at hchk ⊢
       generalize qval P yi.1.eval oi yq.2 = q2 at hchk ⊢
       cases q1 <;> cases q2 <;> first
         | (simp at hchk; done)
         | simpa using hchk
   · rfl
 · rfl
end Go.Aw
namespace Go.Aw
variable {r : End × Heap} {P : Program} {X : Xf} {K K' : Kf} {bad : List Nat}
abbrev KO := Out → KT
def KSo (r : End × Heap) (k : KO) (k' : Out → Act → Heap → R) : Prop := ∀ o, KS r (k o) (k' o)
noncomputable def loopT (body : T → List Deferred → Heap → KO → R) (n : Nat) : T → List Deferred → Heap → KO → R :=
 Nat.rec (motive := fun _ => T → List Deferred → Heap → KO → R) (fun _ _ _ _ => none)
   (fun _ ih t ds H k => body t ds H fun o t ds H => match o with | .norm => ih t ds H k | o => k o t ds H) n
def BSim (r : End × Heap) (body : T → List Deferred → Heap → KO → R) (body' : Act → Heap → (Out → Act → Heap → R) → R) : Prop :=
 ∀ k k', KSo r k k' → ∀ t ds a H, Sim t ds a → body t ds H k = some r → body' a H k' = some r
theorem jz5 {body : T → List Deferred → Heap → KO → R} {body' : Act → Heap → (Out → Act → Heap → R) → R} (hb : BSim r body body') : ∀ n, BSim r (loopT body n) (loopC body' n)
 | 0, _, _, _, _, _, _, _, _, h => by cases h
 | n + 1, k, k', hk, t, ds, a, H, hs, h => by
   refine hb _ _ (fun o t ds a H hs h => ?_) t ds a H hs h
   cases o with
   | norm => exact jz5 hb n k k' hk _ _ _ _ hs h
   | _ => exact hk _ _ _ _ _ hs h
noncomputable def scopeT (c : Code) (body : Option Nat → T → List Deferred → Heap → KO → R) (n : Nat) : Option Nat → T → List Deferred → Heap → KO → R :=
 Nat.rec (motive := fun _ => Option Nat → T → List Deferred → Heap → KO → R) (fun _ _ _ _ _ => none)
   (fun _ ih s t ds H k => body s t ds H fun o t ds H => match o with | .goto l => cond (hasLabel l c) (ih (some l) t ds H k) (k (.goto l) t ds H) | o => k o t ds H) n
theorem jt3 {c : Code} {body : Option Nat → T → List Deferred → Heap → KO → R} {body' : Option Nat → Act → Heap → (Out → Act → Heap → R) → R} (hb : ∀ s, BSim r (body s) (body' s)) :
   ∀ n s, BSim r (scopeT c body n s) (scopeC c body' n s)
 | 0, _, _, _, _, _, _, _, _, _, h => by cases h
 | n + 1, s, k, k', hk, t, ds, a, H, hs, h => by
   refine hb s _ _ (fun o t ds a H hs h => ?_) t ds a H hs h
   cases o with
   | goto l =>
     simp only at h ⊢
     cases e : hasLabel l c with
     | true => rw [e] at h; exact jt3 hb n _ k k' hk _ _ _ _ hs h
     | false => rw [e] at h; exact hk _ _ _ _ _ hs h
   | _ => exact hk _ _ _ _ _ hs h
noncomputable def execT (P : Program) (X : Xf) (K : Kf) (N : Nat) (c : Code) : Option Nat → T → List Deferred → Heap → KO → R :=
 Code.rec (motive := fun _ => Option Nat → T → List Deferred → Heap → KO → R)
   (skip := fun s t ds H k => Option.rec (motive := fun _ => R) (k .norm t ds H) (fun _ => none) s)
   (region := fun _ ops draw s t ds H k => Option.rec (motive := fun _ => R)
     (cond draw (execTrT P X K ops ops.toList t ds H [] fun tr t ds H => cond (drawChkT P ops tr) (k .norm t ds H) none)
       (execOpsT P X K ops ops.toList t ds H (k .norm) (fun c => k (.pan c)))) (fun _ => none) s)
   (seq := fun x _ ihx ihy s t ds H k => Option.rec (motive := fun _ => R)
     (ihx none t ds H fun o t ds H => match o with | .norm => ihy none t ds H k | o => k o t ds H)
     (fun l => cond (hasLabel l x) (ihx (some l) t ds H fun o t ds H => match o with | .norm => ihy none t ds H k | o => k o t ds H) (ihy (some l) t ds H k)) s)
   (cond := fun c _ _ ihx ihy s t ds H k => Option.rec (motive := fun _ => R) (match evalT t c with | .bool b => cond b (ihx none t ds H k) (ihy none t ds H k) | _ => none) (fun _ => none) s)
   (block := fun id _ ih s t ds H k => Option.rec (motive := fun _ => R) (ih none t ds H fun o t ds H => match o with | .exit i => cond (i == id) (k .norm t ds H) (k (.exit i) t ds H) | o => k o t ds H) (fun _ => none) s)
   (loop := fun _ ih s t ds H k => Option.rec (motive := fun _ => R) (loopT (ih none) N t ds H k) (fun _ => none) s)
   (rangeFunc := fun _ _ _ _ _ _ _ _ _ _ _ => none)
   (exit := fun id s t ds H k => Option.rec (motive := fun _ => R) (k (.exit id) t ds H) (fun _ => none) s)
   (scope := fun b ih s t ds H k => Option.rec (motive := fun _ => R) (scopeT b ih N none t ds H k) (fun _ => none) s)
   (label := fun l' s t ds H k => Option.rec (motive := fun _ => R) (k .norm t ds H) (fun l => cond (l' == l) (k .norm t ds H) none) s)
   (goto := fun l s t ds H k => Option.rec (motive := fun _ => R) (k (.goto l) t ds H) (fun _ => none) s)
   (ret := fun s t ds H k => Option.rec (motive := fun _ => R) (k .ret t ds H) (fun _ => none) s)
   (refuse := fun _ _ _ _ _ _ => none) c
theorem j5m {b2 : T → List Deferred → Heap → KO → R} {b2' : Act → Heap → (Out → Act → Heap → R) → R} (h2 : BSim r b2 b2') {k : KO} {k' : Out → Act → Heap → R} (hk : KSo r k k') :
   KSo r (fun o t ds H => match o with | .norm => b2 t ds H k | o => k o t ds H) (fun o a H => match o with | .norm => b2' a H k' | o => k' o a H) := by
 intro o t ds a H hs h
 cases o with
 | norm => exact h2 k k' hk _ _ _ _ hs h
 | _ => exact hk _ _ _ _ _ hs h
def goodC (P : Program) : Code → Bool
 | .region _ ops draw => ops.toList.all (opOk P) && (!draw || drawOk P ops.toList)
 | .seq a b => goodC P a && goodC P b
 | .cond _ a b => goodC P a && goodC P b
 | .block _ b => goodC P b
 | .loop b => goodC P b
 | .scope b => goodC P b
 | _ => true
theorem jb3 (hK : KLe K K') {N : Nat} {r : End × Heap} : ∀ (c : Code) (_ : goodC P c = true) (s : Option Nat), BSim r (execT P X K N c s) (exec P X K' N c s)
 | .skip, hg, none, k, k', hk, t, ds, a, H, hs, h => by unfold exec; exact hk _ _ _ _ _ hs h
 | .skip, hg, some _, k, k', hk, t, ds, a, H, hs, h => by cases h
 | .region id ops draw, hg, none, k, k', hk, t, ds, a, H, hs, h => by
   unfold exec
   simp only [goodC, Bool.and_eq_true] at hg
   have ho := fun o h => List.all_eq_true.mp hg.1 o h
   cases draw with
   | false =>
     exact je3 (k' := fun a H => k' .norm a H) (kp' := fun c a H => k' (.pan c) a H) hK (fun t ds a H => hk .norm t ds a H) (fun c t ds a H => hk (.pan c) t ds a H) ops.toList ho t ds a H hs h
   | true =>
     have e : drawOk P ops.toList = true := by simpa using hg.2
     rw [e]
     simp only [cond_true]
     refine ji0 (k' := fun tr af Hf => cond (drawChk P ops tr) (k' .norm af Hf) none) hK ops.toList ho 0 (fun tr tr' htr hn => ?_) t ds a H [] [] ⟨rfl, fun i x y hx => by simp at hx⟩ rfl hs h
     intro t ds a H hs h
     cases e2 : drawChkT P ops tr with
     | false => rw [e2] at h; cases h
     | true =>
       rw [e2] at h
       rw [j23 htr (by rw [hn]; omega) e2]
       exact hk _ _ _ _ _ hs h
 | .region .., hg, some _, k, k', hk, t, ds, a, H, hs, h => by cases h
 | .seq x y, hg, none, k, k', hk, t, ds, a, H, hs, h => by
   simp only [goodC, Bool.and_eq_true] at hg
   unfold exec
   exact jb3 hK x hg.1 none _ _ (j5m (jb3 hK y hg.2 none) hk) t ds a H hs h
 | .seq x y, hg, some l, k, k', hk, t, ds, a, H, hs, h => by
   simp only [goodC, Bool.and_eq_true] at hg
   unfold exec
   have h' : cond (hasLabel l x) (execT P X K N x (some l) t ds H fun o t ds H => match o with | .norm => execT P X K N y none t ds H k | o => k o t ds H) (execT P X K N y (some l) t ds H k) = some r := h
   cases e : hasLabel l x with
   | true => rw [e] at h'; exact jb3 hK x hg.1 (some l) _ _ (j5m (jb3 hK y hg.2 none) hk) t ds a H hs h'
   | false => rw [e] at h'; exact jb3 hK y hg.2 (some l) _ _ hk t ds a H hs h'
 | .cond c x y, hg, none, k, k', hk, t, ds, a, H, hs, h => by
   simp only [goodC, Bool.and_eq_true] at hg
   unfold exec
   have h' : (match evalT t c with | .bool b => cond b (execT P X K N x none t ds H k) (execT P X K N y none t ds H k) | _ => none) = some r := h
   rw [je2 hs.tree] at h'
   split at h'
   · rename_i b e
     simp only [e]
     cases b with
     | true => exact jb3 hK x hg.1 none _ _ hk t ds a H hs h'
     | false => exact jb3 hK y hg.2 none _ _ hk t ds a H hs h'
   · cases h'
 | .cond .., hg, some _, k, k', hk, t, ds, a, H, hs, h => by cases h
 | .block id b, hg, none, k, k', hk, t, ds, a, H, hs, h => by
   unfold exec
   refine jb3 hK b hg none _ _ (fun o t ds a H hs h => ?_) t ds a H hs h
   cases o with
   | exit i =>
     simp only at h ⊢
     cases e : (i == id) with
     | true => rw [e] at h; exact hk _ _ _ _ _ hs h
     | false => rw [e] at h; exact hk _ _ _ _ _ hs h
   | _ => exact hk _ _ _ _ _ hs h
 | .block .., hg, some _, k, k', hk, t, ds, a, H, hs, h => by cases h
 | .loop b, hg, none, k, k', hk, t, ds, a, H, hs, h => by
   unfold exec
   exact jz5 (jb3 hK b hg none) N k k' hk t ds a H hs h
 | .loop _, hg, some _, k, k', hk, t, ds, a, H, hs, h => by cases h
 | .rangeFunc .., hg, s, k, k', hk, t, ds, a, H, hs, h => by cases h
 | .exit id, hg, none, k, k', hk, t, ds, a, H, hs, h => by unfold exec; exact hk _ _ _ _ _ hs h
 | .exit _, hg, some _, k, k', hk, t, ds, a, H, hs, h => by cases h
 | .scope b, hg, none, k, k', hk, t, ds, a, H, hs, h => by
   unfold exec
   exact jt3 (fun s => jb3 hK b hg s) N none k k' hk t ds a H hs h
 | .scope _, hg, some _, k, k', hk, t, ds, a, H, hs, h => by cases h
 | .label l', hg, none, k, k', hk, t, ds, a, H, hs, h => by unfold exec; exact hk _ _ _ _ _ hs h
 | .label l', hg, some l, k, k', hk, t, ds, a, H, hs, h => by
   unfold exec
   have h' : cond (l' == l) (k .norm t ds H) none = some r := h
   cases e : (l' == l) with
   | true => rw [e] at h'; exact hk _ _ _ _ _ hs h'
   | false => rw [e] at h'; cases h'
 | .goto l, hg, none, k, k', hk, t, ds, a, H, hs, h => by unfold exec; exact hk _ _ _ _ _ hs h
 | .goto _, hg, some _, k, k', hk, t, ds, a, H, hs, h => by cases h
 | .ret, hg, none, k, k', hk, t, ds, a, H, hs, h => by unfold exec; exact hk _ _ _ _ _ hs h
 | .ret, hg, some _, k, k', hk, t, ds, a, H, hs, h => by cases h
 | .refuse _, hg, s, k, k', hk, t, ds, a, H, hs, h => by cases h
noncomputable def resT (P : Program) (t : T) (H : Heap) : List ResultVar → Option (List Value)
 | [] => some []
 | .tmp i :: r => match resT P t H r with | some l => some ((rdP (path i) t).getD undef :: l) | none => none
 | .cell i ty :: r => match loadA P ty ((rdP (path i) t).getD undef) H with
   | some (v, _) => match resT P t H r with | some l => some (v :: l) | none => none
   | none => none
theorem jq4 {t : T} {ts : Array Value} (h : Rep t ts) (H : Heap) : ∀ l, resT P t H l = resL P ts H l
 | [] => rfl
 | .tmp i :: r => by
   unfold resT resL
   have e : (ts[i]?).getD undef = ts.getD i undef := by simp
   rw [jq4 h H r, jk9, h i, e]
   cases resL P ts H r <;> rfl
 | .cell i ty :: r => by
   unfold resT resL
   have e : (ts[i]?).getD undef = ts.getD i undef := by simp
   rw [jq4 h H r, jk9, h i, e]
   cases loadA P ty (ts.getD i undef) H with
   | none => rfl
   | some x => cases resL P ts H r <;> rfl
noncomputable def finDT (P : Program) (fn : Func) (u : FrameMode) (kd : End → FrameMode → Heap → R) (o : Out) (t : T) (ds : List Deferred) (H : Heap) : R :=
 match o with
 | .norm | .ret => match ds with
   | [] => match resT P t H fn.results.toList with | some l => kd (.ret (oneOf l)) u H | none => none
   | _ => none
 | .pan c => match ds with | [] => kd (.pan c) u H | _ => none
 | _ => none
theorem jg5 {fn : Func} {u : FrameMode} {kd kd' : End → FrameMode → Heap → R} (hk : ∀ e u H, kd e u H = some r → kd' e u H = some r) : KSo r (finDT P fn u kd) (finD P fn u kd') := by
 intro o t ds a H hs h
 unfold finDT at h
 unfold finD
 split at h
 · simp only [hs.ds]
   split at h
   · rw [jq4 hs.tree] at h
     simp only
     split at h
     · rename_i e; rw [e]; exact hk _ _ _ h
     · cases h
   · cases h
 · simp only [hs.ds]
   split at h
   · rw [jq4 hs.tree] at h
     simp only
     split at h
     · rename_i e; rw [e]; exact hk _ _ _ h
     · cases h
   · cases h
 · simp only [hs.ds]
   split at h
   · exact hk _ _ _ h
   · cases h
 · cases h
noncomputable def bodyDT (P : Program) (X : Xf) (K : Kf) (N : Nat) (fn : Func) (c : Code) (args : Array Value) (u : FrameMode) (H : Heap) (kd : End → FrameMode → Heap → R) : R :=
 startT fn.ntmps args fun t => match c with
 | .seq (.region _ ops false) rest => match ops.toList with
   | o :: os => cond (isRec o)
     (putT o.dst t (recM u).1 fun t => execOpsT P X K ops os t [] H (fun t ds H => execT P X K N rest none t ds H (finDT P fn (recM u).2 kd)) (fun c t ds H => finDT P fn (recM u).2 kd (.pan c) t ds H))
     (execT P X K N c none t [] H (finDT P fn u kd))
   | [] => execT P X K N c none t [] H (finDT P fn u kd)
 | c => execT P X K N c none t [] H (finDT P fn u kd)
theorem j24 (hK : KLe K K') {N : Nat} {fn : Func} {c : Code} {args : Array Value} {u : FrameMode} {H : Heap} {kd kd' : End → FrameMode → Heap → R} {r : End × Heap}
   (hg : goodC P c = true) (hk : ∀ e u H, kd e u H = some r → kd' e u H = some r) (h : bodyDT P X K N fn c args u H kd = some r) : bodyD P X K' N fn c args u H kd' = some r := by
 unfold bodyDT at h
 obtain ⟨t, h1, h2⟩ := jq3 h
 have hs : Sim t [] (act0 fn args) := ⟨h2, rfl⟩
 unfold bodyD
 split at h1
 · rename_i id ops rest
   simp only
   split at h1
   · rename_i o os e
     simp only [e]
     cases hi : isRec o with
     | true =>
       rw [hi] at h1
       simp only [goodC, Bool.and_eq_true] at hg
       have hall := fun o h => List.all_eq_true.mp hg.1.1 o h
       rw [e] at hall
       simp only [cond_true] at h1 ⊢
       obtain ⟨t', q1, q2, q3⟩ := jg4 (a := act0 fn args) h1 h2
       exact je3 hK (fun t ds a H hs h => jb3 hK rest hg.2 none _ _ (jg5 hk) t ds a H hs h) (fun c t ds a H hs h => jg5 hk (.pan c) t ds a H hs h) os (fun o h => hall o (List.mem_cons_of_mem _ h)) t' [] _ H ⟨q2, q3⟩ q1
     | false =>
       rw [hi] at h1
       exact jb3 hK _ hg none _ _ (jg5 hk) t [] _ H hs h1
   · rename_i e
     simp only [e]
     exact jb3 hK _ hg none _ _ (jg5 hk) t [] _ H hs h1
 · rename_i hno
   split
   · rename_i ops rest
     exact absurd rfl (hno _ _ _)
   · exact jb3 hK _ hg none _ _ (jg5 hk) t [] _ H hs h1
def GoodP (P : Program) (bad : List Nat) : Prop := ∀ (f : FuncId) fn c, bad.any (Nat.beq f) = false → P.funcs[f]? = some fn → fn.body = some c → goodC P c = true
def goodF (P : Program) (fn : Func) : Bool := match fn.body with | some c => goodC P c | none => true
def goodAt (P : Program) (bad : List Nat) (f : Nat) : Bool := cond (bad.any (Nat.beq f)) true (match P.funcs[f]? with | some fn => goodF P fn | none => true)
theorem j7x {n : Nat} (hn : P.funcs.size = n) (h : ∀ f, f < n → goodAt P bad f = true) : GoodP P bad := by
 intro f fn c hb hf hc
 have hlt := (Array.getElem?_eq_some_iff.mp hf).1
 have := h f (by omega)
 simp only [goodAt, hb, hf, cond_false, goodF, hc] at this
 exact this
noncomputable def leaveT (P : Program) (bad : List Nat) (X : Xf) (K : Kf) (N : Nat) (fn : Func) (t : T) : List Deferred → FrameMode → Heap → R
 | [], .returning, H => match resT P t H fn.results.toList with | some l => some (.ret (oneOf l), H) | none => none
 | [], .panicking c, H => some (.pan c, H)
 | [], .run, _ => none
 | _ :: _, .run, _ => none
 | d :: ds, u, H => match d.target with
   | .fn (.func g) cap => match P.funcs[g]? with
     | some gn => if gn.name == "runtime.NumGoroutine" || bad.any (Nat.beq g) then none else match gn.body with
       | some c => bodyDT P X K N gn c (d.args ++ cap) u H fun e u' H' => match e with
         | .ret _ => match settleA u' with | some u2 => leaveT P bad X K N fn t ds u2 H' | none => none
         | .pan ch => leaveT P bad X K N fn t ds (raised u' ch) H'
       | none => none
     | none => none
   | _ => none
theorem jl0 (hgp : GoodP P bad) (hK : KLe K K') {N : Nat} {fn : Func} {t : T} {ts : Array Value} (ht : Rep t ts) {r : End × Heap} : ∀ (ds : List Deferred) (u : FrameMode) (H : Heap), leaveT P bad X K N fn t ds u H = some r → leave P X K' N fn ts ds u H = some r := by
 intro ds
 induction ds with
 | nil =>
   intro u H h
   cases u with
   | returning => unfold leaveT at h; unfold leave; rw [jq4 ht] at h; exact h
   | panicking c => unfold leaveT at h; unfold leave; exact h
   | run => unfold leaveT at h; cases h
 | cons d ds ih =>
   intro u H h
   have go : ∀ u, (match d.target with
     | .fn (.func g) cap => match P.funcs[g]? with
       | some gn => if gn.name == "runtime.NumGoroutine" || bad.any (Nat.beq g) then none else match gn.body with
         | some c => bodyDT P X K N gn c (d.args ++ cap) u H fun e u' H' => match e with
           | .ret _ => match settleA u' with | some u2 => leaveT P bad X K N fn t ds u2 H' | none => none
           | .pan ch => leaveT P bad X K N fn t ds (raised u' ch) H'
         | none => none
       | none => none
     | _ => none) = some r → (match d.target with
     | .fn (.func g) cap => match P.funcs[g]? with
       | some gn => if gn.name == "runtime.NumGoroutine" then none else match gn.body with
         | some c => bodyD P X K' N gn c (d.args ++ cap) u H fun e u' H' => match e with
           | .ret _ => match settleA u' with | some u2 => leave P X K' N fn ts ds u2 H' | none => none
           | .pan ch => leave P X K' N fn ts ds (raised u' ch) H'
         | none => none
       | none => none
     | _ => none) = some r := by
     intro u h
     split at h
     · split at h
       · rename_i gn hf
         split at h
         · cases h
         · rename_i hn
           simp only [Bool.or_eq_true, not_or, Bool.not_eq_true] at hn
           rw [if_neg (by rw [hn.1]; decide)]
           split at h
           · rename_i c hb
             refine j24 hK (hgp _ _ _ hn.2 hf hb) (fun e u' H' h => ?_) h
             cases e with
             | ret v =>
               simp only at h ⊢
               split at h
               · rename_i u2 e2; exact ih _ _ h
               · cases h
             | pan ch => exact ih _ _ h
           · cases h
       · cases h
     · cases h
   cases u with
   | run => unfold leaveT at h; cases h
   | returning => unfold leaveT at h; unfold leave; exact go _ h
   | panicking c => unfold leaveT at h; unfold leave; exact go _ h
noncomputable def finishT (P : Program) (bad : List Nat) (X : Xf) (K : Kf) (N : Nat) (fn : Func) (o : Out) (t : T) (ds : List Deferred) (H : Heap) : R :=
 match o with
 | .norm | .ret => leaveT P bad X K N fn t ds .returning H
 | .pan c => leaveT P bad X K N fn t ds (.panicking c) H
 | _ => none
theorem j04 (hgp : GoodP P bad) (hK : KLe K K') {N : Nat} {fn : Func} {r : End × Heap} : KSo r (finishT P bad X K N fn) (finishR P X K' N fn) := by
 intro o t ds a H hs h
 unfold finishR
 rw [hs.ds]
 cases o with
 | norm => exact jl0 hgp hK hs.tree _ _ _ h
 | ret => exact jl0 hgp hK hs.tree _ _ _ h
 | pan c => exact jl0 hgp hK hs.tree _ _ _ h
 | _ => cases h
noncomputable def callT (P : Program) (bad : List Nat) (X : Xf) (N : Nat) (hk : Hook) : Nat → Kf
 | 0 => fun _ _ _ => none
 | d + 1 => fun f args H =>
   match hk f args H with
   | some r => r
   | none => cond (bad.any (Nat.beq f)) none
     (match P.funcs[f]? with
     | some fn => match fn.body with
       | some c => startT fn.ntmps args fun t => execT P X (callT P bad X N hk d) N c none t [] H (finishT P bad X (callT P bad X N hk d) N fn)
       | none => none
     | none => none)
theorem jw6 {N : Nat} {hk : Hook} (hgp : GoodP P bad) : ∀ d, KLe (callT P bad X N hk d) (callR P X N hk d)
 | 0 => fun f args H r h => by cases h
 | d + 1 => fun f args H r h => by
   unfold callT at h
   unfold callR
   split at h
   · rename_i q e; simp only [e]; exact h
   · rename_i e
     simp only [e]
     cases hb : bad.any (Nat.beq f) with
     | true => rw [hb] at h; cases h
     | false =>
     rw [hb] at h
     simp only [cond_false] at h
     split at h
     · rename_i fn hf
       simp only [hf]
       split at h
       · rename_i c hc
         simp only [hc]
         obtain ⟨t, h1, h2⟩ := jq3 h
         exact jb3 (jw6 hgp d) c (hgp _ _ _ hb hf hc) none _ _ (j04 hgp (jw6 hgp d)) t [] _ H ⟨h2, rfl⟩ h1
       · cases h
     · cases h
theorem j05 {N : Nat} {hk : Hook} (hgp : GoodP P bad) (hX : XSnd P X) (hH : HookSnd P hk) (hm : P.follows .mixedOrders = true) (d : Nat) : KSnd P (callT P bad X N hk d) :=
 fun f args H r H' he => jh8 hX hH hm d f args H r H' (jw6 hgp d _ _ _ _ he)
end Go.Aw
namespace Go.Aw
theorem goods0 : (List.range' 0 60).all (goodAt PP [14]) = true := by decide +kernel
theorem goods1 : (List.range' 60 70).all (goodAt PP [14]) = true := by decide +kernel
theorem goods2 : (List.range' 130 70).all (goodAt PP [14]) = true := by decide +kernel
theorem j25 : PP.funcs.size = 184 := by decide +kernel
theorem good : GoodP PP [14] := j7x j25 fun f hf => by
 by_cases h0 : f < 60
 · exact List.all_eq_true.mp goods0 f (by rw [List.mem_range'_1]; omega)
 · by_cases h1 : f < 130
   · exact List.all_eq_true.mp goods1 f (by rw [List.mem_range'_1]; omega)
   · exact List.all_eq_true.mp goods2 f (by rw [List.mem_range'_1]; omega)
noncomputable def fast (h : Hook) : Kf := callT PP [14] XX 100000 h 60
theorem j26 {h : Hook} (hh : HookSnd PP h) : KSnd PP (fast h) := j05 good j15 hh mixed 60
end Go.Aw
namespace Go.Aw
def kn : PureRow := ⟨9, [], .bool true⟩
theorem okKn : okRow (fast hook2) GG kn = true := by decide +kernel
theorem hookKn_sound : HookSnd PP (hookP GG [1, 2] [kn]) := by
 refine jq0 (j26 j01) j5h yo5 fun e he => ?_
 have : okRow (fast hook2) GG e = true := by
   simp only [List.mem_cons, List.not_mem_nil, or_false] at he
   subst he
   exact okKn
 simp only [okRow, Bool.and_eq_true] at this
 simpa using this
end Go.Aw
open Go.Proofs
namespace Go.Am
theorem j83 {m : Mp} {H : Heap} {w : World} (h : Rel m H w) (hg : Gl PP m) {g : Nat} (hgl : g < PP.globals.size) {cells : List Value} (hc : cells.all atomic = true) (hy : H.get g = some ⟨cells, false, 1, none⟩) :
   ∃ L, m g = some L ∧ ∀ m1, Aw.Lies m1 w ⟨cells, false, 1, none⟩ ⟨L.c, L.base, L.es, L.e⟩ := by
 obtain ⟨L, k1, k2⟩ := h.blk g _ hy
 obtain ⟨cs, elem, fz, p1, p2, p3, _⟩ := k2.ex rfl
 refine ⟨L, k1, fun m1 => ⟨k2.es, k2.fits, fun _ => ⟨cs, elem, fz, p1, p2, fun i a b => ?_, fun e => by cases e⟩, fun o e => by cases e⟩⟩
 have ha : atomic (cells[i]'a) = true := List.all_eq_true.mp hc _ (List.getElem_mem a)
 rw [(p3 i a b).eq_of_atomic ha]
 refine Aw.VR.atom _ ?_
 revert ha
 generalize cells[i]'a = v
 intro ha
 cases v <;> first | rfl | exact ha
theorem yc9 : Aw.hookP Aw.GG [1, 2] [Aw.kn] 9 #[] Aw.GG = some (some (.ret (.bool true), Aw.GG)) := by kernel_rfl
theorem j5n {H : Heap} (tabs : Tabs H) {k : KV} {kp : KP} (hk : k (.bool true) H) : callW PP 9 #[] H k kp := by
 refine (Ans.of_calls Tryz.func9 (by decide +kernel) fun m w args' hrel hgl hargs => ?_).ret hk
 obtain rfl := hargs.eq_of_atomic rfl
 let m1 : Aw.Mp := fun k => if k < 10 then (m k).map fun L => ⟨L.c, L.base, L.es, L.e⟩ else none
 obtain ⟨L1, a1, b1⟩ := j83 hrel hgl (g := 1) (by rw [globals_size]; decide) (by decide +kernel) tabs.cls
 obtain ⟨L2, a2, b2⟩ := j83 hrel hgl (g := 2) (by rw [globals_size]; decide) (by decide +kernel) tabs.asc
 have two : ∀ b x, Aw.GG.get b = some x → (b = 1 ∧ x = ⟨clsC, false, 1, none⟩) ∨ (b = 2 ∧ x = ⟨asciiV, false, 1, none⟩) := by
   intro b x hb
   unfold Aw.GG at hb
   rw [Aw.Heap.get_set] at hb
   by_cases e2 : b = 2
   · rw [if_pos e2] at hb; exact .inr ⟨e2, (Option.some.inj hb).symm⟩
   · rw [if_neg e2, Aw.Heap.get_set] at hb
     by_cases e1 : b = 1
     · rw [if_pos e1] at hb; exact .inl ⟨e1, (Option.some.inj hb).symm⟩
     · rw [if_neg e1] at hb
       have : (⟨.nil, 10⟩ : Aw.Heap).get b = none := rfl
       rw [this] at hb; simp at hb
 have nw : ∀ b x, Aw.GG.get b = some x → x.rw = false := fun b x hb => by
   rcases two b x hb with ⟨_, rfl⟩ | ⟨_, rfl⟩ <;> rfl
 have rel1 : Aw.Rel m1 Aw.GG w := by
   refine ⟨fun b x hb => ?_, fun b x hb hr => absurd hr (by rw [nw b x hb]; decide), fun b L hb => ?_, fun b hb => ⟨if_neg (by have hb : 10 ≤ b := hb; omega), ?_⟩⟩
   · rcases two b x hb with ⟨rfl, rfl⟩ | ⟨rfl, rfl⟩
     · exact ⟨_, by show (if 1 < 10 then _ else _) = _; rw [if_pos (by decide), a1]; rfl, b1 m1⟩
     · exact ⟨_, by show (if 2 < 10 then _ else _) = _; rw [if_pos (by decide), a2]; rfl, b2 m1⟩
   · simp only [m1] at hb
     split at hb
     · cases hm : m b with
       | none => rw [hm] at hb; cases hb
       | some L' => rw [hm] at hb; cases hb; exact hrel.bound b L' hm
     · cases hb
   · have hb : 10 ≤ b := hb
     cases e : Aw.GG.get b with
     | none => rfl
     | some x => rcases two b x e with ⟨h, _⟩ | ⟨h, _⟩ <;> omega
 have gl1 : Aw.Gl PP m1 := fun g hg => by
   obtain ⟨L, c1, c2, c3, _⟩ := hgl g hg
   refine ⟨⟨L.c, L.base, L.es, L.e⟩, ?_, c2, c3⟩
   rw [globals_size] at hg
   simp [m1, hg, c1]
 refine (Aw.hookKn_sound _ _ _ _ _ yc9 m1 w #[] rel1 gl1 ⟨rfl, fun i h => absurd h (by simp)⟩).mono fun e w' ⟨m', he, st⟩ => ⟨m, ?_, ?_⟩
 · cases e with
   | returned v =>
     have he : Aw.VR m' (.bool true) v := he
     rw [he.eq_of_atomic rfl]
     exact VR.atom _ rfl
   | _ => exact he.elim
 · exact Step.still hrel st.keep.os st.keep.tape st.keep.output st.keep.size fun c hc => st.keep.block c hc fun ⟨b, x, L, o1, o2, _⟩ => absurd o2 (by rw [nw b x o1]; decide)
set_option maxRecDepth 100000
theorem j7y (c : Int → Bool) (h : c 1 = false) (l : List It) : wIs c l = 0 := by
 have f : ∀ f, wF c f = 0 := fun f => by unfold wF; rw [h]; split <;> rfl
 have fs : ∀ l, wFs c l = 0 := fun l => by
   unfold wFs
   induction l with
   | nil => rfl
   | cons x l ih => rw [List.map_cons, List.sum_cons, ih, f]
 unfold wIs
 induction l with
 | nil => rfl
 | cons x l ih => rw [List.map_cons, List.sum_cons, ih, wI, f, f, f, f, fs]
theorem j5o (n : Nat) : ∀ l : List Nat, (∀ x ∈ l, x < n) → l.length = ((List.range n).map fun j => l.count j).sum
 | [], _ => by induction n with
   | zero => rfl
   | succ n ih => rw [List.range_succ, List.map_append, List.sum_append, ← ih (fun x h => by cases h)]; rfl
 | x :: l, h => by
   have ih := j5o n l fun y hy => h y (List.mem_cons_of_mem _ hy)
   have hx := h x (List.mem_cons_self ..)
   have : ∀ m, ((List.range m).map fun j => (x :: l).count j).sum = ((List.range m).map fun j => l.count j).sum + if x < m then 1 else 0 := by
     intro m
     induction m with
     | zero => rfl
     | succ m im =>
       rw [List.range_succ, List.map_append, List.sum_append, List.map_append, List.sum_append, im]
       simp only [List.map_cons, List.map_nil, List.sum_cons, List.sum_nil, List.count_cons, beq_iff_eq]
       repeat' split
       all_goals omega
   rw [this, if_pos hx, List.length_cons, ih]
theorem j06 {l : List Nat} {n : Nat} (h : ∀ j, l.count j ≤ rng 0 n j) : l.length ≤ n := by
 have hm : ∀ x ∈ l, x < n := fun x hx => by
   have h1 := h x
   have h2 : 0 < l.count x := List.count_pos_iff.2 hx
   unfold rng at h1
   split at h1 <;> omega
 rw [j5o n l hm]
 clear hm
 have : ∀ m, ((List.range m).map fun j => l.count j).sum ≤ m := by
   intro m
   induction m with
   | zero => exact Nat.le_refl _
   | succ m im =>
     rw [List.range_succ, List.map_append, List.sum_append]
     have h1 := h m
     unfold rng at h1
     simp only [List.map_cons, List.map_nil, List.sum_cons, List.sum_nil]
     split at h1 <;> omega
 exact this n
section
variable {k : KV} {kp : KP}
theorem counts_w {H : Heap} (tabs : Tabs H) {a : Option Addr} {s : List UInt8} {c : Nat} (row : Brow H a s) (frz : ∀ y, a = some y → ∃ cs, H.get y.block = some ⟨cs, false, 1, none⟩) (cap : s.length ≤ c)
   (hk : ∀ H', Fle H H' → k (.bool true) H') : callW PP 6 #[.slice a s.length c] H k kp := by
 show callW PP _ _ (H.plus []) k kp
 refine run 1 rfl Tryz.func6 (pr := prC) (by decide +kernel) (by kernel_rfl) ?_
 have f0 := Fr.start tabs.fresh
 simp +decide only [zf6.o, ↓GI.o, reduceIte]
 refine f0.in (yb5 tabs row frz cap (fun e x y z H1 f1 hc => ?_) fun tr p sl hp H1 iv nv top f1 v1 v2 v3 => ?_)
 · have fr1 := f0.call f1
   have s1 : storeA PP 28 (pt H1.next) (.agg tree0.toArray) ((H1.to (H1.next + 1 + 1)).plus [(H1.next + 1, ⟨[.int .i64 0, .int .i64 0, .int .i64 0], true, 1, none⟩), (H1.next, ⟨tree0, true, 1, none⟩)]) = _ := js5 (by rw [ja2, jc7 (by omega), ja5]; rfl) tyTree.2.2 rfl rfl rfl
   have s2 : storeA PP 30 (pt (H1.next + 1)) (.agg #[.int .i64 x, .int .i64 y, .int .i64 z]) ((H1.to (H1.next + 1 + 1)).plus [(H1.next + 1, ⟨[.int .i64 0, .int .i64 0, .int .i64 0], true, 1, none⟩), (H1.next, ⟨tree0, true, 1, none⟩)]) = _ := js5 (by rw [ja2, ja5]; rfl) tyPl.2.2 rfl rfl rfl
   simp +decide only [zf6.o, ↓GI.o, reduceIte, ex_0, ex_1, ex_2, je5 zrTree, je5 zrPl, tyTree, tyPl, s1, s2]
   have hne : (e != 0) = true := by
     rcases hc with ⟨_, rfl⟩ | ⟨_, r, _, rfl⟩
     · rfl
     · cases r <;> rfl
   have fr2 := (fr1.new ⟨tree0, true, 1, none⟩).new ⟨[.int .i64 x, .int .i64 y, .int .i64 z], true, 1, none⟩
   have fr3 : Fr H (H1.to (H1.next + 1 + 1)) [(H1.next + 1, ⟨[.int .i64 x, .int .i64 y, .int .i64 z], true, 1, none⟩), (H1.next, ⟨tree0, true, 1, none⟩)] := fr2
   simp +decide only [zf6.o, ↓GI.o, reduceIte, hne, lens, z00]
   refine fr3.in (j5n ((tabs.fle f1).to (by omega)) ?_)
   simp +decide only [zf6.o, ↓GI.o, reduceIte]
   exact hk _ fr3.out
 · obtain ⟨ok, tn, tc⟩ := j2t hp
   have fr1 := f0.call f1
   obtain ⟨ia, il, im, icells, rfl, i1, i2, i3⟩ := je1 v1
   obtain ⟨na, nl, nm, ncells, rfl, n1, n2, n3⟩ := je1 v2
   obtain ⟨ta, tl, tm, tcells, rfl, t1, t2, t3⟩ := je1 v3
   have hil : il = tr.its.length := by rw [j1r] at i1; omega
   have hnl : nl = tr.nds.length := by rw [j4x] at n1; omega
   have htl : tl = tr.top.length := by simpa using t1.symm
   subst hil hnl htl
   generalize hT : ([.int .i64 (tr.pos : Int), .string tr.word.word, .int .i64 (tr.word.at_ : Int), nil2, .slice ia tr.its.length im, .slice na tr.nds.length nm, .slice ta tr.top.length tm] : List Value) = T
   have s1 : storeA PP 28 (pt H1.next) (.agg T.toArray) ((H1.to (H1.next + 1 + 1)).plus [(H1.next + 1, ⟨[.int .i64 0, .int .i64 0, .int .i64 0], true, 1, none⟩), (H1.next, ⟨tree0, true, 1, none⟩)]) = _ := js5 (by rw [ja2, jc7 (by omega), ja5]; rfl) tyTree.2.2 (by rw [← hT]; rfl) rfl (by rw [← hT]; rfl)
   have s2 : storeA PP 30 (pt (H1.next + 1)) (.agg #[.int .i64 0, .int .i64 0, .int .i64 0]) ((H1.to (H1.next + 1 + 1)).plus [(H1.next + 1, ⟨[.int .i64 0, .int .i64 0, .int .i64 0], true, 1, none⟩), (H1.next, ⟨T, true, 1, none⟩)]) = _ := js5 (by rw [ja2, ja5]; rfl) tyPl.2.2 rfl rfl rfl
   subst hT
   have fr2 := (fr1.new ⟨[.int .i64 (tr.pos : Int), .string tr.word.word, .int .i64 (tr.word.at_ : Int), nil2, .slice ia tr.its.length im, .slice na tr.nds.length nm, .slice ta tr.top.length tm], true, 1, none⟩).new ⟨[.int .i64 0, .int .i64 0, .int .i64 0], true, 1, none⟩
   simp +decide only [zf6.o, ↓GI.o, reduceIte, ex_0, ex_1, ex_2, je5 zrTree, je5 zrPl, tyTree, tyPl, s1, s2, show ((0 : Int) != 0) = false from rfl]
   have tabs2 : Tabs (H1.to (H1.next + 1 + 1)) := (tabs.fle f1).to (by omega)
   have row2 : Brow (H1.to (H1.next + 1 + 1)) a s := row.keep fun y hy => by
     obtain ⟨cs, h2⟩ := frz y hy
     rw [h2]; exact f1.keep _ _ _ h2
   refine fr2.in (jm0 tabs2 row2 cap (fun c => absurd c (by omega)) (fun e n _ c _ => by rw [tn] at c; cases c) fun _ _ => ⟨fun c => ?_, fun q n hq hn => ?_⟩)
   · have := tc (fun k => k == 1) fun k e => .inl (by simpa using e)
     rw [c] at this
     simp at this
   have g2 := Fle.row tabs2.fresh hq hn ⟨cellsK (toksI s (s.length + 1) 0).1, true, 5, none⟩
   have fr3 := fr2.call g2
   generalize hB : ((H1.to (H1.next + 1 + 1)).to n).set q ⟨cellsK (toksI s (s.length + 1) 0).1, true, 5, none⟩ = B at *
   have hqB : B.get q = some ⟨cellsK (toksI s (s.length + 1) 0).1, true, 5, none⟩ := by rw [← hB, Heap.get_set, if_pos rfl]
   simp +decide only [zf6.o, ↓GI.o, reduceIte, ex_0, ex_1, ex_2, show ((0 : Int) != 0) = false from rfl]
   generalize htk : (toksI s (s.length + 1) 0).1 = tks at *
   generalize hq3 : H1.next = q3 at *
   generalize hL : [(q3 + 1, (⟨[.int .i64 0, .int .i64 0, .int .i64 0], true, 1, none⟩ : Blk)), (q3, ⟨[.int .i64 (tr.pos : Int), .string tr.word.word, .int .i64 (tr.word.at_ : Int), nil2, .slice ia tr.its.length im, .slice na tr.nds.length nm, .slice ta tr.top.length tm], true, 1, none⟩)] = L at *
   have lq : L.lookup q3 = some ⟨[.int .i64 (tr.pos : Int), .string tr.word.word, .int .i64 (tr.word.at_ : Int), nil2, .slice ia tr.its.length im, .slice na tr.nds.length nm, .slice ta tr.top.length tm], true, 1, none⟩ := by rw [← hL, jc7 (by omega), ja5]
   replace fr3 : Fr H B L := by rw [← hL]; exact fr3
   have lqq : L.lookup q = none := fr3.none hqB
   have tlen : tks.length ≤ 1048577 := by have := jz0 s (s.length + 1) 0; rw [htk] at this; omega
   have gq : (B.plus L).get q = some ⟨cellsK tks, true, 5, none⟩ := by rw [ja2, lqq, hqB]; rfl
   refine jv7 (n := 0) ?_ (loop0 gq tlen ?_ ?_ ?_ ?_ ?_ fun E kp0 e9 e10 e11 => ?_)
   · simp +decide only [zf6.o, ↓GI.o, lp_o, jf9, jg0, jg1, reduceIte]
   all_goals try simp +decide only [↓G.o, reduceIte]
   simp +decide only [Kp, ↓G.o, reduceIte] at kp0
   have e3 := kp0.1
   have w10 : IntKind.i64.wrap ((cnt isNam tks : Int) - 1) = (cnt isNam tks : Int) - 1 := ja8 (by omega) (by have := jz1 isNam tks tks.length; rw [List.take_length] at this; omega)
   simp +decide only [zf6.o, ↓GI.o, reduceIte, e3, e10, w10, lq, lens]
   have nlen : tr.nds.length ≤ 1048577 := by
     have := tc isAny j5a
     rw [yc0 ok] at this
     have := List.countP_le_length (p := isAny) (l := tks.map Tk.kind)
     rw [List.length_map] at this
     omega
   rw [j8y (by omega)]
   simp +decide only [zf6.o, ↓GI.o, reduceIte]
   have v1' : Vd B (.r 21 (tr.its.flatMap It.dv)) (.slice ia tr.its.length im) := Vd.mono (H := H1) (H' := B) (fun q c e h => g2.keep q c e h) v1
   have v2' : Vd B (.r 5 (tr.nds.flatMap Nd.dv)) (.slice na tr.nds.length nm) := Vd.mono (H := H1) (H' := B) (fun q c e h => g2.keep q c e h) v2
   have v3' : Vd B (rowD tr.top) (.slice ta tr.top.length tm) := Vd.mono (H := H1) (H' := B) (fun q c e h => g2.keep q c e h) v3
   have tN := tc isNum fun k e => .inr (.inl (by simpa [isNum] using e))
   have tM := tc isNam fun k e => .inl (by simpa [isNam] using e)
   have tO := tc isOpr fun k e => .inr (.inr (by simpa [isOpr] using e))
   have tN : cnt isNum tks = wN isNum tr.nds + wIs isNum tr.its + 0 := tN
   have tM : cnt isNam tks = wN isNam tr.nds + wIs isNam tr.its + 1 := tM
   have tO : cnt isOpr tks = wN isOpr tr.nds + wIs isOpr tr.its + 0 := tO
   rw [j7y _ rfl] at tN tO
   have cle : ∀ c, cnt c tks ≤ 1048577 := fun c => by have := jz1 c tks tks.length; rw [List.take_length] at this; omega
   have ilen : tr.its.length ≤ 1048577 := by have := yb9 ok; omega
   have tpn : tr.top.length ≤ 1048577 := by
     have := j06 (l := tr.top) (n := tr.its.length) fun j => by have := ok.is j; omega
     omega
   have rln : (rowsIs tr.its).length ≤ tr.nds.length := j06 fun j => by have := ok.ns j; omega
   have kln : (kidsIs tr.its).length ≤ tr.its.length := j06 fun j => by have := ok.is j; omega
   have wle := cle isNam
   have wO := cle isOpr
   have wU := cle isNum
   obtain ⟨T, hT⟩ : ∃ T : List Value, T = [.int .i64 (tr.pos : Int), .string tr.word.word, .int .i64 (tr.word.at_ : Int), nil2, .slice ia tr.its.length im, .slice na tr.nds.length nm, .slice ta tr.top.length tm] := ⟨_, rfl⟩
   rw [← hT] at lq
   have c4 : T[4]? = some (.slice ia tr.its.length im) := by rw [hT]; rfl
   have c5 : T[5]? = some (.slice na tr.nds.length nm) := by rw [hT]; rfl
   have c6 : T[6]? = some (.slice ta tr.top.length tm) := by rw [hT]; rfl
   have st0 : Sn H B [(q3, ⟨T, true, 1, none⟩)] B L := ⟨.refl fr3.fresh, fr3, fun p hp => by
     obtain rfl := List.mem_singleton.1 hp
     exact ⟨lq, (fr3.keys _ _ lq).2.1⟩⟩
   have st1 := st0.new ⟨rowF tr.nds.length fun _ => 0, true, 1, none⟩
   have nq := st0.nok
   generalize B.next = q14 at *
   refine jv7 (n := 2) ?_ (loop2 (K9 := cnt isNum tks) (K10 := (cnt isNam tks : Int) - 1) (K11 := cnt isOpr tks) ok.nok v2' c5 (fun p hp => nq p hp) (by omega) ⟨by omega, by omega⟩ ⟨by omega, by omega⟩ ⟨by omega, by omega⟩ st1 ?_ ?_ ?_ ?_ ?_ ?_ fun E2 B2 L2 st2 kp2 x9 x10 x11 => ?_)
   · simp +decide only [zf6.o, ↓GI.o, lp_o, jf9, jg0, jg1, reduceIte]
   · simp +decide only [↓G.o, reduceIte, e3]
   · simp +decide only [↓G.o, reduceIte, e9]
   · simp +decide only [↓G.o, reduceIte]
   · simp +decide only [↓G.o, reduceIte, e11]
   · simp +decide only [↓G.o, reduceIte]
   · simp +decide only [↓G.o, reduceIte]
   simp +decide only [Kp, ↓G.o, reduceIte] at kp2
   obtain ⟨k3, k13, k14, _⟩ := kp2
   have l3 := st2.tl.hd
   simp +decide only [zf6.o, ↓GI.o, reduceIte, k3, e3, l3, c4, lens]
   rw [j8y (by omega)]
   have st3 := st2.new ⟨rowF tr.its.length fun _ => 0, true, 1, none⟩
   have nq2 := st2.nok
   simp +decide only [zf6.o, ↓GI.o, reduceIte]
   generalize B2.next = q17 at *
   have n1 : q14 ≠ q17 := nq2 _ (List.mem_cons_self ..)
   have n3 : q3 ≠ q17 := nq2 _ (List.mem_cons_of_mem _ (List.mem_cons_self ..))
   have st3' := st3.sub (ps' := [(q17, ⟨rowF tr.its.length fun _ => 0, true, 1, none⟩), (q3, ⟨T, true, 1, none⟩), (q14, ⟨rowF tr.nds.length fun j => (kidsN tr.nds).count j, true, 1, none⟩)]) fun p hp => by
     simp only [List.mem_cons, List.not_mem_nil, or_false] at hp ⊢
     rcases hp with h | h | h <;> simp [h]
   refine jv7 (n := 5) ?_ (loop5 ok.top ok.topl v3' c6 c4 (fun p hp => by
     simp only [List.mem_cons, List.not_mem_nil, or_false] at hp
     rcases hp with rfl | rfl
     · exact n3
     · exact n1) (by omega) st3' ?_ ?_ ?_ fun E5 B5 L5 st5 kp5 => ?_)
   · simp +decide only [zf6.o, ↓GI.o, lp_o, jf9, jg0, jg1, reduceIte]
   · simp +decide only [↓G.o, reduceIte, k3, e3]
   · simp +decide only [↓G.o, reduceIte]
   · simp +decide only [↓G.o, reduceIte]
   simp +decide only [Kp, ↓G.o, reduceIte] at kp5
   obtain ⟨m3, m9, m10, m11, m13, m14, m17, _⟩ := kp5
   simp +decide only [zf6.o, ↓GI.o, reduceIte]
   obtain ⟨pb, _, hpos⟩ := ok.pos
   have st5' := st5.sub (ps' := [(q14, ⟨rowF tr.nds.length fun j => (kidsN tr.nds).count j, true, 1, none⟩), (q17, ⟨rowF tr.its.length fun j => tr.top.count j, true, 1, none⟩), (q3, ⟨T, true, 1, none⟩)]) fun p hp => by
     simp only [List.mem_cons, List.not_mem_nil, or_false] at hp ⊢
     rcases hp with h | h | h <;> simp [h]
   refine jv7 (n := 7) ?_ (loop7 (K10 := (cnt isNam tks : Int) - 1 - wN isNam tr.nds) ok.iok hpos v1' c4 n1 (fun e => nq _ (List.mem_cons_self ..) e.symm) (Ne.symm n3) (fun j hj => ?_) (by omega) (by omega) (by omega) (by omega) (fun j => ?_) (fun j => ?_) ⟨by omega, by omega⟩ st5' ?_ ?_ ?_ ?_ ?_ ?_ fun E7 B7 L7 st7 kp7 y10 y13 => ?_)
   · simp +decide only [zf6.o, ↓GI.o, lp_o, jf9, jg0, jg1, reduceIte]
   · have h1 := ok.ns j
     have h2 : 0 < (rowsIs tr.its).count j := List.count_pos_iff.2 hj
     unfold rng at h1
     split at h1 <;> omega
   · have h1 := ok.ns j
     unfold rng at h1
     split at h1 <;> omega
   · have h1 := ok.is j
     unfold rng at h1
     split at h1 <;> omega
   · simp +decide only [↓G.o, reduceIte, m3, k3, e3]
   · simp +decide only [↓G.o, reduceIte, m10, x10]
   · simp +decide only [↓G.o, reduceIte, m13, k13]
   · simp +decide only [↓G.o, reduceIte, m14, k14]
   · simp +decide only [↓G.o, reduceIte, m17]
   · simp +decide only [↓G.o, reduceIte]
   simp +decide only [Kp, ↓G.o, reduceIte] at kp7
   obtain ⟨p3, p9, p11, p14, p17, _⟩ := kp7
   simp +decide only [zf6.o, ↓GI.o, reduceIte]
   have g14 : (B7.plus L7).get q14 = some ⟨rowF tr.nds.length fun j => (kidsN tr.nds).count j + (rowsIs tr.its).count j, true, 1, none⟩ := by rw [ja2, st7.hd]; rfl
   have g17 : (B7.plus L7).get q17 = some ⟨rowF tr.its.length fun j => tr.top.count j + (kidsIs tr.its).count j, true, 1, none⟩ := by rw [ja2, st7.tl.hd]; rfl
   refine jv7 (n := 15) ?_ (loop15 g14 (fun j hj => (ok.ns j).trans (if_pos ⟨Nat.zero_le _, hj⟩)) (by omega) ?_ ?_ fun E8 kp8 => ?_)
   · simp +decide only [zf6.o, ↓GI.o, lp_o, jf9, jg0, jg1, reduceIte]
   · simp +decide only [↓G.o, reduceIte, p14, m14, k14]
   · simp +decide only [↓G.o, reduceIte]
   simp +decide only [Kp, ↓G.o, reduceIte] at kp8
   obtain ⟨r9, r10, r11, r13, r14, r17, _⟩ := kp8
   simp +decide only [zf6.o, ↓GI.o, reduceIte]
   refine jv7 (n := 17) ?_ (loop17 g17 (fun j hj => (ok.is j).trans (if_pos ⟨Nat.zero_le _, hj⟩)) (by omega) ?_ ?_ fun E9 kp9 => ?_)
   · simp +decide only [zf6.o, ↓GI.o, lp_o, jf9, jg0, jg1, reduceIte]
   · simp +decide only [↓G.o, reduceIte, r17, p17, m17]
   · simp +decide only [↓G.o, reduceIte]
   simp +decide only [Kp, ↓G.o, reduceIte] at kp9
   obtain ⟨s9, s10, s11, s13, s14, _⟩ := kp9
   have z9 : ((cnt isNum tks : Int) - wN isNum tr.nds == 0) = true := by rw [beq_iff_eq]; omega
   have z10 : ((cnt isNam tks : Int) - 1 - wN isNam tr.nds - wIs isNam tr.its == 0) = true := by rw [beq_iff_eq]; omega
   have z11 : ((cnt isOpr tks : Int) - wN isOpr tr.nds == 0) = true := by rw [beq_iff_eq]; omega
   have z13 : decide (((rowsIs tr.its).length : Int) ≤ (tr.nds.length : Int)) = true := decide_eq_true (by omega)
   simp +decide only [zf6.o, ↓GI.o, reduceIte, s9, r9, p9, m9, x9, z9, s10, r10, y10, z10, s11, r11, p11, m11, x11, z11, s13, r13, y13, s14, r14, p14, m14, k14, lens, z13]
   refine st7.fr.in (j5n (tabs.fle st7.fr.fle) ?_)
   simp +decide only [zf6.o, ↓GI.o, reduceIte]
   exact hk _ st7.fr.out
end
end Go.Am
namespace Go.Am
variable {w W : World} {g : Nat} {a a4 a5 : Addr} {m : Mp} {t : TypeId} {fz : Nat × Nat} {zs : List UInt8}
open Go.Proofs Go.Proofs.YtmliebodadgpbaaGreatDoor
def ro (cs : List Value) : Blk := ⟨cs, false, 1, none⟩
def GE : Heap := ⟨fun b => if b = 2 then some (ro asciiV) else if b = 1 then some (ro clsC) else if b = 4 then some (ro [errV 10]) else if b = 5 then some (ro [errV 11]) else none, 12⟩
theorem j5p : ∀ b x, GE.get b = some x → (b = 2 ∧ x = ro asciiV) ∨ (b = 1 ∧ x = ro (classesL.map fun z => .int .u8 z)) ∨ (b = 4 ∧ x = ro [errV 10]) ∨ (b = 5 ∧ x = ro [errV 11]) := by
 intro b x hb
 simp only [GE] at hb
 split at hb
 · rename_i h; exact .inl ⟨h, (Option.some.inj hb).symm⟩
 split at hb
 · rename_i h; exact .inr (.inl ⟨h, (Option.some.inj hb).symm⟩)
 split at hb
 · rename_i h; exact .inr (.inr (.inl ⟨h, (Option.some.inj hb).symm⟩))
 split at hb
 · rename_i h; exact .inr (.inr (.inr ⟨h, (Option.some.inj hb).symm⟩))
 · cases hb
def sizeAt (w : World) (c : Nat) : Nat := match w.heap[c]? with | some (.cells cs _ _) => cs.size | _ => 0
theorem jj5 {P : Program} {n : String} {cs : Array Value} (hg : P.globalNamed n = some g) (h : w.var? P n = some cs) : ∃ t fz, w.heap[g]? = some (.cells cs t fz) := by
 unfold World.var? at h
 rw [hg] at h
 simp only [Option.bind_some] at h
 split at h
 · rename_i cs' t fz he
   obtain rfl := Option.some.inj h
   exact ⟨t, fz, he⟩
 · cases h
structure Laid (w : World) (a4 a5 : Addr) : Prop where
 size : 10 ≤ w.heap.size
 classes : w.var? PP "bulkhead/scan.classes" = some (classesL.map fun z => Value.int .u8 z).toArray
 ascii : w.var? PP "strings.asciiSpace" = some asciiV.toArray
 syn : w.var? PP "strconv.ErrSyntax" = some #[.iface 159 (.pointer (some a4))]
 rng : w.var? PP "strconv.ErrRange" = some #[.iface 159 (.pointer (some a5))]
 cell4 : ∃ v, w.cell? a4 = some v
 cell5 : ∃ v, w.cell? a5 = some v
theorem jj6 (h : ∃ v, w.cell? a = some v) : a.spot = none ∧ a.block < w.heap.size := by
 obtain ⟨v, hv⟩ := h
 refine ⟨World.cell?_spot hv, ?_⟩
 unfold World.cell? at hv
 split at hv
 · rename_i he
   exact (Array.getElem?_eq_some_iff.mp he).1
 · cases hv
theorem g1 : PP.globalNamed "bulkhead/scan.classes" = some 1 := by kernel_rfl
theorem g2 : PP.globalNamed "strings.asciiSpace" = some 2 := by kernel_rfl
theorem g4 : PP.globalNamed "strconv.ErrSyntax" = some 4 := by kernel_rfl
theorem g5 : PP.globalNamed "strconv.ErrRange" = some 5 := by kernel_rfl
theorem j17 {cs : List Value} (h : w.heap[g]? = some (.cells cs.toArray t fz)) (hsz : cs.length = szG PP g) (hall : cs.all atomic = true) :
   Lies m w ⟨cs, false, 1, none⟩ ⟨g, 0, 1, szG PP g⟩ := by
 have hv : ∀ i (a : i < cs.length), VR m cs[i] cs[i] := fun i a => .atom _ (List.all_eq_true.mp hall _ (List.getElem_mem a))
 refine ⟨rfl, by simp [hsz], fun _ => ⟨cs.toArray, t, fz, h, by simp [hsz], fun i a b => ?_, fun hr => by simp at hr⟩, fun o ho => by simp at ho⟩
 simpa using hv i a
theorem j18 {b : Nat} (h : w.heap[g]? = some (.cells #[.iface 159 (.pointer (some a))] t fz)) (hsz : 1 = szG PP g) (hs : a.spot = none) (e : Nat) (hm : m b = some ⟨a.block, a.off, 1, e⟩) :
   Lies m w ⟨[errV b], false, 1, none⟩ ⟨g, 0, 1, szG PP g⟩ := by
 refine ⟨rfl, by simp [← hsz], fun _ => ⟨_, t, fz, h, by simp [← hsz], fun i a1 b1 => ?_, fun hr => by simp at hr⟩, fun o ho => by simp at ho⟩
 have h0 : i = 0 := by simp at a1; exact a1
 subst h0
 have hp := VR.ptr (m := m) b 0 _ hm
 have ea : (⟨a.block, a.off + 0, none⟩ : Addr) = a := by cases a; simp_all
 rw [ea] at hp
 exact .iface 159 _ _ hp
theorem j7z {H : Heap} {w' : World} (k : Keep m H w w') (hno : ∀ c, ¬ Owns m H c) : Go.RowKit.Below w.heap.size w w' := ⟨k.os, k.tape, k.output, k.size, fun c hc => k.block c hc (hno c)⟩
theorem star : "*" ++ "errors.errorString" = "*errors.errorString" := by decide
theorem row159 (u : TypeId) (h : PP.typeName? 3 u = some "*errors.errorString") : u = 159 :=
 typeName_ptr_named (nm := "errors.errorString") (by rw [star]; kernel_rfl) (by kernel_rfl) (by decide) u (by rw [star]; exact h)
theorem j5q (hsh : W.ShapedOpen PP) : 10 ≤ W.heap.size := by
 have h9 : ((((begin PP (fun _ _ => 0) default).world.heap[9]?).bind Obj.row?).isSome) = true := by kernel_rfl
 obtain ⟨⟨zero, t⟩, hz⟩ := Option.isSome_iff_exists.mp h9
 obtain ⟨cs, hcs, _⟩ := hsh.1 9 zero t (by rw [globals_size]; decide) hz
 have := (Array.getElem?_eq_some_iff.mp hcs).1
 omega
theorem laid_parts {rC rA rS rR : List (String × DataW Unit)} (hC : laidMet PP (("bulkhead/scan.classes", Rows.laid_bulkhead_scan_classes) :: rC) W) (hA : laidMet PP (("strings.asciiSpace", Rows.laid_strings_asciiSpace) :: rA) W)
   (hS : laidMet PP (("strconv.ErrSyntax", Rows.laid_strconv_ErrSyntax) :: rS) W) (hR : laidMet PP (("strconv.ErrRange", Rows.laid_strconv_ErrRange) :: rR) W) (hsh : W.ShapedOpen PP) : ∃ a4 a5, Laid W a4 a5 := by
 have eA : (Rows.laid_strings_asciiSpace : DataW Unit) = Lib.tabData .u8 asciiL := by kernel_rfl
 have eC : (Rows.laid_bulkhead_scan_classes : DataW Unit) = Lib.tabData .u8 classesL := by kernel_rfl
 rw [eA] at hA
 rw [eC] at hC
 obtain ⟨a5, s5, v5, k5, _⟩ := laid_sentinel hR g5 (by kernel_rfl) Tryz.underlying119 row159 Tryz.underlying159 Tryz.underlying161 rfl rfl Tryz.underlying9 (by kernel_rfl) (by kernel_rfl)
 obtain ⟨a4, s4, v4, k4, _⟩ := laid_sentinel hS g4 (by kernel_rfl) Tryz.underlying119 row159 Tryz.underlying159 Tryz.underlying161 rfl rfl Tryz.underlying9 (by kernel_rfl) (by kernel_rfl)
 have tA : Lib.TabIs PP W "strings.asciiSpace" .u8 asciiL := Lib.tabIs_of_head g2 (by kernel_rfl) Tryz.underlying127 Tryz.underlying5 (by kernel_rfl) (by kernel_rfl) hA
 have tC : Lib.TabIs PP W "bulkhead/scan.classes" .u8 classesL := Lib.tabIs_of_head g1 (by kernel_rfl) Tryz.underlying102 Tryz.underlying5 (by kernel_rfl) (by kernel_rfl) hC
 exact ⟨a4, a5, j5q hsh, tC, tA, v4, v5, ⟨_, k4⟩, ⟨_, k5⟩⟩
def row8 (zs : List UInt8) : Blk := ⟨zs.map fun u => .int .u8 (u.toNat : Int), false, 1, none⟩
def GA (zs : List UInt8) : Heap := { GE.set 12 (row8 zs) with next := 13 }
theorem jz6 (zs : List UInt8) (b : Nat) : (GA zs).get b = if b = 12 then some (row8 zs) else GE.get b := by
 rw [← Heap.get_set]; rfl
theorem yo6 {b : Nat} {x : Blk} (h : GE.get b = some x) : b < 10 := by
 rcases j5p b x h with ⟨rfl, _⟩ | ⟨rfl, _⟩ | ⟨rfl, _⟩ | ⟨rfl, _⟩ <;> decide
theorem j19 (zs : List UInt8) : ∀ b, 13 ≤ b → (GA zs).get b = none := fun b hb => by
 rw [jz6, if_neg (by omega)]
 cases h : GE.get b with
 | none => rfl
 | some x => have := yo6 h; omega
theorem yd0 (zs : List UInt8) : Tabs (GA zs) := ⟨rfl, rfl, rfl, rfl, by show 12 ≤ 13; omega, j19 zs⟩
structure InRow (w : World) (a : Addr) (zs : List UInt8) : Prop where
 blk : ∃ cs t fz, w.heap[a.block]? = some (.cells cs t fz)
 cell : ∀ i (h : i < zs.length), w.cell? (a.add i) = some (.int .u8 (zs[i].toNat : Int))
noncomputable def mA (w : World) (a4 a5 : Addr) (A : Addr) (n : Nat) : Mp := fun b =>
 if b < 10 then some ⟨b, 0, 1, szG PP b⟩ else if b = 10 then some ⟨a4.block, a4.off, 1, 0⟩ else if b = 11 then some ⟨a5.block, a5.off, 1, 0⟩
 else if b = 12 then some ⟨A.block, if n = 0 then 0 else A.off, 1, sizeAt w A.block⟩ else none
theorem j5r {i : Nat} {v : Value} {cs : Array Value} (hb : w.heap[a.block]? = some (.cells cs t fz)) (h : w.cell? (a.add i) = some v) (hs : a.spot = none) : cs[a.off + i]? = some v := by
 obtain ⟨b, off, spot⟩ := a
 simp only at hs hb
 subst hs
 rw [Addr.add_lit] at h
 simpa [World.cell?, hb] using h
theorem InRow.spot (h : InRow w a zs) (hn : zs.length ≠ 0) : a.spot = none := by
 have := World.cell?_spot (h.cell 0 (by omega))
 simpa [Addr.add] using this
theorem InRow.lt (h : InRow w a zs) : a.block < w.heap.size := by
 obtain ⟨cs, t, fz, hb⟩ := h.blk
 exact (Array.getElem?_eq_some_iff.mp hb).1
theorem j70 (m : Mp) {a : Addr} {zs : List UInt8} (hr : InRow w a zs) : Lies m w (row8 zs) ⟨a.block, if zs.length = 0 then 0 else a.off, 1, sizeAt w a.block⟩ := by
 obtain ⟨cs, t, fz, hb⟩ := hr.blk
 have hz : sizeAt w a.block = cs.size := by simp [sizeAt, hb]
 have at_ : ∀ i (hi : i < zs.length), cs[(if zs.length = 0 then 0 else a.off) + i]? = some (.int .u8 (zs[i].toNat : Int)) := fun i hi => by
   have hn : zs.length ≠ 0 := by omega
   rw [if_neg hn]
   exact j5r hb (hr.cell i hi) (hr.spot hn)
 refine ⟨rfl, ?_, fun _ => ⟨cs, t, fz, hb, hz.symm, fun i hi hj => ?_, fun hrw => by simp [row8] at hrw⟩, fun o ho => by simp [row8] at ho⟩
 · show (if zs.length = 0 then 0 else a.off) + (row8 zs).cells.length ≤ sizeAt w a.block
   have hlen : (row8 zs).cells.length = zs.length := by simp [row8]
   rw [hlen, hz]
   by_cases hn : zs.length = 0
   · rw [if_pos hn]; omega
   · have := (Array.getElem?_eq_some_iff.mp (at_ (zs.length - 1) (by omega))).1
     omega
 · have hi' : i < zs.length := by simpa [row8] using hi
   have e := at_ i hi'
   have e2 : cs[(if zs.length = 0 then 0 else a.off) + i] = .int .u8 (zs[i].toNat : Int) := by
     rw [Array.getElem?_eq_getElem hj] at e
     exact Option.some.inj e
   have e1 : (row8 zs).cells[i] = .int .u8 (zs[i].toNat : Int) := by simp [row8]
   show VR _ (row8 zs).cells[i] cs[(if zs.length = 0 then 0 else a.off) + i]
   rw [e1, e2]
   exact .atom _ rfl
theorem Laid.lies (h : Laid w a4 a5) (m : Mp) (m4 : m 10 = some ⟨a4.block, a4.off, 1, 0⟩) (m5 : m 11 = some ⟨a5.block, a5.off, 1, 0⟩) : ∀ b x, GE.get b = some x → x.rw = false ∧ Lies m w x ⟨b, 0, 1, szG PP b⟩ := by
 obtain ⟨t1, f1, h1⟩ := jj5 g1 h.classes
 obtain ⟨t2, f2, h2⟩ := jj5 g2 h.ascii
 obtain ⟨t4, f4, h4⟩ := jj5 g4 h.syn
 obtain ⟨t5, f5, h5⟩ := jj5 g5 h.rng
 have c4 := jj6 h.cell4
 have c5 := jj6 h.cell5
 intro b x hb
 rcases j5p b x hb with ⟨rfl, rfl⟩ | ⟨rfl, rfl⟩ | ⟨rfl, rfl⟩ | ⟨rfl, rfl⟩
 · exact ⟨rfl, j17 h2 (by kernel_rfl) (by decide +kernel)⟩
 · exact ⟨rfl, j17 h1 (by kernel_rfl) (by decide +kernel)⟩
 · exact ⟨rfl, j18 h4 (by kernel_rfl) c4.1 0 m4⟩
 · exact ⟨rfl, j18 h5 (by kernel_rfl) c5.1 0 m5⟩
theorem Laid.relA (h : Laid w a4 a5) {A : Addr} {zs : List UInt8} (hr : InRow w A zs) : Rel (mA w a4 a5 A zs.length) (GA zs) w := by
 have c4 := jj6 h.cell4
 have c5 := jj6 h.cell5
 refine ⟨fun b x hx => ?_, fun b x hx hrw => ?_, fun b L hm => ?_, fun b hb => ⟨?_, j19 zs b hb⟩⟩
 · rw [jz6] at hx
   by_cases e : b = 12
   · rw [if_pos e] at hx
     obtain rfl := Option.some.inj hx
     subst e
     exact ⟨_, rfl, j70 _ hr⟩
   rw [if_neg e] at hx
   have hlt := yo6 hx
   exact ⟨_, by unfold mA; rw [if_pos hlt], (h.lies (mA w a4 a5 A zs.length) rfl rfl b x hx).2⟩
 · rw [jz6] at hx
   by_cases e : b = 12
   · rw [if_pos e] at hx
     obtain rfl := Option.some.inj hx
     cases hrw
   rw [if_neg e] at hx
   have := (h.lies (mA w a4 a5 A zs.length) rfl rfl b x hx).1
   rw [this] at hrw; cases hrw
 · unfold mA at hm
   have hs' := h.size
   split at hm
   · obtain rfl := Option.some.inj hm; simp only; omega
   · split at hm
     · obtain rfl := Option.some.inj hm; exact c4.2
     · split at hm
       · obtain rfl := Option.some.inj hm; exact c5.2
       · split at hm
         · obtain rfl := Option.some.inj hm; exact hr.lt
         · cases hm
 · have : 13 ≤ b := hb
   unfold mA
   rw [if_neg (by omega), if_neg (by omega), if_neg (by omega), if_neg (by omega)]
theorem gl_A (w : World) (a4 a5 A : Addr) (n : Nat) : Gl PP (mA w a4 a5 A n) := fun g hg => by
 rw [globals_size] at hg
 exact ⟨⟨g, 0, 1, szG PP g⟩, by simp [mA, hg], rfl, rfl, rfl⟩
theorem yd1 (c : Nat) : ¬ Owns m (GA zs) c := by
 rintro ⟨b, x, L, h, hrw, _⟩
 have hrw := hrw rfl
 rw [jz6] at h
 by_cases e : b = 12
 · rw [if_pos e] at h
   obtain rfl := Option.some.inj h
   cases hrw
 rw [if_neg e] at h
 rcases j5p b x h with ⟨_, rfl⟩ | ⟨_, rfl⟩ | ⟨_, rfl⟩ | ⟨_, rfl⟩ <;> cases hrw
structure ArgRow (W : World) (v : Value) (A : Addr) (zs s : List UInt8) (c : Nat) (x : Nat → Option Addr) : Prop where
 row : InRow W A zs
 cap : s.length ≤ c
 val : ∀ (m : Mp) (b : Nat), m b = some ⟨A.block, if zs.length = 0 then 0 else A.off, 1, sizeAt W A.block⟩ → VR m (.slice (x b) s.length c) v
 brow : ∀ (H : Heap) (b : Nat), H.get b = some (row8 zs) → Brow H (x b) s
 blk : ∀ b y, x b = some y → y.block = b
theorem argNil (h : Laid W a4 a5) : ArgRow W (.slice none 0 0) ⟨1, 0, none⟩ [] [] 0 (fun _ => none) := by
 obtain ⟨t1, f1, h1⟩ := jj5 g1 h.classes
 exact ⟨⟨⟨_, t1, f1, h1⟩, fun i hi => absurd hi (by simp)⟩, Nat.le_refl _, fun m b _ => .atom _ rfl, fun H b _ => ⟨fun _ => rfl, fun y e => (by cases e), by decide⟩, fun b y e => by cases e⟩
theorem argSome {n : Nat} (hr : InRow W a zs) (hn : n ≤ zs.length) (hs : a.spot = none) (hz : zs.length < 2 ^ 47) : ArgRow W (.slice (some a) n zs.length) a zs (zs.take n) zs.length (fun b => some ⟨b, 0, none⟩) := by
 have hl : (zs.take n).length = n := by simp; omega
 refine ⟨hr, by omega, fun m b hm => ?_, fun H b hb => ?_, fun b y e => by cases e; rfl⟩
 · rw [hl]
   obtain ⟨cs, t, fz, hb⟩ := hr.blk
   refine .slice b 0 _ a n zs.length zs.length hm hn (Nat.le_refl _) rfl hs ?_
   by_cases h0 : zs.length = 0
   · exact .inl h0
   · refine .inr ⟨by simp [h0], ?_⟩
     have e := j5r hb (hr.cell (zs.length - 1) (by omega)) hs
     have := (Array.getElem?_eq_some_iff.mp e).1
     show a.off + zs.length * 1 ≤ sizeAt W a.block
     have hz : sizeAt W a.block = cs.size := by simp [sizeAt, hb]
     omega
 · refine ⟨fun e => (by cases e), fun y e => ?_, by omega⟩
   cases e
   refine ⟨(row8 zs).cells, false, rfl, hb, ?_, fun j hj => ?_⟩
   · simp [row8]; omega
   · have hj : j < n := by omega
     have h2 : j < zs.length := by omega
     simp [row8, h2]
theorem Ans.calls {P : Program} {f : FuncId} {fn : Func} (hf : P.funcs[f]? = some fn) (he : entersF fn = true) {args : Array Value} {H H' : Heap} {e : End} (h : Ans P f args H e H') {m : Mp} {w : World} {args' : Array Value} (hr : Rel m H w) (hg : Gl P m) (ha : VRa m args args') :
   Calls P f args' w fun e' w' => ∃ m', EndR m' e e' ∧ Step m H w m' H' w' := by
 rcases h m w args' hr hg ha with ⟨v, w', h1, _⟩ | ⟨_, h2⟩
 · simp only [entersF, Bool.and_eq_true, Bool.not_eq_true', beq_eq_false_iff_ne] at he
   obtain ⟨c, hc⟩ := Option.isSome_iff_exists.1 he.1
   simp [callFunc, hf, he.2, hc] at h1
 · exact h2
theorem law_calls {f : FuncId} {fn : Func} (hf : PP.funcs[f]? = some fn) (he : entersF fn = true)
   (hlaw : ∀ {H : Heap}, Tabs H → ∀ {a : Option Addr} {s : List UInt8} {c : Nat}, Brow H a s → (∀ y, a = some y → ∃ cs, H.get y.block = some ⟨cs, false, 1, none⟩) → s.length ≤ c → callW PP f #[.slice a s.length c] H (fun v _ => v = .bool true) fun _ _ => False)
   {W : World} {a4 a5 A : Addr} (hl : Laid W a4 a5) {v : Value} {zs s : List UInt8} {c : Nat} {x : Nat → Option Addr} (R : ArgRow W v A zs s c x) :
   Calls PP f #[v] W fun e w' => e = .returned (.bool true) ∧ Go.RowKit.Below W.heap.size W w' := by
 have h12 : (GA zs).get 12 = some (row8 zs) := by rw [jz6, if_pos rfl]
 rcases hlaw (yd0 zs) (R.brow _ 12 h12) (fun y e => ⟨_, by rw [R.blk 12 y e]; exact h12⟩) R.cap with ⟨u, H', h1, rfl⟩ | ⟨_, _, _, h⟩
 · refine (Ans.calls hf he h1 (hl.relA R.row) (gl_A W a4 a5 A zs.length) (VRs.cons (R.val _ 12 rfl) (VRs.nil _)).toArray).mono fun e w' ⟨m', h1, h2⟩ => ?_
   refine ⟨?_, j7z h2.keep fun c => yd1 c⟩
   cases e with
   | returned v' => rw [VR.eq_of_atomic (show VR m' (.bool true) v' from h1) rfl]
   | panicked c => exact h1.elim
   | _ => exact h1.elim
 · exact h.elim
end Go.Am
namespace Go.Am
def keyOf : MemPlace → Option Nat
 | .cell b off => if off < 4096 then some (b * 4096 + off) else none
 | .map _ => none
def seenB : List MemPlace → Nat → Bool
 | [], _ => true
 | p :: r, S => match keyOf p with | some k => !(S.testBit k) && seenB r (S ||| 2 ^ k) | none => false
theorem j2a : ∀ {l : List MemPlace} {S : Nat}, seenB l S = true → l.Nodup ∧ ∀ p ∈ l, ∃ k, keyOf p = some k ∧ S.testBit k = false
 | [], _, _ => ⟨List.nodup_nil, fun p h => by cases h⟩
 | p :: r, S, h => by
   unfold seenB at h
   split at h
   · rename_i k hk
     simp only [Bool.and_eq_true, Bool.not_eq_true'] at h
     obtain ⟨h1, h2⟩ := j2a h.2
     refine ⟨List.nodup_cons.2 ⟨fun hp => ?_, h1⟩, fun q hq => ?_⟩
     · obtain ⟨k', e1, e2⟩ := h2 p hp
       obtain rfl := Option.some.inj (hk.symm.trans e1)
       simp [Nat.testBit_or, Nat.testBit_two_pow_self] at e2
     · rcases List.mem_cons.1 hq with rfl | hq
       · exact ⟨k, hk, h.1⟩
       · obtain ⟨k', e1, e2⟩ := h2 q hq
         refine ⟨k', e1, ?_⟩
         simp only [Nat.testBit_or, Bool.or_eq_false_iff] at e2
         exact e2.1
   · cases h
theorem laidMet_of_bits {P : Program} {w : World} {l : List (String × DataW Unit)} (fuel : Nat) (h : (DataW.laidRun P w fuel (l.map (·.1))).map (·.1) = some l)
   (hn : (DataW.laidRun P w fuel (l.map (·.1))).map (fun x => seenB x.2 0) = some true) (hr : (DataW.laidRun P w fuel (l.map (·.1))).map (fun x => laidRowsB P w x.2) = some true) : laidMet P l w := by
 cases hx : DataW.laidRun P w fuel (l.map (·.1)) with
 | none => simp [hx] at h
 | some x =>
   obtain ⟨l', ps⟩ := x
   simp only [hx, Option.map_some, Option.some.injEq] at h hr hn
   subst h
   exact laidMet_of_run fuel hx (decide_eq_true (j2a hn).1) hr
end Go.Am
