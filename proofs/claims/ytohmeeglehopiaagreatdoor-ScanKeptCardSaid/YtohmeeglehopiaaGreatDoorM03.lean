/- Running code on abstract heaps: continuations, fuel for rounds, fuel for calls. -/
import Derived.Test.YtohmeeglehopiaaGreatDoorM02
import Derived.Scope
import Derived.Laws.Small
import Derived.ScopeJumps
import Derived.Orders
namespace Go.Am
inductive End where
 | ret (v : Value)
 | pan (c : List PanicEntry)
abbrev R := Option (End × Heap)
abbrev Kf := FuncId → Array Value → Heap → R
abbrev Xf := FuncId → Array Value → Heap → VH
def bindV (x : VH) (k : Value → Heap → R) : R := match x with | some (v, H) => k v H | none => none
def bindO (x : Option Value) (k : Value → R) : R := match x with | some v => k v | none => none
def bindR (x : R) (k : Value → Heap → R) (kp : List PanicEntry → Heap → R) : R :=
 match x with
 | some (.ret v, H) => k v H
 | some (.pan c, H) => kp c H
 | none => none
theorem jd4 {x : VH} {k : Value → Heap → R} {r : End × Heap} (h : bindV x k = some r) : ∃ v H, x = some (v, H) ∧ k v H = some r := by
 unfold bindV at h
 split at h
 · exact ⟨_, _, rfl, h⟩
 · simp at h
theorem je0 {x : Option Value} {k : Value → R} {r : End × Heap} (h : bindO x k = some r) : ∃ v, x = some v ∧ k v = some r := by
 unfold bindO at h
 split at h
 · exact ⟨_, rfl, h⟩
 · simp at h
def typed (_ : Option TypeDesc) (v : Value) (k : Value → R) : R := k v
theorem jv6 {d : Option TypeDesc} {v : Value} {k : Value → R} {r : End × Heap} (h : typed d v k = some r) : k v = some r := h
def pickV (t : Bool) (a b : Value) : Value :=
 match a, b with
 | .bool x, .bool y => .bool (cond t x y)
 | a, b => cond t a b
theorem j2i (t : Bool) (a b : Value) : pickV t a b = if t then a else b := by
 unfold pickV
 split <;> cases t <;> rfl
def builtinK (P : Program) (b : Builtin) (ts : Array TypeId) (args : Array Value) (H : Heap) (k : Value → Heap → R) : R :=
 match b, args.toList with
 | .len, [x] => match ts[0]? with | some t => bindO (lenA P t x H) fun v => k v H | none => none
 | .cap, [x] => match ts[0]? with | some t => bindO (capA P t x H) fun v => k v H | none => none
 | .append, [s, x] => if ts.size = 2 then bindV (appendA P ts s x H) k else none
 | .copy, [d, s] => bindV (copyA P ts d s H) k
 | .min, [.int ka a, .int kb b] => if ka = kb then k (.int ka (if b < a then b else a)) H else none
 | .max, [.int ka a, .int kb b] => if ka = kb then k (.int ka (if b > a then b else a)) H else none
 | _, _ => none
def callK (P : Program) (X : Xf) (K : Kf) (f : FuncId) (args : Array Value) (H : Heap) (k : Value → Heap → R) (kp : List PanicEntry → Heap → R) : R :=
 match P.funcs[f]? with
 | some fn => if fn.name == "runtime.NumGoroutine" then none else if fn.body.isNone then bindV (X f args H) k else bindR (K f args H) k kp
 | none => none
def groundK (v : Value) (k : R) : R := if ground v then k else none
def mapK (P : Program) (ρ : Operand → Value) (op : Op) (H : Heap) (k : Value → Heap → R) : R :=
 match op with
 | .makeMap t r => bindV (makeMapA P t (r.map ρ) H) k
 | .lookup t x i ok => bindO (lookupA P t (ρ x) (ρ i) ok H) fun v => k v H
 | .mapUpdate t x i v => bindV (mapUpdateA P t (ρ x) (ρ i) (ρ v) H) k
 | _ => none
def opK (P : Program) (X : Xf) (K : Kf) (ρ : Operand → Value) (o : Oper) (H : Heap) (k : Value → Heap → R) (kp : List PanicEntry → Heap → R) : R :=
 match o.op with
 | .move x | .assign x => k (ρ x) H
 | .pick c a b => match ρ c with | .bool t => k (pickV t (ρ a) (ρ b)) H | _ => none
 | .alloc e => bindV (allocA P e H) k
 | .box e x => bindV (boxA P e (ρ x) H) k
 | .build t parts => bindO (buildA P t (parts.map fun (i, x) => (i, ρ x))) fun v => k v H
 | .buildSlice t len parts => bindV (buildSliceA P t len (parts.map fun (i, x) => (i, ρ x)) H) k
 | .load t a => bindV (loadA P t (ρ a) H) k
 | .store t a x => bindV (storeA P t (ρ a) (ρ x) H) k
 | .nilCheck x => bindO (nilCheckA (ρ x)) fun v => k v H
 | .binOp op t x y _ => bindO (binA P op t x y (ρ x) (ρ y)) fun v => groundK v (k v H)
 | .unOp op _ x => bindO (unA P op (ρ x)) fun v => groundK v (k v H)
 | .convert s d x => bindV (convertA P s d (ρ x) H) k
 | .makeInterface t x => match P.underlying t with | some (.interface _) => none | some _ => k (.iface t (ρ x)) H | none => none
 | .makeFunc fn first cap => k (.func fn (first.map ρ) (cap.map ρ)) H
 | .makeSlice t l c => bindV (makeSliceA P t (ρ l) (ρ c) H) k
 | .slice t x lo hi mx => bindO (sliceOpA P t (ρ x) (lo.map ρ) (hi.map ρ) (mx.map ρ) H) fun v => k v H
 | .fieldAddr s x f => bindO (fieldAddrA P s (ρ x) f) fun v => k v H
 | .field t x f => bindO (fieldA P t (ρ x) f) fun v => k v H
 | .indexAddr t x i => bindO (indexAddrA P t (ρ x) (ρ i)) fun v => k v H
 | .index t x i => bindO (indexA P t (ρ x) (ρ i)) fun v => k v H
 | .extract t i => bindO (extractA (ρ t) i) fun v => k v H
 | .range t x => bindV (rangeA P t (ρ x) H) k
 | .next it str => bindV (nextA (ρ it) str H) k
 | .typeAssert x t u ok => bindO (assertA P (ρ x) t u ok) fun v => k v H
 | .panic x => match ρ x with | .iface t v => kp [{ v := .iface t v, recovered := false }] H | _ => none
 | .call c =>
   match c.callee with
   | .builtin b => builtinK P b c.argTypes (c.args.map ρ) H k
   | .value f => match ρ f with | .func (.func g) first cap => callK P X K g (first ++ c.args.map ρ ++ cap) H k kp | _ => none
   | .invoke _ _ => none
 | op => mapK P ρ op H k
inductive Out where
 | norm
 | exit (id : Nat)
 | goto (l : Nat)
 | ret
 | pan (c : List PanicEntry)
def splitB (b : Bool) (k : Bool → R) : R := cond b (k true) (k false)
theorem jn6 (b : Bool) (k : Bool → R) : splitB b k = k b := by cases b <;> rfl
def deferOf (ρ : Operand → Value) (c : Call) : Option Deferred :=
 match c.callee with
 | .value f => match ρ f with | .func fn first cap => some { target := .fn fn cap, args := first ++ c.args.map ρ } | _ => none
 | _ => none
def operandOk (P : Program) : Operand → Bool
 | .const v => ground v
 | .global g => decide (g < P.globals.size)
 | _ => true
def opOk (P : Program) (o : Oper) : Bool := o.op.operands.toList.all (operandOk P)
def execOp1 (P : Program) (X : Xf) (K : Kf) (o : Oper) (a : Act) (H : Heap) (k : Act → Heap → R) (kp : List PanicEntry → Act → Heap → R) : R :=
 cond (opOk P o) (match o.op with
 | .defer c => match deferOf a.eval c with
   | some d => k ({ a with defers := d :: a.defers }.put o.dst undef) H
   | none => none
 | _ => opK P X K a.eval o H (fun v H => typed (P.underlying o.type) v fun v => k (a.put o.dst v) H) (fun c H => kp c a H)) none
def guardK (ops : Array Oper) (o : Oper) (a : Act) (run : Act → R) (skip : Act → R) : R :=
 match o.guard with
 | none => run a
 | some (j, want) =>
   match (ops[j]?).bind (·.dst) with
   | none => skip a
   | some d =>
     match a.tmps[d]? with
     | some (.bool b) => splitB b fun b' => cond (b' == want) (run { a with tmps := a.tmps.setIfInBounds d (.bool b') }) (skip { a with tmps := a.tmps.setIfInBounds d (.bool b') })
     | some (.tuple _) => skip a
     | _ => none
def execOps (P : Program) (X : Xf) (K : Kf) (ops : Array Oper) : List Oper → Act → Heap → (Act → Heap → R) → (List PanicEntry → Act → Heap → R) → R
 | [], a, H, k, _ => k a H
 | o :: rest, a, H, k, kp =>
   guardK ops o a (fun a => execOp1 P X K o a H (fun a H => execOps P X K ops rest a H k kp) kp) (fun a => execOps P X K ops rest (a.put o.dst undef) H k kp)
def cls (P : Program) (o : Oper) : Nat :=
 match o.op with
 | .move _ | .assign _ | .pick .. | .build .. | .nilCheck _ | .binOp .. | .unOp .. | .makeInterface .. | .makeFunc .. | .fieldAddr .. | .field .. | .indexAddr .. | .index .. | .extract .. | .typeAssert .. => 0
 | .load .. | .slice .. => 1
 | .convert _ d _ => match P.underlying d with | some (.slice _) => 2 | some .string => 1 | some _ => 0 | none => 2
 | .call { callee := .builtin .cap, .. } | .call { callee := .builtin .len, .. } | .call { callee := .builtin .min, .. } | .call { callee := .builtin .max, .. } => 1
 | _ => 2
def noX : Xf := fun _ _ _ => none
def noK : Kf := fun _ _ _ => none
def qval (P : Program) (ρ : Operand → Value) (o : Oper) (H : Heap) : Option Value :=
 match opK P noX noK ρ o H (fun v H' => some (.ret v, H')) (fun _ _ => none) with
 | some (.ret v, _) => some v
 | _ => none
def veq0 : Value → Value → Bool
 | .bool a, .bool b => a == b
 | .int k a, .int k' b => k == k' && a == b
 | .string a, .string b => a.data.toList == b.data.toList
 | .pointer a, .pointer b => a == b
 | .slice a l c, .slice a' l' c' => a == a' && l == l' && c == c'
 | .map a, .map b => a == b
 | .nilFunc, .nilFunc => true
 | .nilIface, .nilIface => true
 | _, _ => false
def veqs : List Value → List Value → Bool
 | [], [] => true
 | a :: r, b :: s => veq0 a b && veqs r s
 | _, _ => false
def veq : Value → Value → Bool
 | .agg xs, .agg ys => veqs xs.toList ys.toList
 | .iface t v, .iface u w => t == u && veq0 v w
 | .func (.func g) xs ys, .func (.func h) zs us => g == h && (veqs xs.toList zs.toList && veqs ys.toList us.toList)
 | a, b => veq0 a b
def maskOf (acc : List Nat) (o : Oper) : Nat :=
 (o.after.toList.filter fun e => Region.binds .any e).foldl (fun s e => s ||| 2 ^ e.on ||| acc.getD e.on 0) 0
def masks : List Oper → List Nat → List Nat
 | [], acc => acc
 | o :: r, acc => masks r (acc ++ [maskOf acc o])
def dstIs (o : Oper) (t : Tmp) : Bool := match o.dst with | some d => d == t | none => false
def looks (ops : List Oper) (o : Oper) : List Tmp :=
 (o.op.operands.toList.filterMap fun | .tmp t => some t | _ => none) ++
 (match o.guard with
   | some (j, _) => match ops[j]? with | some oj => oj.dst.toList | none => []
   | none => [])
def isDefer (o : Oper) : Bool := match o.op with | .defer _ => true | _ => false
def drawOk (P : Program) (ops : List Oper) : Bool :=
 let b := masks ops []
 let n := ops.length
 (List.range n).all fun i =>
   match ops[i]? with
   | none => false
   | some oi =>
     !isDefer oi && decide (b.getD i 0 < 2 ^ i) &&
     (oi.after.toList.all fun e => !Region.binds .any e || decide (e.on < i)) &&
     (List.range n).all fun j =>
       match ops[j]? with
       | none => false
       | some oj =>
         (match oj.dst with
           | none => true
           | some d => (i == j || !dstIs oi d) && ((looks ops oi).all fun t => !(t == d) || (i != j && ((b.getD i 0).testBit j || (b.getD j 0).testBit i)))) &&
         (!(decide (i < j) && cls P oi == 2 && cls P oj == 2) || (b.getD j 0).testBit i)
def guardB (ops : Array Oper) (o : Oper) (a : Act) : Option Bool :=
 match o.guard with
 | none => some true
 | some (j, want) =>
   match (ops[j]?).bind (·.dst) with
   | none => some false
   | some d =>
     match a.tmps[d]? with
     | some (.bool b) => some (b == want)
     | some (.tuple _) => some false
     | _ => none
def drawChk (P : Program) (ops : Array Oper) (tr : List (Act × Heap)) : Bool :=
 let b := masks ops.toList []
 let n := ops.toList.length
 (List.range n).all fun i =>
   match ops.toList[i]?, tr[i]?, tr[i + 1]? with
   | some oi, some ti, some tn =>
     if cls P oi = 1 ∧ guardB ops oi ti.1 = some true then
       (List.range n).all fun p =>
         match ops.toList[p]? with
         | some op =>
           if cls P op = 2 ∧ (b.getD i 0).testBit p = false ∧ (b.getD p 0).testBit i = false then
             match tr[p]?, tr[p + 1]?, oi.dst with
             | some tp, some tq, some d =>
               (match qval P ti.1.eval oi tp.2 with | some v => veq v (tn.1.tmps.getD d undef) | none => false) &&
               (match qval P ti.1.eval oi tq.2 with | some v => veq v (tn.1.tmps.getD d undef) | none => false)
             | _, _, _ => false
           else true
         | none => true
     else true
   | _, _, _ => false
def mayPan (o : Oper) : Bool := match o.op with | .panic _ => true | .call c => (match c.callee with | .value _ => true | _ => false) | _ => false
def panAll (P : Program) (ops : List Oper) : Bool :=
 let b := masks ops []
 ((List.range ops.length).all fun i => match ops[i]? with
   | none => true
   | some o => match o.guard with | some (j, _) => decide (j < i) | none => true) &&
 (List.range ops.length).all fun p =>
   match ops[p]? with
   | none => true
   | some op => !mayPan op || ((List.range ops.length).all fun j => !decide (p < j) || (b.getD j 0).testBit p) &&
     (List.range p).all fun i => match ops[i]? with
       | none => true
       | some oi => !(cls P oi == 1) || (List.range p).all fun e => match ops[e]? with
         | none => true
         | some oe => !(cls P oe == 2) || ((b.getD i 0).testBit e || (b.getD e 0).testBit i)
def writes (ops : Array Oper) (i : Nat) : Bool := ops.toList.any fun o => dstIs o i
def eraseA (ops : Array Oper) (a : Act) : Act := { a with tmps := a.tmps.mapIdx fun i v => cond (writes ops i) undef v }
def execTr (P : Program) (X : Xf) (K : Kf) (ops : Array Oper) : List Oper → Act → Heap → List (Act × Heap) → (List (Act × Heap) → Act → Heap → R) → (List PanicEntry → Act → Heap → R) → R
 | [], a, H, tr, k, _ => k (tr ++ [(a, H)]) a H
 | o :: rest, a, H, tr, k, kp =>
   guardK ops o a (fun b => execOp1 P X K o b H (fun a' H' => execTr P X K ops rest a' H' (tr ++ [(b, H)]) k kp) kp) (fun b => execTr P X K ops rest (b.put o.dst undef) H (tr ++ [(b, H)]) k kp)
def loopC (body : Act → Heap → (Out → Act → Heap → R) → R) : Nat → Act → Heap → (Out → Act → Heap → R) → R
 | 0, _, _, _ => none
 | n + 1, a, H, k => body a H fun o a H => match o with | .norm => loopC body n a H k | o => k o a H
def hasLabel (l : Nat) : Code → Bool
 | .seq a b => hasLabel l a || hasLabel l b
 | .label l' => l' == l
 | _ => false
def scopeC (c : Code) (body : Option Nat → Act → Heap → (Out → Act → Heap → R) → R) : Nat → Option Nat → Act → Heap → (Out → Act → Heap → R) → R
 | 0, _, _, _, _ => none
 | n + 1, s, a, H, k => body s a H fun o a H => match o with | .goto l => cond (hasLabel l c) (scopeC c body n (some l) a H k) (k (.goto l) a H) | o => k o a H
def exec (P : Program) (X : Xf) (K : Kf) (N : Nat) : Code → Option Nat → Act → Heap → (Out → Act → Heap → R) → R
 | .seq x y, none, a, H, k => exec P X K N x none a H fun o a H => match o with | .norm => exec P X K N y none a H k | o => k o a H
 | .seq x y, some l, a, H, k => cond (hasLabel l x) (exec P X K N x (some l) a H fun o a H => match o with | .norm => exec P X K N y none a H k | o => k o a H) (exec P X K N y (some l) a H k)
 | .label l', some l, a, H, k => cond (l' == l) (k .norm a H) none
 | .label _, none, a, H, k => k .norm a H
 | .skip, none, a, H, k => k .norm a H
 | .region _ ops draw, none, a, H, k =>
   cond draw (cond (drawOk P ops.toList) (execTr P X K ops ops.toList a H [] (fun tr af Hf => cond (drawChk P ops tr) (k .norm af Hf) none) (fun c af Hf => cond (panAll P ops.toList) (k (.pan c) (eraseA ops af) Hf) none)) none)
     (execOps P X K ops ops.toList a H (fun a H => k .norm a H) (fun c a H => k (.pan c) a H))
 | .cond c x y, none, a, H, k => match a.eval c with | .bool t => cond t (exec P X K N x none a H k) (exec P X K N y none a H k) | _ => none
 | .block id b, none, a, H, k => exec P X K N b none a H fun o a H => match o with | .exit i => cond (i == id) (k .norm a H) (k (.exit i) a H) | o => k o a H
 | .loop b, none, a, H, k => loopC (exec P X K N b none) N a H k
 | .exit id, none, a, H, k => k (.exit id) a H
 | .scope b, none, a, H, k => scopeC b (exec P X K N b) N none a H k
 | .goto l, none, a, H, k => k (.goto l) a H
 | .ret, none, a, H, k => k .ret a H
 | _, _, _, _, _ => none
theorem jr0 {d : TypeDesc} {k : Value} (h : keyKind d k = true) : atomic k = true := by
 unfold keyKind at h; split at h <;> first | rfl | cases h
theorem jr1 {d : TypeDesc} {k q : Value} {b : Bool} (h : Instr.sameNow d k q = some b) : atomic q = true := by
 unfold Instr.sameNow at h; split at h <;> first | rfl | cases h
theorem yi6 {a b : ByteArray} (h : (a == b) = true) : a = b := by
 cases a; cases b; congr; exact eq_of_beq h
theorem j3x {d : TypeDesc} {k q : Value} (n : Nat) (h : Instr.sameNow d k q = some true) : Instr.sameBits n q k = true := by
 unfold Instr.sameNow at h
 split at h
 · split at h
   · rename_i e; subst e; simp only [Option.some.injEq, beq_iff_eq] at h; subst h; cases n <;> simp [Instr.sameBits]
   · cases h
 · simp only [Option.some.injEq] at h; have := yi6 h; subst this; cases n <;> exact h
 · simp only [Option.some.injEq, beq_iff_eq] at h; subst h; cases n <;> simp [Instr.sameBits]
 · cases h
def EsR (m : Mp) (xs ys : List MapEntry) : Prop := xs.length = ys.length ∧ ∀ (i : Nat) (a : i < xs.length) (b : i < ys.length), VR m xs[i].key ys[i].key ∧ VR m xs[i].val ys[i].val ∧ xs[i].born = ys[i].born
theorem EsR.head {m : Mp} {x y : MapEntry} {xs ys : List MapEntry} (h : EsR m (x :: xs) (y :: ys)) : VR m x.key y.key ∧ VR m x.val y.val := let z := h.2 0 (by simp) (by simp); ⟨z.1, z.2.1⟩
theorem EsR.tail {m : Mp} {x y : MapEntry} {xs ys : List MapEntry} (h : EsR m (x :: xs) (y :: ys)) : EsR m xs ys :=
 ⟨by simpa using h.1, fun i a b => by have := h.2 (i + 1) (by simpa using a) (by simpa using b); simpa using this⟩
theorem jj6 {m : Mp} {d : TypeDesc} {k : Value} : ∀ (xs ys : List MapEntry) (_ : EsR m xs ys) (i : Nat) (r : Option (Nat × Value)), Instr.findNow d k xs i = some r →
   ∃ r', Instr.findNow d k ys i = some r' ∧ (match r with | none => r' = none | some (j, v) => ∃ v', r' = some (j, v') ∧ VR m v v')
 | [], [], _, i, r, h => by
   simp only [Instr.findNow, Option.some.injEq] at h; subst h
   exact ⟨none, rfl, rfl⟩
 | [], _ :: _, he, _, _, _ => by have := he.1; simp at this
 | _ :: _, [], he, _, _, _ => by have := he.1; simp at this
 | x :: xs, y :: ys, he, i, r, h => by
   simp only [Instr.findNow] at h ⊢
   have hh := he.head
   split at h
   · rename_i e
     have := hh.1.eq_of_atomic (jr1 e)
     rw [this, e]
     simp only [Option.some.injEq] at h; subst h
     exact ⟨_, rfl, _, rfl, hh.2⟩
   · rename_i e
     have := hh.1.eq_of_atomic (jr1 e)
     rw [this, e]
     exact jj6 xs ys he.tail (i + 1) r h
   · cases h
theorem j1p {d : TypeDesc} {k : Value} : ∀ (xs : List MapEntry) (s j : Nat) (v : Value), Instr.findNow d k xs s = some (some (j, v)) → ∃ q e, j = s + q ∧ xs[q]? = some e ∧ Instr.sameNow d k e.key = some true
 | [], s, j, v, h => by simp [Instr.findNow] at h
 | x :: xs, s, j, v, h => by
   simp only [Instr.findNow] at h
   split at h
   · rename_i e
     simp only [Option.some.injEq, Prod.mk.injEq] at h
     exact ⟨0, x, by omega, rfl, e⟩
   · obtain ⟨q, e, h1, h2, h3⟩ := j1p xs (s + 1) j v h
     exact ⟨q + 1, e, by omega, by simpa using h2, h3⟩
   · cases h
theorem jx2 {P : Program} {w : World} {kt : TypeId} {d : TypeDesc} {k : Value} (b : Bool) (n : Nat) (hu : P.underlying kt = some d) (hk : keyKind d k = true) : (Instr.checkKey b (n + 1) kt k).run P w = .ok () w := by
 unfold keyKind at hk
 simp only [Instr.checkKey, Sem.run_bind, jb2 hu, Result.andThen_ok]
 split at hk
 · rfl
 · rfl
 · cases hk
theorem jm7 {P : Program} {w : World} {kt : TypeId} {d : TypeDesc} {k : Value} {es : List MapEntry} {r : Option (Nat × Value)} (hu : P.underlying kt = some d) (h : Instr.findNow d k es 0 = some r) : (Instr.findKey kt k es).run P w = .ok r w := by
 simp only [Instr.findKey, Sem.run_bind, jb2 hu, Result.andThen_ok, h, Sem.run_pure]
theorem j5c {P : Program} {m : Mp} {H : Heap} {w : World} (h : Rel m H w) {x x' : Value} (hx : VR m x x') {es : Array MapEntry} (he : entriesA H x = some es) :
   ∃ ys : Array MapEntry, EsR m es.toList ys.toList ∧ ((x' = .map none ∧ ys = #[]) ∨ ∃ r clock, x' = .map (some r) ∧ (getObj r).run P w = .ok (.map ys clock) w) := by
 unfold entriesA at he
 split at he
 · have := hx.eq_of_atomic rfl
   subst this
   simp only [Option.some.injEq] at he; subst he
   exact ⟨#[], ⟨rfl, fun i a => absurd a (by simp)⟩, .inl ⟨rfl, rfl⟩⟩
 · rename_i b
   split at he
   · rename_i y hy
     split at he
     · rename_i es' clock ho
       simp only [Option.some.injEq] at he; subst he
       cases hx with
       | atom _ ha => simp [atomic] at ha
       | map _ L hm =>
         obtain ⟨L', q1, q2⟩ := h.blk b y hy
         rw [hm] at q1; simp only [Option.some.injEq] at q1; subst q1
         obtain ⟨_, o', g1, g2⟩ := q2.ob _ ho
         cases g2 with
         | map _ ys _ hs hh =>
           have hget : (getObj L.c).run P w = .ok (.map ys clock) w := by simp [getObj, Sem.run, g1]
           refine ⟨ys, ⟨by simpa using hs, fun i a b => ?_⟩, .inr ⟨L.c, clock, rfl, hget⟩⟩
           simpa using hh i (by simpa using a) (by simpa using b)
     · cases he
   · cases he
 · cases he
theorem j1e {P : Program} {m : Mp} {H H' : Heap} {w : World} (h : Rel m H w) {t : TypeId} {x x' : Option Value} (hn : x = none → x' = none) (hx : ∀ y, x = some y → ∃ y', x' = some y' ∧ VR m y y') {v : Value} (he : makeMapA P t x H = some (v, H')) :
   Snd P (Instr.makeMap t x') m H w v H' := by
 unfold makeMapA at he
 have fin : (Instr.makeMap t x').run P w = .ok (.map (some w.heap.size)) { w with heap := w.heap.push (.map #[] 0) } → Snd P (Instr.makeMap t x') m H w (.map (some H.next)) (H.allocO (.map #[] 0)) := fun hr =>
   ⟨_, .map (some w.heap.size), { w with heap := w.heap.push (.map #[] 0) }, hr, .map H.next ⟨w.heap.size, 0, 0, 0⟩ (by simp [Mp.add]), Step.allocO h (.map #[] 0) (.map #[] 0) (.map #[] #[] 0 rfl (fun i a => absurd a (by simp))) rfl rfl rfl rfl⟩
 split at he
 · simp only [Option.some.injEq, Prod.mk.injEq] at he
   obtain ⟨rfl, rfl⟩ := he
   apply fin
   rw [hn rfl]
   simp [Instr.makeMap]
 · rename_i k n
   split at he
   · rename_i kt et hu
     simp only [Option.some.injEq, Prod.mk.injEq] at he
     obtain ⟨rfl, rfl⟩ := he
     apply fin
     obtain ⟨y', e, hv⟩ := hx _ rfl
     rw [hv.eq_of_atomic rfl] at e
     rw [e]
     simp [Instr.makeMap, jb2 hu, asInt]
     rfl
   · cases he
 · cases he
theorem j2j {P : Program} {m : Mp} {H : Heap} {w : World} (h : Rel m H w) {t : TypeId} {x x' k k' v : Value} {ok : Bool} (hx : VR m x x') (hk : VR m k k') (he : lookupA P t x k ok H = some v) :
   Snd P (Instr.lookup t x' k' ok) m H w v H := by
 unfold lookupA at he
 split at he
 · rename_i kt et hu
   split at he
   · rename_i d hd
     by_cases hko : keyKind d k = true
     · rw [if_pos hko] at he
       have ek := hk.eq_of_atomic (jr0 hko)
       subst ek
       split at he
       · rename_i es hes
         obtain ⟨ys, hr, hcase⟩ := j5c (P := P) h hx hes
         have hck := jx2 (w := w) ys.isEmpty 9999 hd hko
         split at he
         · rename_i j u hf
           obtain ⟨r', g1, u', g2, g3⟩ := jj6 _ _ hr 0 _ hf
           subst g2
           have hfk := jm7 (w := w) hd g1
           simp only [Option.some.injEq] at he; subst he
           refine .pure h (v' := if ok then .tuple #[u', .bool true] else u') ?_ ?_
           · rcases hcase with ⟨rfl, rfl⟩ | ⟨r, clock, rfl, hg⟩
             · simp only [Instr.lookup, Sem.run_bind, jb2 hu, Result.andThen_ok, Sem.run_pure]
               rw [hck]
               simp only [Result.andThen_ok, Sem.run_bind, hfk, Sem.run_pure]
             · simp only [Instr.lookup, Sem.run_bind, jb2 hu, Result.andThen_ok, Sem.run_pure, hg]
               rw [hck]
               simp only [Result.andThen_ok, Sem.run_bind, hfk, Sem.run_pure]
           · cases ok
             · exact g3
             · exact (VRs.cons g3 (VRs.cons (.bool m true) (VRs.nil m))).toArray |> fun z => .tuple _ _ z.1 z.2
         · rename_i hf
           obtain ⟨r', g1, g2⟩ := jj6 _ _ hr 0 _ hf
           simp only at g2
           subst g2
           have hfk := jm7 (w := w) hd g1
           split at he
           · rename_i z hz
             unfold zeroA at hz
             split at hz
             · rename_i i hi
               split at hz
               · rename_i z' hz'
                 split at hz
                 · rename_i hgr
                   simp only [Option.some.injEq] at hz; subst hz
                   simp only [Option.some.injEq] at he; subst he
                   refine .pure h (v' := if ok then .tuple #[z', .bool false] else z') ?_ ?_
                   · rcases hcase with ⟨rfl, rfl⟩ | ⟨r, clock, rfl, hg⟩
                     · simp only [Instr.lookup, Sem.run_bind, jb2 hu, Result.andThen_ok, Sem.run_pure]
                       rw [hck]
                       simp only [Result.andThen_ok, Sem.run_bind, hfk, jh2 hi hz', Sem.run_pure]
                     · simp only [Instr.lookup, Sem.run_bind, jb2 hu, Result.andThen_ok, Sem.run_pure, hg]
                       rw [hck]
                       simp only [Result.andThen_ok, Sem.run_bind, hfk, jh2 hi hz', Sem.run_pure]
                   · cases ok
                     · exact .of_ground hgr
                     · exact (VRs.cons (.of_ground hgr) (VRs.cons (.bool m false) (VRs.nil m))).toArray |> fun z => .tuple _ _ z.1 z.2
                 · cases hz
               · cases hz
             · cases hz
           · cases he
         · cases he
       · cases he
     · rw [if_neg hko] at he; cases he
   · cases he
 · cases he
theorem jy4 {P : Program} {m : Mp} {H H' : Heap} {w : World} (h : Rel m H w) {t : TypeId} {x x' k k' u u' v : Value} (hx : VR m x x') (hk : VR m k k') (hv : VR m u u') (he : mapUpdateA P t x k u H = some (v, H')) :
   v = undef ∧ ∃ m' w', (Instr.mapUpdate t x' k' u').run P w = .ok () w' ∧ Step m H w m' H' w' := by
 unfold mapUpdateA at he
 split at he
 · rename_i kt et hu
   split at he
   · rename_i d hd
     by_cases hko : keyKind d k = true
     · rw [if_pos hko] at he
       have ek := hk.eq_of_atomic (jr0 hko)
       subst ek
       split at he
       · rename_i b
         split at he
         · rename_i y hy
           by_cases hrw : y.rw = true
           · rw [if_pos hrw] at he
             split at he
             · rename_i es clock ho
               cases hx with
               | atom _ ha => simp [atomic] at ha
               | map _ L hm =>
               obtain ⟨L', q1, q2⟩ := h.blk b y hy
               rw [hm] at q1; simp only [Option.some.injEq] at q1; subst q1
               obtain ⟨_, o', g1, g2⟩ := q2.ob _ ho
               cases g2 with
               | map _ ys _ hs hh =>
               have hget : (getObj L.c).run P w = .ok (.map ys clock) w := by simp [getObj, Sem.run, g1]
               have hr : EsR m es.toList ys.toList := ⟨by simpa using hs, fun i a b => by simpa using hh i (by simpa using a) (by simpa using b)⟩
               have hck := jx2 (w := w) false 9999 hd hko
               have hset : ∀ o2, (setObj L.c o2).run P w = .ok () { w with heap := w.heap.setIfInBounds L.c o2 } := fun o2 => by simp [setObj, Sem.run, g1]
               split at he
               · rename_i i z hf
                 simp only [Option.some.injEq, Prod.mk.injEq] at he
                 obtain ⟨rfl, rfl⟩ := he
                 obtain ⟨r', f1, z', f2, f3⟩ := jj6 _ _ hr 0 _ hf
                 subst f2
                 have hfk := jm7 (w := w) hd f1
                 obtain ⟨q, e, e1, e2, e3⟩ := j1p _ _ _ _ f1
                 have hq : i = q := by omega
                 subst hq
                 have e2' : ys[i]? = some e := by simpa using e2
                 have hbits := j3x 10000 e3
                 refine ⟨rfl, m, { w with heap := w.heap.setIfInBounds L.c (.map (ys.modify i fun e => { e with key := k', val := u' }) clock) }, ?_, Step.setO h hy hrw ho hm _ (.map (ys.modify i fun e => { e with key := k', val := u' }) clock) (.map _ _ _ (by simp [hs]) fun j a b => ?_) rfl rfl rfl rfl⟩
                 · simp only [Instr.mapUpdate, Sem.run_bind, jb2 hu, Result.andThen_ok, hget]
                   rw [hck]
                   simp only [Result.andThen_ok, Sem.run_bind, hfk, e2', Option.map_some, Option.getD_some, Instr.keyThatStays, hbits, if_true, Sem.run_pure, hset]
                 · have a' : j < es.size := by simpa using a
                   have b' : j < ys.size := by simpa using b
                   have old := hh j a' b'
                   simp only [Array.getElem_modify]
                   by_cases c : i = j
                   · simp only [c, if_true]; exact ⟨hk, hv, old.2.2⟩
                   · simp only [c, if_false]; exact old
               · rename_i hf
                 simp only [Option.some.injEq, Prod.mk.injEq] at he
                 obtain ⟨rfl, rfl⟩ := he
                 obtain ⟨r', f1, f2⟩ := jj6 _ _ hr 0 _ hf
                 simp only at f2
                 subst f2
                 have hfk := jm7 (w := w) hd f1
                 refine ⟨rfl, m, { w with heap := w.heap.setIfInBounds L.c (.map (ys.push { key := k', val := u', born := clock }) (clock + 1)) }, ?_, Step.setO h hy hrw ho hm _ (.map (ys.push { key := k', val := u', born := clock }) (clock + 1)) (.map _ _ _ (by simp [hs]) fun j a b => ?_) rfl rfl rfl rfl⟩
                 · simp only [Instr.mapUpdate, Sem.run_bind, jb2 hu, Result.andThen_ok, hget]
                   rw [hck]
                   simp only [Result.andThen_ok, hfk, hset]
                 · simp only [Array.size_push] at a b
                   by_cases c : j < es.size
                   · have c' : j < ys.size := by omega
                     simp only [Array.getElem_push_lt c, Array.getElem_push_lt c']
                     exact hh j c c'
                   · have c1 : j = es.size := by omega
                     have c2 : j = ys.size := by omega
                     subst c1
                     simp only [Array.getElem_push_eq]
                     simp only [c2, Array.getElem_push_eq]
                     exact ⟨hk, hv, trivial⟩
               · cases he
             · cases he
           · rw [if_neg hrw] at he; cases he
         · cases he
       · cases he
     · rw [if_neg hko] at he; cases he
   · cases he
 · cases he
def szG (P : Program) (g : Nat) : Nat := match P.globals[g]? with | some x => P.cellsOf x.type | none => 0
def Gl (P : Program) (m : Mp) : Prop := ∀ g, g < P.globals.size → ∃ L, m g = some L ∧ L.c = g ∧ L.base = 0 ∧ L.e = szG P g
theorem Gl.mono {P : Program} {m m' : Mp} (h : Gl P m) (hm : m.le m') : Gl P m' := fun g hg => let ⟨L, a, b⟩ := h g hg; ⟨L, hm _ _ a, b⟩
def PanR (m : Mp) (c c' : List PanicEntry) : Prop := c.length = c'.length ∧ ∀ i (a : i < c.length) (b : i < c'.length), VR m c[i].v c'[i].v ∧ c[i].recovered = c'[i].recovered ∧ c[i].goexit = c'[i].goexit
theorem PanR.mono {m m' : Mp} (hm : m.le m') {c c' : List PanicEntry} (h : PanR m c c') : PanR m' c c' := ⟨h.1, fun i a b => ⟨(h.2 i a b).1.mono hm, (h.2 i a b).2⟩⟩
def DR (m : Mp) (d d' : Deferred) : Prop := ∃ fn cap cap', d.target = .fn fn cap ∧ d'.target = .fn fn cap' ∧ VRa m cap cap' ∧ VRa m d.args d'.args
theorem DR.mono {m m' : Mp} (hm : m.le m') {d d' : Deferred} (h : DR m d d') : DR m' d d' := let ⟨fn, c, c', a, b, x, y⟩ := h; ⟨fn, c, c', a, b, x.mono hm, y.mono hm⟩
inductive DRs (m : Mp) : List Deferred → List Deferred → Prop where
 | nil : DRs m [] []
 | cons {d d' : Deferred} {l l' : List Deferred} (h : DR m d d') (t : DRs m l l') : DRs m (d :: l) (d' :: l')
theorem DRs.mono {m m' : Mp} (hm : m.le m') {l l' : List Deferred} (h : DRs m l l') : DRs m' l l' := by
 induction h with
 | nil => exact .nil
 | cons h _ ih => exact .cons (h.mono hm) ih
structure ActR (m : Mp) (a a' : Act) : Prop where
 tmps : VRa m a.tmps a'.tmps
 defers : DRs m a.defers a'.defers
theorem ActR.mono {m m' : Mp} (hm : m.le m') {a a' : Act} (h : ActR m a a') : ActR m' a a' := ⟨h.tmps.mono hm, h.defers.mono hm⟩
theorem ActR.put {m : Mp} {a a' : Act} (h : ActR m a a') (dst : Option Tmp) {v v' : Value} (hv : VR m v v') : ActR m (a.put dst v) (a'.put dst v') := by
 cases dst with
 | none => exact h
 | some d => exact ⟨h.tmps.set d hv, h.defers⟩
def EndR (m : Mp) : End → Ending → Prop
 | .ret v, .returned v' => VR m v v'
 | .pan c, .panicked c' => PanR m c c'
 | _, _ => False
def KSnd (P : Program) (K : Kf) : Prop := ∀ f args H r H', K f args H = some (r, H') → ∀ m w args', Rel m H w → Gl P m → VRa m args args' →
 Calls P f args' w fun e w' => ∃ m', EndR m' r e ∧ Step m H w m' H' w'
def XSnd (P : Program) (X : Xf) : Prop := ∀ f args H v H', X f args H = some (v, H') → ∀ m w args', Rel m H w → Gl P m → VRa m args args' →
 ∃ m' v' w', (callFunc f args').run P w = .ok (.value v') w' ∧ VR m' v v' ∧ Step m H w m' H' w'
theorem j9y {P : Program} {m : Mp} {a a' : Act} (h : ActR m a a') (hg : Gl P m) {x : Operand} (hx : operandOk P x = true) : VR m (a.eval x) (a'.eval x) := by
 cases x with
 | tmp t => exact h.tmps.getD t (.undef m)
 | const v => exact .of_ground hx
 | global g =>
   have hlt : g < P.globals.size := by simpa [operandOk] using hx
   obtain ⟨L, h1, h2, h3, _⟩ := hg g hlt
   have := VR.ptr (m := m) g 0 L h1
   rw [h2, h3] at this
   exact this
 | func f => exact .func (.func f) #[] #[] #[] #[] rfl rfl (fun i h => absurd h (by simp)) (fun i h => absurd h (by simp))
structure Goes (P : Program) (o : Oper) (a' : Act) (m : Mp) (H : Heap) (w : World) (k : Value → Heap → R) (kp : List PanicEntry → Heap → R) (r : End × Heap)
   (next : Act → World → Prop) (Q : Exit → Act → World → Prop) : Prop where
 val : ∀ m' v v' H' w', VR m' v v' → Step m H w m' H' w' → k v H' = some r → next (a'.put o.dst v') w'
 pan : ∀ m' c c' H' w', PanR m' c c' → Step m H w m' H' w' → kp c H' = some r → Q (.panic c') a' w'
theorem jc8 {P : Program} {o : Oper} {a' : Act} {m : Mp} {H : Heap} {w : World} {k : Value → Heap → R} {kp : List PanicEntry → Heap → R} {r : End × Heap} {next : Act → World → Prop} {Q : Exit → Act → World → Prop}
   (hg : Goes P o a' m H w k kp r next Q) {s : Sem Value} (he : execOp a'.eval o = (do Pure.pure (.value (← s)))) {v : Value} {H' : Heap} (hs : Snd P s m H w v H') (hk : k v H' = some r) :
   o.upon P a' next Q ((execOp a'.eval o).run P w) := by
 obtain ⟨m', v', w', h1, h2, h3⟩ := hs
 rw [he, Sem.run_bind, h1]
 exact hg.val m' v v' H' w' h2 h3 hk
theorem j9z {m : Mp} {ρ ρ' : Operand → Value} {parts : Array (Nat × Operand)} (h : ∀ x ∈ (parts.toList.map (·.2)), VR m (ρ x) (ρ' x)) :
   VRp m (parts.map fun (i, x) => (i, ρ x)).toList (parts.map fun (i, x) => (i, ρ' x)).toList := by
 refine ⟨by simp, fun i a b => ?_⟩
 simp only [Array.toList_map, List.getElem_map, Array.getElem_toList, true_and]
 refine h _ (List.mem_map.2 ⟨parts[i]'(by simpa using a), by simp, rfl⟩)
theorem jv7 {m : Mp} {ρ ρ' : Operand → Value} {xs : Array Operand} (h : ∀ x ∈ xs.toList, VR m (ρ x) (ρ' x)) : VRa m (xs.map ρ) (xs.map ρ') :=
 ⟨by simp, fun i a b => by simp only [Array.getElem_map]; exact h _ (by simp)⟩
theorem j5d {m : Mp} {ρ ρ' : Operand → Value} {x : Option Operand} (h : ∀ y ∈ x.toList, VR m (ρ y) (ρ' y)) : VRo m (x.map ρ) (x.map ρ') := by
 cases x with
 | none => trivial
 | some y => exact h y (by simp)
theorem j5e {P : Program} {X : Xf} {K : Kf} (hX : XSnd P X) (hK : KSnd P K) {o : Oper} {a' : Act} {m : Mp} {H : Heap} {w : World} (h : Rel m H w) (hgl : Gl P m)
   {k : Value → Heap → R} {kp : List PanicEntry → Heap → R} {r : End × Heap} {next : Act → World → Prop} {Q : Exit → Act → World → Prop} (hg : Goes P o a' m H w k kp r next Q)
   {f : FuncId} {args args' : Array Value} (hargs : VRa m args args') (he : callK P X K f args H k kp = some r) :
   o.upon P a' next Q ((callFunc f args').run P w) := by
 unfold callK at he
 split at he
 · rename_i fn hf
   by_cases hn : (fn.name == "runtime.NumGoroutine") = true
   · rw [if_pos hn] at he; simp at he
   · rw [if_neg hn] at he
     by_cases hb : fn.body.isNone = true
     · rw [if_pos hb] at he
       obtain ⟨v, H', hx, hk⟩ := jd4 he
       obtain ⟨m', v', w', h1, h2, h3⟩ := hX f args H v H' hx m w args' h hgl hargs
       rw [h1]
       exact hg.val m' v v' H' w' h2 h3 hk
     · rw [if_neg hb] at he
       have hrun : (callFunc f args').run P w = .ok (.enter f args') w := by
         unfold callFunc
         simp only [Sem.run_bind, run_program, Result.andThen_ok, hf]
         rw [if_neg hn, if_neg hb]
         rfl
       rw [hrun, Oper.upon_enter]
       unfold bindR at he
       split at he
       · rename_i v H' hk
         refine (hK f args H _ _ hk m w args' h hgl hargs).mono fun e w' ⟨m', h1, h2⟩ => ?_
         cases e with
         | returned v' => exact hg.val m' v v' H' w' h1 h2 he
         | panicked c' => exact h1.elim
         | outgrown => exact h1.elim
       · rename_i c H' hk
         refine (hK f args H _ _ hk m w args' h hgl hargs).mono fun e w' ⟨m', h1, h2⟩ => ?_
         cases e with
         | returned v' => exact h1.elim
         | panicked c' => exact hg.pan m' c c' H' w' h1 h2 he
         | outgrown => exact h1.elim
       · simp at he
 · simp at he
theorem j1f {P : Program} {o : Oper} {a' : Act} {m : Mp} {H : Heap} {w : World} (h : Rel m H w)
   {k : Value → Heap → R} {kp : List PanicEntry → Heap → R} {r : End × Heap} {next : Act → World → Prop} {Q : Exit → Act → World → Prop} (hg : Goes P o a' m H w k kp r next Q)
   {b : Builtin} {ts : Array TypeId} {ty : TypeId} {cs : Array Bool} {args args' : Array Value} (hargs : VRa m args args') (he : builtinK P b ts args H k = some r) :
   o.upon P a' next Q ((builtin b ts ty cs args').run P w) := by
 have hl := hargs.toList
 obtain ⟨args⟩ := args
 obtain ⟨args'⟩ := args'
 simp only at hl
 have fin : ∀ {s : Sem Value} {v : Value} {H' : Heap}, Snd P s m H w v H' → k v H' = some r → o.upon P a' next Q ((do Pure.pure (Next.value (← s)) : Sem Next).run P w) := by
   intro s v H' hs hk
   obtain ⟨m', v', w', h1, h2, h3⟩ := hs
   rw [Sem.run_bind, h1]
   exact hg.val m' v v' H' w' h2 h3 hk
 unfold builtinK at he
 split at he
 · rename_i x hx
   simp only at hx; subst hx
   match args', hl with
   | [x'], hl =>
     split at he
     · rename_i t ht
       obtain ⟨v, hv, hk⟩ := je0 he
       exact fin (j8c h ht hl.head hv) hk
     · simp at he
   | [], hl => have := hl.1; simp at this
   | _ :: _ :: _, hl => have := hl.1; simp at this
 · rename_i x hx
   simp only at hx; subst hx
   match args', hl with
   | [x'], hl =>
     split at he
     · rename_i t ht
       obtain ⟨v, hv, hk⟩ := je0 he
       exact fin (j8d h ht hl.head hv) hk
     · simp at he
   | [], hl => have := hl.1; simp at this
   | _ :: _ :: _, hl => have := hl.1; simp at this
 · rename_i x y hx
   simp only at hx; subst hx
   match args', hl with
   | [x', y'], hl =>
     by_cases h2 : ts.size = 2
     · rw [if_pos h2] at he
       obtain ⟨v, H', hv, hk⟩ := jd4 he
       exact fin (j2h h h2 hl.head hl.tail.head hv) hk
     · rw [if_neg h2] at he; simp at he
   | [], hl => have := hl.1; simp at this
   | [_], hl => have := hl.1; simp at this
   | _ :: _ :: _ :: _, hl => have := hl.1; simp at this
 · rename_i x y hx
   simp only at hx; subst hx
   match args', hl with
   | [x', y'], hl =>
     obtain ⟨v, H', hv, hk⟩ := jd4 he
     exact fin (j5b h hl.head hl.tail.head hv) hk
   | [], hl => have := hl.1; simp at this
   | [_], hl => have := hl.1; simp at this
   | _ :: _ :: _ :: _, hl => have := hl.1; simp at this
 · rename_i ka a kb b hx
   simp only at hx; subst hx
   match args', hl with
   | [x', y'], hl =>
     have e1 := hl.head.int_inv; have e2 := hl.tail.head.int_inv
     subst e1; subst e2
     by_cases hkk : ka = kb
     · rw [if_pos hkk] at he
       subst hkk
       refine fin (s := Builtin.min_ ts ty #[.int ka a, .int ka b]) (.pure h ?_ (.int m ka _)) he
       rw [run_min_int2]
     · rw [if_neg hkk] at he; simp at he
   | [], hl => have := hl.1; simp at this
   | [_], hl => have := hl.1; simp at this
   | _ :: _ :: _ :: _, hl => have := hl.1; simp at this
 · rename_i ka a kb b hx
   simp only at hx; subst hx
   match args', hl with
   | [x', y'], hl =>
     have e1 := hl.head.int_inv; have e2 := hl.tail.head.int_inv
     subst e1; subst e2
     by_cases hkk : ka = kb
     · rw [if_pos hkk] at he
       subst hkk
       refine fin (s := Builtin.max_ ts ty #[.int ka a, .int ka b]) (.pure h ?_ (.int m ka _)) he
       rw [run_max_int2]
     · rw [if_neg hkk] at he; simp at he
   | [], hl => have := hl.1; simp at this
   | [_], hl => have := hl.1; simp at this
   | _ :: _ :: _ :: _, hl => have := hl.1; simp at this
 · simp at he
theorem j8g {P : Program} {o : Oper} {a' : Act} {m : Mp} {H : Heap} {w : World} (h : Rel m H w)
   {ρ : Operand → Value} (hρ : ∀ x ∈ o.op.operands.toList, VR m (ρ x) (a'.eval x))
   {k : Value → Heap → R} {kp : List PanicEntry → Heap → R} {r : End × Heap} {next : Act → World → Prop} {Q : Exit → Act → World → Prop} (hg : Goes P o a' m H w k kp r next Q)
   (he : mapK P ρ o.op H k = some r) : o.upon P a' next Q ((execOp a'.eval o).run P w) := by
 unfold mapK at he
 split at he
 · rename_i t hint ho
   obtain ⟨v, H', hv, hk⟩ := jd4 he
   refine jc8 (s := Instr.makeMap t (hint.map a'.eval)) hg (by simp only [execOp, ho]) (j1e h (fun e => ?_) (fun y e => ?_) hv) hk
   · cases hint with
     | none => rfl
     | some x => cases e
   · cases hint with
     | none => cases e
     | some x =>
       simp only [Option.map_some, Option.some.injEq] at e
       subst e
       exact ⟨_, rfl, hρ x (by simp [ho, Op.operands])⟩
 · rename_i t x i ok ho
   have hx := hρ x (by simp [ho, Op.operands])
   have hi := hρ i (by simp [ho, Op.operands])
   obtain ⟨v, hv, hk⟩ := je0 he
   exact jc8 (s := Instr.lookup t (a'.eval x) (a'.eval i) ok) hg (by simp only [execOp, ho]) (j2j h hx hi hv) hk
 · rename_i t x i y ho
   have hx := hρ x (by simp [ho, Op.operands])
   have hi := hρ i (by simp [ho, Op.operands])
   have hy := hρ y (by simp [ho, Op.operands])
   obtain ⟨v, H', hv, hk⟩ := jd4 he
   obtain ⟨rfl, m', w', h1, h2⟩ := jy4 h hx hi hy hv
   have hex : (execOp a'.eval o).run P w = .ok .skip w' := by simp only [execOp, ho, Sem.run_bind, h1, Result.andThen_ok, Sem.run_pure]
   rw [hex]
   exact hg.val m' _ _ H' w' (.undef m') h2 hk
 · cases he
theorem jj7 {P : Program} {X : Xf} {K : Kf} (hX : XSnd P X) (hK : KSnd P K) {o : Oper} {a' : Act} {m : Mp} {H : Heap} {w : World} (h : Rel m H w) (hgl : Gl P m)
   {ρ : Operand → Value} (hρ : ∀ x ∈ o.op.operands.toList, VR m (ρ x) (a'.eval x))
   {k : Value → Heap → R} {kp : List PanicEntry → Heap → R} {r : End × Heap} {next : Act → World → Prop} {Q : Exit → Act → World → Prop} (hg : Goes P o a' m H w k kp r next Q)
   (he : opK P X K ρ o H k kp = some r) : o.upon P a' next Q ((execOp a'.eval o).run P w) := by
 unfold opK at he
 split at he
 · rename_i x ho
   have hx := hρ x (by simp [ho, Op.operands])
   rw [show execOp a'.eval o = Pure.pure (.value (a'.eval x)) by simp only [execOp, ho]]
   exact hg.val m _ _ H w hx (.refl h) he
 · rename_i x ho
   have hx := hρ x (by simp [ho, Op.operands])
   rw [show execOp a'.eval o = Pure.pure (.value (a'.eval x)) by simp only [execOp, ho]]
   exact hg.val m _ _ H w hx (.refl h) he
 · rename_i c x y ho
   have hc := hρ c (by simp [ho, Op.operands])
   have hx := hρ x (by simp [ho, Op.operands])
   have hy := hρ y (by simp [ho, Op.operands])
   split at he
   · rename_i t ht
     rw [ht] at hc
     have hc' := hc.bool_inv
     rw [show (execOp a'.eval o).run P w = .ok (.value (if t then a'.eval x else a'.eval y)) w by simp only [execOp, ho, Sem.run_bind, hc', asBool, Sem.run_pure, Result.andThen_ok]]
     refine hg.val m _ _ H w ?_ (.refl h) he
     rw [j2i]; cases t <;> assumption
   · simp at he
 · rename_i e ho
   obtain ⟨v, H', hv, hk⟩ := jd4 he
   exact jc8 hg (by simp only [execOp, ho]) (j3p h hv) hk
 · rename_i e x ho
   have hx := hρ x (by simp [ho, Op.operands])
   obtain ⟨v, H', hv, hk⟩ := jd4 he
   exact jc8 hg (by simp only [execOp, ho]) (j8a h hx hv) hk
 · rename_i t parts ho
   obtain ⟨v, hv, hk⟩ := je0 he
   refine jc8 hg (by simp only [execOp, ho]) (j3q h (j9z (fun x hx => hρ x ?_)) hv) hk
   simp only [ho, Op.operands]; exact hx
 · rename_i t len parts ho
   obtain ⟨v, H', hv, hk⟩ := jd4 he
   refine jc8 hg (by simp only [execOp, ho]) (jv5 h (j9z (fun x hx => hρ x ?_)) hv) hk
   simp only [ho, Op.operands]; exact hx
 · rename_i t x ho
   have hx := hρ x (by simp [ho, Op.operands])
   obtain ⟨v, H', hv, hk⟩ := jd4 he
   exact jc8 hg (by simp only [execOp, ho]) (j48 h hx hv) hk
 · rename_i t x y ho
   have hx := hρ x (by simp [ho, Op.operands])
   have hy := hρ y (by simp [ho, Op.operands])
   obtain ⟨v, H', hv, hk⟩ := jd4 he
   obtain ⟨rfl, m', w', h1, h2⟩ := j3o h hx hy hv
   have hex : (execOp a'.eval o).run P w = .ok .skip w' := by simp only [execOp, ho, Sem.run_bind, h1, Result.andThen_ok, Sem.run_pure]
   rw [hex]
   exact hg.val m' _ _ H' w' (.undef m') h2 hk
 · rename_i x ho
   have hx := hρ x (by simp [ho, Op.operands])
   obtain ⟨v, hv, hk⟩ := je0 he
   obtain ⟨v', h1, h2⟩ := j0c (P := P) (w := w) ho hx hv
   rw [h1]
   exact hg.val m v v' H w h2 (.refl h) hk
 · rename_i op t x y yt ho
   have hx := hρ x (by simp [ho, Op.operands])
   have hy := hρ y (by simp [ho, Op.operands])
   obtain ⟨v, hv, hk⟩ := je0 he
   unfold groundK at hk
   by_cases hgr : ground v = true
   · rw [if_pos hgr] at hk
     exact jc8 hg (by simp only [execOp, ho]) (j8b h hx hy hv hgr) hk
   · rw [if_neg hgr] at hk; simp at hk
 · rename_i op t x ho
   have hx := hρ x (by simp [ho, Op.operands])
   obtain ⟨v, hv, hk⟩ := je0 he
   unfold groundK at hk
   by_cases hgr : ground v = true
   · rw [if_pos hgr] at hk
     exact jc8 hg (by simp only [execOp, ho]) (j9v h hx hv hgr) hk
   · rw [if_neg hgr] at hk; simp at hk
 · rename_i s d x ho
   have hx := hρ x (by simp [ho, Op.operands])
   obtain ⟨v, H', hv, hk⟩ := jd4 he
   exact jc8 hg (by simp only [execOp, ho]) (j1c h hx hv) hk
 · rename_i t x ho
   have hx := hρ x (by simp [ho, Op.operands])
   split at he
   · simp at he
   · rename_i d hu hni
     have hrun : (Instr.makeInterface t (a'.eval x)).run P w = .ok (.iface t (a'.eval x)) w := by
       simp only [Instr.makeInterface, Sem.run_bind]
       first
         | (rw [jb2 hu, Result.andThen_ok]; cases d <;> first | rfl | exact absurd rfl (hni _))
         | (rw [jb2 hni, Result.andThen_ok]; cases d <;> first | rfl | exact absurd rfl (hu _))
     exact jc8 hg (by simp only [execOp, ho]) (.pure h hrun (.iface t _ _ hx)) he
   · simp at he
 · rename_i fn first cap ho
   have h1 : VRa m (first.map ρ) (first.map a'.eval) := jv7 (fun x hx => hρ x (by simp [ho, Op.operands]; exact .inl (by simpa using hx)))
   have h2 : VRa m (cap.map ρ) (cap.map a'.eval) := jv7 (fun x hx => hρ x (by simp [ho, Op.operands]; exact .inr (by simpa using hx)))
   exact jc8 hg (s := Instr.makeFunc fn (first.map a'.eval) (cap.map a'.eval)) (by simp only [execOp, ho]) (.pure h rfl (.func fn _ _ _ _ h1.1 h2.1 h1.2 h2.2)) he
 · rename_i t x y ho
   have hx := hρ x (by simp [ho, Op.operands])
   have hy := hρ y (by simp [ho, Op.operands])
   obtain ⟨v, H', hv, hk⟩ := jd4 he
   exact jc8 hg (by simp only [execOp, ho]) (jy0 h hx hy hv) hk
 · rename_i t x lo hi mx ho
   have hx := hρ x (by simp [ho, Op.operands])
   obtain ⟨v, hv, hk⟩ := je0 he
   refine jc8 hg (by simp only [execOp, ho]) (j1d h hx (j5d fun y hy => hρ y ?_) (j5d fun y hy => hρ y ?_) (j5d fun y hy => hρ y ?_) hv) hk
   · simp [ho, Op.operands] at hy ⊢; simp [hy]
   · simp [ho, Op.operands] at hy ⊢; simp [hy]
   · simp [ho, Op.operands] at hy ⊢; simp [hy]
 · rename_i s x f ho
   have hx := hρ x (by simp [ho, Op.operands])
   obtain ⟨v, hv, hk⟩ := je0 he
   exact jc8 hg (by simp only [execOp, ho]) (jy1 h hx hv) hk
 · rename_i t x f ho
   have hx := hρ x (by simp [ho, Op.operands])
   obtain ⟨v, hv, hk⟩ := je0 he
   exact jc8 hg (by simp only [execOp, ho]) (j3r h hx hv) hk
 · rename_i t x y ho
   have hx := hρ x (by simp [ho, Op.operands])
   have hy := hρ y (by simp [ho, Op.operands])
   obtain ⟨v, hv, hk⟩ := je0 he
   exact jc8 hg (by simp only [execOp, ho]) (jy2 h hx hy hv) hk
 · rename_i t x y ho
   have hx := hρ x (by simp [ho, Op.operands])
   have hy := hρ y (by simp [ho, Op.operands])
   obtain ⟨v, hv, hk⟩ := je0 he
   exact jc8 hg (by simp only [execOp, ho]) (j3s h hx hy hv) hk
 · rename_i x i ho
   have hx := hρ x (by simp [ho, Op.operands])
   obtain ⟨v, hv, hk⟩ := je0 he
   exact jc8 hg (by simp only [execOp, ho]) (j1b h hx hv) hk
 · rename_i t x ho
   have hx := hρ x (by simp [ho, Op.operands])
   obtain ⟨v, H', hv, hk⟩ := jd4 he
   exact jc8 hg (by simp only [execOp, ho]) (j3u h hx hv) hk
 · rename_i x str ho
   have hx := hρ x (by simp [ho, Op.operands])
   obtain ⟨v, H', hv, hk⟩ := jd4 he
   exact jc8 hg (by simp only [execOp, ho]) (j49 (t := o.type) h hx hv) hk
 · rename_i x t u ok ho
   have hx := hρ x (by simp [ho, Op.operands])
   obtain ⟨v, hv, hk⟩ := je0 he
   exact jc8 hg (by simp only [execOp, ho]) (j2g h hx hv) hk
 · rename_i x ho
   have hx := hρ x (by simp [ho, Op.operands])
   split at he
   · rename_i t v hv
     rw [hv] at hx
     generalize hz : a'.eval x = z at hx
     cases hx with
     | atom _ hh => simp [atomic] at hh
     | iface _ _ v' hv' =>
       have hex : (execOp a'.eval o).run P w = .halt (.panic (.iface t v')) w := by
         simp only [execOp, ho, hz, Instr.panic, Sem.run_bind, run_goPanic, Result.andThen_halt]
       rw [hex]
       refine hg.pan m _ [{ v := .iface t v', recovered := false }] H w ?_ (.refl h) he
       refine ⟨rfl, fun i a b => ?_⟩
       have : i = 0 := by simp at a; omega
       subst this
       exact ⟨.iface t _ _ hv', rfl, rfl⟩
   · simp at he
 · rename_i c ho
   have hargs : VRa m (c.args.map ρ) (c.args.map a'.eval) := jv7 (fun x hx => hρ x (by simp only [ho, Op.operands, Call.operands]; simp at hx ⊢; exact .inr hx))
   split at he
   · rename_i b hb
     have hex : execOp a'.eval o = builtin b c.argTypes o.type (c.args.map fun | .const _ => true | _ => false) (c.args.map a'.eval) := by
       simp only [execOp, ho, resolve, hb]
       rfl
     rw [hex]
     exact j1f h hg hargs he
   · rename_i f hf
     have hfv := hρ f (by simp [ho, Op.operands, Call.operands, hf])
     split at he
     · rename_i g first cap hgv
       rw [hgv] at hfv
       generalize hz : a'.eval f = z at hfv
       cases hfv with
       | atom _ hh => simp [atomic] at hh
       | func _ _ first' _ cap' q1 q2 q3 q4 =>
         have hex : execOp a'.eval o = callFunc g (first' ++ c.args.map a'.eval ++ cap') := by
           simp only [execOp, ho, resolve, hf, hz, Deferred.ofValue]
           rfl
         rw [hex]
         exact j5e hX hK h hgl hg ((VRa.append ⟨q1, q3⟩ hargs).append ⟨q2, q4⟩) he
     · simp at he
   · simp at he
 · exact j8g h hρ hg he
structure StR (P : Program) (m : Mp) (a : Act) (H : Heap) (a' : Act) (w : World) : Prop where
 act : ActR m a a'
 rel : Rel m H w
 gl : Gl P m
theorem StR.step {P : Program} {m m' : Mp} {a : Act} {H H' : Heap} {a' : Act} {w w' : World} (h : StR P m a H a' w) (hs : Step m H w m' H' w') : StR P m' a H' a' w' :=
 ⟨h.act.mono hs.later.1, hs.rel, h.gl.mono hs.later.1⟩
theorem StR.put {P : Program} {m : Mp} {a : Act} {H : Heap} {a' : Act} {w : World} (h : StR P m a H a' w) (dst : Option Tmp) {v v' : Value} (hv : VR m v v') : StR P m (a.put dst v) H (a'.put dst v') w :=
 ⟨h.act.put dst hv, h.rel, h.gl⟩
def After (P : Program) (m : Mp) (H : Heap) (w : World) (k : Act → Heap → Prop) (a' : Act) (w' : World) : Prop :=
 ∃ m' a H', StR P m' a H' a' w' ∧ Step m H w m' H' w' ∧ k a H'
theorem After.mono {P : Program} {m m1 : Mp} {H H1 : Heap} {w w1 : World} {k k' : Act → Heap → Prop} (hs : Step m H w m1 H1 w1) (hk : ∀ a H, k a H → k' a H) {a' : Act} {w' : World} (h : After P m1 H1 w1 k a' w') :
   After P m H w k' a' w' := let ⟨m', a, H', x, y, z⟩ := h; ⟨m', a, H', x, hs.trans y, hk _ _ z⟩
def isUndef : Value → Bool
 | .tuple vs => vs.isEmpty
 | _ => false
structure ActW (m : Mp) (a a' : Act) : Prop where
 size : a.tmps.size = a'.tmps.size
 tmps : ∀ (t : Nat) (h : t < a.tmps.size) (h' : t < a'.tmps.size), isUndef a.tmps[t] = true ∨ VR m a.tmps[t] a'.tmps[t]
 defers : DRs m a.defers a'.defers
theorem ActR.weak {m : Mp} {a a' : Act} (h : ActR m a a') : ActW m a a' := ⟨h.tmps.1, fun t h1 h2 => .inr (h.tmps.2 t h1 h2), h.defers⟩
theorem ActW.mono {m m' : Mp} (hm : m.le m') {a a' : Act} (h : ActW m a a') : ActW m' a a' := ⟨h.size, fun t h1 h2 => (h.tmps t h1 h2).imp id fun x => x.mono hm, h.defers.mono hm⟩
structure StW (P : Program) (m : Mp) (a : Act) (H : Heap) (a' : Act) (w : World) : Prop where
 act : ActW m a a'
 rel : Rel m H w
 gl : Gl P m
theorem StR.weak {P : Program} {m : Mp} {a : Act} {H : Heap} {a' : Act} {w : World} (h : StR P m a H a' w) : StW P m a H a' w := ⟨h.act.weak, h.rel, h.gl⟩
def AfterP (P : Program) (m : Mp) (H : Heap) (w : World) (c' : List PanicEntry) (k : List PanicEntry → Act → Heap → Prop) (a' : Act) (w' : World) : Prop :=
 ∃ m' c a H', PanR m' c c' ∧ StW P m' a H' a' w' ∧ Step m H w m' H' w' ∧ k c a H'
theorem AfterP.mono {P : Program} {m m1 : Mp} {H H1 : Heap} {w w1 : World} {c' : List PanicEntry} {k k' : List PanicEntry → Act → Heap → Prop} (hs : Step m H w m1 H1 w1) (hk : ∀ c a H, k c a H → k' c a H) {a' : Act} {w' : World} (h : AfterP P m1 H1 w1 c' k a' w') :
   AfterP P m H w c' k' a' w' := let ⟨m', c, a, H', p, x, y, z⟩ := h; ⟨m', c, a, H', p, x, hs.trans y, hk _ _ _ z⟩
theorem jt3 {P : Program} {X : Xf} {K : Kf} (hX : XSnd P X) (hK : KSnd P K) {o : Oper} {a a' : Act} {m : Mp} {H : Heap} {w : World} (h : StR P m a H a' w)
   {k : Act → Heap → R} {kp : List PanicEntry → Act → Heap → R} {r : End × Heap} (he : execOp1 P X K o a H k kp = some r) {next : Act → World → Prop} {Q : Exit → Act → World → Prop}
   (hn : ∀ b' w', After P m H w (fun b H' => k b H' = some r) b' w' → next b' w')
   (hp : ∀ c' b' w', AfterP P m H w c' (fun c b H' => kp c b H' = some r) b' w' → Q (.panic c') b' w') : o.wp P a' w next Q := by
 unfold execOp1 at he
 cases hok : opOk P o with
 | false => rw [hok] at he; simp at he
 | true =>
   rw [hok] at he
   simp only [cond_true] at he
   have hρ : ∀ x ∈ o.op.operands.toList, VR m (a.eval x) (a'.eval x) := fun x hx => j9y h.act h.gl (List.all_eq_true.1 hok x hx)
   unfold Oper.wp
   split at he
   · rename_i c ho
     split at he
     · rename_i d hd
       unfold deferOf at hd
       split at hd
       · rename_i f hf
         split at hd
         · rename_i fn first cap hgv
           simp only [Option.some.injEq] at hd; subst hd
           have hfv := hρ f (by simp [ho, Op.operands, Call.operands, hf])
           rw [hgv] at hfv
           generalize hz : a'.eval f = z at hfv
           have hargs : VRa m (c.args.map a.eval) (c.args.map a'.eval) := jv7 (fun x hx => hρ x (by simp only [ho, Op.operands, Call.operands]; simp at hx ⊢; exact .inr hx))
           cases hfv with
           | atom _ hh => simp [atomic] at hh
           | func _ _ first' _ cap' q1 q2 q3 q4 =>
             have hex : (execOp a'.eval o).run P w = .ok (.defer { target := .fn fn cap', args := first' ++ c.args.map a'.eval }) w := by
               simp only [execOp, ho, resolve, hf, hz, Deferred.ofValue]
               rfl
             rw [hex, Oper.upon_defer]
             refine hn _ _ ⟨m, _, H, ?_, .refl h.rel, he⟩
             refine ⟨?_, h.rel, h.gl⟩
             refine ActR.put (a := { a with defers := _ :: a.defers }) (a' := { a' with defers := _ :: a'.defers }) ⟨h.act.tmps, .cons ?_ h.act.defers⟩ o.dst (.undef m)
             exact ⟨fn, cap, cap', rfl, rfl, ⟨q2, q4⟩, VRa.append ⟨q1, q3⟩ hargs⟩
         · simp at hd
       · simp at hd
     · simp at he
   · refine jj7 hX hK h.rel h.gl hρ ⟨?_, ?_⟩ he
     · intro m' v v' H' w' hv hs hk
       exact hn _ _ ⟨m', a.put o.dst v, H', (h.step hs).put o.dst hv, hs, jv6 hk⟩
     · intro m' c c' H' w' hc hs hk
       exact hp _ _ _ ⟨m', c, a, H', hc, (h.step hs).weak, hs, hk⟩
theorem jx3 {P : Program} {ops : Array Oper} {o : Oper} {a a' : Act} {m : Mp} {H : Heap} {w : World} (h : StR P m a H a' w) {run skip : Act → R} {r : End × Heap} (he : guardK ops o a run skip = some r) :
   ∃ b, StR P m b H a' w ∧ ((Region.wanted o (yielded ops a'.tmps) = true ∧ run b = some r) ∨ (Region.wanted o (yielded ops a'.tmps) = false ∧ skip b = some r)) := by
 unfold guardK at he
 split at he
 · rename_i hgd
   exact ⟨a, h, .inl ⟨by simp [Region.wanted, hgd], he⟩⟩
 · rename_i j want hgd
   split at he
   · rename_i hd
     refine ⟨a, h, .inr ⟨?_, he⟩⟩
     simp [Region.wanted, hgd, yielded, hd]
   · rename_i d hd
     have hsz := h.act.tmps.1
     split at he
     · rename_i b hb
       obtain ⟨hlt, hb2⟩ := Array.getElem?_eq_some_iff.1 hb
       have hlt' : d < a'.tmps.size := hsz ▸ hlt
       have hv := h.act.tmps.2 d hlt hlt'
       rw [hb2] at hv
       have hv' := hv.bool_inv
       have hy : yielded ops a'.tmps j = some b := by
         simp [yielded, hd, hlt', hv']
       rw [jn6] at he
       have hset : StR P m { a with tmps := a.tmps.setIfInBounds d (.bool b) } H a' w := by
         refine ⟨⟨?_, h.act.defers⟩, h.rel, h.gl⟩
         refine ⟨by simpa using hsz, fun i x y => ?_⟩
         have x' : i < a.tmps.size := by simpa using x
         by_cases e : d = i
         · subst e
           have : (a.tmps.setIfInBounds d (.bool b))[d] = .bool b := by simp
           rw [this, hv']; exact .bool m b
         · have : (a.tmps.setIfInBounds d (.bool b))[i] = a.tmps[i] := by simp [e, x']
           rw [this]; exact h.act.tmps.2 i x' y
       refine ⟨_, hset, ?_⟩
       cases hw : (b == want) with
       | true =>
         rw [hw] at he
         have := eq_of_beq hw; subst this
         exact .inl ⟨by simp [Region.wanted, hgd, hy], he⟩
       | false =>
         rw [hw] at he
         refine .inr ⟨?_, he⟩
         have : b ≠ want := by intro e; subst e; simp at hw
         simp [Region.wanted, hgd, hy, this]
     · rename_i vs hb
       obtain ⟨hlt, hb2⟩ := Array.getElem?_eq_some_iff.1 hb
       have hlt' : d < a'.tmps.size := hsz ▸ hlt
       have hv := h.act.tmps.2 d hlt hlt'
       rw [hb2] at hv
       obtain ⟨vs', hv', _⟩ := hv.tuple_inv
       refine ⟨a, h, .inr ⟨?_, he⟩⟩
       simp [Region.wanted, hgd, yielded, hd, hlt', hv']
     · simp at he
theorem j2k {P : Program} {X : Xf} {K : Kf} (hX : XSnd P X) (hK : KSnd P K) {ops : Array Oper} {r : End × Heap} {k : Act → Heap → R} {kp : List PanicEntry → Act → Heap → R} {Q : Exit → Act → World → Prop} :
   ∀ (l : List Oper) (n : Nat) (_ : l = ops.toList.drop n) {a a' : Act} {m : Mp} {H : Heap} {w : World}, StR P m a H a' w → execOps P X K ops l a H k kp = some r →
   (∀ b' w', After P m H w (fun b H' => k b H' = some r) b' w' → Q .normal b' w') →
   (∀ c' b' w', AfterP P m H w c' (fun c b H' => kp c b H' = some r) b' w' → Q (.panic c') b' w') →
   wpOps P ops Q ((List.range ops.size).drop n) a' w := by
 intro l
 induction l with
 | nil =>
   intro n hl a a' m H w h he hn hp
   have hlen : ops.size ≤ n := by
     have := congrArg List.length hl
     simp at this; omega
   rw [List.drop_of_length_le (by simpa using hlen)]
   exact hn _ _ ⟨m, a, H, h, .refl h.rel, he⟩
 | cons o rest ih =>
   intro n hl a a' m H w h he hn hp
   have hlt : n < ops.size := by
     have := congrArg List.length hl
     simp at this; omega
   have hd : (List.range ops.size).drop n = n :: (List.range ops.size).drop (n + 1) := by
     rw [List.drop_eq_getElem_cons (by simpa using hlt)]
     simp
   have hl2 : ops.toList.drop n = ops[n] :: ops.toList.drop (n + 1) := by
     rw [List.drop_eq_getElem_cons (by simpa using hlt)]
     simp
   rw [hl2] at hl
   simp only [List.cons.injEq] at hl
   obtain ⟨rfl, hrest⟩ := hl
   rw [hd]
   simp only [wpOps, Array.getElem?_eq_getElem hlt]
   simp only [execOps] at he
   obtain ⟨b, hb, hc⟩ := jx3 h he
   rcases hc with ⟨hw, hr⟩ | ⟨hw, hr⟩
   · rw [if_pos hw]
     left
     refine jt3 hX hK hb hr (fun b2 w2 ha => ?_) (fun c2 b2 w2 ha => hp c2 b2 w2 ha)
     obtain ⟨m2, b3, H3, s1, s2, s3⟩ := ha
     exact ih (n + 1) hrest s1 s3 (fun b4 w4 ha4 => hn b4 w4 (ha4.mono s2 (fun _ _ x => x))) (fun c4 b4 w4 ha4 => hp c4 b4 w4 (ha4.mono s2 (fun _ _ _ x => x)))
   · rw [if_neg (by simp [hw])]
     exact ih (n + 1) hrest (hb.put _ (.undef m)) hr hn hp
def DSnd (P : Program) (X : Xf) (K : Kf) : Prop := ∀ (ops : Array Oper) (r : End × Heap) (k : Act → Heap → R) (kp : List PanicEntry → Act → Heap → R) (Q : Exit → Act → World → Prop), drawOk P ops.toList = true →
 ∀ {a a' : Act} {m : Mp} {H : Heap} {w : World}, StR P m a H a' w → execTr P X K ops ops.toList a H [] (fun tr af Hf => cond (drawChk P ops tr) (k af Hf) none) (fun c af Hf => cond (panAll P ops.toList) (kp c (eraseA ops af) Hf) none) = some r →
   (∀ b' w', After P m H w (fun b H' => k b H' = some r) b' w' → Q .normal b' w') → (∀ c' b' w', AfterP P m H w c' (fun c b H' => kp c b H' = some r) b' w' → Q (.panic c') b' w') → ∀ id, (Code.region id ops true).wp P Q a' w
def OutQ (P : Program) (m : Mp) (H : Heap) (w : World) (k : Out → Act → Heap → R) (r : End × Heap) : Exit → Act → World → Prop
 | .normal, a', w' => After P m H w (fun a H' => k .norm a H' = some r) a' w'
 | .exit id, a', w' => After P m H w (fun a H' => k (.exit id) a H' = some r) a' w'
 | .goto l, a', w' => After P m H w (fun a H' => k (.goto l) a H' = some r) a' w'
 | .ret, a', w' => After P m H w (fun a H' => k .ret a H' = some r) a' w'
 | .panic c', a', w' => AfterP P m H w c' (fun c a H' => k (.pan c) a H' = some r) a' w'
 | .outgrown, _, _ => False
theorem OutQ.of {P : Program} {m : Mp} {H : Heap} {w : World} {k : Out → Act → Heap → R} {r : End × Heap} {m1 : Mp} {H1 : Heap} {w1 : World} (hs : Step m H w m1 H1 w1) {e : Exit} {a' : Act} {w' : World} (h : OutQ P m1 H1 w1 k r e a' w') :
   OutQ P m H w k r e a' w' := by
 cases e <;> first
   | exact After.mono hs (fun _ _ x => x) h
   | exact AfterP.mono hs (fun _ _ _ x => x) h
   | exact h
theorem je2 (l : Nat) : ∀ c : Code, hasLabel l c = (findLabel c l).isSome
 | .seq a b => by
   have ha := je2 l a
   have hb := je2 l b
   simp only [hasLabel, findLabel, ha, hb]
   cases findLabel a l <;> simp
 | .label l' => by
   simp only [hasLabel, findLabel]
   by_cases e : (l' == l) = true
   · simp [e]
   · simp [e]
 | .skip | .region .. | .cond .. | .block .. | .loop .. | .rangeFunc .. | .exit .. | .scope .. | .goto .. | .ret | .refuse .. => by simp [hasLabel, findLabel]
def Begins (c : Code) : Option Nat → Code → Prop
 | none, c' => c' = c
 | some l, c' => findLabel c l = some c'
theorem OutQ.wp_mono {P : Program} {c : Code} {Q Q' : Exit → Act → World → Prop} {a : Act} {w : World} (h : c.wp P Q a w) (hq : ∀ e a w, Q e a w → Q' e a w) : c.wp P Q' a w := Go.wp_mono h hq
theorem j8h {P : Program} {c : Code} {body : Act → Heap → (Out → Act → Heap → R) → R} {r : End × Heap}
   (hb : ∀ {a a' : Act} {m : Mp} {H : Heap} {w : World} {k : Out → Act → Heap → R}, StR P m a H a' w → body a H k = some r → c.wp P (OutQ P m H w k r) a' w) :
   ∀ (n : Nat) {a a' : Act} {m : Mp} {H : Heap} {w : World} {k : Out → Act → Heap → R}, StR P m a H a' w → loopC body n a H k = some r →
     ∀ (b : Frame) (kk : List Item) (cs : List Frame), ∃ e a2 w2, OutQ P m H w k r e a2 w2 ∧ Arrives P (lone (b.at a' (.code c :: .inLoop c :: kk)) cs w) b kk cs e a2 w2 := by
 intro n
 induction n with
 | zero => intro a a' m H w k h he; simp [loopC] at he
 | succ n ih =>
   intro a a' m H w k h he b kk cs
   simp only [loopC] at he
   obtain ⟨e, a1, w1, hq, harr⟩ := hb h he b (.inLoop c :: kk) cs
   cases e with
   | normal =>
     obtain ⟨m1, a2, H1, s1, s2, s3⟩ := hq
     obtain ⟨e2, a3, w3, hq2, harr2⟩ := ih s1 s3 b kk cs
     exact ⟨e2, a3, w3, OutQ.of s2 hq2, .of_steps (Steps.trans harr (.one step_inLoop)) harr2⟩
   | exit id => exact ⟨.exit id, a1, w1, hq, .pass (x := .inLoop c) rfl (fun _ _ => .inl (by simp)) harr⟩
   | goto l => exact ⟨.goto l, a1, w1, hq, .pass (x := .inLoop c) rfl (fun _ _ => .inl (by simp)) harr⟩
   | ret => exact ⟨.ret, a1, w1, hq, .pass (x := .inLoop c) rfl (fun _ _ => .inl (by simp)) harr⟩
   | panic ch => exact ⟨.panic ch, a1, w1, hq, .pass (x := .inLoop c) rfl (fun _ _ => .inl (by simp)) harr⟩
   | outgrown => exact hq.elim
theorem j5f {P : Program} {c : Code} {body : Option Nat → Act → Heap → (Out → Act → Heap → R) → R} {r : End × Heap}
   (hb : ∀ (s : Option Nat) (c' : Code) {a a' : Act} {m : Mp} {H : Heap} {w : World} {k : Out → Act → Heap → R}, Begins c s c' → StR P m a H a' w → body s a H k = some r → c'.wp P (OutQ P m H w k r) a' w) :
   ∀ (n : Nat) (s : Option Nat) (c' : Code) {a a' : Act} {m : Mp} {H : Heap} {w : World} {k : Out → Act → Heap → R}, Begins c s c' → StR P m a H a' w → scopeC c body n s a H k = some r →
     ∀ (b : Frame) (kk : List Item) (cs : List Frame), ∃ e a2 w2, OutQ P m H w k r e a2 w2 ∧ Arrives P (lone (b.at a' (.code c' :: .inScope c :: kk)) cs w) b kk cs e a2 w2 := by
 intro n
 induction n with
 | zero => intro s c' a a' m H w k hs h he; simp [scopeC] at he
 | succ n ih =>
   intro s c' a a' m H w k hs h he b kk cs
   simp only [scopeC] at he
   obtain ⟨e, a1, w1, hq, harr⟩ := hb s c' hs h he b (.inScope c :: kk) cs
   cases e with
   | normal => exact ⟨.normal, a1, w1, hq, Steps.trans harr (.one step_inScope)⟩
   | exit id => exact ⟨.exit id, a1, w1, hq, fun k' hk => harr k' (by simpa [exitTo] using hk)⟩
   | goto l =>
     obtain ⟨m1, a2, H1, s1, s2, s3⟩ := hq
     change (bif hasLabel l c then scopeC c body n (some l) a2 H1 k else k (.goto l) a2 H1) = some r at s3
     cases hl : hasLabel l c with
     | true =>
       rw [hl] at s3
       simp only [cond_true] at s3
       rw [je2] at hl
       obtain ⟨rest, hr⟩ := Option.isSome_iff_exists.1 hl
       obtain ⟨e2, a3, w3, hq2, harr2⟩ := ih (some l) rest hr s1 s3 b kk cs
       exact ⟨e2, a3, w3, OutQ.of s2 hq2, .of_steps (harr _ (by simp [gotoIn, hr])) harr2⟩
     | false =>
       rw [hl] at s3
       simp only [cond_false] at s3
       rw [je2] at hl
       have hnone : findLabel c l = none := by simpa using hl
       exact ⟨.goto l, a1, w1, ⟨m1, a2, H1, s1, s2, s3⟩, fun k' hk => harr k' (by simpa [gotoIn, hnone] using hk)⟩
   | ret => exact ⟨.ret, a1, w1, hq, harr⟩
   | panic ch => exact ⟨.panic ch, a1, w1, hq, harr⟩
   | outgrown => exact hq.elim
theorem jv8 {P : Program} {X : Xf} {K : Kf} {N : Nat} (hX : XSnd P X) (hK : KSnd P K) (hD : DSnd P X K) (r : End × Heap) :
   ∀ (c : Code) (s : Option Nat) (c' : Code) {a a' : Act} {m : Mp} {H : Heap} {w : World} {k : Out → Act → Heap → R}, Begins c s c' → StR P m a H a' w → exec P X K N c s a H k = some r →
     c'.wp P (OutQ P m H w k r) a' w := by
 intro c
 induction c with
 | skip =>
   intro s c' a a' m H w k hs h he
   cases s with
   | none => simp only [Begins] at hs; subst hs; exact wp_skip ⟨m, a, H, h, .refl h.rel, by simpa [exec] using he⟩
   | some l => simp [exec] at he
 | label l' =>
   intro s c' a a' m H w k hs h he
   cases s with
   | none => simp only [Begins] at hs; subst hs; exact wp_label ⟨m, a, H, h, .refl h.rel, by simpa [exec] using he⟩
   | some l =>
     simp only [exec] at he
     cases e : (l' == l) with
     | false => rw [e] at he; simp at he
     | true =>
       rw [e] at he
       simp only [Begins, findLabel, e, if_true, Option.some.injEq] at hs
       subst hs
       exact wp_skip ⟨m, a, H, h, .refl h.rel, he⟩
 | region id ops draw =>
   intro s c' a a' m H w k hs h he
   cases s with
   | some l => simp [exec] at he
   | none =>
     simp only [Begins] at hs; subst hs
     simp only [exec] at he
     cases draw with
     | false =>
       simp only [cond_false] at he
       refine wp_region ?_
       have := j2k hX hK (Q := OutQ P m H w k r) ops.toList 0 (by simp) h he (fun _ _ x => x) (fun _ _ _ x => x)
       simpa using this
     | true =>
       simp only [cond_true] at he
       cases e : drawOk P ops.toList with
       | false => rw [e] at he; simp at he
       | true =>
         rw [e] at he
         simp only [cond_true] at he
         exact hD ops r (fun a H => k .norm a H) (fun c a H => k (.pan c) a H) _ e h he (fun _ _ x => x) (fun _ _ _ x => x) id
 | seq x y ihx ihy =>
   intro s c' a a' m H w k hs h he
   have key : ∀ (x' : Code) {a a' : Act} {m : Mp} {H : Heap} {w : World}, (∀ {k : Out → Act → Heap → R}, ∀ s, exec P X K N x s a H k = some r → Begins x s x' → StR P m a H a' w → x'.wp P (OutQ P m H w k r) a' w) →
       ∀ s, Begins x s x' → StR P m a H a' w → exec P X K N x s a H (fun o a H => match o with | .norm => exec P X K N y none a H k | o => k o a H) = some r → (Code.seq x' y).wp P (OutQ P m H w k r) a' w := by
     intro x' a a' m H w hx s hs h he
     refine wp_seq (OutQ.wp_mono (hx s he hs h) ?_)
     intro e a1 w1 hq
     cases e with
     | normal =>
       obtain ⟨m1, a2, H1, s1, s2, s3⟩ := hq
       exact OutQ.wp_mono (ihy none y rfl s1 s3) (fun e a w hq => OutQ.of s2 hq)
     | _ => exact hq
   cases s with
   | none =>
     simp only [Begins] at hs; subst hs
     simp only [exec] at he
     exact key x (fun s he hs h => ihx s x hs h he) none rfl h he
   | some l =>
     simp only [exec] at he
     cases hl : hasLabel l x with
     | true =>
       rw [hl] at he
       simp only [cond_true] at he
       rw [je2] at hl
       obtain ⟨rest, hr⟩ := Option.isSome_iff_exists.1 hl
       simp only [Begins, findLabel, hr, Option.some.injEq] at hs
       subst hs
       exact key rest (fun s he hs h => ihx s rest hs h he) (some l) hr h he
     | false =>
       rw [hl] at he
       simp only [cond_false] at he
       rw [je2] at hl
       have hnone : findLabel x l = none := by simpa using hl
       simp only [Begins, findLabel, hnone] at hs
       exact ihy (some l) c' hs h he
 | cond x c1 c2 ih1 ih2 =>
   intro s c' a a' m H w k hs h he
   cases s with
   | some l => simp [exec] at he
   | none =>
     simp only [Begins] at hs; subst hs
     simp only [exec] at he
     split at he
     · rename_i t ht
       have hx : a'.eval x = .bool t := by
         cases x with
         | tmp j =>
           have hv := h.act.tmps.getD j (.undef m)
           have e1 : a.eval (.tmp j) = a.tmps.getD j undef := rfl
           rw [← e1, ht] at hv
           exact hv.bool_inv
         | const v => exact ht
         | global g => simp [Act.eval] at ht
         | func f => simp [Act.eval] at ht
       refine wp_cond hx ?_
       cases t with
       | true => exact ih1 none c1 rfl h he
       | false => exact ih2 none c2 rfl h he
     · simp at he
 | block id b ih =>
   intro s c' a a' m H w k hs h he
   cases s with
   | some l => simp [exec] at he
   | none =>
     simp only [Begins] at hs; subst hs
     simp only [exec] at he
     refine wp_block (OutQ.wp_mono (ih none b rfl h he) ?_)
     intro e a1 w1 hq
     cases e with
     | exit i =>
       obtain ⟨m1, a2, H1, s1, s2, s3⟩ := hq
       change (bif i == id then k .norm a2 H1 else k (.exit i) a2 H1) = some r at s3
       by_cases e : i = id
       · subst e
         simp only [BEq.rfl, cond_true] at s3
         simp only [Exit.inBlock, if_true]
         exact ⟨m1, a2, H1, s1, s2, s3⟩
       · have e' : (i == id) = false := by simpa using e
         simp only [e', cond_false] at s3
         simp only [Exit.inBlock, e, if_false]
         exact ⟨m1, a2, H1, s1, s2, s3⟩
     | _ => exact hq
 | loop b ih =>
   intro s c' a a' m H w k hs h he
   cases s with
   | some l => simp [exec] at he
   | none =>
     simp only [Begins] at hs; subst hs
     simp only [exec] at he
     intro fr kk cs
     obtain ⟨e, a2, w2, hq, harr⟩ := j8h (c := b) (fun h he => ih none b rfl h he) N h he fr kk cs
     exact ⟨e, a2, w2, hq, .of_steps (.one step_loop) harr⟩
 | rangeFunc f ps x y _ _ => intro s c' a a' m H w k hs h he; cases s <;> simp [exec] at he
 | exit id =>
   intro s c' a a' m H w k hs h he
   cases s with
   | none => simp only [Begins] at hs; subst hs; exact wp_exit ⟨m, a, H, h, .refl h.rel, by simpa [exec] using he⟩
   | some l => simp [exec] at he
 | scope b ih =>
   intro s c' a a' m H w k hs h he
   cases s with
   | some l => simp [exec] at he
   | none =>
     simp only [Begins] at hs; subst hs
     simp only [exec] at he
     intro fr kk cs
     obtain ⟨e, a2, w2, hq, harr⟩ := j5f (c := b) (fun s c' {_ _ _ _ _ _} hs h he => ih s c' hs h he) N none b rfl h he fr kk cs
     exact ⟨e, a2, w2, hq, .of_steps (.one step_scope) harr⟩
 | goto l =>
   intro s c' a a' m H w k hs h he
   cases s with
   | none => simp only [Begins] at hs; subst hs; exact wp_goto ⟨m, a, H, h, .refl h.rel, by simpa [exec] using he⟩
   | some l => simp [exec] at he
 | ret =>
   intro s c' a a' m H w k hs h he
   cases s with
   | none => simp only [Begins] at hs; subst hs; exact wp_ret ⟨m, a, H, h, .refl h.rel, by simpa [exec] using he⟩
   | some l => simp [exec] at he
 | refuse why => intro s c' a a' m H w k hs h he; cases s <;> simp [exec] at he
def Yl (P : Program) (X : Xf) (K : Kf) (ρ : Operand → Value) (o : Oper) (H : Heap) (v : Value) (H' : Heap) : Prop := ∀ k kp, opK P X K ρ o H k kp = k v H'
def Pn (P : Program) (X : Xf) (K : Kf) (ρ : Operand → Value) (o : Oper) (H : Heap) (c : List PanicEntry) (H' : Heap) : Prop := ∀ k kp, opK P X K ρ o H k kp = kp c H'
def Lin (f : (Value → Heap → R) → (List PanicEntry → Heap → R) → R) : Prop :=
 (∃ v H', ∀ k kp, f k kp = k v H') ∨ (∃ c H', ∀ k kp, f k kp = kp c H') ∨ (∀ k kp, f k kp = none)
theorem Lin.bindV (x : VH) : Lin fun k _ => bindV x k := by
 cases x with
 | none => exact .inr (.inr fun _ _ => rfl)
 | some y => exact .inl ⟨y.1, y.2, fun _ _ => rfl⟩
theorem Lin.bindO (x : Option Value) (H : Heap) : Lin fun k _ => bindO x fun v => k v H := by
 cases x with
 | none => exact .inr (.inr fun _ _ => rfl)
 | some y => exact .inl ⟨y, H, fun _ _ => rfl⟩
theorem Lin.none : Lin fun _ _ => none := .inr (.inr fun _ _ => rfl)
theorem Lin.val (v : Value) (H : Heap) : Lin fun k _ => k v H := .inl ⟨v, H, fun _ _ => rfl⟩
theorem Lin.pan (c : List PanicEntry) (H : Heap) : Lin fun _ kp => kp c H := .inr (.inl ⟨c, H, fun _ _ => rfl⟩)
theorem Lin.bindG (x : Option Value) (H : Heap) : Lin fun k _ => Am.bindO x fun v => groundK v (k v H) := by
 cases x with
 | none => exact .inr (.inr fun _ _ => rfl)
 | some y =>
   unfold groundK
   by_cases h : ground y = true
   · exact .inl ⟨y, H, fun _ _ => by simp [Am.bindO, h]⟩
   · exact .inr (.inr fun _ _ => by simp [Am.bindO, h])
theorem Lin.builtin (P : Program) (b : Builtin) (ts : Array TypeId) (args : Array Value) (H : Heap) : Lin fun k _ => builtinK P b ts args H k := by
 unfold builtinK
 split
 · cases ts[0]? with
   | none => exact Lin.none
   | some t => exact Lin.bindO _ H
 · cases ts[0]? with
   | none => exact Lin.none
   | some t => exact Lin.bindO _ H
 · by_cases h : ts.size = 2
   · simp only [h, if_true]; exact Lin.bindV _
   · simp only [h, if_false]; exact Lin.none
 · exact Lin.bindV _
 · rename_i ka a kb b _
   by_cases h : ka = kb
   · simp only [h, if_true]; exact Lin.val _ _
   · simp only [h, if_false]; exact Lin.none
 · rename_i ka a kb b _
   by_cases h : ka = kb
   · simp only [h, if_true]; exact Lin.val _ _
   · simp only [h, if_false]; exact Lin.none
 · exact Lin.none
theorem Lin.call (P : Program) (X : Xf) (K : Kf) (f : FuncId) (args : Array Value) (H : Heap) : Lin fun k kp => callK P X K f args H k kp := by
 unfold callK
 split
 · rename_i fn _
   by_cases h1 : (fn.name == "runtime.NumGoroutine") = true
   · simp only [h1, if_true]; exact Lin.none
   · by_cases h2 : fn.body.isNone = true
     · simp only [if_neg h1, if_pos h2]; exact Lin.bindV _
     · simp only [if_neg h1, if_neg h2]
       unfold bindR
       split
       · exact Lin.val _ _
       · exact Lin.pan _ _
       · exact Lin.none
 · exact Lin.none
theorem yi7 (P : Program) (ρ : Operand → Value) (o : Op) (H : Heap) : Lin fun k _ => mapK P ρ o H k := by
 unfold mapK
 split
 · exact Lin.bindV _
 · exact Lin.bindO _ H
 · exact Lin.bindV _
 · exact Lin.none
theorem yt0 (P : Program) (X : Xf) (K : Kf) (ρ : Operand → Value) (o : Oper) (H : Heap) : Lin fun k kp => opK P X K ρ o H k kp := by
 unfold opK
 split
 all_goals first
   | exact Lin.val _ _
   | exact Lin.bindV _
   | exact Lin.bindO _ H
   | exact Lin.bindG _ H
   | exact Lin.none
   | skip
 · split
   · exact Lin.val _ _
   · exact Lin.none
 · split
   · exact Lin.none
   · exact Lin.val _ _
   · exact Lin.none
 · split
   · exact Lin.pan _ _
   · exact Lin.none
 · split
   · exact Lin.builtin _ _ _ _ _
   · split
     · exact Lin.call _ _ _ _ _ _
     · exact Lin.none
   · exact Lin.none
 · exact yi7 P ρ o.op H
theorem j90 {P : Program} {X : Xf} {K : Kf} {ρ : Operand → Value} {o : Oper} {H : Heap} {k : Value → Heap → R} {kp : List PanicEntry → Heap → R} {r : End × Heap} (h : opK P X K ρ o H k kp = some r) :
   (∃ v H', Yl P X K ρ o H v H' ∧ k v H' = some r) ∨ (∃ c H', Pn P X K ρ o H c H' ∧ kp c H' = some r) := by
 rcases yt0 P X K ρ o H with ⟨v, H', hh⟩ | ⟨c, H', hh⟩ | hh
 · exact .inl ⟨v, H', hh, by rw [← hh k kp]; exact h⟩
 · exact .inr ⟨c, H', hh, by rw [← hh k kp]; exact h⟩
 · have := hh k kp
   simp only at this
   rw [this] at h; simp at h
def Quiet (f : Xf → Kf → Heap → (Value → Heap → R) → (List PanicEntry → Heap → R) → R) : Prop :=
 ∀ H, (∃ v, ∀ X K k kp, f X K H k kp = k v H) ∨ (∀ X K k kp, f X K H k kp = none)
theorem Quiet.bindO (x : Heap → Option Value) : Quiet fun _ _ H k _ => Am.bindO (x H) fun v => k v H := by
 intro H
 simp only
 cases x H with
 | none => exact .inr fun _ _ _ _ => rfl
 | some y => exact .inl ⟨y, fun _ _ _ _ => rfl⟩
theorem j91 {x : VH} {H : Heap} (h : ∀ v H', x = some (v, H') → H' = H) : (∃ v, ∀ (_ : Xf) (_ : Kf) (k : Value → Heap → R) (_ : List PanicEntry → Heap → R), bindV x k = k v H) ∨ (∀ (_ : Xf) (_ : Kf) (k : Value → Heap → R) (_ : List PanicEntry → Heap → R), bindV x k = none) := by
 cases x with
 | none => exact .inr fun _ _ _ _ => rfl
 | some y =>
   obtain ⟨v, H'⟩ := y
   have := h v H' rfl
   subst this
   exact .inl ⟨v, fun _ _ _ _ => rfl⟩
theorem j8i {P : Program} {t : TypeId} {x : Value} {H : Heap} {v : Value} {H' : Heap} (h : loadA P t x H = some (v, H')) : H' = H := by
 unfold loadA at h
 split at h
 · split at h
   · split at h
     · unfold ldN at h
       split at h
       · split at h
         · simp only [Option.some.injEq, Prod.mk.injEq] at h; exact h.2.symm
         · simp at h
       · simp at h
     · simp at h
   · unfold ld1 at h
     split at h
     · split at h
       · simp only [Option.some.injEq, Prod.mk.injEq] at h; exact h.2.symm
       · simp at h
     · simp at h
   · simp at h
 · simp at h
theorem j2l {P : Program} {s d : TypeId} {x : Value} {H : Heap} {v : Value} {H' : Heap} (hd : ∀ e, P.underlying d ≠ some (.slice e)) (h : convertA P s d x H = some (v, H')) : H' = H := by
 unfold convertA at h
 split at h
 · simp only [Option.some.injEq, Prod.mk.injEq] at h; exact h.2.symm
 · simp only [Option.some.injEq, Prod.mk.injEq] at h; exact h.2.symm
 · simp only [Option.some.injEq, Prod.mk.injEq] at h; exact h.2.symm
 · rename_i h2; exact absurd h2 (hd _)
 · rename_i h2; exact absurd h2 (hd _)
 · split at h
   · split at h
     · simp only [Option.some.injEq, Prod.mk.injEq] at h; exact h.2.symm
     · simp at h
   · simp at h
 · simp at h
theorem j2m (P : Program) {b : Builtin} (hb : b = .cap ∨ b = .len ∨ b = .min ∨ b = .max) (ts : Array TypeId) (args : Array Value) (H : Heap) :
   (∃ v, ∀ (_ : Xf) (_ : Kf) (k : Value → Heap → R) (_ : List PanicEntry → Heap → R), builtinK P b ts args H k = k v H) ∨ (∀ (_ : Xf) (_ : Kf) (k : Value → Heap → R) (_ : List PanicEntry → Heap → R), builtinK P b ts args H k = none) := by
 unfold builtinK
 split
 · cases ts[0]? with
   | none => exact .inr fun _ _ _ _ => rfl
   | some t =>
     simp only
     rcases Quiet.bindO (fun H => lenA P t _ H) H with ⟨v, hv⟩ | hv
     · exact .inl ⟨v, fun X K k kp => hv X K k kp⟩
     · exact .inr fun X K k kp => hv X K k kp
 · cases ts[0]? with
   | none => exact .inr fun _ _ _ _ => rfl
   | some t =>
     simp only
     rcases Quiet.bindO (fun H => capA P t _ H) H with ⟨v, hv⟩ | hv
     · exact .inl ⟨v, fun X K k kp => hv X K k kp⟩
     · exact .inr fun X K k kp => hv X K k kp
 · rcases hb with h | h | h | h <;> simp at h
 · rcases hb with h | h | h | h <;> simp at h
 · rename_i ka a kb b _
   by_cases h : ka = kb
   · exact .inl ⟨.int ka (if b < a then b else a), fun _ _ _ _ => by rw [if_pos h]⟩
   · exact .inr fun _ _ _ _ => by rw [if_neg h]
 · rename_i ka a kb b _
   by_cases h : ka = kb
   · exact .inl ⟨.int ka (if b > a then b else a), fun _ _ _ _ => by rw [if_pos h]⟩
   · exact .inr fun _ _ _ _ => by rw [if_neg h]
 · exact .inr fun _ _ _ _ => rfl
theorem j0e {P : Program} {o : Oper} (hc : cls P o < 2) (ρ : Operand → Value) (H : Heap) :
   (∃ v, ∀ X K k kp, opK P X K ρ o H k kp = k v H) ∨ (∀ X K k kp, opK P X K ρ o H k kp = none) := by
 obtain ⟨dst, op, type, pos, after, guard⟩ := o
 simp only [cls] at hc
 simp only [opK]
 have bo : ∀ (x : Option Value), (∃ v, ∀ (_ : Xf) (_ : Kf) (k : Value → Heap → R) (_ : List PanicEntry → Heap → R), (bindO x fun v => k v H) = k v H) ∨ (∀ (_ : Xf) (_ : Kf) (k : Value → Heap → R) (_ : List PanicEntry → Heap → R), (bindO x fun v => k v H) = none) := by
   intro x; exact Quiet.bindO (fun _ => x) H
 have bg : ∀ (x : Option Value), (∃ v, ∀ (_ : Xf) (_ : Kf) (k : Value → Heap → R) (_ : List PanicEntry → Heap → R), (bindO x fun v => groundK v (k v H)) = k v H) ∨ (∀ (_ : Xf) (_ : Kf) (k : Value → Heap → R) (_ : List PanicEntry → Heap → R), (bindO x fun v => groundK v (k v H)) = none) := by
   intro x
   cases x with
   | none => exact .inr fun _ _ _ _ => rfl
   | some y =>
     by_cases h : ground y = true
     · exact .inl ⟨y, fun _ _ _ _ => by simp [bindO, groundK, h]⟩
     · exact .inr fun _ _ _ _ => by simp [bindO, groundK, h]
 cases op <;> simp only at hc ⊢ <;> first
   | exact bo _
   | exact bg _
   | exact .inl ⟨_, fun _ _ _ _ => rfl⟩
   | (exfalso; omega)
   | skip
 case pick c a b =>
   split
   · exact .inl ⟨_, fun _ _ _ _ => rfl⟩
   · exact .inr fun _ _ _ _ => rfl
 case load t a => exact j91 (fun v H' h => j8i h)
 case convert s d x =>
   refine j91 (fun v H' h => j2l ?_ h)
   intro e he
   rw [he] at hc
   simp at hc
 case makeInterface t x =>
   split
   · exact .inr fun _ _ _ _ => rfl
   · exact .inl ⟨_, fun _ _ _ _ => rfl⟩
   · exact .inr fun _ _ _ _ => rfl
 case call c =>
   obtain ⟨callee, args, ts⟩ := c
   cases callee with
   | value f => simp at hc
   | invoke x y => simp at hc
   | builtin b => cases b <;> simp at hc <;> exact j2m P (by simp) _ _ _
theorem j2n {P : Program} {o : Oper} (hc : cls P o < 2) {ρ : Operand → Value} {H : Heap} {v : Value} (h : qval P ρ o H = some v) (X : Xf) (K : Kf) : Yl P X K ρ o H v H := by
 unfold qval at h
 rcases j0e hc ρ H with ⟨u, hu⟩ | hu
 · rw [hu] at h
   simp only [Option.some.injEq] at h
   subst h
   exact fun k kp => hu X K k kp
 · rw [hu] at h; simp at h
theorem j5g {P : Program} {X : Xf} {K : Kf} {o : Oper} (hc : cls P o < 2) {ρ : Operand → Value} {H H' : Heap} {v : Value} (h : Yl P X K ρ o H v H') : H' = H := by
 rcases j0e hc ρ H with ⟨u, hu⟩ | hu
 · have h1 := h (fun v H => some (.ret v, H)) (fun _ _ => none)
   rw [hu] at h1
   simp only [Option.some.injEq, Prod.mk.injEq] at h1
   exact h1.2.symm
 · have h1 := h (fun v H => some (.ret v, H)) (fun _ _ => none)
   rw [hu] at h1; simp at h1
theorem j2o (P : Program) (s d : TypeId) (x : Value) {dd : TypeDesc} (hd : P.underlying d = some dd) (h1 : ∀ e, dd ≠ .slice e) (h2 : dd ≠ .string) :
   (∃ v, ∀ H, convertA P s d x H = some (v, H)) ∨ (∀ H, convertA P s d x H = none) := by
 unfold convertA
 cases hs : P.underlying s with
 | none => exact .inr fun _ => rfl
 | some ds =>
   rw [hd]
   cases dd with
   | int k => cases x <;> first | exact .inl ⟨_, fun _ => rfl⟩ | exact .inr fun _ => rfl
   | slice e => exact absurd rfl (h1 e)
   | string => exact absurd rfl h2
   | _ => cases x <;> first | exact .inr fun _ => rfl | (cases ds <;> exact .inr fun _ => rfl)
theorem yi8 {P : Program} {o : Oper} (hc : cls P o = 0) (ρ : Operand → Value) :
   (∃ v, ∀ X K H k kp, opK P X K ρ o H k kp = k v H) ∨ (∀ X K H k kp, opK P X K ρ o H k kp = none) := by
 obtain ⟨dst, op, type, pos, after, guard⟩ := o
 simp only [cls] at hc
 simp only [opK]
 have bo : ∀ (x : Option Value), (∃ v, ∀ (_ : Xf) (_ : Kf) (H : Heap) (k : Value → Heap → R) (_ : List PanicEntry → Heap → R), (bindO x fun v => k v H) = k v H) ∨ (∀ (_ : Xf) (_ : Kf) (H : Heap) (k : Value → Heap → R) (_ : List PanicEntry → Heap → R), (bindO x fun v => k v H) = none) := by
   intro x
   cases x with
   | none => exact .inr fun _ _ _ _ _ => rfl
   | some y => exact .inl ⟨y, fun _ _ _ _ _ => rfl⟩
 have bg : ∀ (x : Option Value), (∃ v, ∀ (_ : Xf) (_ : Kf) (H : Heap) (k : Value → Heap → R) (_ : List PanicEntry → Heap → R), (bindO x fun v => groundK v (k v H)) = k v H) ∨ (∀ (_ : Xf) (_ : Kf) (H : Heap) (k : Value → Heap → R) (_ : List PanicEntry → Heap → R), (bindO x fun v => groundK v (k v H)) = none) := by
   intro x
   cases x with
   | none => exact .inr fun _ _ _ _ _ => rfl
   | some y =>
     by_cases h : ground y = true
     · exact .inl ⟨y, fun _ _ _ _ _ => by simp [bindO, groundK, h]⟩
     · exact .inr fun _ _ _ _ _ => by simp [bindO, groundK, h]
 cases op <;> simp only at hc ⊢ <;> first
   | exact bo _
   | exact bg _
   | exact .inl ⟨_, fun _ _ _ _ _ => rfl⟩
   | (exfalso; omega)
   | skip
 case pick c a b =>
   split
   · exact .inl ⟨_, fun _ _ _ _ _ => rfl⟩
   · exact .inr fun _ _ _ _ _ => rfl
 case convert s d x =>
   cases hd : P.underlying d with
   | none => rw [hd] at hc; simp at hc
   | some dd =>
     rw [hd] at hc
     have h1 : ∀ e, dd ≠ .slice e := by intro e he; subst he; simp at hc
     have h2 : dd ≠ .string := by intro he; subst he; simp at hc
     rcases j2o P s d (ρ x) hd h1 h2 with ⟨v, hv⟩ | hv
     · exact .inl ⟨v, fun _ _ H _ _ => by rw [hv H]; rfl⟩
     · exact .inr fun _ _ H _ _ => by rw [hv H]; rfl
 case makeInterface t x =>
   split
   · exact .inr fun _ _ _ _ _ => rfl
   · exact .inl ⟨_, fun _ _ _ _ _ => rfl⟩
   · exact .inr fun _ _ _ _ _ => rfl
 case call c =>
   obtain ⟨callee, args, ts⟩ := c
   cases callee with
   | value f => simp at hc
   | invoke x y => simp at hc
   | builtin b => cases b <;> simp at hc
theorem yp8 {P : Program} {X : Xf} {K : Kf} {o : Oper} (hc : cls P o = 0) {ρ : Operand → Value} {H H' : Heap} {v : Value} (h : Yl P X K ρ o H v H') (H2 : Heap) : Yl P X K ρ o H2 v H2 := by
 have h1 := h (fun v H => some (.ret v, H)) (fun _ _ => none)
 rcases yi8 hc ρ with ⟨u, hu⟩ | hu
 · rw [hu] at h1
   simp only [Option.some.injEq, Prod.mk.injEq, End.ret.injEq] at h1
   obtain ⟨rfl, _⟩ := h1
   exact fun k kp => hu X K H2 k kp
 · rw [hu] at h1; simp at h1
end Go.Am
