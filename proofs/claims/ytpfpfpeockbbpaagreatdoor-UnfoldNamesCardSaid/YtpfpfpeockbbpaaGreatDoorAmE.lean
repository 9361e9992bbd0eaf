/- Running code on abstract heaps: continuations, fuel for rounds, fuel for calls. -/
import Derived.Test.YtpfpfpeockbbpaaGreatDoorAmZ
import Derived.Scope
namespace Go.Am

inductive End where
  | ret (v : Value)
  | pan (c : List PanicEntry)

abbrev R := Option (End × Heap)
abbrev Kf := FuncId → Array Value → Heap → R
abbrev Xf := FuncId → Array Value → Heap → VH

def bindV (x : VH) (k : Value → Heap → R) : R := match x with | some (v, H) => k v H | none => none
def bindO (x : Option Value) (k : Value → R) : R := match x with | some v => k v | none => none
def bindR (x : R) (k : Value → Heap → R) (kp : List PanicEntry → Heap → R) : R :=
  match x with
  | some (.ret v, H) => k v H
  | some (.pan c, H) => kp c H
  | none => none

theorem bindV_some {x : VH} {k : Value → Heap → R} {r : End × Heap} (h : bindV x k = some r) : ∃ v H, x = some (v, H) ∧ k v H = some r := by
  unfold bindV at h
  split at h
  · exact ⟨_, _, rfl, h⟩
  · simp at h
theorem bindO_some {x : Option Value} {k : Value → R} {r : End × Heap} (h : bindO x k = some r) : ∃ v, x = some v ∧ k v = some r := by
  unfold bindO at h
  split at h
  · exact ⟨_, rfl, h⟩
  · simp at h

/-- Where a value is laid into a frame. -/
def typed (_ : Option TypeDesc) (v : Value) (k : Value → R) : R := k v
theorem typed_some {d : Option TypeDesc} {v : Value} {k : Value → R} {r : End × Heap} (h : typed d v k = some r) : k v = some r := h

def pickV (t : Bool) (a b : Value) : Value :=
  match a, b with
  | .bool x, .bool y => .bool (cond t x y)
  | a, b => cond t a b

theorem pickV_eq (t : Bool) (a b : Value) : pickV t a b = if t then a else b := by
  unfold pickV
  split <;> cases t <;> rfl

def builtinK (P : Program) (b : Builtin) (ts : Array TypeId) (args : Array Value) (H : Heap) (k : Value → Heap → R) : R :=
  match b, args.toList with
  | .len, [x] => match ts[0]? with | some t => bindO (lenA P t x H) fun v => k v H | none => none
  | .append, [s, x] => if ts.size = 2 then bindV (appendA P ts s x H) k else none
  | .copy, [d, s] => bindV (copyA P ts d s H) k
  | .min, [.int ka a, .int kb b] => if ka = kb then k (.int ka (if b < a then b else a)) H else none
  | .unsafeSliceData, [x] => bindV (dataA x H) k
  | .unsafeString, [p, l] => if ts.size = 2 then bindV (unsafeStrA P ts p l H) k else none
  | .max, [.int ka a, .int kb b] => if ka = kb then k (.int ka (if b > a then b else a)) H else none
  | _, _ => none

def callK (P : Program) (X : Xf) (K : Kf) (f : FuncId) (args : Array Value) (H : Heap) (k : Value → Heap → R) (kp : List PanicEntry → Heap → R) : R :=
  match P.funcs[f]? with
  | some fn => if fn.name == "runtime.NumGoroutine" then none else if fn.body.isNone then bindV (X f args H) k else bindR (K f args H) k kp
  | none => none

def groundK (v : Value) (k : R) : R := if ground v then k else none

/-- Operations on maps. -/
def mapK (P : Program) (ρ : Operand → Value) (op : Op) (H : Heap) (k : Value → Heap → R) : R :=
  match op with
  | .makeMap t r => bindV (makeMapA P t (r.map ρ) H) k
  | .lookup t x i ok => bindO (lookupA P t (ρ x) (ρ i) ok H) fun v => k v H
  | .mapUpdate t x i v => bindV (mapUpdateA P t (ρ x) (ρ i) (ρ v) H) k
  | _ => none

def opK (P : Program) (X : Xf) (K : Kf) (ρ : Operand → Value) (o : Oper) (H : Heap) (k : Value → Heap → R) (kp : List PanicEntry → Heap → R) : R :=
  match o.op with
  | .move x | .assign x => k (ρ x) H
  | .pick c a b => match ρ c with | .bool t => k (pickV t (ρ a) (ρ b)) H | _ => none
  | .alloc e => bindV (allocA P e H) k
  | .box e x => bindV (boxA P e (ρ x) H) k
  | .build t parts => bindO (buildA P t (parts.map fun (i, x) => (i, ρ x))) fun v => k v H
  | .buildSlice t len parts => bindV (buildSliceA P t len (parts.map fun (i, x) => (i, ρ x)) H) k
  | .load t a => bindV (loadA P t (ρ a) H) k
  | .store t a x => bindV (storeA P t (ρ a) (ρ x) H) k
  | .nilCheck x => bindO (nilCheckA (ρ x)) fun v => k v H
  | .binOp op t x y _ => bindO (binA P op t x y (ρ x) (ρ y)) fun v => groundK v (k v H)
  | .unOp op _ x => bindO (unA P op (ρ x)) fun v => groundK v (k v H)
  | .convert s d x => bindV (convertA P s d (ρ x) H) k
  | .makeInterface t x => match P.underlying t with | some (.interface _) => none | some _ => k (.iface t (ρ x)) H | none => none
  | .makeFunc fn first cap => k (.func fn (first.map ρ) (cap.map ρ)) H
  | .makeSlice t l c => bindV (makeSliceA P t (ρ l) (ρ c) H) k
  | .slice t x lo hi mx => bindO (sliceOpA P t (ρ x) (lo.map ρ) (hi.map ρ) (mx.map ρ) H) fun v => k v H
  | .fieldAddr s x f => bindO (fieldAddrA P s (ρ x) f) fun v => k v H
  | .field t x f => bindO (fieldA P t (ρ x) f) fun v => k v H
  | .indexAddr t x i => bindO (indexAddrA P t (ρ x) (ρ i)) fun v => k v H
  | .index t x i => bindO (indexA P t (ρ x) (ρ i)) fun v => k v H
  | .extract t i => bindO (extractA (ρ t) i) fun v => k v H
  | .range t x => bindV (rangeA P t (ρ x) H) k
  | .next it str => bindV (nextA (ρ it) str H) k
  | .typeAssert x t u ok => bindO (assertA P (ρ x) t u ok) fun v => k v H
  | .panic x => match ρ x with | .iface t v => kp [{ v := .iface t v, recovered := false }] H | _ => none
  | .call c =>
    match c.callee with
    | .builtin b => builtinK P b c.argTypes (c.args.map ρ) H k
    | .value f => match ρ f with | .func (.func g) first cap => callK P X K g (first ++ c.args.map ρ ++ cap) H k kp | _ => none
    | .invoke _ _ => none
  | op => mapK P ρ op H k

/-- How a stretch of code is left. -/
inductive Out where
  | norm
  | exit (id : Nat)
  | goto (l : Nat)
  | ret
  | pan (c : List PanicEntry)

def splitB (b : Bool) (k : Bool → R) : R := cond b (k true) (k false)
theorem splitB_eq (b : Bool) (k : Bool → R) : splitB b k = k b := by cases b <;> rfl

def deferOf (ρ : Operand → Value) (c : Call) : Option Deferred :=
  match c.callee with
  | .value f => match ρ f with | .func fn first cap => some { target := .fn fn cap, args := first ++ c.args.map ρ } | _ => none
  | _ => none

def operandOk (P : Program) : Operand → Bool
  | .const v => ground v
  | .global g => decide (g < P.globals.size)
  | _ => true

def opOk (P : Program) (o : Oper) : Bool := o.op.operands.toList.all (operandOk P)

def execOp1 (P : Program) (X : Xf) (K : Kf) (o : Oper) (a : Act) (H : Heap) (k : Act → Heap → R) (kp : List PanicEntry → Act → Heap → R) : R :=
  cond (opOk P o) (match o.op with
  | .defer c => match deferOf a.eval c with
    | some d => k ({ a with defers := d :: a.defers }.put o.dst undef) H
    | none => none
  | _ => opK P X K a.eval o H (fun v H => typed (P.underlying o.type) v fun v => k (a.put o.dst v) H) (fun c H => kp c a H)) none

def guardK (ops : Array Oper) (o : Oper) (a : Act) (run : Act → R) (skip : Act → R) : R :=
  match o.guard with
  | none => run a
  | some (j, want) =>
    match (ops[j]?).bind (·.dst) with
    | none => skip a
    | some d =>
      match a.tmps[d]? with
      | some (.bool b) => splitB b fun b' => cond (b' == want) (run { a with tmps := a.tmps.setIfInBounds d (.bool b') }) (skip { a with tmps := a.tmps.setIfInBounds d (.bool b') })
      | some (.tuple _) => skip a
      | _ => none

def execOps (P : Program) (X : Xf) (K : Kf) (ops : Array Oper) : List Oper → Act → Heap → (Act → Heap → R) → (List PanicEntry → Act → Heap → R) → R
  | [], a, H, k, _ => k a H
  | o :: rest, a, H, k, kp =>
    guardK ops o a (fun a => execOp1 P X K o a H (fun a H => execOps P X K ops rest a H k kp) kp) (fun a => execOps P X K ops rest (a.put o.dst undef) H k kp)

/-- 0: looks at no memory; 1: looks at memory; 2: all others. -/
def cls (P : Program) (o : Oper) : Nat :=
  match o.op with
  | .move _ | .assign _ | .pick .. | .build .. | .nilCheck _ | .binOp .. | .unOp .. | .makeInterface .. | .makeFunc .. | .fieldAddr .. | .field .. | .indexAddr .. | .index .. | .extract .. | .typeAssert .. => 0
  | .load .. | .slice .. | .lookup .. => 1
  | .convert _ d _ => match P.underlying d with | some (.slice _) => 2 | some .string => 1 | some (.pointer _) => 1 | some .unsafePointer => 1 | some _ => 0 | none => 2
  | .call { callee := .builtin .len, .. } | .call { callee := .builtin .min, .. } | .call { callee := .builtin .max, .. } => 1
  | _ => 2

def noX : Xf := fun _ _ _ => none
def noK : Kf := fun _ _ _ => none
def qval (P : Program) (ρ : Operand → Value) (o : Oper) (H : Heap) : Option Value :=
  match opK P noX noK ρ o H (fun v H' => some (.ret v, H')) (fun _ _ => none) with
  | some (.ret v, _) => some v
  | _ => none

def veq0 : Value → Value → Bool
  | .bool a, .bool b => a == b
  | .int k a, .int k' b => k == k' && a == b
  | .string a, .string b => a.data.toList == b.data.toList
  | .pointer a, .pointer b => a == b
  | .slice a l c, .slice a' l' c' => a == a' && l == l' && c == c'
  | .map a, .map b => a == b
  | .nilFunc, .nilFunc => true
  | .nilIface, .nilIface => true
  | _, _ => false

def veqs : List Value → List Value → Bool
  | [], [] => true
  | a :: r, b :: s => veq0 a b && veqs r s
  | _, _ => false

def veq : Value → Value → Bool
  | .agg xs, .agg ys => veqs xs.toList ys.toList
  | .iface t v, .iface u w => t == u && veq0 v w
  | .func (.func g) xs ys, .func (.func h) zs us => g == h && (veqs xs.toList zs.toList && veqs ys.toList us.toList)
  | a, b => veq0 a b

/-- What stands before an operation, as a number's bits. -/
def maskOf (acc : List Nat) (o : Oper) : Nat :=
  (o.after.toList.filter fun e => Region.binds .any e).foldl (fun s e => s ||| 2 ^ e.on ||| acc.getD e.on 0) 0
def masks : List Oper → List Nat → List Nat
  | [], acc => acc
  | o :: r, acc => masks r (acc ++ [maskOf acc o])

def dstIs (o : Oper) (t : Tmp) : Bool := match o.dst with | some d => d == t | none => false

/-- The slots that an operation looks at. -/
def looks (ops : List Oper) (o : Oper) : List Tmp :=
  (o.op.operands.toList.filterMap fun | .tmp t => some t | _ => none) ++
  (match o.guard with
    | some (j, _) => match ops[j]? with | some oj => oj.dst.toList | none => []
    | none => [])

def isDefer (o : Oper) : Bool := match o.op with | .defer _ => true | _ => false

/-- A new variable whose making waits for nothing. -/
def freeA (o : Oper) : Bool := match o.op with | .alloc _ => o.guard.isNone && o.dst.isSome | .makeMap _ none => o.guard.isNone && o.dst.isSome | _ => false
/-- Effects stand one behind the other, all of them. -/
def strictB (P : Program) (ops : List Oper) : Bool :=
  let b := masks ops []
  (List.range ops.length).all fun i =>
    match ops[i]? with
    | none => false
    | some oi => (List.range ops.length).all fun j =>
        match ops[j]? with
        | none => false
        | some oj => !(decide (i < j) && cls P oi == 2 && cls P oj == 2) || (b.getD j 0).testBit i
/-- Nothing is looked at but behind what writes it, or ahead; effects stand one behind the other. -/
def drawOk (P : Program) (ops : List Oper) : Bool :=
  let b := masks ops []
  let n := ops.length
  (List.range n).all fun i =>
    match ops[i]? with
    | none => false
    | some oi =>
      !isDefer oi && decide (b.getD i 0 < 2 ^ i) &&
      (oi.after.toList.all fun e => !Region.binds .any e || decide (e.on < i)) &&
      (List.range n).all fun j =>
        match ops[j]? with
        | none => false
        | some oj =>
          (match oj.dst with
            | none => true
            | some d => (i == j || !dstIs oi d) && ((looks ops oi).all fun t => !(t == d) || (i != j && ((b.getD i 0).testBit j || (b.getD j 0).testBit i)))) &&
          (!(decide (i < j) && cls P oi == 2 && cls P oj == 2) || freeA oj || (b.getD j 0).testBit i) &&
          (!freeA oj || (match oj.dst with | none => true | some d => !((looks ops oi).any fun t => t == d) || (cls P oi == 2 || (List.range (j + 1)).all fun e => match ops[e]? with | some oe => !(cls P oe == 2) || (b.getD i 0).testBit e | none => true)))

/-- A guard at an abstract frame. -/
def guardB (ops : Array Oper) (o : Oper) (a : Act) : Option Bool :=
  match o.guard with
  | none => some true
  | some (j, want) =>
    match (ops[j]?).bind (·.dst) with
    | none => some false
    | some d =>
      match a.tmps[d]? with
      | some (.bool b) => some (b == want)
      | some (.tuple _) => some false
      | _ => none

/-- Values that might be seen too early or too late are looked at again. -/
def drawChk (P : Program) (ops : Array Oper) (tr : List (Act × Heap)) : Bool :=
  let b := masks ops.toList []
  let n := ops.toList.length
  (List.range n).all fun i =>
    match ops.toList[i]?, tr[i]?, tr[i + 1]? with
    | some oi, some ti, some tn =>
      if cls P oi = 1 ∧ guardB ops oi ti.1 = some true then
        (List.range n).all fun p =>
          match ops.toList[p]? with
          | some op =>
            if cls P op = 2 ∧ (b.getD i 0).testBit p = false ∧ (b.getD p 0).testBit i = false then
              match tr[p]?, tr[p + 1]?, oi.dst with
              | some tp, some tq, some d =>
                (match qval P ti.1.eval oi tp.2 with | some v => veq v (tn.1.tmps.getD d undef) | none => false) &&
                (match qval P ti.1.eval oi tq.2 with | some v => veq v (tn.1.tmps.getD d undef) | none => false)
              | _, _, _ => false
            else true
          | none => true
      else true
    | _, _, _ => false

/-- An operation that may panic. -/
def mayPan (o : Oper) : Bool := match o.op with | .panic _ => true | .call c => (match c.callee with | .value _ => true | _ => false) | _ => false
/-- Where operations panic: what stands behind such a one in the text waits for it, and what stands ahead sees the same in every order. -/
def panAll0 (P : Program) (ops : List Oper) : Bool :=
  let b := masks ops []
  ((List.range ops.length).all fun i => match ops[i]? with
    | none => true
    | some o => match o.guard with | some (j, _) => decide (j < i) | none => true) &&
  (List.range ops.length).all fun p =>
    match ops[p]? with
    | none => true
    | some op => !mayPan op || ((List.range ops.length).all fun j => !decide (p < j) || (b.getD j 0).testBit p) &&
      (List.range p).all fun i => match ops[i]? with
        | none => true
        | some oi => !(cls P oi == 1) || (List.range p).all fun e => match ops[e]? with
          | none => true
          | some oe => !(cls P oe == 2) || ((b.getD i 0).testBit e || (b.getD e 0).testBit i)
def panAll (P : Program) (ops : List Oper) : Bool := panAll0 P ops && strictB P ops
/-- The same at the operation that panicked; 'tr': the states ahead of it and at it. -/
def panChk (P : Program) (ops : Array Oper) (tr : List (Act × Heap)) : Bool :=
  ((List.range ops.toList.length).all fun i => match ops.toList[i]? with
    | none => true
    | some o => match o.guard with | some (j, _) => decide (j < i) | none => true) &&
  ((List.range ops.toList.length).all fun j => !decide (tr.length ≤ j) || ((masks ops.toList []).getD j 0).testBit (tr.length - 1)) &&
  (strictB P ops.toList && drawChk P (ops.toList.take (tr.length - 1)).toArray tr)
def panOkTr (P : Program) (ops : Array Oper) (tr : List (Act × Heap)) : Bool := panAll P ops.toList || panChk P ops tr
def writes (ops : Array Oper) (i : Nat) : Bool := ops.toList.any fun o => dstIs o i
/-- A frame without what a region writes. -/
def eraseA (ops : Array Oper) (a : Act) : Act := { a with tmps := a.tmps.mapIdx fun i v => cond (writes ops i) undef v }
def execTr (P : Program) (X : Xf) (K : Kf) (ops : Array Oper) : List Oper → Act → Heap → List (Act × Heap) → (List (Act × Heap) → Act → Heap → R) → (List (Act × Heap) → List PanicEntry → Act → Heap → R) → R
  | [], a, H, tr, k, _ => k (tr ++ [(a, H)]) a H
  | o :: rest, a, H, tr, k, kp =>
    guardK ops o a (fun b => execOp1 P X K o b H (fun a' H' => execTr P X K ops rest a' H' (tr ++ [(b, H)]) k kp) (kp (tr ++ [(b, H)]))) (fun b => execTr P X K ops rest (b.put o.dst undef) H (tr ++ [(b, H)]) k kp)

/-! A mapping that is written down: its entries are put in in whatever order; it is taken up when all is done, and not written any more. -/
structure Gath where
  g : Nat
  t : Tmp
  zs : List Tmp
def insOf (t : Tmp) (o : Oper) : Option (TypeId × IntKind × Int × Tmp) := match o.op with
  | .insert ty (.tmp m) (.const (.int kd n)) (.tmp v) => if m = t then some (ty, kd, n, v) else none
  | _ => none
def copyOf (o : Oper) : Option (Tmp × Tmp) := match o.op, o.dst with
  | .move (.tmp x), some d => some (x, d)
  | .assign (.tmp x), some d => some (x, d)
  | _, _ => none
def tailOf (zs : List Tmp) (o : Oper) : Option (Tmp × Tmp) := match copyOf o with | some (x, d) => if zs.contains x then some (x, d) else none | none => none
def gathOf (ops : List Oper) : Gath :=
  let g := ops.findIdx fun o => match o.op with | .makeMap _ none => true | _ => false
  let t := ((ops[g]?).bind (·.dst)).getD 0
  { g := g, t := t, zs := ops.foldl (fun zs o => match tailOf zs o with | some (_, d) => d :: zs | none => zs) [t] }
def inG (G : Gath) (i : Nat) (o : Oper) : Bool := Nat.beq i G.g || ((insOf G.t o).isSome || (tailOf G.zs o).isSome)
def maskO (G : Gath) (i : Nat) (o : Oper) : Oper := cond (inG G i o) { o with op := .assign (.const (.bool false)), dst := none } o
def maskL (G : Gath) (ops : List Oper) : List Oper := ops.mapIdx (maskO G)
def gathIns (P : Program) (G : Gath) (ops : List Oper) (i : Nat) : TypeId × IntKind × Int × Tmp → Bool
  | (ty, kd, n, v) => (match P.underlying ty with | some (.map kt _) => (match P.underlying kt with | some (.int _) => true | _ => false) | _ => false) && (!G.zs.contains v &&
      (((List.range ops.length).any fun j => ((masks ops []).getD i 0).testBit j && (match ops[j]? with | some oj => oj.dst == some v && (!inG G j oj && !freeA oj) | none => false)) &&
      ((List.range i).all fun j => match (ops[j]?).bind (insOf G.t) with | some (_, kd', n', _) => kd' == kd && n' != n | none => true)))
def gathTail (G : Gath) (ops : List Oper) (i : Nat) : Tmp × Tmp → Bool
  | (x, d) => G.zs.contains d && (x == G.t || ((List.range ops.length).any fun j => ((masks ops []).getD i 0).testBit j && (match (ops[j]?).bind (tailOf G.zs) with | some (_, d') => d' == x && !Nat.beq j G.g | none => false)))
def gathOk (P : Program) (G : Gath) (ops : List Oper) : Bool :=
  (match ops[G.g]? with | some o => (match o.op with | .makeMap _ none => true | _ => false) && (o.dst == some G.t) | none => false) && (G.zs.contains G.t && (drawOk P (maskL G ops) && ((G.zs.all fun t => t == G.t || (List.range ops.length).any fun j => !Nat.beq j G.g && (match (ops[j]?).bind (tailOf G.zs) with | some (_, d) => d == t | none => false)) &&
  (List.range ops.length).all fun i => match ops[i]? with
    | none => true
    | some o => o.guard.isNone && cond (Nat.beq i G.g) true (match insOf G.t o with
      | some x => o.dst.isNone && (((masks ops []).getD i 0).testBit G.g && gathIns P G ops i x)
      | none => match tailOf G.zs o with
        | some x => ((masks ops []).getD i 0).testBit G.g && gathTail G ops i x
        | none => (match o.dst with | some d => !G.zs.contains d | none => true) && o.op.operands.toList.all fun x => match x with | .tmp t => !G.zs.contains t | _ => true))))
def hideA (G : Gath) (a : Act) : Act := { a with tmps := a.tmps.mapIdx fun i v => cond (G.zs.contains i) undef v }
def fillA (G : Gath) (a : Act) (b : Nat) : Act := { a with tmps := a.tmps.mapIdx fun i v => cond (G.zs.contains i) (.map (some b)) v }
def entOf (G : Gath) (ops : List Oper) (a : Act) (i : Nat) : Option MapEntry := match (ops[i]?).bind (insOf G.t) with
  | some (_, kd, n, v) => some { key := .int kd n, val := a.tmps.getD v undef, born := 0 }
  | none => none
def entsA (G : Gath) (ops : List Oper) (a : Act) : List MapEntry := (List.range ops.length).filterMap (entOf G ops a)
def gathK (P : Program) (X : Xf) (K : Kf) (ops : Array Oper) (a : Act) (H : Heap) (k : Act → Heap → R) : R :=
  cond (gathOk P (gathOf ops.toList) ops.toList && (gathOf ops.toList).zs.all fun t => decide (t < a.tmps.size))
    (execTr P X K (maskL (gathOf ops.toList) ops.toList).toArray (maskL (gathOf ops.toList) ops.toList) (hideA (gathOf ops.toList) a) H []
      (fun tr af Hf => cond (drawChk P (maskL (gathOf ops.toList) ops.toList).toArray tr)
        (k (fillA (gathOf ops.toList) af Hf.next) (Hf.allocB ⟨[], false, 0, some (.map (entsA (gathOf ops.toList) ops.toList af).toArray 0), none⟩)) none)
      (fun _ _ _ _ => none)) none
/-- A region that draws its order. -/
def drawK (P : Program) (X : Xf) (K : Kf) (ops : Array Oper) (a : Act) (H : Heap) (k : Act → Heap → R) (kp : List PanicEntry → Act → Heap → R) : R :=
  cond (drawOk P ops.toList)
    (execTr P X K ops ops.toList a H [] (fun tr af Hf => cond (drawChk P ops tr) (k af Hf) none) (fun tr c af Hf => cond (panOkTr P ops tr) (kp c (eraseA ops af) Hf) none))
    (gathK P X K ops a H k)

def loopC (body : Act → Heap → (Out → Act → Heap → R) → R) : Nat → Act → Heap → (Out → Act → Heap → R) → R
  | 0, _, _, _ => none
  | n + 1, a, H, k => body a H fun o a H => match o with | .norm => loopC body n a H k | o => k o a H

def hasLabel (l : Nat) : Code → Bool
  | .seq a b => hasLabel l a || hasLabel l b
  | .label l' => l' == l
  | _ => false

def scopeC (c : Code) (body : Option Nat → Act → Heap → (Out → Act → Heap → R) → R) : Nat → Option Nat → Act → Heap → (Out → Act → Heap → R) → R
  | 0, _, _, _, _ => none
  | n + 1, s, a, H, k => body s a H fun o a H => match o with | .goto l => cond (hasLabel l c) (scopeC c body n (some l) a H k) (k (.goto l) a H) | o => k o a H

def exec (P : Program) (X : Xf) (K : Kf) (N : Nat) : Code → Option Nat → Act → Heap → (Out → Act → Heap → R) → R
  | .seq x y, none, a, H, k => exec P X K N x none a H fun o a H => match o with | .norm => exec P X K N y none a H k | o => k o a H
  | .seq x y, some l, a, H, k => cond (hasLabel l x) (exec P X K N x (some l) a H fun o a H => match o with | .norm => exec P X K N y none a H k | o => k o a H) (exec P X K N y (some l) a H k)
  | .label l', some l, a, H, k => cond (l' == l) (k .norm a H) none
  | .label _, none, a, H, k => k .norm a H
  | .skip, none, a, H, k => k .norm a H
  | .region _ ops draw, none, a, H, k =>
    cond draw (drawK P X K ops a H (fun a H => k .norm a H) (fun c a H => k (.pan c) a H))
      (execOps P X K ops ops.toList a H (fun a H => k .norm a H) (fun c a H => k (.pan c) a H))
  | .cond c x y, none, a, H, k => match a.eval c with | .bool t => cond t (exec P X K N x none a H k) (exec P X K N y none a H k) | _ => none
  | .block id b, none, a, H, k => exec P X K N b none a H fun o a H => match o with | .exit i => cond (i == id) (k .norm a H) (k (.exit i) a H) | o => k o a H
  | .loop b, none, a, H, k => loopC (exec P X K N b none) N a H k
  | .exit id, none, a, H, k => k (.exit id) a H
  | .scope b, none, a, H, k => scopeC b (exec P X K N b) N none a H k
  | .goto l, none, a, H, k => k (.goto l) a H
  | .ret, none, a, H, k => k .ret a H
  | _, _, _, _, _ => none

end Go.Am
