/- Steps of the machine of FaG. -/
import Derived.Test.YtohmeeglehopiaaDoorFaG
import Derived.Test.YtohmeeglehopiaaDoorEs
namespace Go.Am

/-- No region where values are looked at again. -/
def noPr : Nat → List (Nat × Nat) := fun _ => []
section code
variable {P : Program} {X : Xf} {K : Kf} {N : Nat} {pr : Nat → List (Nat × Nat)}
theorem execG_seq (x y : Code) (E : Env) (ds : List Deferred) (H : Heap) (k : KOE) : execG P X K N pr (.seq x y) none E ds H k = execG P X K N pr x none E ds H (thenE (execG P X K N pr y none) k) := by rw [execG]
theorem execG_skip (E : Env) (ds : List Deferred) (H : Heap) (k : KOE) : execG P X K N pr .skip none E ds H k = k .norm E ds H := by rw [execG]
theorem execG_ret (E : Env) (ds : List Deferred) (H : Heap) (k : KOE) : execG P X K N pr .ret none E ds H k = k .ret E ds H := by rw [execG]
theorem execG_exit (i : Nat) (E : Env) (ds : List Deferred) (H : Heap) (k : KOE) : execG P X K N pr (.exit i) none E ds H k = k (.exit i) E ds H := by rw [execG]
theorem execG_region (i : Nat) (ops : Array Oper) (dr : Bool) (E : Env) (ds : List Deferred) (H : Heap) (k : KOE) :
    execG P X K N noPr (.region i ops dr) none E ds H k = execOpsE P X K ops ops.toList E ds H (fun E ds H => k .norm E ds H) (fun c E ds H => cond dr none (k (.pan c) E ds H)) := by rw [execG]; cases dr <;> rfl
theorem execG_plain (i : Nat) (ops : Array Oper) (E : Env) (ds : List Deferred) (H : Heap) (k : KOE) :
    execG P X K N pr (.region i ops false) none E ds H k = execOpsE P X K ops ops.toList E ds H (fun E ds H => k .norm E ds H) (fun c E ds H => cond false none (k (.pan c) E ds H)) := by rw [execG]; rfl
theorem execG_still (i : Nat) (ops : Array Oper) (E : Env) (ds : List Deferred) (H : Heap) (k : KOE) (h : (pr i).isEmpty = true) :
    execG P X K N pr (.region i ops true) none E ds H k = execOpsE P X K ops ops.toList E ds H (fun E ds H => k .norm E ds H) (fun c E ds H => cond true none (k (.pan c) E ds H)) := by rw [execG, h]; rfl
theorem execG_open (i : Nat) (ops : Array Oper) (E : Env) (ds : List Deferred) (H : Heap) (k : KOE) (h : (pr i).isEmpty = false) :
    execG P X K N pr (.region i ops true) none E ds H k = execTrF P X K ops ops.toList E ds H [] fun tr E ds H => cond ((pr i).all fun x => pairChkE P ops tr x.1 x.2) (k .norm E ds H) none := by rw [execG, h]; rfl
theorem execG_cond (c : Operand) (x y : Code) (E : Env) (ds : List Deferred) (H : Heap) (k : KOE) : execG P X K N pr (.cond c x y) none E ds H k = condE (evalE E c) (execG P X K N pr x none E ds H k) (execG P X K N pr y none E ds H k) := by rw [execG]
theorem execG_block (i : Nat) (b : Code) (E : Env) (ds : List Deferred) (H : Heap) (k : KOE) : execG P X K N pr (.block i b) none E ds H k = execG P X K N pr b none E ds H (leaveB i k) := by rw [execG]
theorem execG_loop (b : Code) (E : Env) (ds : List Deferred) (H : Heap) (k : KOE) : execG P X K N pr (.loop b) none E ds H k = loopE (execG P X K N pr b none) N E ds H k := by rw [execG]
theorem execTrF_nil (ops : Array Oper) (E : Env) (ds : List Deferred) (H : Heap) (tr : List (Env × Heap)) (k : List (Env × Heap) → KE) : execTrF P X K ops [] E ds H tr k = k (tr ++ [(E, H)]) E ds H := id rfl
theorem execTrF_cons (ops : Array Oper) (o : Oper) (rest : List Oper) (E : Env) (ds : List Deferred) (H : Heap) (tr : List (Env × Heap)) (k : List (Env × Heap) → KE) :
    execTrF P X K ops (o :: rest) E ds H tr k = guardE ops o E (opE P X K o E ds H (fun E' ds' H' => execTrF P X K ops rest E' ds' H' (tr ++ [(E, H)]) k) (fun _ _ _ _ => none)) (execTrF P X K ops rest (upd E o.dst undef) ds H (tr ++ [(E, H)]) k) := id rfl
end code
/-- A guard whose value is known. -/
theorem guardE_at (ops : Array Oper) (d : Option Tmp) (op : Op) (t : TypeId) (p : String) (af : Array Edge) (j : Nat) (w : Bool) (e : Tmp) (b : Bool) (E : Env) (run skip : R) (hd : (ops[j]?).bind (·.dst) = some e) (h : E e = .bool b) : guardE ops ⟨d, op, t, p, af, some (j, w)⟩ E run skip = cond (b == w) run skip := by
  simp [guardE, hd, h]
section ops
variable {P : Program} {X : Xf} {K : Kf} {d : Option Tmp} {t : TypeId} {p : String} {af : Array Edge} {g : Option (Nat × Bool)} {E : Env} {ds : List Deferred} {H : Heap} {k : KE} {kp : List PanicEntry → KE}
theorem opE_nilCheck (x : Operand) : opE P X K ⟨d, .nilCheck x, t, p, af, g⟩ E ds H k kp = bindO (nilCheckA (evalE E x)) fun v => k (upd E d v) ds H := id rfl
theorem opE_box (e : TypeId) (x : Operand) : opE P X K ⟨d, .box e x, t, p, af, g⟩ E ds H k kp = bindV (boxA P e (evalE E x) H) fun v H => k (upd E d v) ds H := id rfl
theorem opE_unOp (op : UnOp) (e : TypeId) (x : Operand) : opE P X K ⟨d, .unOp op e x, t, p, af, g⟩ E ds H k kp = bindO (unA P op (evalE E x)) fun v => groundK v (k (upd E d v) ds H) := id rfl
theorem opE_index (e : TypeId) (x i : Operand) : opE P X K ⟨d, .index e x i, t, p, af, g⟩ E ds H k kp = bindO (indexA P e (evalE E x) (evalE E i)) fun v => k (upd E d v) ds H := id rfl
theorem opE_makeSlice (e : TypeId) (x y : Operand) : opE P X K ⟨d, .makeSlice e x y, t, p, af, g⟩ E ds H k kp = bindV (makeSliceA P e (evalE E x) (evalE E y) H) fun v H => k (upd E d v) ds H := id rfl
theorem opE_makeFunc (fn : Fn) (a b : Array Operand) : opE P X K ⟨d, .makeFunc fn a b, t, p, af, g⟩ E ds H k kp = k (upd E d (.func fn (a.map (evalE E)) (b.map (evalE E)))) ds H := id rfl
theorem opE_field (e : TypeId) (x : Operand) (f : Nat) : opE P X K ⟨d, .field e x f, t, p, af, g⟩ E ds H k kp = bindO (fieldA P e (evalE E x) f) fun v => k (upd E d v) ds H := id rfl
/-- A call of a value that is a function. -/
theorem opE_callv (i : Tmp) (args : Array Operand) (ts : Array TypeId) (f : FuncId) (a b : Array Value) (h : E i = .func (.func f) a b) :
    opE P X K ⟨d, .call { callee := .value (.tmp i), args := args, argTypes := ts }, t, p, af, g⟩ E ds H k kp = callK P X K f (a ++ args.map (evalE E) ++ b) H (fun v H => k (upd E d v) ds H) (fun c H => kp c E ds H) := by
  simp only [opE, opK, evalE, h]
end ops
theorem nilCheckA_ok (a : Addr) : nilCheckA (.pointer (some a)) = some (.pointer (some a)) := by simp [nilCheckA]
theorem callG_fn {P : Program} {okf : FuncId → Bool} {prf : FuncId → Nat → List (Nat × Nat)} {X : Xf} {N : Nat} {hk : Hook} {d : Nat} {f : FuncId} {fn : Func} {c : Code} {args : Array Value} {H : Heap} (hh : hk f args H = none) (hf : P.funcs[f]? = some fn) (hc : fn.body = some c) (ho : okf f = true) (hs : Nat.ble args.size fn.ntmps = true) {pr : Nat → List (Nat × Nat)} (hp : prf f = pr) :
    callG P okf prf X N hk (d + 1) f args H = execG P X (callG P okf prf X N hk d) N pr c none (startE args) [] H (finE P fn) := by
  simp [callG, hh, hf, hc, ho, hs, hp]
theorem callG_hook {P : Program} {okf : FuncId → Bool} {prf : FuncId → Nat → List (Nat × Nat)} {X : Xf} {N : Nat} {hk : Hook} {d : Nat} {f : FuncId} {args : Array Value} {H : Heap} {r : R} (hh : hk f args H = some r) :
    callG P okf prf X N hk (d + 1) f args H = r := by
  simp [callG, hh]
end Go.Am
