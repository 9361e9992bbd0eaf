/- Steps of the machine whose frames are functions. -/
import Derived.Test.YtohmeeglehopiaaDoorFaE
namespace Go.Am

theorem execE_seq {P : Program} {X : Xf} {K : Kf} {N : Nat} (x y : Code) (E : Env) (ds : List Deferred) (H : Heap) (k : KOE) : execE P X K N (.seq x y) none E ds H k = execE P X K N x none E ds H (thenE (execE P X K N y none) k) := by rw [execE]
theorem execE_skip {P : Program} {X : Xf} {K : Kf} {N : Nat} (E : Env) (ds : List Deferred) (H : Heap) (k : KOE) : execE P X K N .skip none E ds H k = k .norm E ds H := by rw [execE]
theorem execE_ret {P : Program} {X : Xf} {K : Kf} {N : Nat} (E : Env) (ds : List Deferred) (H : Heap) (k : KOE) : execE P X K N .ret none E ds H k = k .ret E ds H := by rw [execE]
theorem execE_exit {P : Program} {X : Xf} {K : Kf} {N : Nat} (i : Nat) (E : Env) (ds : List Deferred) (H : Heap) (k : KOE) : execE P X K N (.exit i) none E ds H k = k (.exit i) E ds H := by rw [execE]
theorem execE_region {P : Program} {X : Xf} {K : Kf} {N : Nat} (i : Nat) (ops : Array Oper) (dr : Bool) (E : Env) (ds : List Deferred) (H : Heap) (k : KOE) :
    execE P X K N (.region i ops dr) none E ds H k = execOpsE P X K ops ops.toList E ds H (fun E ds H => k .norm E ds H) (fun c E ds H => cond dr none (k (.pan c) E ds H)) := by rw [execE]
theorem execE_cond {P : Program} {X : Xf} {K : Kf} {N : Nat} (c : Operand) (x y : Code) (E : Env) (ds : List Deferred) (H : Heap) (k : KOE) :
    execE P X K N (.cond c x y) none E ds H k = condE (evalE E c) (execE P X K N x none E ds H k) (execE P X K N y none E ds H k) := by rw [execE]
theorem execE_block {P : Program} {X : Xf} {K : Kf} {N : Nat} (i : Nat) (b : Code) (E : Env) (ds : List Deferred) (H : Heap) (k : KOE) : execE P X K N (.block i b) none E ds H k = execE P X K N b none E ds H (leaveB i k) := by rw [execE]
theorem execE_loop {P : Program} {X : Xf} {K : Kf} {N : Nat} (b : Code) (E : Env) (ds : List Deferred) (H : Heap) (k : KOE) : execE P X K N (.loop b) none E ds H k = loopE (execE P X K N b none) N E ds H k := by rw [execE]
theorem thenE_norm (b2 : Env → List Deferred → Heap → KOE → R) (k : KOE) (E : Env) (ds : List Deferred) (H : Heap) : thenE b2 k .norm E ds H = b2 E ds H k := id rfl
theorem thenE_ret (b2 : Env → List Deferred → Heap → KOE → R) (k : KOE) (E : Env) (ds : List Deferred) (H : Heap) : thenE b2 k .ret E ds H = k .ret E ds H := id rfl
theorem thenE_exit (b2 : Env → List Deferred → Heap → KOE → R) (k : KOE) (i : Nat) (E : Env) (ds : List Deferred) (H : Heap) : thenE b2 k (.exit i) E ds H = k (.exit i) E ds H := id rfl
theorem leaveB_norm (i : Nat) (k : KOE) (E : Env) (ds : List Deferred) (H : Heap) : leaveB i k .norm E ds H = k .norm E ds H := id rfl
theorem leaveB_ret (i : Nat) (k : KOE) (E : Env) (ds : List Deferred) (H : Heap) : leaveB i k .ret E ds H = k .ret E ds H := id rfl
theorem leaveB_exit (i j : Nat) (k : KOE) (E : Env) (ds : List Deferred) (H : Heap) : leaveB i k (.exit j) E ds H = cond (j == i) (k .norm E ds H) (k (.exit j) E ds H) := id rfl
theorem loopE_succ (body : Env → List Deferred → Heap → KOE → R) (n : Nat) (E : Env) (ds : List Deferred) (H : Heap) (k : KOE) : loopE body (n + 1) E ds H k = body E ds H (thenE (fun E ds H k => loopE body n E ds H k) k) := id rfl
theorem execOpsE_nil {P : Program} {X : Xf} {K : Kf} (ops : Array Oper) (E : Env) (ds : List Deferred) (H : Heap) (k : KE) (kp : List PanicEntry → KE) : execOpsE P X K ops [] E ds H k kp = k E ds H := id rfl
theorem execOpsE_cons {P : Program} {X : Xf} {K : Kf} (ops : Array Oper) (o : Oper) (rest : List Oper) (E : Env) (ds : List Deferred) (H : Heap) (k : KE) (kp : List PanicEntry → KE) :
    execOpsE P X K ops (o :: rest) E ds H k kp = guardE ops o E (opE P X K o E ds H (fun E ds H => execOpsE P X K ops rest E ds H k kp) kp) (execOpsE P X K ops rest (upd E o.dst undef) ds H k kp) := id rfl
theorem guardE_none (ops : Array Oper) (d : Option Tmp) (op : Op) (t : TypeId) (p : String) (af : Array Edge) (E : Env) (run skip : R) : guardE ops ⟨d, op, t, p, af, none⟩ E run skip = run := id rfl
theorem condE_bool (b : Bool) (x y : R) : condE (.bool b) x y = cond b x y := id rfl

section ops
variable {P : Program} {X : Xf} {K : Kf} {d : Option Tmp} {t : TypeId} {p : String} {af : Array Edge} {g : Option (Nat × Bool)} {E : Env} {ds : List Deferred} {H : Heap} {k : KE} {kp : List PanicEntry → KE}
theorem opE_move (x : Operand) : opE P X K ⟨d, .move x, t, p, af, g⟩ E ds H k kp = k (upd E d (evalE E x)) ds H := id rfl
theorem opE_assign (x : Operand) : opE P X K ⟨d, .assign x, t, p, af, g⟩ E ds H k kp = k (upd E d (evalE E x)) ds H := id rfl
theorem opE_pick (c x y : Operand) : opE P X K ⟨d, .pick c x y, t, p, af, g⟩ E ds H k kp = match evalE E c with | .bool b => k (upd E d (pickV b (evalE E x) (evalE E y))) ds H | _ => none := id rfl
theorem opE_alloc (e : TypeId) : opE P X K ⟨d, .alloc e, t, p, af, g⟩ E ds H k kp = bindV (allocA P e H) fun v H => k (upd E d v) ds H := id rfl
theorem opE_build (e : TypeId) (parts : Array (Nat × Operand)) : opE P X K ⟨d, .build e parts, t, p, af, g⟩ E ds H k kp = bindO (buildA P e (parts.map fun (i, x) => (i, evalE E x))) fun v => k (upd E d v) ds H := id rfl
theorem opE_buildSlice (e : TypeId) (n : Nat) (parts : Array (Nat × Operand)) : opE P X K ⟨d, .buildSlice e n parts, t, p, af, g⟩ E ds H k kp = bindV (buildSliceA P e n (parts.map fun (i, x) => (i, evalE E x)) H) fun v H => k (upd E d v) ds H := id rfl
theorem opE_load (e : TypeId) (a : Operand) : opE P X K ⟨d, .load e a, t, p, af, g⟩ E ds H k kp = bindV (loadA P e (evalE E a) H) fun v H => k (upd E d v) ds H := id rfl
theorem opE_store (e : TypeId) (a x : Operand) : opE P X K ⟨d, .store e a x, t, p, af, g⟩ E ds H k kp = bindV (storeA P e (evalE E a) (evalE E x) H) fun v H => k (upd E d v) ds H := id rfl
theorem opE_binOp (op : BinOp) (e : TypeId) (x y : Operand) (e2 : TypeId) : opE P X K ⟨d, .binOp op e x y e2, t, p, af, g⟩ E ds H k kp = bindO (binA P op e x y (evalE E x) (evalE E y)) fun v => groundK v (k (upd E d v) ds H) := id rfl
theorem opE_convert (s e : TypeId) (x : Operand) : opE P X K ⟨d, .convert s e x, t, p, af, g⟩ E ds H k kp = bindV (convertA P s e (evalE E x) H) fun v H => k (upd E d v) ds H := id rfl
theorem opE_slice (e : TypeId) (x : Operand) (lo hi mx : Option Operand) : opE P X K ⟨d, .slice e x lo hi mx, t, p, af, g⟩ E ds H k kp = bindO (sliceOpA P e (evalE E x) (lo.map (evalE E)) (hi.map (evalE E)) (mx.map (evalE E)) H) fun v => k (upd E d v) ds H := id rfl
theorem opE_fieldAddr (s : TypeId) (x : Operand) (f : Nat) : opE P X K ⟨d, .fieldAddr s x f, t, p, af, g⟩ E ds H k kp = bindO (fieldAddrA P s (evalE E x) f) fun v => k (upd E d v) ds H := id rfl
theorem opE_indexAddr (e : TypeId) (x i : Operand) : opE P X K ⟨d, .indexAddr e x i, t, p, af, g⟩ E ds H k kp = bindO (indexAddrA P e (evalE E x) (evalE E i)) fun v => k (upd E d v) ds H := id rfl
theorem opE_extract (x : Operand) (i : Nat) : opE P X K ⟨d, .extract x i, t, p, af, g⟩ E ds H k kp = bindO (extractA (evalE E x) i) fun v => k (upd E d v) ds H := id rfl
theorem opE_builtin (b : Builtin) (args : Array Operand) (ts : Array TypeId) : opE P X K ⟨d, .call { callee := .builtin b, args := args, argTypes := ts }, t, p, af, g⟩ E ds H k kp = builtinK P b ts (args.map (evalE E)) H fun v H => k (upd E d v) ds H := id rfl
theorem opE_call (f : FuncId) (args : Array Operand) (ts : Array TypeId) : opE P X K ⟨d, .call { callee := .value (.func f), args := args, argTypes := ts }, t, p, af, g⟩ E ds H k kp = callK P X K f (#[] ++ args.map (evalE E) ++ #[]) H (fun v H => k (upd E d v) ds H) (fun c H => kp c E ds H) := id rfl
end ops
theorem evalE_tmp (E : Env) (i : Nat) : evalE E (.tmp i) = E i := id rfl
theorem evalE_const (E : Env) (v : Value) : evalE E (.const v) = v := id rfl
theorem bindO_ok (v : Value) (k : Value → R) : bindO (some v) k = k v := id rfl
theorem bindV_ok (v : Value) (H : Heap) (k : Value → Heap → R) : bindV (some (v, H)) k = k v H := id rfl
theorem groundK_bool (b : Bool) (k : R) : groundK (.bool b) k = k := id rfl
theorem groundK_int (i : IntKind) (n : Int) (k : R) : groundK (.int i n) k = k := id rfl

section bins
variable {P : Program} {t : TypeId} {x y : Operand} {i : IntKind} {a b : Int}
theorem binA_lss : binA P .lss t x y (.int i a) (.int i b) = some (.bool (decide (a < b))) := by simp [binA, ground, atomic, eqGuard, binOp, Op.intCmp]; rfl
theorem binA_leq : binA P .leq t x y (.int i a) (.int i b) = some (.bool (decide (a ≤ b))) := by simp [binA, ground, atomic, eqGuard, binOp, Op.intCmp]; rfl
theorem binA_gtr : binA P .gtr t x y (.int i a) (.int i b) = some (.bool (decide (a > b))) := by simp [binA, ground, atomic, eqGuard, binOp, Op.intCmp]; rfl
theorem binA_geq : binA P .geq t x y (.int i a) (.int i b) = some (.bool (decide (a ≥ b))) := by simp [binA, ground, atomic, eqGuard, binOp, Op.intCmp]; rfl
theorem binA_eql : binA P .eql t x y (.int i a) (.int i b) = some (.bool (a == b)) := by simp [binA, ground, atomic, eqGuard, binOp, Op.intCmp]; rfl
theorem binA_neq : binA P .neq t x y (.int i a) (.int i b) = some (.bool (a != b)) := by simp [binA, ground, atomic, eqGuard, binOp, Op.intCmp]; rfl
theorem binA_add : binA P .add t x y (.int i a) (.int i b) = some (.int i (i.wrap (a + b))) := by simp [binA, ground, atomic, eqGuard, binOp, Op.intArith]; rfl
theorem binA_sub : binA P .sub t x y (.int i a) (.int i b) = some (.int i (i.wrap (a - b))) := by simp [binA, ground, atomic, eqGuard, binOp, Op.intArith]; rfl
end bins
theorem len_slice {P : Program} {ts : Array TypeId} {t e : TypeId} (h0 : ts[0]? = some t) (h : P.underlying t = some (.slice e)) (a : Option Addr) (n c : Nat) (H : Heap) (k : Value → Heap → R) :
    builtinK P .len ts #[.slice a n c] H k = k (.int .i64 n) H := by simp [builtinK, h0, lenA, h, bindO]
theorem min_int {P : Program} {ts : Array TypeId} (i : IntKind) (a b : Int) (H : Heap) (k : Value → Heap → R) : builtinK P .min ts #[.int i a, .int i b] H k = k (.int i (if b < a then b else a)) H := by simp [builtinK]
theorem max_int {P : Program} {ts : Array TypeId} (i : IntKind) (a b : Int) (H : Heap) (k : Value → Heap → R) : builtinK P .max ts #[.int i a, .int i b] H k = k (.int i (if b > a then b else a)) H := by simp [builtinK]
theorem opE_callf {P : Program} {X : Xf} {K : Kf} {d : Option Tmp} {t : TypeId} {p : String} {af : Array Edge} {g : Option (Nat × Bool)} {E : Env} {ds : List Deferred} {H : Heap} {k : KE} {kp : List PanicEntry → KE} (f : FuncId) (args : Array Operand) (ts : Array TypeId) :
    opE P X K ⟨d, .call { callee := .value (.func f), args := args, argTypes := ts }, t, p, af, g⟩ E ds H k kp = callK P X K f (args.map (evalE E)) H (fun v H => k (upd E d v) ds H) (fun c H => kp c E ds H) := by
  rw [opE_call]; simp
theorem callK_fn {P : Program} {X : Xf} {K : Kf} {f : FuncId} {fn : Func} (hf : P.funcs[f]? = some fn) (hn : (fn.name == "runtime.NumGoroutine") = false) (hb : fn.body.isNone = false) {args : Array Value} {H H' : Heap} {v : Value} (hr : K f args H = some (.ret v, H')) (k : Value → Heap → R) (kp : List PanicEntry → Heap → R) :
    callK P X K f args H k kp = k v H' := by
  simp [callK, hf, hn, hb, hr, bindR]
theorem callK_ext {P : Program} {X : Xf} {K : Kf} {f : FuncId} {fn : Func} (hf : P.funcs[f]? = some fn) (hn : (fn.name == "runtime.NumGoroutine") = false) (hb : fn.body.isNone = true) {args : Array Value} {H H' : Heap} {v : Value} (hr : X f args H = some (v, H')) (k : Value → Heap → R) (kp : List PanicEntry → Heap → R) :
    callK P X K f args H k kp = k v H' := by
  simp [callK, hf, hn, hb, hr, bindV]
theorem callE_fn {P : Program} {okf : FuncId → Bool} {X : Xf} {N : Nat} {hk : Hook} {d : Nat} {f : FuncId} {fn : Func} {c : Code} {args : Array Value} {H : Heap} (hh : hk f args H = none) (hf : P.funcs[f]? = some fn) (hc : fn.body = some c) (ho : okf f = true) (hs : Nat.ble args.size fn.ntmps = true) :
    callE P okf X N hk (d + 1) f args H = execE P X (callE P okf X N hk d) N c none (startE args) [] H (finE P fn) := by
  simp [callE, hh, hf, hc, ho, hs]
theorem startE_0 (v : Value) (l : List Value) : startE ⟨v :: l⟩ 0 = v := id rfl
theorem startE_1 (v u : Value) (l : List Value) : startE ⟨v :: u :: l⟩ 1 = u := id rfl
theorem map_one {α β : Type} (f : α → β) (x : α) : (#[x] : Array α).map f = #[f x] := by simp
theorem map_two {α β : Type} (f : α → β) (x y : α) : (#[x, y] : Array α).map f = #[f x, f y] := by simp
theorem map_nil {α β : Type} (f : α → β) : (#[] : Array α).map f = #[] := by simp
theorem finE_ret {P : Program} {fn : Func} {E : Env} {H : Heap} {l : List Value} (h : resE P E H fn.results.toList = some l) : finE P fn .ret E [] H = some (.ret (oneOf l), H) := by simp [finE, h]
end Go.Am
