/- Steps of the machine whose frames are functions. -/
import Derived.Test.YtohmeeglehopiaaDoorFaE
namespace Go.Am

theorem thenE_norm (b2 : Env → List Deferred → Heap → KOE → R) (k : KOE) (E : Env) (ds : List Deferred) (H : Heap) : thenE b2 k .norm E ds H = b2 E ds H k := id rfl
theorem thenE_ret (b2 : Env → List Deferred → Heap → KOE → R) (k : KOE) (E : Env) (ds : List Deferred) (H : Heap) : thenE b2 k .ret E ds H = k .ret E ds H := id rfl
theorem thenE_exit (b2 : Env → List Deferred → Heap → KOE → R) (k : KOE) (i : Nat) (E : Env) (ds : List Deferred) (H : Heap) : thenE b2 k (.exit i) E ds H = k (.exit i) E ds H := id rfl
theorem leaveB_norm (i : Nat) (k : KOE) (E : Env) (ds : List Deferred) (H : Heap) : leaveB i k .norm E ds H = k .norm E ds H := id rfl
theorem leaveB_ret (i : Nat) (k : KOE) (E : Env) (ds : List Deferred) (H : Heap) : leaveB i k .ret E ds H = k .ret E ds H := id rfl
theorem leaveB_exit (i j : Nat) (k : KOE) (E : Env) (ds : List Deferred) (H : Heap) : leaveB i k (.exit j) E ds H = cond (j == i) (k .norm E ds H) (k (.exit j) E ds H) := id rfl
theorem loopE_succ (body : Env → List Deferred → Heap → KOE → R) (n : Nat) (E : Env) (ds : List Deferred) (H : Heap) (k : KOE) : loopE body (n + 1) E ds H k = body E ds H (thenE (fun E ds H k => loopE body n E ds H k) k) := id rfl
section ops
variable {P : Program} {X : Xf} {K : Kf} {d : Option Tmp} {t : TypeId} {p : String} {af : Array Edge} {g : Option (Nat × Bool)} {E : Env} {ds : List Deferred} {H : Heap} {k : KE} {kp : List PanicEntry → KE}
theorem opE_pick (c x y : Operand) : opE P X K ⟨d, .pick c x y, t, p, af, g⟩ E ds H k kp = match evalE E c with | .bool b => k (upd E d (pickV b (evalE E x) (evalE E y))) ds H | _ => none := id rfl
theorem opE_call (f : FuncId) (args : Array Operand) (ts : Array TypeId) : opE P X K ⟨d, .call { callee := .value (.func f), args := args, argTypes := ts }, t, p, af, g⟩ E ds H k kp = callK P X K f (#[] ++ args.map (evalE E) ++ #[]) H (fun v H => k (upd E d v) ds H) (fun c H => kp c E ds H) := id rfl
end ops
theorem evalE_tmp (E : Env) (i : Nat) : evalE E (.tmp i) = E i := id rfl
theorem evalE_const (E : Env) (v : Value) : evalE E (.const v) = v := id rfl
theorem bindO_ok (v : Value) (k : Value → R) : bindO (some v) k = k v := id rfl
theorem bindV_ok (v : Value) (H : Heap) (k : Value → Heap → R) : bindV (some (v, H)) k = k v H := id rfl
section bins
variable {P : Program} {t : TypeId} {x y : Operand} {i : IntKind} {a b : Int}
theorem binA_lss : binA P .lss t x y (.int i a) (.int i b) = some (.bool (decide (a < b))) := by simp [binA, ground, atomic, eqGuard, binOp, Op.intCmp]; rfl
theorem binA_gtr : binA P .gtr t x y (.int i a) (.int i b) = some (.bool (decide (a > b))) := by simp [binA, ground, atomic, eqGuard, binOp, Op.intCmp]; rfl
theorem binA_geq : binA P .geq t x y (.int i a) (.int i b) = some (.bool (decide (a ≥ b))) := by simp [binA, ground, atomic, eqGuard, binOp, Op.intCmp]; rfl
theorem binA_eql : binA P .eql t x y (.int i a) (.int i b) = some (.bool (a == b)) := by simp [binA, ground, atomic, eqGuard, binOp, Op.intCmp]; rfl
theorem binA_neq : binA P .neq t x y (.int i a) (.int i b) = some (.bool (a != b)) := by simp [binA, ground, atomic, eqGuard, binOp, Op.intCmp]; rfl
theorem binA_add : binA P .add t x y (.int i a) (.int i b) = some (.int i (i.wrap (a + b))) := by simp [binA, ground, atomic, eqGuard, binOp, Op.intArith]; rfl
theorem binA_sub : binA P .sub t x y (.int i a) (.int i b) = some (.int i (i.wrap (a - b))) := by simp [binA, ground, atomic, eqGuard, binOp, Op.intArith]; rfl
end bins
theorem len_slice {P : Program} {ts : Array TypeId} {t e : TypeId} (h0 : ts[0]? = some t) (h : P.underlying t = some (.slice e)) (a : Option Addr) (n c : Nat) (H : Heap) (k : Value → Heap → R) :
    builtinK P .len ts #[.slice a n c] H k = k (.int .i64 n) H := by simp [builtinK, h0, lenA, h, bindO]
theorem opE_callf {P : Program} {X : Xf} {K : Kf} {d : Option Tmp} {t : TypeId} {p : String} {af : Array Edge} {g : Option (Nat × Bool)} {E : Env} {ds : List Deferred} {H : Heap} {k : KE} {kp : List PanicEntry → KE} (f : FuncId) (args : Array Operand) (ts : Array TypeId) :
    opE P X K ⟨d, .call { callee := .value (.func f), args := args, argTypes := ts }, t, p, af, g⟩ E ds H k kp = callK P X K f (args.map (evalE E)) H (fun v H => k (upd E d v) ds H) (fun c H => kp c E ds H) := by
  rw [opE_call]; simp
theorem callK_fn {P : Program} {X : Xf} {K : Kf} {f : FuncId} {fn : Func} (hf : P.funcs[f]? = some fn) (hn : (fn.name == "runtime.NumGoroutine") = false) (hb : fn.body.isNone = false) {args : Array Value} {H H' : Heap} {v : Value} (hr : K f args H = some (.ret v, H')) (k : Value → Heap → R) (kp : List PanicEntry → Heap → R) :
    callK P X K f args H k kp = k v H' := by
  simp [callK, hf, hn, hb, hr, bindR]
theorem startE_0 (v : Value) (l : List Value) : startE ⟨v :: l⟩ 0 = v := id rfl
theorem startE_1 (v u : Value) (l : List Value) : startE ⟨v :: u :: l⟩ 1 = u := id rfl
theorem map_one {α β : Type} (f : α → β) (x : α) : (#[x] : Array α).map f = #[f x] := by simp
theorem map_two {α β : Type} (f : α → β) (x y : α) : (#[x, y] : Array α).map f = #[f x, f y] := by simp
theorem map_nil {α β : Type} (f : α → β) : (#[] : Array α).map f = #[] := by simp
theorem finE_ret {P : Program} {fn : Func} {E : Env} {H : Heap} {l : List Value} (h : resE P E H fn.results.toList = some l) : finE P fn .ret E [] H = some (.ret (oneOf l), H) := by simp [finE, h]
end Go.Am
/- Steps of the machine of FaG. -/
namespace Go.Am

/-- No region where values are looked at again. -/
def noPr : Nat → List (Nat × Nat) := fun _ => []
section code
variable {P : Program} {X : Xf} {K : Kf} {N : Nat} {pr : Nat → List (Nat × Nat)}
theorem execG_seq (x y : Code) (E : Env) (ds : List Deferred) (H : Heap) (k : KOE) : execG P X K N pr (.seq x y) none E ds H k = execG P X K N pr x none E ds H (thenE (execG P X K N pr y none) k) := by rw [execG]
theorem execG_skip (E : Env) (ds : List Deferred) (H : Heap) (k : KOE) : execG P X K N pr .skip none E ds H k = k .norm E ds H := by rw [execG]
theorem execG_ret (E : Env) (ds : List Deferred) (H : Heap) (k : KOE) : execG P X K N pr .ret none E ds H k = k .ret E ds H := by rw [execG]
theorem execG_exit (i : Nat) (E : Env) (ds : List Deferred) (H : Heap) (k : KOE) : execG P X K N pr (.exit i) none E ds H k = k (.exit i) E ds H := by rw [execG]
theorem execG_region (i : Nat) (ops : Array Oper) (dr : Bool) (E : Env) (ds : List Deferred) (H : Heap) (k : KOE) :
    execG P X K N noPr (.region i ops dr) none E ds H k = execOpsE P X K ops ops.toList E ds H (fun E ds H => k .norm E ds H) (fun c E ds H => cond dr none (k (.pan c) E ds H)) := by rw [execG]; cases dr <;> rfl
theorem execG_plain (i : Nat) (ops : Array Oper) (E : Env) (ds : List Deferred) (H : Heap) (k : KOE) :
    execG P X K N pr (.region i ops false) none E ds H k = execOpsE P X K ops ops.toList E ds H (fun E ds H => k .norm E ds H) (fun c E ds H => cond false none (k (.pan c) E ds H)) := by rw [execG]; rfl
theorem execG_open (i : Nat) (ops : Array Oper) (E : Env) (ds : List Deferred) (H : Heap) (k : KOE) (h : (pr i).isEmpty = false) :
    execG P X K N pr (.region i ops true) none E ds H k = execTrF P X K ops ops.toList E ds H [] fun tr E ds H => cond ((pr i).all fun x => pairChkE P ops tr x.1 x.2) (k .norm E ds H) none := by rw [execG, h]; rfl
theorem execG_cond (c : Operand) (x y : Code) (E : Env) (ds : List Deferred) (H : Heap) (k : KOE) : execG P X K N pr (.cond c x y) none E ds H k = condE (evalE E c) (execG P X K N pr x none E ds H k) (execG P X K N pr y none E ds H k) := by rw [execG]
theorem execG_block (i : Nat) (b : Code) (E : Env) (ds : List Deferred) (H : Heap) (k : KOE) : execG P X K N pr (.block i b) none E ds H k = execG P X K N pr b none E ds H (leaveB i k) := by rw [execG]
theorem execG_loop (b : Code) (E : Env) (ds : List Deferred) (H : Heap) (k : KOE) : execG P X K N pr (.loop b) none E ds H k = loopE (execG P X K N pr b none) N E ds H k := by rw [execG]
end code
/-- A guard whose value is known. -/
theorem guardE_at (ops : Array Oper) (d : Option Tmp) (op : Op) (t : TypeId) (p : String) (af : Array Edge) (j : Nat) (w : Bool) (e : Tmp) (b : Bool) (E : Env) (run skip : R) (hd : (ops[j]?).bind (·.dst) = some e) (h : E e = .bool b) : guardE ops ⟨d, op, t, p, af, some (j, w)⟩ E run skip = cond (b == w) run skip := by
  simp [guardE, hd, h]
section ops
variable {P : Program} {X : Xf} {K : Kf} {d : Option Tmp} {t : TypeId} {p : String} {af : Array Edge} {g : Option (Nat × Bool)} {E : Env} {ds : List Deferred} {H : Heap} {k : KE} {kp : List PanicEntry → KE}
/-- A call of a value that is a function. -/
theorem opE_callv (i : Tmp) (args : Array Operand) (ts : Array TypeId) (f : FuncId) (a b : Array Value) (h : E i = .func (.func f) a b) :
    opE P X K ⟨d, .call { callee := .value (.tmp i), args := args, argTypes := ts }, t, p, af, g⟩ E ds H k kp = callK P X K f (a ++ args.map (evalE E) ++ b) H (fun v H => k (upd E d v) ds H) (fun c H => kp c E ds H) := by
  simp only [opE, opK, evalE, h]
end ops
theorem callG_fn {P : Program} {okf : FuncId → Bool} {prf : FuncId → Nat → List (Nat × Nat)} {X : Xf} {N : Nat} {hk : Hook} {d : Nat} {f : FuncId} {fn : Func} {c : Code} {args : Array Value} {H : Heap} (hh : hk f args H = none) (hf : P.funcs[f]? = some fn) (hc : fn.body = some c) (ho : okf f = true) (hs : Nat.ble args.size fn.ntmps = true) {pr : Nat → List (Nat × Nat)} (hp : prf f = pr) :
    callG P okf prf X N hk (d + 1) f args H = execG P X (callG P okf prf X N hk d) N pr c none (startE args) [] H (finE P fn) := by
  simp [callG, hh, hf, hc, ho, hs, hp]
theorem callG_hook {P : Program} {okf : FuncId → Bool} {prf : FuncId → Nat → List (Nat × Nat)} {X : Xf} {N : Nat} {hk : Hook} {d : Nat} {f : FuncId} {args : Array Value} {H : Heap} {r : R} (hh : hk f args H = some r) :
    callG P okf prf X N hk (d + 1) f args H = r := by
  simp [callG, hh]
end Go.Am
/- Steps one behind the other: what comes behind a step is not looked at ahead of it. -/
namespace Go.Am

/-- A region's operations. -/
def opsAt (i : Nat) : Code → Option (Array Oper)
  | .seq a b => match opsAt i a with | some x => some x | none => opsAt i b
  | .cond _ a b => match opsAt i a with | some x => some x | none => opsAt i b
  | .block _ b => opsAt i b
  | .loop b => opsAt i b
  | .scope b => opsAt i b
  | .region j ops _ => if j = i then some ops else none
  | _ => none
theorem tl (A : Array Oper) : A.toList = A.toList := rfl
theorem gS {α : Type} {a b : α} : (some a).getD b = a := rfl
theorem gN {α : Type} {b : α} : (none : Option α).getD b = b := rfl
theorem tA {α : Type} {l : List α} : l.toArray.toList = l := rfl
def codeOf (fn : Func) : Code := fn.body.getD .skip
def rgn (f : Func) (i : Nat) : Array Oper := (opsAt i (codeOf f)).getD #[]

def nextE (P : Program) (X : Xf) (K : Kf) (A : Array Oper) (rest : List Oper) (k : KE) (kp : List PanicEntry → KE) : KE := fun E ds H => execOpsE P X K A rest E ds H k kp
def putK (E : Env) (d : Option Tmp) (ds : List Deferred) (k : KE) : Value → Heap → R := fun v H => k (upd E d v) ds H
def putO (E : Env) (d : Option Tmp) (ds : List Deferred) (H : Heap) (k : KE) : Value → R := fun v => k (upd E d v) ds H
def putG (E : Env) (d : Option Tmp) (ds : List Deferred) (H : Heap) (k : KE) : Value → R := fun v => groundK v (k (upd E d v) ds H)
def panK (E : Env) (ds : List Deferred) (kp : List PanicEntry → KE) : List PanicEntry → Heap → R := fun c H => kp c E ds H
def normK (k : KOE) : KE := fun E ds H => k .norm E ds H
def panO (dr : Bool) (k : KOE) : List PanicEntry → KE := fun c E ds H => cond dr none (k (.pan c) E ds H)
theorem nextE_app {P : Program} {X : Xf} {K : Kf} {A : Array Oper} {rest : List Oper} {k : KE} {kp : List PanicEntry → KE} (E : Env) (ds : List Deferred) (H : Heap) : nextE P X K A rest k kp E ds H = execOpsE P X K A rest E ds H k kp := id rfl
theorem putK_app {E : Env} {d : Option Tmp} {ds : List Deferred} {k : KE} (v : Value) (H : Heap) : putK E d ds k v H = k (upd E d v) ds H := id rfl
theorem putO_app {E : Env} {d : Option Tmp} {ds : List Deferred} {H : Heap} {k : KE} (v : Value) : putO E d ds H k v = k (upd E d v) ds H := id rfl
theorem putG_bool {E : Env} {d : Option Tmp} {ds : List Deferred} {H : Heap} {k : KE} (b : Bool) : putG E d ds H k (.bool b) = k (upd E d (.bool b)) ds H := id rfl
theorem putG_int {E : Env} {d : Option Tmp} {ds : List Deferred} {H : Heap} {k : KE} (i : IntKind) (n : Int) : putG E d ds H k (.int i n) = k (upd E d (.int i n)) ds H := id rfl
theorem normK_app {k : KOE} (E : Env) (ds : List Deferred) (H : Heap) : normK k E ds H = k .norm E ds H := id rfl

section code
variable {P : Program} {X : Xf} {K : Kf} {N : Nat} {pr : Nat → List (Nat × Nat)}
theorem g_region (i : Nat) (ops : Array Oper) (dr : Bool) (E : Env) (ds : List Deferred) (H : Heap) (k : KOE) :
    execG P X K N noPr (.region i ops dr) none E ds H k = execOpsE P X K ops ops.toList E ds H (normK k) (panO dr k) := execG_region i ops dr E ds H k
theorem g_plain (i : Nat) (ops : Array Oper) (E : Env) (ds : List Deferred) (H : Heap) (k : KOE) :
    execG P X K N pr (.region i ops false) none E ds H k = execOpsE P X K ops ops.toList E ds H (normK k) (panO false k) := execG_plain i ops E ds H k
theorem g_if (c : Operand) (x y : Code) (E : Env) (ds : List Deferred) (H : Heap) (k : KOE) (h : evalE E c = .bool true) : execG P X K N pr (.cond c x y) none E ds H k = execG P X K N pr x none E ds H k := by rw [execG_cond, h]; rfl
theorem g_else (c : Operand) (x y : Code) (E : Env) (ds : List Deferred) (H : Heap) (k : KOE) (h : evalE E c = .bool false) : execG P X K N pr (.cond c x y) none E ds H k = execG P X K N pr y none E ds H k := by rw [execG_cond, h]; rfl
theorem g_leave (i : Nat) (k : KOE) (E : Env) (ds : List Deferred) (H : Heap) : leaveB i k (.exit i) E ds H = k .norm E ds H := by simp [leaveB]
theorem g_pass (i j : Nat) (k : KOE) (E : Env) (ds : List Deferred) (H : Heap) (h : (j == i) = false) : leaveB i k (.exit j) E ds H = k (.exit j) E ds H := by rw [leaveB_exit, h]; rfl
end code
section ops
variable {P : Program} {X : Xf} {K : Kf} {A : Array Oper} {d : Option Tmp} {t : TypeId} {p : String} {af : Array Edge} {E : Env} {ds : List Deferred} {H : Heap} {k : KE} {kp : List PanicEntry → KE}
theorem r_nil : execOpsE P X K A [] E ds H k kp = k E ds H := id rfl
/-- An operation without a guard. -/
theorem r_cons (op : Op) (rest : List Oper) : execOpsE P X K A (⟨d, op, t, p, af, none⟩ :: rest) E ds H k kp = opE P X K ⟨d, op, t, p, af, none⟩ E ds H (nextE P X K A rest k kp) kp := id rfl
/-- An operation whose guard is met, or is not. -/
theorem r_yes (op : Op) (j : Nat) (w : Bool) (e : Tmp) (rest : List Oper) (hd : (A[j]?).bind (·.dst) = some e) (h : E e = .bool w) :
    execOpsE P X K A (⟨d, op, t, p, af, some (j, w)⟩ :: rest) E ds H k kp = opE P X K ⟨d, op, t, p, af, none⟩ E ds H (nextE P X K A rest k kp) kp := by
  show guardE A _ E _ _ = _
  rw [guardE_at A d op t p af j w e w E _ _ hd h]
  cases w <;> rfl
theorem r_no (op : Op) (j : Nat) (w : Bool) (e : Tmp) (rest : List Oper) (hd : (A[j]?).bind (·.dst) = some e) (h : E e = .bool (!w)) :
    execOpsE P X K A (⟨d, op, t, p, af, some (j, w)⟩ :: rest) E ds H k kp = execOpsE P X K A rest (upd E d undef) ds H k kp := by
  show guardE A _ E _ _ = _
  rw [guardE_at A d op t p af j w e (!w) E _ _ hd h]
  cases w <;> rfl
variable {g : Option (Nat × Bool)}
theorem o_move (x : Operand) : opE P X K ⟨d, .move x, t, p, af, g⟩ E ds H k kp = k (upd E d (evalE E x)) ds H := id rfl
theorem o_assign (x : Operand) : opE P X K ⟨d, .assign x, t, p, af, g⟩ E ds H k kp = k (upd E d (evalE E x)) ds H := id rfl
theorem o_pickt (c x y : Operand) (h : evalE E c = .bool true) : opE P X K ⟨d, .pick c x y, t, p, af, g⟩ E ds H k kp = k (upd E d (evalE E x)) ds H := by rw [opE_pick, h]; simp only [pickV_eq, if_true]
theorem o_pickf (c x y : Operand) (h : evalE E c = .bool false) : opE P X K ⟨d, .pick c x y, t, p, af, g⟩ E ds H k kp = k (upd E d (evalE E y)) ds H := by rw [opE_pick, h]; simp only [pickV_eq, Bool.false_eq_true, if_false]
theorem o_alloc (e : TypeId) : opE P X K ⟨d, .alloc e, t, p, af, g⟩ E ds H k kp = bindV (allocA P e H) (putK E d ds k) := id rfl
theorem o_buildSlice (e : TypeId) (n : Nat) (parts : Array (Nat × Operand)) : opE P X K ⟨d, .buildSlice e n parts, t, p, af, g⟩ E ds H k kp = bindV (buildSliceA P e n (parts.map fun (i, x) => (i, evalE E x)) H) (putK E d ds k) := id rfl
theorem o_load (e : TypeId) (a : Operand) : opE P X K ⟨d, .load e a, t, p, af, g⟩ E ds H k kp = bindV (loadA P e (evalE E a) H) (putK E d ds k) := id rfl
theorem o_store (e : TypeId) (a x : Operand) : opE P X K ⟨d, .store e a x, t, p, af, g⟩ E ds H k kp = bindV (storeA P e (evalE E a) (evalE E x) H) (putK E d ds k) := id rfl
theorem o_binOp (op : BinOp) (e : TypeId) (x y : Operand) (e2 : TypeId) : opE P X K ⟨d, .binOp op e x y e2, t, p, af, g⟩ E ds H k kp = bindO (binA P op e x y (evalE E x) (evalE E y)) (putG E d ds H k) := id rfl
theorem o_unOp (op : UnOp) (e : TypeId) (x : Operand) : opE P X K ⟨d, .unOp op e x, t, p, af, g⟩ E ds H k kp = bindO (unA P op (evalE E x)) (putG E d ds H k) := id rfl
theorem o_convert (s e : TypeId) (x : Operand) : opE P X K ⟨d, .convert s e x, t, p, af, g⟩ E ds H k kp = bindV (convertA P s e (evalE E x) H) (putK E d ds k) := id rfl
theorem o_slice (e : TypeId) (x : Operand) (lo hi mx : Option Operand) : opE P X K ⟨d, .slice e x lo hi mx, t, p, af, g⟩ E ds H k kp = bindO (sliceOpA P e (evalE E x) (lo.map (evalE E)) (hi.map (evalE E)) (mx.map (evalE E)) H) (putO E d ds H k) := id rfl
theorem o_indexAddr (e : TypeId) (x i : Operand) : opE P X K ⟨d, .indexAddr e x i, t, p, af, g⟩ E ds H k kp = bindO (indexAddrA P e (evalE E x) (evalE E i)) (putO E d ds H k) := id rfl
theorem o_index (e : TypeId) (x i : Operand) : opE P X K ⟨d, .index e x i, t, p, af, g⟩ E ds H k kp = bindO (indexA P e (evalE E x) (evalE E i)) (putO E d ds H k) := id rfl
theorem o_extract (x : Operand) (i : Nat) : opE P X K ⟨d, .extract x i, t, p, af, g⟩ E ds H k kp = bindO (extractA (evalE E x) i) (putO E d ds H k) := id rfl
theorem o_builtin (b : Builtin) (args : Array Operand) (ts : Array TypeId) : opE P X K ⟨d, .call { callee := .builtin b, args := args, argTypes := ts }, t, p, af, g⟩ E ds H k kp = builtinK P b ts (args.map (evalE E)) H (putK E d ds k) := id rfl
theorem o_callf (f : FuncId) (args : Array Operand) (ts : Array TypeId) :
    opE P X K ⟨d, .call { callee := .value (.func f), args := args, argTypes := ts }, t, p, af, g⟩ E ds H k kp = callK P X K f (args.map (evalE E)) H (putK E d ds k) (panK E ds kp) := opE_callf f args ts
theorem o_callv (i : Tmp) (args : Array Operand) (ts : Array TypeId) (f : FuncId) (a b : Array Value) (h : E i = .func (.func f) a b) :
    opE P X K ⟨d, .call { callee := .value (.tmp i), args := args, argTypes := ts }, t, p, af, g⟩ E ds H k kp = callK P X K f (a ++ args.map (evalE E) ++ b) H (putK E d ds k) (panK E ds kp) := opE_callv i args ts f a b h
end ops
theorem reg_lit {P : Program} {X : Xf} {K : Kf} {A : Array Oper} {L : List Oper} (h : A.toList = L) (E : Env) (ds : List Deferred) (H : Heap) (k : KE) (kp : List PanicEntry → KE) : execOpsE P X K A A.toList E ds H k kp = execOpsE P X K A L E ds H k kp := by rw [h]
theorem evalE_global (E : Env) (g : Nat) : evalE E (.global g) = .pointer (some ⟨g, 0, none⟩) := id rfl
theorem evalE_func (E : Env) (f : FuncId) : evalE E (.func f) = .func (.func f) #[] #[] := id rfl
theorem map_three {α β : Type} (f : α → β) (x y z : α) : (#[x, y, z] : Array α).map f = #[f x, f y, f z] := by simp
theorem startE_2 (v u w : Value) (l : List Value) : startE ⟨v :: u :: w :: l⟩ 2 = w := rfl
theorem startE_3 (v u w x : Value) (l : List Value) : startE ⟨v :: u :: w :: x :: l⟩ 3 = x := rfl
theorem startE_4 (v u w x y : Value) (l : List Value) : startE ⟨v :: u :: w :: x :: y :: l⟩ 4 = y := rfl
end Go.Am
/- Jumps within a scope. -/
namespace Go.Am
def scopeK (c : Code) (body : Option Nat → Env → List Deferred → Heap → KOE → R) (n : Nat) (k : KOE) : KOE := fun o E ds H => match o with | .goto l => cond (hasLabel l c) (scopeE c body n (some l) E ds H k) (k (.goto l) E ds H) | o => k o E ds H
section
variable {P : Program} {X : Xf} {K : Kf} {N : Nat} {pr : Nat → List (Nat × Nat)}
end
end Go.Am
