/- Steps one behind the other: what comes behind a step is not looked at ahead of it. -/
import Derived.Test.YtohmeeglehopiaaDoorGs
namespace Go.Am

/-- A region's operations. -/
def opsAt (i : Nat) : Code → Option (Array Oper)
  | .seq a b => match opsAt i a with | some x => some x | none => opsAt i b
  | .cond _ a b => match opsAt i a with | some x => some x | none => opsAt i b
  | .block _ b => opsAt i b
  | .loop b => opsAt i b
  | .scope b => opsAt i b
  | .region j ops _ => if j = i then some ops else none
  | _ => none
def codeOf (fn : Func) : Code := fn.body.getD .skip
def rgn (f : Func) (i : Nat) : Array Oper := (opsAt i (codeOf f)).getD #[]

def nextE (P : Program) (X : Xf) (K : Kf) (A : Array Oper) (rest : List Oper) (k : KE) (kp : List PanicEntry → KE) : KE := fun E ds H => execOpsE P X K A rest E ds H k kp
def putK (E : Env) (d : Option Tmp) (ds : List Deferred) (k : KE) : Value → Heap → R := fun v H => k (upd E d v) ds H
def putO (E : Env) (d : Option Tmp) (ds : List Deferred) (H : Heap) (k : KE) : Value → R := fun v => k (upd E d v) ds H
def putG (E : Env) (d : Option Tmp) (ds : List Deferred) (H : Heap) (k : KE) : Value → R := fun v => groundK v (k (upd E d v) ds H)
def panK (E : Env) (ds : List Deferred) (kp : List PanicEntry → KE) : List PanicEntry → Heap → R := fun c H => kp c E ds H
def normK (k : KOE) : KE := fun E ds H => k .norm E ds H
def panO (dr : Bool) (k : KOE) : List PanicEntry → KE := fun c E ds H => cond dr none (k (.pan c) E ds H)
theorem nextE_app {P : Program} {X : Xf} {K : Kf} {A : Array Oper} {rest : List Oper} {k : KE} {kp : List PanicEntry → KE} (E : Env) (ds : List Deferred) (H : Heap) : nextE P X K A rest k kp E ds H = execOpsE P X K A rest E ds H k kp := id rfl
theorem putK_app {E : Env} {d : Option Tmp} {ds : List Deferred} {k : KE} (v : Value) (H : Heap) : putK E d ds k v H = k (upd E d v) ds H := id rfl
theorem putO_app {E : Env} {d : Option Tmp} {ds : List Deferred} {H : Heap} {k : KE} (v : Value) : putO E d ds H k v = k (upd E d v) ds H := id rfl
theorem putG_bool {E : Env} {d : Option Tmp} {ds : List Deferred} {H : Heap} {k : KE} (b : Bool) : putG E d ds H k (.bool b) = k (upd E d (.bool b)) ds H := id rfl
theorem putG_int {E : Env} {d : Option Tmp} {ds : List Deferred} {H : Heap} {k : KE} (i : IntKind) (n : Int) : putG E d ds H k (.int i n) = k (upd E d (.int i n)) ds H := id rfl
theorem putG_str {E : Env} {d : Option Tmp} {ds : List Deferred} {H : Heap} {k : KE} (s : ByteArray) : putG E d ds H k (.string s) = k (upd E d (.string s)) ds H := id rfl
theorem normK_app {k : KOE} (E : Env) (ds : List Deferred) (H : Heap) : normK k E ds H = k .norm E ds H := id rfl

section code
variable {P : Program} {X : Xf} {K : Kf} {N : Nat} {pr : Nat → List (Nat × Nat)}
theorem g_region (i : Nat) (ops : Array Oper) (dr : Bool) (E : Env) (ds : List Deferred) (H : Heap) (k : KOE) :
    execG P X K N noPr (.region i ops dr) none E ds H k = execOpsE P X K ops ops.toList E ds H (normK k) (panO dr k) := execG_region i ops dr E ds H k
theorem g_plain (i : Nat) (ops : Array Oper) (E : Env) (ds : List Deferred) (H : Heap) (k : KOE) :
    execG P X K N pr (.region i ops false) none E ds H k = execOpsE P X K ops ops.toList E ds H (normK k) (panO false k) := execG_plain i ops E ds H k
theorem g_still (i : Nat) (ops : Array Oper) (E : Env) (ds : List Deferred) (H : Heap) (k : KOE) (h : (pr i).isEmpty = true) :
    execG P X K N pr (.region i ops true) none E ds H k = execOpsE P X K ops ops.toList E ds H (normK k) (panO true k) := execG_still i ops E ds H k h
theorem g_if (c : Operand) (x y : Code) (E : Env) (ds : List Deferred) (H : Heap) (k : KOE) (h : evalE E c = .bool true) : execG P X K N pr (.cond c x y) none E ds H k = execG P X K N pr x none E ds H k := by rw [execG_cond, h]; rfl
theorem g_else (c : Operand) (x y : Code) (E : Env) (ds : List Deferred) (H : Heap) (k : KOE) (h : evalE E c = .bool false) : execG P X K N pr (.cond c x y) none E ds H k = execG P X K N pr y none E ds H k := by rw [execG_cond, h]; rfl
theorem g_leave (i : Nat) (k : KOE) (E : Env) (ds : List Deferred) (H : Heap) : leaveB i k (.exit i) E ds H = k .norm E ds H := by simp [leaveB]
theorem g_pass (i j : Nat) (k : KOE) (E : Env) (ds : List Deferred) (H : Heap) (h : (j == i) = false) : leaveB i k (.exit j) E ds H = k (.exit j) E ds H := by rw [leaveB_exit, h]; rfl
end code
section ops
variable {P : Program} {X : Xf} {K : Kf} {A : Array Oper} {d : Option Tmp} {t : TypeId} {p : String} {af : Array Edge} {E : Env} {ds : List Deferred} {H : Heap} {k : KE} {kp : List PanicEntry → KE}
theorem r_nil : execOpsE P X K A [] E ds H k kp = k E ds H := id rfl
/-- An operation without a guard. -/
theorem r_cons (op : Op) (rest : List Oper) : execOpsE P X K A (⟨d, op, t, p, af, none⟩ :: rest) E ds H k kp = opE P X K ⟨d, op, t, p, af, none⟩ E ds H (nextE P X K A rest k kp) kp := id rfl
/-- An operation whose guard is met, or is not. -/
theorem r_yes (op : Op) (j : Nat) (w : Bool) (e : Tmp) (rest : List Oper) (hd : (A[j]?).bind (·.dst) = some e) (h : E e = .bool w) :
    execOpsE P X K A (⟨d, op, t, p, af, some (j, w)⟩ :: rest) E ds H k kp = opE P X K ⟨d, op, t, p, af, none⟩ E ds H (nextE P X K A rest k kp) kp := by
  show guardE A _ E _ _ = _
  rw [guardE_at A d op t p af j w e w E _ _ hd h]
  cases w <;> rfl
theorem r_no (op : Op) (j : Nat) (w : Bool) (e : Tmp) (rest : List Oper) (hd : (A[j]?).bind (·.dst) = some e) (h : E e = .bool (!w)) :
    execOpsE P X K A (⟨d, op, t, p, af, some (j, w)⟩ :: rest) E ds H k kp = execOpsE P X K A rest (upd E d undef) ds H k kp := by
  show guardE A _ E _ _ = _
  rw [guardE_at A d op t p af j w e (!w) E _ _ hd h]
  cases w <;> rfl
variable {g : Option (Nat × Bool)}
theorem o_move (x : Operand) : opE P X K ⟨d, .move x, t, p, af, g⟩ E ds H k kp = k (upd E d (evalE E x)) ds H := id rfl
theorem o_assign (x : Operand) : opE P X K ⟨d, .assign x, t, p, af, g⟩ E ds H k kp = k (upd E d (evalE E x)) ds H := id rfl
theorem o_pickt (c x y : Operand) (h : evalE E c = .bool true) : opE P X K ⟨d, .pick c x y, t, p, af, g⟩ E ds H k kp = k (upd E d (evalE E x)) ds H := by rw [opE_pick, h]; simp only [pickV_eq, if_true]
theorem o_pickf (c x y : Operand) (h : evalE E c = .bool false) : opE P X K ⟨d, .pick c x y, t, p, af, g⟩ E ds H k kp = k (upd E d (evalE E y)) ds H := by rw [opE_pick, h]; simp only [pickV_eq, Bool.false_eq_true, if_false]
theorem o_alloc (e : TypeId) : opE P X K ⟨d, .alloc e, t, p, af, g⟩ E ds H k kp = bindV (allocA P e H) (putK E d ds k) := id rfl
theorem o_box (e : TypeId) (x : Operand) : opE P X K ⟨d, .box e x, t, p, af, g⟩ E ds H k kp = bindV (boxA P e (evalE E x) H) (putK E d ds k) := id rfl
theorem o_build (e : TypeId) (parts : Array (Nat × Operand)) : opE P X K ⟨d, .build e parts, t, p, af, g⟩ E ds H k kp = bindO (buildA P e (parts.map fun (i, x) => (i, evalE E x))) (putO E d ds H k) := id rfl
theorem o_buildSlice (e : TypeId) (n : Nat) (parts : Array (Nat × Operand)) : opE P X K ⟨d, .buildSlice e n parts, t, p, af, g⟩ E ds H k kp = bindV (buildSliceA P e n (parts.map fun (i, x) => (i, evalE E x)) H) (putK E d ds k) := id rfl
theorem o_load (e : TypeId) (a : Operand) : opE P X K ⟨d, .load e a, t, p, af, g⟩ E ds H k kp = bindV (loadA P e (evalE E a) H) (putK E d ds k) := id rfl
theorem o_store (e : TypeId) (a x : Operand) : opE P X K ⟨d, .store e a x, t, p, af, g⟩ E ds H k kp = bindV (storeA P e (evalE E a) (evalE E x) H) (putK E d ds k) := id rfl
theorem o_nilCheck (x : Operand) : opE P X K ⟨d, .nilCheck x, t, p, af, g⟩ E ds H k kp = bindO (nilCheckA (evalE E x)) (putO E d ds H k) := id rfl
theorem o_binOp (op : BinOp) (e : TypeId) (x y : Operand) (e2 : TypeId) : opE P X K ⟨d, .binOp op e x y e2, t, p, af, g⟩ E ds H k kp = bindO (binA P op e x y (evalE E x) (evalE E y)) (putG E d ds H k) := id rfl
theorem o_unOp (op : UnOp) (e : TypeId) (x : Operand) : opE P X K ⟨d, .unOp op e x, t, p, af, g⟩ E ds H k kp = bindO (unA P op (evalE E x)) (putG E d ds H k) := id rfl
theorem o_convert (s e : TypeId) (x : Operand) : opE P X K ⟨d, .convert s e x, t, p, af, g⟩ E ds H k kp = bindV (convertA P s e (evalE E x) H) (putK E d ds k) := id rfl
theorem o_makeFunc (fn : Fn) (a b : Array Operand) : opE P X K ⟨d, .makeFunc fn a b, t, p, af, g⟩ E ds H k kp = k (upd E d (.func fn (a.map (evalE E)) (b.map (evalE E)))) ds H := id rfl
theorem o_makeSlice (e : TypeId) (x y : Operand) : opE P X K ⟨d, .makeSlice e x y, t, p, af, g⟩ E ds H k kp = bindV (makeSliceA P e (evalE E x) (evalE E y) H) (putK E d ds k) := id rfl
theorem o_slice (e : TypeId) (x : Operand) (lo hi mx : Option Operand) : opE P X K ⟨d, .slice e x lo hi mx, t, p, af, g⟩ E ds H k kp = bindO (sliceOpA P e (evalE E x) (lo.map (evalE E)) (hi.map (evalE E)) (mx.map (evalE E)) H) (putO E d ds H k) := id rfl
theorem o_fieldAddr (s : TypeId) (x : Operand) (f : Nat) : opE P X K ⟨d, .fieldAddr s x f, t, p, af, g⟩ E ds H k kp = bindO (fieldAddrA P s (evalE E x) f) (putO E d ds H k) := id rfl
theorem o_field (e : TypeId) (x : Operand) (f : Nat) : opE P X K ⟨d, .field e x f, t, p, af, g⟩ E ds H k kp = bindO (fieldA P e (evalE E x) f) (putO E d ds H k) := id rfl
theorem o_indexAddr (e : TypeId) (x i : Operand) : opE P X K ⟨d, .indexAddr e x i, t, p, af, g⟩ E ds H k kp = bindO (indexAddrA P e (evalE E x) (evalE E i)) (putO E d ds H k) := id rfl
theorem o_index (e : TypeId) (x i : Operand) : opE P X K ⟨d, .index e x i, t, p, af, g⟩ E ds H k kp = bindO (indexA P e (evalE E x) (evalE E i)) (putO E d ds H k) := id rfl
theorem o_extract (x : Operand) (i : Nat) : opE P X K ⟨d, .extract x i, t, p, af, g⟩ E ds H k kp = bindO (extractA (evalE E x) i) (putO E d ds H k) := id rfl
theorem o_builtin (b : Builtin) (args : Array Operand) (ts : Array TypeId) : opE P X K ⟨d, .call { callee := .builtin b, args := args, argTypes := ts }, t, p, af, g⟩ E ds H k kp = builtinK P b ts (args.map (evalE E)) H (putK E d ds k) := id rfl
theorem o_callf (f : FuncId) (args : Array Operand) (ts : Array TypeId) :
    opE P X K ⟨d, .call { callee := .value (.func f), args := args, argTypes := ts }, t, p, af, g⟩ E ds H k kp = callK P X K f (args.map (evalE E)) H (putK E d ds k) (panK E ds kp) := opE_callf f args ts
theorem o_callv (i : Tmp) (args : Array Operand) (ts : Array TypeId) (f : FuncId) (a b : Array Value) (h : E i = .func (.func f) a b) :
    opE P X K ⟨d, .call { callee := .value (.tmp i), args := args, argTypes := ts }, t, p, af, g⟩ E ds H k kp = callK P X K f (a ++ args.map (evalE E) ++ b) H (putK E d ds k) (panK E ds kp) := opE_callv i args ts f a b h
end ops
theorem reg_lit {P : Program} {X : Xf} {K : Kf} {A : Array Oper} {L : List Oper} (h : A.toList = L) (E : Env) (ds : List Deferred) (H : Heap) (k : KE) (kp : List PanicEntry → KE) : execOpsE P X K A A.toList E ds H k kp = execOpsE P X K A L E ds H k kp := by rw [h]
theorem evalE_global (E : Env) (g : Nat) : evalE E (.global g) = .pointer (some ⟨g, 0, none⟩) := id rfl
theorem evalE_func (E : Env) (f : FuncId) : evalE E (.func f) = .func (.func f) #[] #[] := id rfl
theorem map_three {α β : Type} (f : α → β) (x y z : α) : (#[x, y, z] : Array α).map f = #[f x, f y, f z] := by simp
theorem startE_2 (v u w : Value) (l : List Value) : startE ⟨v :: u :: w :: l⟩ 2 = w := rfl
theorem startE_3 (v u w x : Value) (l : List Value) : startE ⟨v :: u :: w :: x :: l⟩ 3 = x := rfl
theorem startE_4 (v u w x y : Value) (l : List Value) : startE ⟨v :: u :: w :: x :: y :: l⟩ 4 = y := rfl
theorem startE_5 (v u w x y z : Value) (l : List Value) : startE ⟨v :: u :: w :: x :: y :: z :: l⟩ 5 = z := rfl
end Go.Am
