/- Steps of the machine, one behind the other: what comes behind a step is not looked at ahead of it. -/
import Derived.Test.YtmliebodadgpbaaGreatDoorM04
import Derived.ProofKit
import Derived.Test.YtmliebodadgpbaaGreatDoorProg
import Derived.Shelf.Strings.Fields
import Derived.Shelf.Strconv.Clone
namespace Go.Am
def orA (a b : Option (Array Oper)) : Option (Array Oper) := match a with | some x => some x | none => b
def oA (i : Nat) : Code → Option (Array Oper)
 | .seq a b => orA (oA i a) (oA i b)
 | .cond _ a b => orA (oA i a) (oA i b)
 | .block _ b => oA i b
 | .loop b => oA i b
 | .scope b => oA i b
 | .region j ops _ => if j = i then some ops else none
 | _ => none
def codeOf (fn : Func) : Code := fn.body.getD .skip
def rgn (f : Func) (i : Nat) : Array Oper := (oA i (codeOf f)).getD #[]
def sk : Code → Code
 | .seq a b => .seq (sk a) (sk b)
 | .cond c a b => .cond c (sk a) (sk b)
 | .block i b => .block i (sk b)
 | .loop b => .loop (sk b)
 | .scope b => .scope (sk b)
 | .region j _ d => .region j #[] d
 | c => c
def un (f : Func) : Code → Code
 | .seq a b => .seq (un f a) (un f b)
 | .cond c a b => .cond c (un f a) (un f b)
 | .block i b => .block i (un f b)
 | .loop b => .loop (un f b)
 | .scope b => .scope (un f b)
 | .region j _ d => .region j (rgn f j) d
 | c => c
def rgX (f : Func) (i : Nat) : List Oper := (rgn f i).toList
def skX (f : Func) : Code := sk (codeOf f)
theorem fx {f g : Func} (h : f = g) : (∀ i, rgX f i = ((oA i (g.body.getD .skip)).getD #[]).toList) ∧ skX f = sk (g.body.getD .skip) ∧ f.results.toList = g.results.toList := by
 subst h; exact ⟨fun _ => rfl, rfl, rfl⟩
theorem gS {α : Type} {a b : α} : (some a).getD b = a := rfl
theorem gN {α : Type} {b : α} : (none : Option α).getD b = b := rfl
theorem tA {α : Type} {l : List α} : l.toArray.toList = l := rfl
abbrev KX := List PanicEntry → KE
def exU (P : Program) (pr : Nat → List (Nat × Nat)) (f : Func) (c : Code) (s : Option Nat) (E : Env) (ds : List Deferred) (H : Heap) (k : KO) : Prop := execW P pr (un f c) s E ds H k
def thenU (P : Program) (pr : Nat → List (Nat × Nat)) (f : Func) (y : Code) (k : KO) : KO := thenW (execW P pr (un f y) none) k
def opsU (P : Program) (f : Func) (i : Nat) (l : List Oper) (E : Env) (ds : List Deferred) (H : Heap) (k : KE) (kp : KX) : Prop := opsW P (rgn f i) l E ds H k kp
def nextU (P : Program) (f : Func) (i : Nat) (l : List Oper) (k : KE) (kp : KX) : KE := fun E ds H => opsW P (rgn f i) l E ds H k kp
def trU (P : Program) (f : Func) (i : Nat) (l : List Oper) (E : Env) (ds : List Deferred) (H : Heap) (tr : List (Env × Heap)) (k : List (Env × Heap) → KE) (kp : KX) : Prop := trW P (rgn f i) l E ds H tr k kp
def nexT (P : Program) (f : Func) (i : Nat) (l : List Oper) (tr : List (Env × Heap)) (k : List (Env × Heap) → KE) (kp : KX) : KE := fun E ds H => trW P (rgn f i) l E ds H tr k kp
def chkU (P : Program) (f : Func) (i : Nat) (prs : List (Nat × Nat)) (k : KO) (tr : List (Env × Heap)) : KE := fun E ds H => (∀ x ∈ prs, pairChk P (rgn f i) tr x.1 x.2) ∧ k .norm E ds H
def panU (P : Program) (f : Func) (i : Nat) (dr : Bool) (k : KO) : KX := panW P (rgn f i) dr k
def opU (P : Program) (d : Option Tmp) (op : Op) (E : Env) (ds : List Deferred) (H : Heap) (k : KE) (kp : KX) : Prop := stepW P ⟨d, op, 0, "", #[], none⟩ E ds H k kp
def putK (E : Env) (d : Option Tmp) (ds : List Deferred) (k : KE) : KV := fun v H => k (upd E d v) ds H
def putO (E : Env) (d : Option Tmp) (ds : List Deferred) (H : Heap) (k : KE) : Value → Prop := fun v => k (upd E d v) ds H
def putG (E : Env) (d : Option Tmp) (ds : List Deferred) (H : Heap) (k : KE) : Value → Prop := fun v => if ground v then k (upd E d v) ds H else False
def panK (E : Env) (ds : List Deferred) (kp : KX) : KP := fun c H => kp c E ds H
def normK (k : KO) : KE := k .norm
def drU (P : Program) (f : Func) (i : Nat) (prs : List (Nat × Nat)) (E : Env) (ds : List Deferred) (H : Heap) (k : KO) : Prop := match prs with
 | [] => opsU P f i (rgX f i) E ds H (normK k) (panW P (rgn f i) true k)
 | y :: l => trU P f i (rgX f i) E ds H [] (chkU P f i (y :: l) k) (panW P (rgn f i) true k)
theorem j3a {P : Program} {f : Func} {i : Nat} {l : List Oper} {k : KE} {kp : KX} (E : Env) (ds : List Deferred) (H : Heap) : nextU P f i l k kp E ds H = opsU P f i l E ds H k kp := id rfl
theorem j5u {P : Program} {f : Func} {i : Nat} {l : List Oper} {tr : List (Env × Heap)} {k : List (Env × Heap) → KE} {kp : KX} (E : Env) (ds : List Deferred) (H : Heap) : nexT P f i l tr k kp E ds H = trU P f i l E ds H tr k kp := id rfl
theorem j5v {E : Env} {d : Option Tmp} {ds : List Deferred} {k : KE} (v : Value) (H : Heap) : putK E d ds k v H = k (upd E d v) ds H := id rfl
theorem j5w {E : Env} {d : Option Tmp} {ds : List Deferred} {H : Heap} {k : KE} (v : Value) : putO E d ds H k v = k (upd E d v) ds H := id rfl
theorem j3b {E : Env} {d : Option Tmp} {ds : List Deferred} {H : Heap} {k : KE} (b : Bool) : putG E d ds H k (.bool b) = k (upd E d (.bool b)) ds H := id rfl
theorem j5x {E : Env} {d : Option Tmp} {ds : List Deferred} {H : Heap} {k : KE} (i : IntKind) (n : Int) : putG E d ds H k (.int i n) = k (upd E d (.int i n)) ds H := id rfl
theorem j5y {E : Env} {d : Option Tmp} {ds : List Deferred} {H : Heap} {k : KE} (s : ByteArray) : putG E d ds H k (.string s) = k (upd E d (.string s)) ds H := id rfl
theorem j3c {k : KO} (E : Env) (ds : List Deferred) (H : Heap) : normK k E ds H = k .norm E ds H := id rfl
theorem j5z (E : Env) (ds : List Deferred) (kp : KX) (c : List PanicEntry) (H : Heap) : panK E ds kp c H = kp c E ds H := id rfl
section code
variable {P : Program} {pr : Nat → List (Nat × Nat)} {f : Func} {E : Env} {ds : List Deferred} {H : Heap} {k : KO}
theorem jt6 (x y : Code) : exU P pr f (.seq x y) none E ds H k = exU P pr f x none E ds H (thenU P pr f y k) := by show execW P pr (.seq (un f x) (un f y)) none E ds H k = _; rw [execW]; rfl
theorem j73 : exU P pr f .skip none E ds H k = k .norm E ds H := by show execW P pr .skip none E ds H k = _; rw [execW]
theorem yd4 : exU P pr f .ret none E ds H k = k .ret E ds H := by show execW P pr .ret none E ds H k = _; rw [execW]
theorem j74 (i : Nat) : exU P pr f (.exit i) none E ds H k = k (.exit i) E ds H := by show execW P pr (.exit i) none E ds H k = _; rw [execW]
theorem j75 (l : Nat) : exU P pr f (.goto l) none E ds H k = k (.goto l) E ds H := by show execW P pr (.goto l) none E ds H k = _; rw [execW]
theorem jh2 (l : Nat) : exU P pr f (.label l) none E ds H k = k .norm E ds H := by show execW P pr (.label l) none E ds H k = _; rw [execW]
theorem jl1 (l : Nat) : exU P pr f (.label l) (some l) E ds H k = k .norm E ds H := by show execW P pr (.label l) (some l) E ds H k = _; rw [execW]; simp
theorem j3d (i : Nat) (b : Code) : exU P pr f (.block i b) none E ds H k = exU P pr f b none E ds H (leaveW i k) := by show execW P pr (.block i (un f b)) none E ds H k = _; rw [execW]; rfl
theorem u_if (c : Operand) (x y : Code) (h : evalE E c = .bool true) : exU P pr f (.cond c x y) none E ds H k = exU P pr f x none E ds H k := by show execW P pr (.cond c (un f x) (un f y)) none E ds H k = _; rw [execW, h]; rfl
theorem j76 (c : Operand) (x y : Code) (h : evalE E c = .bool false) : exU P pr f (.cond c x y) none E ds H k = exU P pr f y none E ds H k := by show execW P pr (.cond c (un f x) (un f y)) none E ds H k = _; rw [execW, h]; rfl
theorem j0a (i : Nat) (x : Array Oper) : exU P pr f (.region i x false) none E ds H k = opsU P f i (rgX f i) E ds H (normK k) (panU P f i false k) := by show execW P pr (.region i (rgn f i) false) none E ds H k = _; rw [execW]; rfl
theorem j77 (i : Nat) (x : Array Oper) : exU P pr f (.region i x true) none E ds H k = drU P f i (pr i) E ds H k := by
 show execW P pr (.region i (rgn f i) true) none E ds H k = _
 rw [execW]
 cases h : pr i with
 | nil => rfl
 | cons y l => rfl
theorem yd5 (i : Nat) : drU P f i [] E ds H k = opsU P f i (rgX f i) E ds H (normK k) (panU P f i true k) := id rfl
theorem j84 (i : Nat) (y : Nat × Nat) (l : List (Nat × Nat)) : drU P f i (y :: l) E ds H k = trU P f i (rgX f i) E ds H [] (chkU P f i (y :: l) k) (panU P f i true k) := id rfl
theorem j78 (b : Code) : exU P pr f (.loop b) none E ds H k = loopW (exU P pr f b none) E ds H k := by show execW P pr (.loop (un f b)) none E ds H k = _; rw [execW]; rfl
theorem j85 (b : Code) : exU P pr f (.scope b) none E ds H k = scopeW (un f b) (exU P pr f b) none E ds H k := by show execW P pr (.scope (un f b)) none E ds H k = _; rw [execW]; rfl
theorem jg6 (y : Code) : thenU P pr f y k .norm E ds H = exU P pr f y none E ds H k := id rfl
theorem j3e (y : Code) : thenU P pr f y k .ret E ds H = k .ret E ds H := id rfl
theorem j2d (y : Code) (i : Nat) : thenU P pr f y k (.exit i) E ds H = k (.exit i) E ds H := id rfl
theorem j2e (y : Code) (i : Nat) : thenU P pr f y k (.goto i) E ds H = k (.goto i) E ds H := id rfl
theorem j3f (y : Code) (c : List PanicEntry) : thenU P pr f y k (.pan c) E ds H = k (.pan c) E ds H := id rfl
theorem jr4 (b : BE) : thenW b k .norm E ds H = b E ds H k := id rfl
theorem j3g (b : BE) : thenW b k .ret E ds H = k .ret E ds H := id rfl
theorem j2f (b : BE) (i : Nat) : thenW b k (.exit i) E ds H = k (.exit i) E ds H := id rfl
theorem j2g (b : BE) (i : Nat) : thenW b k (.goto i) E ds H = k (.goto i) E ds H := id rfl
theorem j3h (b : BE) (c : List PanicEntry) : thenW b k (.pan c) E ds H = k (.pan c) E ds H := id rfl
theorem j0b (i : Nat) : leaveW i k .norm E ds H = k .norm E ds H := id rfl
theorem j2h (i : Nat) : leaveW i k .ret E ds H = k .ret E ds H := id rfl
theorem j0c (i j : Nat) : leaveW i k (.goto j) E ds H = k (.goto j) E ds H := id rfl
theorem j2i (i : Nat) (c : List PanicEntry) : leaveW i k (.pan c) E ds H = k (.pan c) E ds H := id rfl
theorem j0d (i j : Nat) : leaveW i k (.exit j) E ds H = cond (j == i) (k .norm E ds H) (k (.exit j) E ds H) := id rfl
theorem j2j (i : Nat) (c : List PanicEntry) : panU P f i false k c E ds H = k (.pan c) E ds H := id rfl
end code
section ops
variable {P : Program} {f : Func} {i : Nat} {d : Option Tmp} {t : TypeId} {p : String} {af : Array Edge} {E : Env} {ds : List Deferred} {H : Heap} {k : KE} {kp : KX} {tr : List (Env × Heap)} {kt : List (Env × Heap) → KE}
theorem yd6 : opsU P f i [] E ds H k kp = k E ds H := id rfl
theorem j79 (op : Op) (l : List Oper) : opsU P f i (⟨d, op, t, p, af, none⟩ :: l) E ds H k kp = opU P d op E ds H (nextU P f i l k kp) kp := id rfl
def gdst (f : Func) (i j : Nat) : Option Tmp := ((rgX f i)[j]?).bind (·.dst)
def guB (v : Value) (w : Bool) (x y : Prop) : Prop := match v with | .bool b => cond (b == w) x y | .tuple _ => y | _ => False
def guU (e : Option Tmp) (w : Bool) (E : Env) (x y : Prop) : Prop := match e with | some e => guB (E e) w x y | none => y
theorem yd7 (e : Tmp) (w : Bool) (E : Env) (x y : Prop) : guU (some e) w E x y = guB (E e) w x y := id rfl
theorem yd8 (x y : Prop) : guB (.bool true) true x y = x := id rfl
theorem yd9 (x y : Prop) : guB (.bool true) false x y = y := id rfl
theorem ye0 (x y : Prop) : guB (.bool false) true x y = y := id rfl
theorem ye1 (x y : Prop) : guB (.bool false) false x y = x := id rfl
theorem j86 (f : Func) (i j : Nat) : gdst f i j = ((rgX f i)[j]?).bind (·.dst) := id rfl
theorem j1g (op : Op) (j : Nat) (w : Bool) (x y : Prop) : guardW (rgn f i) ⟨d, op, t, p, af, some (j, w)⟩ E x y = guU (gdst f i j) w E x y := by
 simp only [guardW, guardBE, guU, gdst, rgX, Array.getElem?_toList]
 cases ((rgn f i)[j]?).bind (·.dst) with
 | none => rfl
 | some e => simp only [guB]; cases E e <;> rfl
theorem j3i (op : Op) (j : Nat) (w : Bool) (l : List Oper) : opsU P f i (⟨d, op, t, p, af, some (j, w)⟩ :: l) E ds H k kp = guU (gdst f i j) w E (opU P d op E ds H (nextU P f i l k kp) kp) (nextU P f i l k kp (upd E d undef) ds H) := j1g op j w _ _
theorem ye2 : trU P f i [] E ds H tr kt kp = kt (tr ++ [(E, H)]) E ds H := id rfl
theorem j8a (op : Op) (l : List Oper) : trU P f i (⟨d, op, t, p, af, none⟩ :: l) E ds H tr kt kp = opU P d op E ds H (nexT P f i l (tr ++ [(E, H)]) kt kp) kp := id rfl
theorem j3j (op : Op) (j : Nat) (w : Bool) (l : List Oper) : trU P f i (⟨d, op, t, p, af, some (j, w)⟩ :: l) E ds H tr kt kp = guU (gdst f i j) w E (opU P d op E ds H (nexT P f i l (tr ++ [(E, H)]) kt kp) kp) (nexT P f i l (tr ++ [(E, H)]) kt kp (upd E d undef) ds H) := j1g op j w _ _
def chkL (P : Program) (f : Func) (i : Nat) (tr : List (Env × Heap)) : List (Nat × Nat) → Prop
 | [] => True
 | x :: l => pairChk P (rgn f i) tr x.1 x.2 ∧ chkL P f i tr l
theorem j1h {tr : List (Env × Heap)} : ∀ l : List (Nat × Nat), (∀ x ∈ l, pairChk P (rgn f i) tr x.1 x.2) ↔ chkL P f i tr l
 | [] => by simp [chkL]
 | x :: l => by simp only [chkL, List.mem_cons, forall_eq_or_imp, j1h l]
theorem ye3 (prs : List (Nat × Nat)) (k : KO) (tr : List (Env × Heap)) : chkU P f i prs k tr E ds H = (chkL P f i tr prs ∧ k .norm E ds H) := by
 show ((∀ x ∈ prs, pairChk P (rgn f i) tr x.1 x.2) ∧ _) = _
 rw [j1h]
theorem j50 (tr : List (Env × Heap)) : chkL P f i tr [] = True := id rfl
def pk5 (P : Program) (f : Func) (i : Nat) (o : Option Oper) (a b c d : Option (Env × Heap)) : Prop := match o, a, b, c, d with
 | some oi, some ti, some tn, some tp, some tq =>
   (match guardBE (rgn f i) oi ti.1 with
   | some true => (match oi.dst with
     | some d => opA P (evalE ti.1) oi.op tp.2 = some (tn.1 d, tp.2) ∧ opA P (evalE ti.1) oi.op tq.2 = some (tn.1 d, tq.2)
     | none => False)
   | _ => True)
 | _, _, _, _, _ => False
theorem j3k (tr : List (Env × Heap)) (j p : Nat) (l : List (Nat × Nat)) : chkL P f i tr ((j, p) :: l) = (pk5 P f i (rgX f i)[j]? tr[j]? tr[j + 1]? tr[p]? tr[p + 1]? ∧ chkL P f i tr l) := id rfl
theorem yo8 (op : Op) (e : Tmp) (ti tn tp tq : Env × Heap) : pk5 P f i (some ⟨some e, op, t, p, af, none⟩) (some ti) (some tn) (some tp) (some tq) = (opA P (evalE ti.1) op tp.2 = some (tn.1 e, tp.2) ∧ opA P (evalE ti.1) op tq.2 = some (tn.1 e, tq.2)) := id rfl
theorem j87 (e : TypeId) (a : Operand) : opA P (evalE E) (.load e a) H = loadA P e (evalE E a) H := id rfl
theorem ye4 (b : Builtin) (args : Array Operand) (ts : Array TypeId) : opA P (evalE E) (.call { callee := .builtin b, args := args, argTypes := ts }) H = builtinA P b ts (args.map (evalE E)) H := id rfl
theorem ye5 (x : Env × Heap) : ([] ++ [x] : List (Env × Heap)) = [x] := id rfl
theorem j88 (x y : Env × Heap) (l : List (Env × Heap)) : (x :: l) ++ [y] = x :: (l ++ [y]) := id rfl
theorem tr0 (x : Env × Heap) (l : List (Env × Heap)) : (x :: l)[0]? = some x := id rfl
theorem tr1 (x : Env × Heap) (l : List (Env × Heap)) (j : Nat) : (x :: l)[j + 1]? = l[j]? := id rfl
theorem jb5 (x : Option Value) (k : KV) : bindV (withH H x) k = bindO x fun v => k v H := by cases x <;> rfl
theorem j8b (x : Operand) : opU P d (.move x) E ds H k kp = k (upd E d (evalE E x)) ds H := id rfl
theorem j1i (x : Operand) : opU P d (.assign x) E ds H k kp = k (upd E d (evalE E x)) ds H := id rfl
theorem j3l (c x y : Operand) (h : evalE E c = .bool true) : opU P d (.pick c x y) E ds H k kp = k (upd E d (evalE E x)) ds H := by
 show bindV (opA P (evalE E) (.pick c x y) H) _ = _
 simp only [opA, h, pickV_eq, if_true, bindV]
theorem j3m (c x y : Operand) (h : evalE E c = .bool false) : opU P d (.pick c x y) E ds H k kp = k (upd E d (evalE E y)) ds H := by
 show bindV (opA P (evalE E) (.pick c x y) H) _ = _
 simp only [opA, h, pickV_eq, Bool.false_eq_true, if_false, bindV]
theorem j3n (e : TypeId) : opU P d (.alloc e) E ds H k kp = bindV (allocA P e H) (putK E d ds k) := id rfl
theorem ye6 (e : TypeId) (x : Operand) : opU P d (.box e x) E ds H k kp = bindV (boxA P e (evalE E x) H) (putK E d ds k) := id rfl
theorem j3o (e : TypeId) (parts : Array (Nat × Operand)) : opU P d (.build e parts) E ds H k kp = bindO (buildA P e (parts.map fun (i, x) => (i, evalE E x))) (putO E d ds H k) := jb5 _ _
theorem jl2 (e : TypeId) (n : Nat) (parts : Array (Nat × Operand)) : opU P d (.buildSlice e n parts) E ds H k kp = bindV (buildSliceA P e n (parts.map fun (i, x) => (i, evalE E x)) H) (putK E d ds k) := id rfl
theorem j8c (e : TypeId) (a : Operand) : opU P d (.load e a) E ds H k kp = bindV (loadA P e (evalE E a) H) (putK E d ds k) := id rfl
theorem j3p (e : TypeId) (a x : Operand) : opU P d (.store e a x) E ds H k kp = bindV (storeA P e (evalE E a) (evalE E x) H) (putK E d ds k) := id rfl
theorem jr5 (x : Operand) : opU P d (.nilCheck x) E ds H k kp = bindO (nilCheckA (evalE E x)) (putO E d ds H k) := jb5 _ _
theorem jm6 (x : Option Value) : (bindO (x.filter ground) fun v => k (upd E d v) ds H) = bindO x (putG E d ds H k) := by
 cases x with
 | none => rfl
 | some v =>
   simp only [bindO, putG, Option.filter]
   by_cases h : ground v = true <;> simp [h]
theorem j3q (op : BinOp) (e : TypeId) (x y : Operand) (e2 : TypeId) : opU P d (.binOp op e x y e2) E ds H k kp = bindO (binA P op e x y (evalE E x) (evalE E y)) (putG E d ds H k) := (jb5 _ _).trans (jm6 _)
theorem j8d (op : UnOp) (e : TypeId) (x : Operand) : opU P d (.unOp op e x) E ds H k kp = bindO (unA P op (evalE E x)) (putG E d ds H k) := (jb5 _ _).trans (jm6 _)
theorem jx0 (s e : TypeId) (x : Operand) : opU P d (.convert s e x) E ds H k kp = bindV (convertA P s e (evalE E x) H) (putK E d ds k) := id rfl
theorem jr6 (fn : Fn) (a b : Array Operand) : opU P d (.makeFunc fn a b) E ds H k kp = k (upd E d (.func fn (a.map (evalE E)) (b.map (evalE E)))) ds H := id rfl
theorem jm7 (e : TypeId) (x y : Operand) : opU P d (.makeSlice e x y) E ds H k kp = bindV (makeSliceA P e (evalE E x) (evalE E y) H) (putK E d ds k) := id rfl
theorem j3r (e : TypeId) (x : Operand) (lo hi mx : Option Operand) : opU P d (.slice e x lo hi mx) E ds H k kp = bindO (sliceOpA P e (evalE E x) (lo.map (evalE E)) (hi.map (evalE E)) (mx.map (evalE E)) H) (putO E d ds H k) := jb5 _ _
theorem jm8 (s : TypeId) (x : Operand) (n : Nat) : opU P d (.fieldAddr s x n) E ds H k kp = bindO (fieldAddrA P s (evalE E x) n) (putO E d ds H k) := jb5 _ _
theorem j3s (e : TypeId) (x : Operand) (n : Nat) : opU P d (.field e x n) E ds H k kp = bindO (fieldA P e (evalE E x) n) (putO E d ds H k) := jb5 _ _
theorem jm9 (e : TypeId) (x y : Operand) : opU P d (.indexAddr e x y) E ds H k kp = bindO (indexAddrA P e (evalE E x) (evalE E y)) (putO E d ds H k) := jb5 _ _
theorem j3t (e : TypeId) (x y : Operand) : opU P d (.index e x y) E ds H k kp = bindO (indexA P e (evalE E x) (evalE E y)) (putO E d ds H k) := jb5 _ _
theorem jx1 (x : Operand) (n : Nat) : opU P d (.extract x n) E ds H k kp = bindO (extractA (evalE E x) n) (putO E d ds H k) := jb5 _ _
theorem jl3 (x : Operand) (a b : TypeId) (ok : Bool) : opU P d (.typeAssert x a b ok) E ds H k kp = bindO (assertA P (evalE E x) a b ok) (putO E d ds H k) := jb5 _ _
theorem j3u (e : TypeId) (x : Operand) : opU P d (.range e x) E ds H k kp = bindV (rangeA P e (evalE E x) H) (putK E d ds k) := id rfl
theorem j8e (x : Operand) (b : Bool) : opU P d (.next x b) E ds H k kp = bindV (nextA (evalE E x) b H) (putK E d ds k) := id rfl
theorem jx2 (b : Builtin) (args : Array Operand) (ts : Array TypeId) : opU P d (.call { callee := .builtin b, args := args, argTypes := ts }) E ds H k kp = bindV (builtinA P b ts (args.map (evalE E)) H) (putK E d ds k) := id rfl
theorem j89 (x : Operand) (args : Array Operand) (ts : Array TypeId) (g : FuncId) (a b : Array Value) (h : evalE E x = .func (.func g) a b) :
   opU P d (.call { callee := .value x, args := args, argTypes := ts }) E ds H k kp = callW P g (a ++ args.map (evalE E) ++ b) H (putK E d ds k) (panK E ds kp) := by
 simp only [opU, stepW, opW, h]
 rfl
theorem j3v (g : FuncId) (args : Array Operand) (ts : Array TypeId) :
   opU P d (.call { callee := .value (.func g), args := args, argTypes := ts }) E ds H k kp = callW P g (args.map (evalE E)) H (putK E d ds k) (panK E ds kp) := by
 rw [j89 _ args ts g #[] #[] rfl]; simp
def clV (P : Program) (v : Value) (args : Array Value) (H : Heap) (k : KV) (kp : KP) : Prop := match v with | .func (.func g) a b => callW P g (a ++ args ++ b) H k kp | _ => False
theorem ye7 (g : FuncId) (a b args : Array Value) (k : KV) (kp : KP) : clV P (.func (.func g) a b) args H k kp = callW P g (a ++ args ++ b) H k kp := id rfl
theorem j3w (x : Operand) (args : Array Operand) (ts : Array TypeId) : opU P d (.call { callee := .value x, args := args, argTypes := ts }) E ds H k kp = clV P (evalE E x) (args.map (evalE E)) H (putK E d ds k) (panK E ds kp) := by
 simp only [opU, stepW, opW, clV]
 cases evalE E x <;> rfl
theorem apA (l l' : List Value) : (l.toArray ++ l'.toArray : Array Value) = (l ++ l').toArray := by simp
theorem av0 (l : List Value) : [] ++ l = l := id rfl
theorem av1 (x : Value) (l l' : List Value) : (x :: l) ++ l' = x :: (l ++ l') := id rfl
theorem j3x (g : FuncId) (args : Array Operand) (ts : Array TypeId) : opU P d (.defer { callee := .value (.func g), args := args, argTypes := ts }) E ds H k kp = k (upd E d undef) ({ target := .fn (.func g) #[], args := args.map (evalE E) } :: ds) H := by
 simp [opU, stepW, deferOf, evalE]
theorem j51 (x : Operand) (args : Array Operand) (ts : Array TypeId) (g : FuncId) (a b : Array Value) (h : evalE E x = .func (.func g) a b) : opU P d (.defer { callee := .value x, args := args, argTypes := ts }) E ds H k kp = k (upd E d undef) ({ target := .fn (.func g) b, args := a ++ args.map (evalE E) } :: ds) H := by
 simp [opU, stepW, deferOf, h]
def notIface (P : Program) (ty : TypeId) : Bool := match P.underlying ty with | some (.interface _) => false | some _ => true | none => false
theorem jg2 (ty : TypeId) (x : Operand) (h : notIface P ty = true) : opU P d (.makeInterface ty x) E ds H k kp = k (upd E d (.iface ty (evalE E x))) ds H := by
 show bindV (opA P (evalE E) _ H) _ = _
 simp only [opA]
 unfold notIface at h
 cases hU : P.underlying ty with
 | none => rw [hU] at h; cases h
 | some q =>
   rw [hU] at h
   cases q <;> first | rfl | cases h
end ops
theorem j3y (E : Env) (i : Nat) : evalE E (.tmp i) = E i := id rfl
theorem j0e (E : Env) (v : Value) : evalE E (.const v) = v := id rfl
theorem jx3 (E : Env) (g : Nat) : evalE E (.global g) = .pointer (some ⟨g, 0, none⟩) := id rfl
theorem j2k (E : Env) (f : FuncId) : evalE E (.func f) = .func (.func f) #[] #[] := id rfl
theorem j52 (E : Env) (v : Value) : upd E none v = E := id rfl
theorem ji1 (E : Env) (i : Nat) (v : Value) (j : Nat) : upd E (some i) v j = if j = i then v else E j := id rfl
theorem j53 (v : Value) (k : Value → Prop) : bindO (some v) k = k v := id rfl
theorem j54 (v : Value) (H : Heap) (k : KV) : bindV (some (v, H)) k = k v H := id rfl
theorem map_nil {α β : Type} (f : α → β) : (#[] : Array α).map f = #[] := by simp
theorem j9a {α β : Type} (f : α → β) (x : α) : (#[x] : Array α).map f = #[f x] := by simp
theorem j9b {α β : Type} (f : α → β) (x y : α) : (#[x, y] : Array α).map f = #[f x, f y] := by simp
theorem j3z {α β : Type} (f : α → β) (x y z : α) : (#[x, y, z] : Array α).map f = #[f x, f y, f z] := by simp
theorem j55 {α β : Type} (f : α → β) (x y z u : α) : (#[x, y, z, u] : Array α).map f = #[f x, f y, f z, f u] := by simp
theorem j56 (v : Value) (l : List Value) : startE ⟨v :: l⟩ 0 = v := id rfl
theorem j57 (v u : Value) (l : List Value) : startE ⟨v :: u :: l⟩ 1 = u := id rfl
theorem j58 (v u w : Value) (l : List Value) : startE ⟨v :: u :: w :: l⟩ 2 = w := id rfl
theorem j59 (v u w x : Value) (l : List Value) : startE ⟨v :: u :: w :: x :: l⟩ 3 = x := id rfl
theorem j6a (v u w x y : Value) (l : List Value) : startE ⟨v :: u :: w :: x :: y :: l⟩ 4 = y := id rfl
theorem j6b (v u w x y z : Value) (l : List Value) : startE ⟨v :: u :: w :: x :: y :: z :: l⟩ 5 = z := id rfl
section bins
variable {P : Program} {t : TypeId} {x y : Operand} {i : IntKind} {a b : Int}
theorem yo9 : binA P .lss t x y (.int i a) (.int i b) = some (.bool (decide (a < b))) := by simp [binA, ground, atomic, eqGuard, binOp, Op.intCmp]; rfl
theorem yp0 : binA P .leq t x y (.int i a) (.int i b) = some (.bool (decide (a ≤ b))) := by simp [binA, ground, atomic, eqGuard, binOp, Op.intCmp]; rfl
theorem yp1 : binA P .gtr t x y (.int i a) (.int i b) = some (.bool (decide (a > b))) := by simp [binA, ground, atomic, eqGuard, binOp, Op.intCmp]; rfl
theorem yp2 : binA P .geq t x y (.int i a) (.int i b) = some (.bool (decide (a ≥ b))) := by simp [binA, ground, atomic, eqGuard, binOp, Op.intCmp]; rfl
theorem yp3 : binA P .eql t x y (.int i a) (.int i b) = some (.bool (a == b)) := by simp [binA, ground, atomic, eqGuard, binOp, Op.intCmp]; rfl
theorem yp4 : binA P .neq t x y (.int i a) (.int i b) = some (.bool (a != b)) := by simp [binA, ground, atomic, eqGuard, binOp, Op.intCmp]; rfl
theorem yp5 : binA P .add t x y (.int i a) (.int i b) = some (.int i (i.wrap (a + b))) := by simp [binA, ground, atomic, eqGuard, binOp, Op.intArith]; rfl
theorem yp6 : binA P .sub t x y (.int i a) (.int i b) = some (.int i (i.wrap (a - b))) := by simp [binA, ground, atomic, eqGuard, binOp, Op.intArith]; rfl
end bins
section fin
variable {P : Program} {fn : Func} {E : Env} {H : Heap} {k : KV} {kp : KP}
def retW (H : Heap) (k : KV) (x : Option (List Value)) : Prop := match x with | some l => k (oneOf l) H | none => False
theorem jn0 : finW P fn k kp .ret E [] H = retW H k (resE P E H fn.results.toList) := by
 show (match resE P E H fn.results.toList with | some l => cond (false && l.any isUndef) False (k (oneOf l) H) | none => False) = _
 cases resE P E H fn.results.toList <;> rfl
theorem j1j : finW P fn k kp .norm E [] H = retW H k (resE P E H fn.results.toList) := jn0 (kp := kp)
theorem j30 (c : List PanicEntry) : finW P fn k kp (.pan c) E [] H = kp c H := id rfl
theorem j9c (l : List Value) : retW H k (some l) = k (oneOf l) H := id rfl
theorem yp7 (v : Value) : oneOf [v] = v := id rfl
theorem j6c : oneOf [] = .tuple #[] := id rfl
theorem yp8 (u v : Value) : oneOf [u, v] = .tuple #[u, v] := id rfl
theorem yp9 (u v w : Value) : oneOf [u, v, w] = .tuple #[u, v, w] := id rfl
theorem jj9 : resE P E H [] = some [] := id rfl
def consO (v : Value) (x : Option (List Value)) : Option (List Value) := match x with | some l => some (v :: l) | none => none
theorem j9d (t : Tmp) (l : List ResultVar) : resE P E H (.tmp t :: l) = consO (E t) (resE P E H l) := id rfl
theorem j6d (v : Value) (l : List Value) : consO v (some l) = some (v :: l) := id rfl
end fin
def noPr : Nat → List (Nat × Nat) := fun _ => []
theorem j9e (i : Nat) : noPr i = [] := id rfl
def goodF (P : Program) (pr : Nat → List (Nat × Nat)) (fn : Func) (n : Nat) : Bool := fn.body.isSome && (!(fn.name == "runtime.NumGoroutine") && (goodC P pr fn.ntmps (codeOf fn) && Nat.ble n fn.ntmps))
theorem jk0 {P : Program} {pr : Nat → List (Nat × Nat)} {f : FuncId} {fn : Func} {n : Nat} (hf : P.funcs[f]? = some fn) (hg : goodF P pr fn n = true) : Runs P pr f fn (codeOf fn) n := by
 simp only [goodF, Bool.and_eq_true, Bool.not_eq_true'] at hg
 obtain ⟨c, hc⟩ := Option.isSome_iff_exists.1 hg.1
 have : codeOf fn = c := by simp [codeOf, hc]
 exact ⟨hf, by rw [this, hc], hg.2.1, hg.2.2.1, Nat.le_of_ble_eq_true hg.2.2.2⟩
theorem callU {P : Program} (hm : P.follows .mixedOrders = true) {pr : Nat → List (Nat × Nat)} {f : FuncId} {fn : Func} {args : Array Value} {n : Nat} (hs : args.size = n) (hf : P.funcs[f]? = some fn) (hg : goodF P pr fn n = true) (hu : un fn (skX fn) = codeOf fn) {H : Heap} {k : KV} {kp : KP}
   (he : exU P pr fn (skX fn) none (startE args) [] H (finW P fn k kp)) : callW P f args H k kp := by
 subst hs
 refine j1e hm (jk0 hf hg) ?_
 rw [← hu]
 exact he
theorem yq0 (i : Nat) (a b : Code) : oA i (.seq a b) = orA (oA i a) (oA i b) := rfl
theorem ye8 (i : Nat) (c : Operand) (a b : Code) : oA i (.cond c a b) = orA (oA i a) (oA i b) := rfl
theorem j9f (i j : Nat) (b : Code) : oA i (.block j b) = oA i b := rfl
theorem ye9 (i : Nat) (b : Code) : oA i (.loop b) = oA i b := rfl
theorem j9g (i : Nat) (b : Code) : oA i (.scope b) = oA i b := rfl
theorem j6e (i j : Nat) (x : Array Oper) (d : Bool) : oA i (.region j x d) = if j = i then some x else none := rfl
theorem yq1 (i : Nat) : oA i .ret = none := rfl
theorem yf0 (i : Nat) : oA i .skip = none := rfl
theorem yf1 (i j : Nat) : oA i (.exit j) = none := rfl
theorem yf2 (i j : Nat) : oA i (.goto j) = none := rfl
theorem j9h (i j : Nat) : oA i (.label j) = none := rfl
theorem j6f (x : Array Oper) (b : Option (Array Oper)) : orA (some x) b = some x := rfl
theorem j6g (b : Option (Array Oper)) : orA none b = b := rfl
theorem yq2 : sk .ret = .ret := rfl
theorem yf3 : sk .skip = .skip := rfl
theorem yf4 (j : Nat) : sk (.exit j) = .exit j := rfl
theorem yf5 (j : Nat) : sk (.goto j) = .goto j := rfl
theorem j9i (j : Nat) : sk (.label j) = .label j := rfl
structure Pf (p : Prop) : Type where
 o : p
@[congr] theorem guB_congr {v v' : Value} (h : v = v') (w : Bool) (x y : Prop) : guB v w x y = guB v' w x y := by rw [h]
@[congr] theorem guU_congr {e e' : Option Tmp} (h : e = e') (w : Bool) (E : Env) (x y : Prop) : guU e w E x y = guU e' w E x y := by rw [h]
@[congr] theorem bindO_congr {x x' : Option Value} (h : x = x') (k : Value → Prop) : bindO x k = bindO x' k := by rw [h]
@[congr] theorem bindV_congr {x x' : VH} (h : x = x') (k : KV) : bindV x k = bindV x' k := by rw [h]
@[congr] theorem callW_congr {P : Program} {f : FuncId} {a a' : Array Value} (h1 : a = a') {H H' : Heap} (h2 : H = H') (k : KV) (kp : KP) : callW P f a H k kp = callW P f a' H' k kp := by rw [h1, h2]
end Go.Am
namespace Go.Am
variable {P : Program} {t q off n s : Nat} {H : Heap} {L : List (Nat × Blk)}
def inL : Nat → List Value → Bool
 | _, [] => false
 | 0, _ :: _ => true
 | n + 1, _ :: l => inL n l
theorem jc9 : ∀ (n : Nat) (l : List Value), inL n l = true ↔ n < l.length
 | _, [] => by simp [inL]
 | 0, _ :: _ => by simp [inL]
 | n + 1, _ :: l => by simp [inL, jc9 n l]
def lk (P : Program) (t : TypeId) : Nat := match aggT P t with | some false => 1 | some true => (match sizeT P t with | some n => n + 2 | none => 0) | none => 0
def ldB (x : Option Blk) (k off : Nat) (H : Heap) : VH :=
 match x, k with
 | some ⟨cells, _, _, none⟩, 1 => withH H cells[off]?
 | some ⟨cells, _, _, none⟩, n + 2 => if off + n ≤ cells.length then some (.agg ((cells.drop off).take n).toArray, H) else none
 | _, _ => none
theorem j9j : loadA P t (.pointer (some ⟨q, off, none⟩)) H = ldB (H.get q) (lk P t) off H := by
 unfold loadA lk
 simp only [ld1, ldN, look]
 cases h1 : aggT P t with
 | none => simp only; cases H.get q with | none => rfl | some x => obtain ⟨c, r, e, o⟩ := x; cases o <;> rfl
 | some b =>
   cases b with
   | false =>
     simp only
     cases H.get q with
     | none => rfl
     | some x =>
       obtain ⟨c, r, e, o⟩ := x
       cases o with
       | some o => rfl
       | none => simp only [ldB]; cases c[off]? <;> rfl
   | true =>
     cases sizeT P t with
     | none => simp only; cases H.get q with | none => rfl | some x => obtain ⟨c, r, e, o⟩ := x; cases o <;> rfl
     | some n => simp only; cases H.get q with | none => rfl | some x => obtain ⟨c, r, e, o⟩ := x; cases o <;> rfl
theorem j9k (cells : List Value) (r : Bool) (e off : Nat) (H : Heap) : ldB (some ⟨cells, r, e, none⟩) 1 off H = withH H cells[off]? := id rfl
theorem j9l {cells : List Value} (h : inL (off + n) cells = true) (r : Bool) (e : Nat) (H : Heap) : ldB (some ⟨cells, r, e, none⟩) (n + 3) off H = some (.agg ((cells.drop off).take (n + 1)).toArray, H) := if_pos ((jc9 _ _).1 h)
theorem j6h (H : Heap) (v : Value) : withH H (some v) = some (v, H) := id rfl
def sc (v : Value) : Bool := Value.oneCell' v && (match v with | .agg _ => false | _ => true)
theorem jd6 {v : Value} (h : sc v = true) : v.cells = #[v] ∧ Value.oneCell' v = true := by
 simp only [sc, Bool.and_eq_true] at h
 refine ⟨?_, h.1⟩
 cases v <;> first | rfl | (simp at h)
def stB (x : Option Blk) (q off : Nat) (v : Value) (H : Heap) : VH :=
 match x with
 | some ⟨cells, true, es, none⟩ => if inL off cells = true then some (undef, H.set q ⟨cells.set off v, true, es, none⟩) else none
 | _ => none
theorem j6i (cells : List Value) (off : Nat) (v : Value) (h : off < cells.length) : over cells off [v] = cells.set off v := by
 rw [over, List.set_eq_take_append_cons_drop, if_pos h]; simp
theorem j6j {v : Value} (ht : sizeT P t = some 1) (hv : sc v = true) : storeA P t (.pointer (some ⟨q, off, none⟩)) v H = stB (H.get q) q off v H := by
 obtain ⟨h1, h2⟩ := jd6 hv
 simp only [storeA, ht, stV, h1, st, look, stB]
 cases H.get q with
 | none => rfl
 | some x =>
   obtain ⟨c, r, e, o⟩ := x
   cases o with
   | some o => cases r <;> rfl
   | none =>
     cases r with
     | false => simp
     | true =>
       by_cases h : off < c.length
       · have hb : inL off c = true := (jc9 _ _).2 h
         simp [h, h2, j6i, hb, Nat.succ_le_of_lt h]
       · have hb : ¬ inL off c = true := fun e => h ((jc9 _ _).1 e)
         have : ¬ off + 1 ≤ c.length := by omega
         simp [hb, this]
theorem yf6 {cells : List Value} (h : inL off cells = true) (es q : Nat) (v : Value) (H : Heap) : stB (some ⟨cells, true, es, none⟩) q off v H = some (undef, H.set q ⟨cells.set off v, true, es, none⟩) := if_pos h
theorem yf7 (k : IntKind) (n : Int) : sc (.int k n) = true := id rfl
theorem j9m (b : Bool) : sc (.bool b) = true := id rfl
theorem yf8 (s : ByteArray) : sc (.string s) = true := id rfl
theorem j6k (a : Option Addr) (l c : Nat) : sc (.slice a l c) = true := id rfl
theorem yf9 (a : Option Addr) : sc (.pointer a) = true := id rfl
def foff (P : Program) (s : TypeId) (f : Nat) : Option Nat := match P.underlying s with
 | some (.struct fields) => (match fields[f]? with | some g => (match sizeT P g.type with | some (_ + 1) => some g.offset | _ => none) | none => none)
 | _ => none
def addP (a : Addr) (x : Option Nat) : Option Value := match x with | some n => some (.pointer (some (a.add n))) | none => none
theorem j6l {f : Nat} (a : Addr) : fieldAddrA P s (.pointer (some a)) f = addP a (foff P s f) := by
 unfold fieldAddrA foff
 simp only
 cases P.underlying s with
 | none => rfl
 | some u =>
   cases u <;> try rfl
   rename_i fields
   simp only
   cases fields[f]? with
   | none => rfl
   | some g => simp only; cases sizeT P g.type with | none => rfl | some n => cases n <;> rfl
theorem j9n (q off n : Nat) : addP ⟨q, off, none⟩ (some n) = some (.pointer (some ⟨q, off + n, none⟩)) := by
 simp only [addP, Addr.add]; split <;> simp_all
theorem yg0 (a : Addr) : nilCheckA (.pointer (some a)) = some (.pointer (some a)) := id rfl
theorem jd8 {t e : TypeId} (h : P.underlying t = some (.slice e)) (a : Option Addr) (n c : Nat) (H : Heap) : builtinA P .len #[t] #[.slice a n c] H = some (.int .i64 n, H) := by
 simp [builtinA, lenA, h, withH]
theorem jn1 {t : TypeId} (h : P.underlying t = some .string) (s : ByteArray) (H : Heap) : builtinA P .len #[t] #[.string s] H = some (.int .i64 s.size, H) := by
 simp [builtinA, lenA, h, withH]
def Heap.to (H : Heap) (n : Nat) : Heap := { H with next := n }
namespace Heap
theorem get_self (H : Heap) (q : Nat) (x : Blk) : (H.set q x).get q = some x := by rw [get_set, if_pos rfl]
theorem set_set (H : Heap) (q : Nat) (x y : Blk) : (H.set q x).set q y = H.set q y := by
 simp only [set]; congr 1; funext k; split <;> rfl
theorem get_new (H : Heap) (es : Nat) (cells : List Value) : (H.alloc es cells).get H.next = some ⟨cells, true, es, none⟩ := by rw [get_alloc, if_pos rfl]
theorem get_to (H : Heap) (n k : Nat) : (H.to n).get k = H.get k := rfl
theorem to_set (H : Heap) (n q : Nat) (x : Blk) : (H.to n).set q x = (H.set q x).to n := rfl
theorem to_to (H : Heap) (n k : Nat) : (H.to n).to k = H.to k := rfl
theorem to_next (H : Heap) : H.to H.next = H := rfl
theorem next_to (H : Heap) (n : Nat) : (H.to n).next = n := rfl
theorem next_set (H : Heap) (q : Nat) (x : Blk) : (H.set q x).next = H.next := rfl
theorem alloc_plus (es : Nat) (cells : List Value) : (H.plus L).alloc es cells = (H.to (H.next + 1)).plus ((H.next, ⟨cells, true, es, none⟩) :: L) := by
 simp only [alloc, plus, Heap.to, List.lookup]
 congr 1
 funext k
 by_cases h : k = H.next
 · subst h; simp
 · have : (k == H.next) = false := by simpa using h
   simp [h, this]
end Heap
/-! Blocks set aside, looked up by numbers that lie behind all others. -/
theorem yg1 (q : Nat) : List.lookup q ([] : List (Nat × Blk)) = none := id rfl
theorem ja5 (q : Nat) (y : Blk) (L : List (Nat × Blk)) : List.lookup q ((q, y) :: L) = some y := by simp [List.lookup]
theorem j31 (h : (q == n) = false) (y : Blk) (L : List (Nat × Blk)) : List.lookup q ((n, y) :: L) = List.lookup q L := by simp [List.lookup, h]
theorem jc7 (h : q < n) (y : Blk) (L : List (Nat × Blk)) : List.lookup q ((n, y) :: L) = List.lookup q L := j31 (by simp; omega) y L
theorem yg2 (h : q < n) (i : Nat) (y : Blk) (L : List (Nat × Blk)) : List.lookup q ((n + i, y) :: L) = List.lookup q L := j31 (by simp; omega) y L
theorem yq3 (n i : Nat) (y : Blk) (L : List (Nat × Blk)) : List.lookup n ((n + (i + 1), y) :: L) = List.lookup n L := j31 (by simp) y L
theorem yq4 (n i : Nat) (y : Blk) (L : List (Nat × Blk)) : List.lookup (n + (i + 1)) ((n, y) :: L) = List.lookup (n + (i + 1)) L := j31 (by simp) y L
theorem yq5 {i j : Nat} (h : Nat.beq i j = false) (n : Nat) (y : Blk) (L : List (Nat × Blk)) : List.lookup (n + i) ((n + j, y) :: L) = List.lookup (n + i) L := j31 (by
 have : i ≠ j := fun e => by subst e; simp at h
 simp [this]) y L
def orB (x y : Option Blk) : Option Blk := match x with | some y => some y | none => y
theorem j1k (x : Blk) (y : Option Blk) : orB (some x) y = some x := id rfl
theorem j6m (y : Option Blk) : orB none y = y := id rfl
theorem ja2 (H : Heap) (L : List (Nat × Blk)) (q : Nat) : (H.plus L).get q = orB (L.lookup q) (H.get q) := id rfl
theorem j32 (H : Heap) (L : List (Nat × Blk)) : (H.plus L).next = H.next := id rfl
def upL (q : Nat) (x : Blk) : List (Nat × Blk) → List (Nat × Blk)
 | [] => []
 | (n, y) :: L => (n, if n = q then x else y) :: upL q x L
def setP (H : Heap) (L : List (Nat × Blk)) (q : Nat) (x : Blk) (b : Option Blk) : Heap := match b with | some _ => H.plus (upL q x L) | none => (H.set q x).plus L
theorem j9o (H : Heap) (L : List (Nat × Blk)) (q : Nat) (x y : Blk) : setP H L q x (some y) = H.plus (upL q x L) := id rfl
theorem j6n (H : Heap) (L : List (Nat × Blk)) (q : Nat) (x : Blk) : setP H L q x none = (H.set q x).plus L := id rfl
theorem ja3 (q : Nat) (x : Blk) (k : Nat) : ∀ L : List (Nat × Blk), List.lookup k (upL q x L) = if k = q then (List.lookup k L).map fun _ => x else List.lookup k L
 | [] => by simp [upL, List.lookup]
 | (n, y) :: L => by
   simp only [upL, List.lookup]
   by_cases e : k = n
   · subst e; simp; split <;> simp_all
   · have : (k == n) = false := by simpa using e
     simp only [this]; exact ja3 q x k L
theorem ji2 (H : Heap) (L : List (Nat × Blk)) (q : Nat) (x : Blk) : (H.plus L).set q x = setP H L q x (L.lookup q) := by
 cases h : L.lookup q with
 | none =>
   simp only [setP, Heap.set, Heap.plus]; congr 1; funext k
   by_cases e : k = q
   · subst e; simp [h]
   · simp [e]
 | some y =>
   simp only [setP, Heap.set, Heap.plus]; congr 1; funext k
   rw [ja3]
   by_cases e : k = q
   · subst e; simp [h]
   · simp [e]
theorem j9p (q : Nat) (x : Blk) : upL q x [] = [] := id rfl
theorem j6o (q : Nat) (x y : Blk) (L : List (Nat × Blk)) : upL q x ((q, y) :: L) = (q, x) :: upL q x L := by simp [upL]
theorem yg3 (n i : Nat) (x y : Blk) (L : List (Nat × Blk)) : upL n x ((n + (i + 1), y) :: L) = (n + (i + 1), y) :: upL n x L := by simp [upL]
theorem yg4 (n i : Nat) (x y : Blk) (L : List (Nat × Blk)) : upL (n + (i + 1)) x ((n, y) :: L) = (n, y) :: upL (n + (i + 1)) x L := by simp [upL]
theorem yg5 {i j : Nat} (h : Nat.beq i j = false) (n : Nat) (x y : Blk) (L : List (Nat × Blk)) : upL (n + i) x ((n + j, y) :: L) = (n + j, y) :: upL (n + i) x L := by
 have : ¬ n + j = n + i := fun e => by
   have : i = j := by omega
   subst this; simp at h
 rw [upL, if_neg this]
theorem Beside.ghost (d : Beside H L) : Ghost (H.plus L) H := ⟨rfl, fun b y e => ⟨y, (Heap.get_plus d).2 (.inl e), rfl, id⟩⟩
theorem Beside.nil (H : Heap) : Beside H [] := fun _ _ e => by cases e
theorem Beside.cons (d : Beside H L) (h1 : H.get n = none) (h2 : n < H.next) (y : Blk) : Beside H ((n, y) :: L) := fun b z e => by
 simp only [List.lookup] at e
 split at e
 · rename_i q
   have : b = n := by simpa using q
   subst this; exact ⟨h1, h2⟩
 · exact d b z e
theorem bind_some (o : Oper) (f : Oper → Option Tmp) : (some o).bind f = f o := id rfl
def ixT (P : Program) (t : TypeId) : Option (Option Nat × Nat) := match P.underlying t with
 | some (.array n e) => (sizeT P e).map fun s => (some n, s)
 | some (.slice e) => (sizeT P e).map fun s => (none, s)
 | _ => none
theorem yg6 (h : ixT P t = some (some n, s)) {j : Nat} (hj : j < n) (q o : Nat) (k : IntKind) : indexAddrA P t (.pointer (some ⟨q, o, none⟩)) (.int k (j : Int)) = some (.pointer (some ⟨q, o + j * s, none⟩)) := by
 unfold ixT at h
 split at h
 · rename_i n' e hu
   cases hs : sizeT P e with
   | none => rw [hs] at h; cases h
   | some z =>
     rw [hs] at h; cases h
     simp only [indexAddrA, hu, hs, at_, Addr.add]
     rw [if_pos ⟨by omega, by omega⟩]
     simp only [Int.toNat_natCast]
     split <;> simp_all
 · rename_i e hu
   cases hs : sizeT P e <;> rw [hs] at h <;> cases h
 · cases h
theorem je4 (h : ixT P t = some (none, s)) {j n : Nat} (hj : j < n) (q o c : Nat) (k : IntKind) : indexAddrA P t (.slice (some ⟨q, o, none⟩) n c) (.int k (j : Int)) = some (.pointer (some ⟨q, o + j * s, none⟩)) := by
 unfold ixT at h
 split at h
 · rename_i n' e hu
   cases hs : sizeT P e <;> rw [hs] at h <;> cases h
 · rename_i e hu
   cases hs : sizeT P e with
   | none => rw [hs] at h; cases h
   | some z =>
     rw [hs] at h; cases h
     simp only [indexAddrA, hu, hs, at_, Addr.add]
     rw [if_pos ⟨by omega, by omega⟩]
     simp only [Int.toNat_natCast]
     split <;> simp_all
 · cases h
theorem dcT : decide True = true := by decide
theorem dcF : decide False = false := by decide
theorem cTp {a b : Prop} : cond true a b = a := id rfl
theorem cFp {a b : Prop} : cond false a b = b := id rfl
theorem cTo {a b : Option (Array Oper)} : cond true a b = a := id rfl
theorem cFo {a b : Option (Array Oper)} : cond false a b = b := id rfl
theorem gv0 (a : Value) (l : List Value) : (a :: l)[0]? = some a := id rfl
theorem gv1 (a : Value) (l : List Value) (i : Nat) : (a :: l)[i + 1]? = l[i]? := id rfl
theorem go0 (a : Oper) (l : List Oper) : (a :: l)[0]? = some a := id rfl
theorem go1 (a : Oper) (l : List Oper) (i : Nat) : (a :: l)[i + 1]? = l[i]? := id rfl
theorem in0 (a : Value) (l : List Value) : inL 0 (a :: l) = true := id rfl
theorem in1 (a : Value) (l : List Value) (i : Nat) : inL (i + 1) (a :: l) = inL i l := id rfl
theorem sv0 (a v : Value) (l : List Value) : (a :: l).set 0 v = v :: l := id rfl
theorem sv1 (a v : Value) (l : List Value) (i : Nat) : (a :: l).set (i + 1) v = a :: l.set i v := id rfl
theorem dv0 (l : List Value) : l.drop 0 = l := id rfl
theorem dv1 (a : Value) (l : List Value) (i : Nat) : (a :: l).drop (i + 1) = l.drop i := id rfl
theorem tv0 (l : List Value) : l.take 0 = [] := id rfl
theorem tv1 (a : Value) (l : List Value) (i : Nat) : (a :: l).take (i + 1) = a :: l.take i := id rfl
theorem j9q (p : Prop) : (True ∧ p) = p := true_and p
def uG := Pf.mk (And.intro @jt6 (And.intro @j73 (And.intro @yd4 (And.intro @j74 (And.intro @j75 (And.intro @jh2 (And.intro @jl1 (And.intro @j3d (And.intro @u_if (And.intro @j76 (And.intro @j0a (And.intro @j77 (And.intro @j78 (And.intro @yd6 (And.intro @j79 (And.intro @j8b (And.intro @j1i (And.intro @j3l (And.intro @j3m (And.intro @j3n (And.intro @ye6 (And.intro @j3o (And.intro @jl2 (And.intro @j8c (And.intro @j3p (And.intro @jr5 (And.intro @j3q (And.intro @j8d (And.intro @jx0 (And.intro @jr6 (And.intro @jm7 (And.intro @j3r (And.intro @jm8 (And.intro @j3s (And.intro @jm9 (And.intro @j3t (And.intro @jx1 (And.intro @jl3 (And.intro @j3u (And.intro @j8e (And.intro @jx2 (And.intro @j3v (And.intro @j3x (And.intro @jg2 (And.intro @ye2 (And.intro @j8a (And.intro @j3i (And.intro @j3j (@j3w)))))))))))))))))))))))))))))))))))))))))))))))))
def dG := Pf.mk (And.intro @j3a (And.intro @j5u (And.intro @j5v (And.intro @j5w (And.intro @j3b (And.intro @j5x (And.intro @j5y (And.intro @j3c (And.intro @j5z (And.intro @jg6 (And.intro @j3e (And.intro @j2d (And.intro @j2e (And.intro @j3f (And.intro @jr4 (And.intro @j3g (And.intro @j2f (And.intro @j2g (And.intro @j3h (And.intro @j0b (And.intro @j2h (And.intro @j0c (And.intro @j2i (And.intro @j0d (And.intro @j2j (And.intro @j3y (And.intro @j0e (And.intro @jx3 (And.intro @j2k (And.intro @j52 (And.intro @ji1 (And.intro @j53 (And.intro @j54 (And.intro @map_nil (And.intro @j9a (And.intro @j9b (And.intro @j3z (And.intro @j55 (And.intro @j56 (And.intro @j57 (And.intro @j58 (And.intro @j59 (And.intro @yo9 (And.intro @yp0 (And.intro @yp1 (And.intro @yp2 (And.intro @yp3 (And.intro @yp4 (And.intro @yp5 (And.intro @yp6 (And.intro @jn0 (And.intro @j1j (And.intro @j30 (And.intro @j9c (And.intro @j6c (And.intro @yp7 (And.intro @yp8 (And.intro @yp9 (And.intro @jj9 (And.intro @j9d (And.intro @j6d (And.intro @j9j (And.intro @j9k (And.intro @j6h (And.intro @j6l (And.intro @j9n (And.intro @yg0 (And.intro @yf6 (And.intro @yf7 (And.intro @j9m (And.intro @yf8 (And.intro @j6k (And.intro @yf9 (And.intro @j9e (And.intro @sk.eq_1 (And.intro @sk.eq_2 (And.intro @sk.eq_3 (And.intro @sk.eq_4 (And.intro @sk.eq_5 (And.intro @sk.eq_6 (And.intro @yq0 (And.intro @ye8 (And.intro @j9f (And.intro @ye9 (And.intro @j9g (And.intro @j6e (And.intro @gS (And.intro @gN (And.intro @tA (And.intro @cTp (And.intro @cFp (And.intro @cTo (And.intro @cFo (And.intro @Heap.get_self (And.intro @Heap.set_set (And.intro @Heap.next_set (And.intro @Bool.not_true (And.intro @yq1 (And.intro @yf0 (And.intro @yf1 (And.intro @yf2 (And.intro @j9h (And.intro @j6f (And.intro @j6g (And.intro @yq2 (And.intro @yf3 (And.intro @yf4 (And.intro @yf5 (And.intro @j9i (And.intro @dcT (And.intro @dcF (And.intro @yd7 (And.intro @yd8 (And.intro @yd9 (And.intro @ye0 (And.intro @ye1 (And.intro @j86 (And.intro @bind_some (And.intro @gv0 (And.intro @gv1 (And.intro @go0 (And.intro @go1 (And.intro @Nat.zero_add (And.intro @Nat.mul_one (And.intro @Int.ofNat_lt (And.intro @in0 (And.intro @in1 (And.intro @sv0 (And.intro @sv1 (And.intro @dv0 (And.intro @dv1 (And.intro @tv0 (And.intro @tv1 (And.intro @j9l (And.intro @yg1 (And.intro @ja5 (And.intro @jc7 (And.intro @yg2 (And.intro @yq3 (And.intro @yq4 (And.intro @j1k (And.intro @j6m (And.intro @ja2 (And.intro @j32 (And.intro @j9o (And.intro @j6n (And.intro @ji2 (And.intro @j9p (And.intro @j6o (And.intro @yg3 (And.intro @yg4 (And.intro @Heap.alloc_plus (And.intro @Heap.get_to (And.intro @Heap.to_set (And.intro @Heap.to_to (And.intro @Heap.next_to (And.intro @yd5 (And.intro @j84 (And.intro @ye3 (And.intro @j50 (And.intro @j3k (And.intro @yo8 (And.intro @j87 (And.intro @ye4 (And.intro @ye5 (And.intro @j88 (And.intro @tr0 (And.intro @tr1 (And.intro @ye7 (And.intro @apA (And.intro @av0 (And.intro @av1 (And.intro @j6a (And.intro @j6b (And.intro @yq5 (And.intro @yg5 (@j9q)))))))))))))))))))))))))))))))))))))))))))))))))))))))))))))))))))))))))))))))))))))))))))))))))))))))))))))))))))))))))))))))))))))))))))))))))))))))))))))))))))))))))))))))))
end Go.Am
open Go.Proofs
namespace Go.Am
noncomputable abbrev PP := Go.Proofs.Tryz.prog
theorem mixed : PP.follows .mixedOrders = true := by kernel_rfl
theorem run {pr : Nat → List (Nat × Nat)} {f : FuncId} {fn : Func} {args : Array Value} (n : Nat) (hs : args.size = n) (hf : PP.funcs[f]? = some fn) (hg : goodF PP pr fn n = true) (hu : un fn (skX fn) = codeOf fn) {H : Heap} {k : KV} {kp : KP}
   (he : exU PP pr fn (skX fn) none (startE args) [] H (finW PP fn k kp)) : callW PP f args H k kp := callU mixed hs hf hg hu he
theorem tyK : lk PP 3 = 1 ∧ lk PP 4 = 1 ∧ lk PP 5 = 1 ∧ lk PP 9 = 1 ∧ lk PP 22 = 1 ∧ lk PP 34 = 1 ∧ lk PP 35 = 1 ∧ lk PP 25 = 1 ∧ lk PP 26 = 1 ∧ lk PP 69 = 1 ∧ lk PP 73 = 1 := by decide +kernel
theorem tyF : foff PP 71 0 = some 0 ∧ foff PP 71 1 = some 1 ∧ foff PP 49 0 = some 0 ∧ foff PP 49 1 = some 1 ∧ foff PP 49 2 = some 2 ∧ foff PP 49 3 = some 3 ∧ foff PP 49 4 = some 4 := by decide +kernel
section
variable {P : Program} {t off q : Nat} {H : Heap}
theorem j1l (ht : sizeT P t = some 1) {v : Value} (hv : sc v = true) : storeA P t (.pointer (some ⟨q, off, none⟩)) v H = stB (H.get q) q off v H := j6j ht hv
end
theorem tyS : sizeT PP 3 = some 1 ∧ sizeT PP 4 = some 1 ∧ sizeT PP 5 = some 1 ∧ sizeT PP 9 = some 1 ∧ sizeT PP 22 = some 1 ∧ sizeT PP 34 = some 1 ∧ sizeT PP 35 = some 1 ∧ sizeT PP 25 = some 1 ∧ sizeT PP 26 = some 1 ∧ sizeT PP 69 = some 1 ∧ sizeT PP 73 = some 1 := by decide +kernel
theorem esZ : esT PP 5 = 1 ∧ esT PP 69 = 1 ∧ esT PP 73 = 1 ∧ esT PP 49 = 1 ∧ esT PP 71 = 1 := by decide +kernel
theorem zrU : zeroT PP 5 = some [.int .u8 0] := by kernel_rfl
theorem je5 {P : Program} {t : TypeId} {z : List Value} (h : zeroT P t = some z) (H : Heap) : allocA P t H = some (.pointer (some ⟨H.next, 0, none⟩), H.alloc (esT P t) z) := by simp only [allocA, h, mk]
theorem j8f {P : Program} {t : TypeId} {v : Value} (h : sc v = true) (H : Heap) : boxA P t v H = some (.pointer (some ⟨H.next, 0, none⟩), H.alloc (esT P t) [v]) := by simp only [boxA, (jd6 h).1, mk]
theorem ixA : ixT PP 102 = some (some 128, 1) := by decide +kernel
theorem ixB : ixT PP 34 = some (none, 1) := by decide +kernel
theorem ixI : ixT PP 22 = some (none, 1) := by decide +kernel
def G := Pf.mk (And.intro uG.o (And.intro dG.o (And.intro tyK (And.intro tyF (And.intro tyS (And.intro @j1l (And.intro (@jd8 PP _ _ Tryz.underlying34) (And.intro (@jd8 PP _ _ Tryz.underlying22) (And.intro (@jn1 PP _ Tryz.underlying9) (And.intro (@je4 _ _ _ ixB) (And.intro (@je4 _ _ _ ixI) (And.intro esZ (And.intro (je5 zrU) @j8f)))))))))))))
def zf6 := Pf.mk (fx Tryz.f6.eq_1)
def zf8 := Pf.mk (fx Tryz.f8.eq_1)
def zf10 := Pf.mk (fx Tryz.f10.eq_1)
def zf12 := Pf.mk (fx Tryz.f12.eq_1)
def zf17 := Pf.mk (fx Tryz.f17.eq_1)
def zf18 := Pf.mk (fx Tryz.f18.eq_1)
def zf19 := Pf.mk (fx Tryz.f19.eq_1)
def zf20 := Pf.mk (fx Tryz.f20.eq_1)
def zf21 := Pf.mk (fx Tryz.f21.eq_1)
def zf22 := Pf.mk (fx Tryz.f22.eq_1)
def zf23 := Pf.mk (fx Tryz.f23.eq_1)
def zf26 := Pf.mk (fx Tryz.f26.eq_1)
def zf27 := Pf.mk (fx Tryz.f27.eq_1)
def zf35 := Pf.mk (fx Tryz.f35.eq_1)
def zf36 := Pf.mk (fx Tryz.f36.eq_1)
def zf37 := Pf.mk (fx Tryz.f37.eq_1)
def zf40 := Pf.mk (fx Tryz.f40.eq_1)
def zf41 := Pf.mk (fx Tryz.f41.eq_1)
def zf42 := Pf.mk (fx Tryz.f42.eq_1)
def zf46 := Pf.mk (fx Tryz.f46.eq_1)
def zf47 := Pf.mk (fx Tryz.f47.eq_1)
def zf49 := Pf.mk (fx Tryz.f49.eq_1)
def zf50 := Pf.mk (fx Tryz.f50.eq_1)
def zf51 := Pf.mk (fx Tryz.f51.eq_1)
def zf52 := Pf.mk (fx Tryz.f52.eq_1)
def zf57 := Pf.mk (fx Tryz.f57.eq_1)
def zf59 := Pf.mk (fx Tryz.f59.eq_1)
def zf60 := Pf.mk (fx Tryz.f60.eq_1)
def zf62 := Pf.mk (fx Tryz.f62.eq_1)
def zf69 := Pf.mk (fx Tryz.f69.eq_1)
def zf70 := Pf.mk (fx Tryz.f70.eq_1)
def zf72 := Pf.mk (fx Tryz.f72.eq_1)
def zf73 := Pf.mk (fx Tryz.f73.eq_1)
def zf74 := Pf.mk (fx Tryz.f74.eq_1)
def zf87 := Pf.mk (fx Tryz.f87.eq_1)
def zf88 := Pf.mk (fx Tryz.f88.eq_1)
def zf89 := Pf.mk (fx Tryz.f89.eq_1)
def zf96 := Pf.mk (fx Tryz.f96.eq_1)
def zf98 := Pf.mk (fx Tryz.f98.eq_1)
def zf99 := Pf.mk (fx Tryz.f99.eq_1)
def zf101 := Pf.mk (fx Tryz.f101.eq_1)
def zf102 := Pf.mk (fx Tryz.f102.eq_1)
def zf106 := Pf.mk (fx Tryz.f106.eq_1)
def zf111 := Pf.mk (fx Tryz.f111.eq_1)
def zf114 := Pf.mk (fx Tryz.f114.eq_1)
def zf118 := Pf.mk (fx Tryz.f118.eq_1)
end Go.Am
namespace Go.Am
variable {H : Heap} {a : Option Addr} {s : List UInt8} {b : Nat}
set_option maxRecDepth 100000
def classesL : List Int := [0, 0, 0, 0, 0, 0, 0, 0, 0, 1, 1, 0, 0, 1, 0, 0, 0, 0, 0, 0, 0, 0, 0, 0, 0, 0, 0, 0, 0, 0, 0, 0, 1, 6, 5, 2, 0, 6, 6, 0, 6, 6, 6, 6, 6, 6, 6, 6, 3, 3, 3, 3, 3, 3, 3, 3, 3, 3, 0, 6, 6, 6, 6, 0, 0, 4, 4, 4, 4, 4, 4, 4, 4, 4, 4, 4, 4, 4, 4, 4, 4, 4, 4, 4, 4, 4, 4, 4, 4, 4, 4, 6, 0, 6, 6, 4, 0, 4, 4, 4, 4, 4, 4, 4, 4, 4, 4, 4, 4, 4, 4, 4, 4, 4, 4, 4, 4, 4, 4, 4, 4, 4, 4, 6, 6, 6, 0, 0]
def clsC : List Value := classesL.map fun z => .int .u8 z
def clsI (u : UInt8) : Int := if 127 < u.toNat then 0 else classesL.getD u.toNat 0
theorem j9r {z : UInt8} (h : z.toNat < 128) : clsC[z.toNat]? = some (.int .u8 (clsI z)) := by
 rw [clsC, List.getElem?_map, clsI, if_neg (by omega), List.getD_eq_getElem?_getD, List.getElem?_eq_getElem (show z.toNat < classesL.length from h)]; rfl
def asciiL : List Int := [0, 0, 0, 0, 0, 0, 0, 0, 0, 1, 1, 1, 1, 1, 0, 0, 0, 0, 0, 0, 0, 0, 0, 0, 0, 0, 0, 0, 0, 0, 0, 0, 1, 0, 0, 0, 0, 0, 0, 0, 0, 0, 0, 0, 0, 0, 0, 0, 0, 0, 0, 0, 0, 0, 0, 0, 0, 0, 0, 0, 0, 0, 0, 0, 0, 0, 0, 0, 0, 0, 0, 0, 0, 0, 0, 0, 0, 0, 0, 0, 0, 0, 0, 0, 0, 0, 0, 0, 0, 0, 0, 0, 0, 0, 0, 0, 0, 0, 0, 0, 0, 0, 0, 0, 0, 0, 0, 0, 0, 0, 0, 0, 0, 0, 0, 0, 0, 0, 0, 0, 0, 0, 0, 0, 0, 0, 0, 0, 0, 0, 0, 0, 0, 0, 0, 0, 0, 0, 0, 0, 0, 0, 0, 0, 0, 0, 0, 0, 0, 0, 0, 0, 0, 0, 0, 0, 0, 0, 0, 0, 0, 0, 0, 0, 0, 0, 0, 0, 0, 0, 0, 0, 0, 0, 0, 0, 0, 0, 0, 0, 0, 0, 0, 0, 0, 0, 0, 0, 0, 0, 0, 0, 0, 0, 0, 0, 0, 0, 0, 0, 0, 0, 0, 0, 0, 0, 0, 0, 0, 0, 0, 0, 0, 0, 0, 0, 0, 0, 0, 0, 0, 0, 0, 0, 0, 0, 0, 0, 0, 0, 0, 0, 0, 0, 0, 0, 0, 0, 0, 0, 0, 0, 0, 0, 0, 0, 0, 0, 0, 0, 0, 0, 0, 0, 0, 0]
def asciiV : List Value := asciiL.map fun z => .int .u8 z
def errV (b : Nat) : Value := .iface 159 (.pointer (some ⟨b, 0, none⟩))
structure Tabs (H : Heap) : Prop where
 cls : H.get 1 = some ⟨clsC, false, 1, none⟩
 asc : H.get 2 = some ⟨asciiV, false, 1, none⟩
 e4 : H.get 4 = some ⟨[errV 10], false, 1, none⟩
 e5 : H.get 5 = some ⟨[errV 11], false, 1, none⟩
 next : 12 ≤ H.next
 fresh : ∀ q, H.next ≤ q → H.get q = none
theorem Tabs.lt (h : Tabs H) {q : Nat} {x : Blk} (e : H.get q = some x) : q < H.next := Nat.lt_of_not_le fun g => by rw [h.fresh q g] at e; cases e
theorem Tabs.set (h : Tabs H) {b : Nat} (hb : 12 ≤ b) (hl : b < H.next) (y : Blk) : Tabs (H.set b y) := by
 have ne : ∀ q, q < 12 → (H.set b y).get q = H.get q := fun q hq => by rw [Heap.get_set, if_neg (by omega)]
 exact ⟨(ne 1 (by omega)).trans h.cls, (ne 2 (by omega)).trans h.asc, (ne 4 (by omega)).trans h.e4, (ne 5 (by omega)).trans h.e5, h.next, fun q hq => by rw [Heap.get_set, if_neg (by have : H.next ≤ q := hq; omega)]; exact h.fresh q hq⟩
theorem Tabs.to (h : Tabs H) {n : Nat} (hn : H.next ≤ n) : Tabs (H.to n) := ⟨h.cls, h.asc, h.e4, h.e5, Nat.le_trans h.next hn, fun q hq => h.fresh q (Nat.le_trans hn hq)⟩
theorem Tabs.alloc (h : Tabs H) (es : Nat) (cells : List Value) : Tabs (H.alloc es cells) := by
 have hn := h.next
 have ne : ∀ q, q < H.next → (H.alloc es cells).get q = H.get q := fun q hq => by rw [Heap.get_alloc, if_neg (by omega)]
 refine ⟨(ne 1 (by omega)).trans h.cls, (ne 2 (by omega)).trans h.asc, (ne 4 (by omega)).trans h.e4, (ne 5 (by omega)).trans h.e5, Nat.le_succ_of_le hn, fun q hq => ?_⟩
 have hq' : H.next + 1 ≤ q := hq
 rw [Heap.get_alloc, if_neg (by omega)]; exact h.fresh q (by omega)
theorem Tabs.old (h : Tabs H) {q : Nat} {x : Blk} (e : H.get q = some x) (es : Nat) (cells : List Value) : (H.alloc es cells).get q = some x := by
 rw [Heap.get_alloc, if_neg (by have := h.lt e; omega)]; exact e
theorem Tabs.ghost (h : Tabs H) (es : Nat) (cells : List Value) : Ghost (H.alloc es cells) (H.to (H.next + 1)) := ⟨rfl, fun q y e => ⟨y, h.old e es cells, rfl, id⟩⟩
theorem Ghost.refl (H : Heap) : Ghost H H := ⟨rfl, fun _ y e => ⟨y, e, rfl, id⟩⟩
theorem jn2 (ht : Tabs H) (z : UInt8) {k : KV} {kp : KP} (hk : k (.int .u8 (clsI z)) H) : callW PP 48 #[.int .u8 (z.toNat : Int)] H k kp := by
 refine run 1 rfl Tryz.func48 (pr := noPr) (by decide +kernel) (by kernel_rfl) ?_
 by_cases h : (z.toNat : Int) > 127
 · simp +decide only [fx Tryz.f48.eq_1, ↓G.o, reduceIte, h]
   rwa [clsI, if_pos (by omega)] at hk
 · have h' := show z.toNat < 128 by omega
   simpa +decide only [fx Tryz.f48.eq_1, ↓G.o, reduceIte, h, yg6 ixA h', ht.cls, j9r h'] using hk
structure Brow (H : Heap) (a : Option Addr) (s : List UInt8) : Prop where
 nil : a = none → s = []
 row : ∀ y, a = some y → ∃ cs r, y = ⟨y.block, y.off, none⟩ ∧ H.get y.block = some ⟨cs, r, 1, none⟩ ∧ y.off + s.length ≤ cs.length ∧ ∀ j (h : j < s.length), cs[y.off + j]? = some (.int .u8 (s[j].toNat : Int))
 small : s.length < 2 ^ 47
theorem Brow.at (h : Brow H a s) {j : Nat} (hj : j < s.length) : ∃ q o cs r, a = some ⟨q, o, none⟩ ∧ H.get q = some ⟨cs, r, 1, none⟩ ∧ cs[o + j]? = some (.int .u8 (s[j].toNat : Int)) := by
 cases a with
 | none => rw [h.nil rfl] at hj; cases hj
 | some y =>
   obtain ⟨cs, r, h1, h2, h3, h4⟩ := h.row y rfl
   exact ⟨y.block, y.off, cs, r, by rw [← h1], h2, h4 j hj⟩
abbrev cur (a : Option Addr) (n c i : Nat) : Blk := ⟨[.slice a n c, .int .i64 (i : Int)], true, 1, none⟩
def isI (s : List UInt8) (i : Nat) (k : Int) : Bool := decide (i < s.length) && (clsI (s.getD i 0) == k)
structure Ctx (H : Heap) (a : Option Addr) (s : List UInt8) (b : Nat) : Prop where
 tabs : Tabs H
 row : Brow H a s
 low : 12 ≤ b
 lt : b < H.next
 ne : ∀ y, a = some y → y.block ≠ b
theorem Heap.set_same {y : Blk} (h : H.get b = some y) : H.set b y = H := by
 obtain ⟨g, n⟩ := H
 simp only [Heap.set]; congr 1; funext k; split
 · rename_i e; rw [e]; exact h.symm
 · rfl
theorem Ctx.set (x : Ctx H a s b) (y : Blk) : Ctx (H.set b y) a s b :=
 ⟨x.tabs.set x.low x.lt y, ⟨x.row.nil, fun z hz => by
   obtain ⟨cs, r, h1, h2, h3⟩ := x.row.row z hz
   exact ⟨cs, r, h1, by rw [Heap.get_set, if_neg (x.ne z hz)]; exact h2, h3⟩, x.row.small⟩, x.low, x.lt, x.ne⟩
theorem is_w {c i : Nat} (x : Ctx H a s b) (hb : H.get b = some (cur a s.length c i)) (n : Int) {k : KV} {kp : KP} (hk : k (.bool (isI s i n)) H) :
   callW PP 47 #[.pointer (some ⟨b, 0, none⟩), .int .u8 n] H k kp := by
 refine run 2 rfl Tryz.func47 (pr := noPr) (by decide +kernel) (by kernel_rfl) ?_
 unfold isI at hk
 by_cases h : i < s.length
 · obtain ⟨q, o, cs, r, rfl, hq, hc⟩ := x.row.at h
   simp +decide only [zf47.o, ↓G.o, reduceIte, hb, h, hq, hc]
   refine jn2 x.tabs _ ?_
   simpa +decide only [zf47.o, ↓G.o, reduceIte, List.getD_eq_getElem?_getD, List.getElem?_eq_getElem h, h, decide_true, Bool.true_and, Option.getD_some] using hk
 · simpa +decide only [zf47.o, ↓G.o, reduceIte, hb, h, decide_false, Bool.false_and] using hk
def lineEnd (s : List UInt8) : Nat → Nat → Nat
 | 0, i => i
 | n + 1, i => if s.getD i 0 = 10 then i else lineEnd s n (i + 1)
theorem jg7 (s : List UInt8) : ∀ n i, i ≤ lineEnd s n i ∧ lineEnd s n i ≤ i + n
 | 0, i => ⟨Nat.le_refl _, Nat.le_refl _⟩
 | n + 1, i => by
   unfold lineEnd
   split
   · omega
   · have := jg7 s n (i + 1); omega
def skipTo (s : List UInt8) : Nat → Nat → Nat
 | 0, i => i
 | n + 1, i => if isI s i 1 then skipTo s n (i + 1) else if isI s i 2 then skipTo s n (lineEnd s (s.length - i) i) else i
theorem ja8 {x : Int} (h0 : -9223372036854775808 ≤ x) (h1 : x < 9223372036854775808) : IntKind.i64.wrap x = x := by
 simp only [IntKind.wrap, IntKind.bits, IntKind.signed]
 simp
 split <;> omega
theorem ja1 {j : Nat} (h : j < 2 ^ 62) : IntKind.i64.wrap ((j : Int) + 1) = ((j + 1 : Nat) : Int) := by rw [ja8 (by omega) (by omega)]; rfl
theorem jb7 (u : UInt8) {n : Int} (z : UInt8) (h : (z.toNat : Int) = n) : ((u.toNat : Int) == n) = decide (u = z) := by
 subst h
 rw [Bool.eq_iff_iff]
 simp only [beq_iff_eq, decide_eq_true_eq]
 rw [← UInt8.toNat_inj]; omega
theorem jr7 (u : UInt8) {n : Int} (z : UInt8) (h : (z.toNat : Int) = n) : ((u.toNat : Int) != n) = !decide (u = z) := by rw [bne, jb7 u z h]
theorem yg7 {c i : Nat} (x : Ctx H a s b) (hb : H.get b = some (cur a s.length c i)) (hi : i ≤ s.length) {k : KV} {kp : KP}
   (hk : k (.bool (decide (skipTo s (s.length - i) i < s.length))) (H.set b (cur a s.length c (skipTo s (s.length - i) i)))) :
   callW PP 26 #[.pointer (some ⟨b, 0, none⟩)] H k kp := by
 refine run 1 rfl Tryz.func26 (pr := noPr) (by decide +kernel) (by kernel_rfl) ?_
 simp +decide only [zf26.o, ↓G.o, reduceIte]
 have hs := x.row.small
 generalize hT : skipTo s (s.length - i) i = T at hk
 refine ja6 (I := fun m E ds H' => ds = [] ∧ E 0 = .pointer (some ⟨b, 0, none⟩) ∧ ∃ j, j ≤ s.length ∧ H' = H.set b (cur a s.length c j) ∧ s.length - j ≤ m ∧ skipTo s m j = T) (i := s.length - i) ?_ ⟨rfl, by simp +decide only [↓G.o, reduceIte], i, hi, (Heap.set_same hb).symm, Nat.le_refl _, hT⟩
 rintro Z m E _ _ ⟨rfl, e0, j, hj, rfl, hm, hT⟩ hZ
 have x' := x.set (cur a s.length c j)
 have hb' := Heap.get_self H b (cur a s.length c j)
 have go : ∀ e E', j < e → e ≤ s.length → (∀ m', m = m' + 1 → skipTo s m' e = T) → E' 0 = .pointer (some ⟨b, 0, none⟩) → j < s.length → Z E' [] (H.set b (cur a s.length c e)) := fun e E' h1 h2 h3 h4 h5 => by
   obtain ⟨m', rfl⟩ : ∃ m', m = m' + 1 := ⟨m - 1, by omega⟩
   exact hZ m' _ _ _ (by omega) ⟨rfl, h4, e, h2, rfl, by omega, h3 m' rfl⟩
 have hw : j < s.length → IntKind.i64.wrap ((j : Int) + 1) = ((j + 1 : Nat) : Int) := fun h => ja1 (by omega)
 simp +decide only [zf26.o, ↓G.o, reduceIte, e0]
 refine is_w x' hb' _ ?_
 cases h1 : isI s j 1 with
 | true =>
   have hl : j < s.length := by simp [isI] at h1; exact h1.1
   have h2 : isI s j 2 = false := by simp [isI] at h1 ⊢; intro; rw [h1.2]; decide
   simp +decide only [zf26.o, ↓G.o, reduceIte, e0]
   refine is_w x' hb' _ ?_
   simp +decide only [zf26.o, ↓G.o, reduceIte, e0, h2, hw hl]
   refine go (j + 1) _ (by omega) (by omega) (fun m' e => by subst e; simpa [skipTo, h1] using hT) ?_ hl
   simp +decide only [↓G.o, reduceIte, e0]
 | false =>
   simp +decide only [zf26.o, ↓G.o, reduceIte, e0]
   refine is_w x' hb' _ ?_
   cases h2 : isI s j 2 with
   | false =>
     have : j = T := by cases m <;> simpa [skipTo, h1, h2] using hT
     subst this
     simp +decide only [zf26.o, ↓G.o, reduceIte, e0]
     exact hk
   | true =>
     have hl : j < s.length := by simp [isI] at h2; exact h2.1
     simp +decide only [zf26.o, ↓G.o, reduceIte, e0]
     refine is_w x' hb' _ ?_
     rw [h2]
     simp +decide only [↓G.o, reduceIte]
     generalize hL : lineEnd s (s.length - j) j = L
     have hT' : ∀ m', m = m' + 1 → skipTo s m' L = T := fun m' e => by subst e; simpa [skipTo, h1, h2, hL] using hT
     have hjL : j < L := by
       obtain ⟨n, hn⟩ : ∃ n, s.length - j = n + 1 := ⟨s.length - j - 1, by omega⟩
       have hne : s.getD j 0 ≠ 10 := fun e => by simp only [isI, e, Bool.and_eq_true] at h2; exact absurd h2.2 (by decide +kernel)
       rw [hn, lineEnd, if_neg hne] at hL
       have := jg7 s n (j + 1); omega
     have hLl : L ≤ s.length := by have := jg7 s (s.length - j) j; omega
     refine ja6 (I := fun m E ds H' => ds = [] ∧ E 0 = .pointer (some ⟨b, 0, none⟩) ∧ ∃ e, e ≤ s.length ∧ H' = H.set b (cur a s.length c e) ∧ m = s.length - e ∧ lineEnd s m e = L) (i := s.length - j) ?_ ⟨rfl, by simp +decide only [↓G.o, reduceIte, e0], j, hj, rfl, rfl, hL⟩
     rintro Z' m' E' _ _ ⟨rfl, e0', e, he, rfl, rfl, hL'⟩ hZ'
     have hb'' := Heap.get_self H b (cur a s.length c e)
     by_cases h : e < s.length
     · obtain ⟨q, o, cs, r, rfl, hq, hc⟩ := (x.set (cur a s.length c e)).row.at h
       by_cases hv : s[e] = 10
       · have : e = L := by
           obtain ⟨n, hn⟩ : ∃ n, s.length - e = n + 1 := ⟨s.length - e - 1, by omega⟩
           rw [hn, lineEnd, if_pos (by simp [h, hv])] at hL'; exact hL'
         subst this
         simp +decide only [zf26.o, ↓G.o, reduceIte, e0', h, hq, hc, jr7 (n := 10) _ 10 rfl, hv, decide_true]
         refine go e _ hjL he hT' ?_ hl
         simp +decide only [↓G.o, reduceIte, e0']
       · simp +decide only [zf26.o, ↓G.o, reduceIte, e0', h, hq, hc, jr7 (n := 10) _ 10 rfl, hv, decide_false, Bool.not_false, show IntKind.i64.wrap ((e : Int) + 1) = ((e + 1 : Nat) : Int) from ja1 (by omega)]
         refine hZ' (s.length - (e + 1)) _ _ _ (by omega) ⟨rfl, ?_, e + 1, h, rfl, rfl, ?_⟩
         · simp +decide only [↓G.o, reduceIte, e0']
         obtain ⟨n, hn⟩ : ∃ n, s.length - e = n + 1 := ⟨s.length - e - 1, by omega⟩
         rw [hn, lineEnd, if_neg (by simp [h, hv])] at hL'
         rw [show s.length - (e + 1) = n by omega]; exact hL'
     · have : e = L := by rw [show s.length - e = 0 by omega] at hL'; exact hL'
       subst this
       simp +decide only [zf26.o, ↓G.o, reduceIte, e0', h]
       refine go e _ hjL he hT' ?_ hl
       simp +decide only [↓G.o, reduceIte, e0']
end Go.Am
namespace Go.Proofs
open Go.Shelf
def Tryz.lays157_ren : Go.Shelf.Ren := ⟨fun | 157 => 90 | 229 => 109 | 199 => 110 | 261 => 119 | 311 => 129 | 312 => 130 | n => n, fun | 9 => 9 | 31 => 47 | 3 => 3 | 5 => 5 | 4 => 4 | 119 => 127 | 0 => 0 | 40 => 109 | 152 => 132 | 21 => 21 | 154 => 134 | 51 => 112 | 141 => 136 | 196 => 144 | 193 => 141 | 198 => 147 | 49 => 145 | 194 => 142 | 201 => 150 | 226 => 156 | 46 => 101 | 227 => 157 | n => n, fun | 0 => 2 | 6 => 3 | n => n⟩
theorem Tryz.lays157 : Go.Proofs.Lays.n157 Tryz.prog Tryz.lays157_ren := {
 mixed := by kernel_rfl
 f157 := Tryz.func90.trans (congrArg some (by kernel_rfl))
 f199 := Tryz.func110.trans (congrArg some (by kernel_rfl))
 f229 := Tryz.func109.trans (congrArg some (by kernel_rfl))
 f261 := Tryz.func119.trans (congrArg some (by kernel_rfl))
 f311 := Tryz.func129.trans (congrArg some (by kernel_rfl))
 f312 := Tryz.func130.trans (congrArg some (by kernel_rfl))
 t0 := Tryz.underlying0
 a0 := Tryz.isAgg0
 z0 := Tryz.sizeOf0
 v0 := Tryz.zeroValue0
 t3 := Tryz.underlying3
 a3 := Tryz.isAgg3
 z3 := Tryz.sizeOf3
 v3 := Tryz.zeroValue3
 t4 := Tryz.underlying4
 a4 := Tryz.isAgg4
 z4 := Tryz.sizeOf4
 v4 := Tryz.zeroValue4
 t5 := Tryz.underlying5
 a5 := Tryz.isAgg5
 z5 := Tryz.sizeOf5
 v5 := Tryz.zeroValue5
 t9 := Tryz.underlying9
 a9 := Tryz.isAgg9
 z9 := Tryz.sizeOf9
 v9 := Tryz.zeroValue9
 t21 := Tryz.underlying21
 a21 := Tryz.isAgg21
 z21 := Tryz.sizeOf21
 v21 := Tryz.zeroValue21
 t31 := Tryz.underlying47
 a31 := Tryz.isAgg47
 z31 := Tryz.sizeOf47
 v31 := Tryz.zeroValue47
 t40 := Tryz.underlying109
 a40 := Tryz.isAgg109
 z40 := Tryz.sizeOf109
 v40 := Tryz.zeroValue109
 t46 := Tryz.underlying101
 a46 := Tryz.isAgg101
 z46 := Tryz.sizeOf101
 v46 := Tryz.zeroValue101
 t49 := Tryz.underlying145
 a49 := Tryz.isAgg145
 z49 := Tryz.sizeOf145
 v49 := Tryz.zeroValue145
 t51 := Tryz.underlying112
 a51 := Tryz.isAgg112
 z51 := Tryz.sizeOf112
 v51 := Tryz.zeroValue112
 t119 := Tryz.underlying127
 a119 := Tryz.isAgg127
 z119 := Tryz.sizeOf127
 t141 := Tryz.underlying136
 a141 := Tryz.isAgg136
 z141 := Tryz.sizeOf136
 v141 := Tryz.zeroValue136
 t152 := Tryz.underlying132
 a152 := Tryz.isAgg132
 z152 := Tryz.sizeOf132
 v152 := Tryz.zeroValue132
 t154 := Tryz.underlying134
 a154 := Tryz.isAgg134
 z154 := Tryz.sizeOf134
 v154 := Tryz.zeroValue134
 t193 := Tryz.underlying141
 a193 := Tryz.isAgg141
 z193 := Tryz.sizeOf141
 v193 := Tryz.zeroValue141
 t194 := Tryz.underlying142
 a194 := Tryz.isAgg142
 z194 := Tryz.sizeOf142
 v194 := Tryz.zeroValue142
 t196 := Tryz.underlying144
 a196 := Tryz.isAgg144
 z196 := Tryz.sizeOf144
 v196 := Tryz.zeroValue144
 t198 := Tryz.underlying147
 a198 := Tryz.isAgg147
 z198 := Tryz.sizeOf147
 v198 := Tryz.zeroValue147
 t201 := Tryz.underlying150
 a201 := Tryz.isAgg150
 z201 := Tryz.sizeOf150
 v201 := Tryz.zeroValue150
 t226 := Tryz.underlying156
 a226 := Tryz.isAgg156
 z226 := Tryz.sizeOf156
 v226 := Tryz.zeroValue156
 t227 := Tryz.underlying157
 a227 := Tryz.isAgg157
 z227 := Tryz.sizeOf157
 v227 := Tryz.zeroValue157
 g0 := by kernel_rfl
 g6 := by kernel_rfl }
theorem Tryz.fieldsCore (s : ByteArray) (w : World) (hs : s.size < 4294967281) (hascii : ∀ (j : Nat) b, s.data.toList[j]? = some b → b.toNat < 128) (hT : ∀ c : Nat, c < 256 → w.cell? ⟨2, c, none⟩ = some (.int .u8 (if Lib.isSp (UInt8.ofNat c) then 1 else 0))) :
   Calls Tryz.prog 90 #[.string s] w fun e w' =>
     e = .returned (.slice (some ⟨w.heap.size, 0, none⟩) (Lib.fields s.data.toList).length (Lib.fields s.data.toList).length) ∧ w' = w.alloc (.cells ((Lib.fields s.data.toList).map fun l => Value.string ⟨l.toArray⟩).toArray 9) := Any.strings_Fields_core Tryz.lays157 (by kernel_rfl) s w hs hascii hT
def Tryz.laysM316_ren : Go.Shelf.Ren := ⟨fun | 316 => 131 | n => n, fun | 9 => 9 | 3 => 3 | 4 => 4 | 37 => 34 | 0 => 0 | 127 => 158 | 5 => 5 | n => n, fun | n => n⟩
theorem Tryz.laysM316 : Go.Proofs.LaysM.n316 Tryz.prog Tryz.laysM316_ren := {
 mixed := by kernel_rfl
 f316 := Tryz.func131.trans (congrArg some (by kernel_rfl))
 t0 := Tryz.underlying0
 a0 := Tryz.isAgg0
 z0 := Tryz.sizeOf0
 v0 := Tryz.zeroValue0
 t3 := Tryz.underlying3
 a3 := Tryz.isAgg3
 z3 := Tryz.sizeOf3
 v3 := Tryz.zeroValue3
 t4 := Tryz.underlying4
 a4 := Tryz.isAgg4
 z4 := Tryz.sizeOf4
 v4 := Tryz.zeroValue4
 t9 := Tryz.underlying9
 a9 := Tryz.isAgg9
 z9 := Tryz.sizeOf9
 v9 := Tryz.zeroValue9
 t37 := Tryz.underlying34
 a37 := Tryz.isAgg34
 z37 := Tryz.sizeOf34
 v37 := Tryz.zeroValue34
 t127 := Tryz.underlying158
 a127 := Tryz.isAgg158
 z127 := Tryz.sizeOf158
 v127 := Tryz.zeroValue158
 t5 := Tryz.underlying5
 a5 := Tryz.isAgg5
 z5 := Tryz.sizeOf5
 v5 := Tryz.zeroValue5
 i0 := by kernel_rfl
 i3 := by kernel_rfl
 i4 := by kernel_rfl
 i5 := by kernel_rfl
 i9 := by kernel_rfl
 i37 := by kernel_rfl
 i127 := by kernel_rfl }
open Go.RowKit in
theorem Tryz.stringslite_Clone (s : ByteArray) (w : World) (hlim : s.size ≤ 281474976710656) :
   Calls Tryz.prog 131 #[.string s] w fun e w' => e = .returned (.string s) ∧ Below w.heap.size w w' := Any.stringslite_Clone Tryz.laysM316 s w hlim
end Go.Proofs
namespace Go.Am
variable {m : Mp} {H : Heap}
def entersF (fn : Func) : Bool := fn.body.isSome && !(fn.name == "runtime.NumGoroutine")
theorem Ans.of_calls {P : Program} {f : FuncId} {fn : Func} (hf : P.funcs[f]? = some fn) (he : entersF fn = true) {args : Array Value} {H H' : Heap} {e : End}
   (h : ∀ m w args', Rel m H w → Gl P m → VRa m args args' → Calls P f args' w fun e' w' => ∃ m', EndR m' e e' ∧ Step m H w m' H' w') : Ans P f args H e H' := fun m w args' hr hg ha => by
 refine .inr ⟨?_, h m w args' hr hg ha⟩
 simp only [entersF, Bool.and_eq_true, Bool.not_eq_true', beq_eq_false_iff_ne] at he
 obtain ⟨c, hc⟩ := Option.isSome_iff_exists.1 he.1
 simp [callFunc, hf, he.2, hc]
def wordsL : List (List UInt8) := [[115, 121, 115, 116, 101, 109], [99, 111, 110, 115, 116], [101, 97, 99, 104], [105, 110], [105, 102], [101, 108, 115, 101], [97, 115, 115, 101, 114, 116], [103, 114, 111, 117, 112], [117, 115, 101], [114, 97, 109], [115, 105, 122, 101], [100, 101, 118, 105, 99, 101], [97, 116], [100, 109, 97], [114, 101, 103, 105, 111, 110], [98, 105, 103], [119, 120], [102, 105, 108, 108], [115, 117, 98, 106, 101, 99, 116], [99, 112, 117], [115, 116, 111, 112, 112, 101, 100], [109, 97, 112], [119, 114, 105, 116, 101], [101, 120, 101, 99], [102, 97, 117, 108, 116], [115, 116, 111, 112], [114, 101, 115, 101, 116], [116, 101, 108, 108], [118, 101, 99, 116, 111, 114], [99, 104, 97, 110, 110, 101, 108], [102, 114, 111, 109], [116, 111], [111, 118, 101, 114], [115, 116, 97, 114, 116], [105, 114, 113], [109, 97, 115, 107, 101, 100], [112, 108, 97, 110], [109, 97, 106, 111, 114], [114, 117, 110], [105, 100, 108, 101], [110, 101, 101, 100, 115], [110, 101, 101, 100], [101, 118, 101, 114, 121], [109, 97, 115, 116, 101, 114], [113, 117, 101, 117, 101], [115, 97, 109, 112, 108, 101], [100, 101, 112, 116, 104], [112, 117, 115, 104], [109, 111, 110, 105, 116, 111, 114], [102, 111, 114, 98, 105, 100]]
def joinL : List (List UInt8) → List UInt8
 | [] => []
 | [w] => w
 | w :: r => w ++ 32 :: joinL r
def wordsB : List UInt8 := joinL wordsL
def signsL : List (List UInt8) := [[123], [125], [91], [93], [40], [41], [59], [44], [46, 46], [61], [61, 61], [33, 61], [60], [60, 61], [62], [62, 61], [124], [94], [38], [60, 60], [62, 62], [43], [45], [42], [47], [37]]
def signsB : List UInt8 := joinL signsL
def strV (l : List UInt8) : Value := .string ⟨⟨l⟩⟩
def cutV (L : List (List UInt8)) : List Value := L.map strV
theorem asciiL_at : ∀ c : Nat, c < 256 → asciiV[c]? = some (.int .u8 (if Lib.isSp (UInt8.ofNat c) then 1 else 0)) := by
 have h : (List.range 256).all (fun c => match asciiV[c]? with | some (.int .u8 n) => decide (n = if Lib.isSp (UInt8.ofNat c) then 1 else 0) | _ => false) = true := by decide +kernel
 intro c hc
 have := List.all_eq_true.mp h c (List.mem_range.mpr hc)
 revert this
 generalize asciiV[c]? = z
 intro hz
 split at hz
 · simp only [decide_eq_true_eq] at hz; rw [hz]
 · simp at hz
structure CutOk (B : List UInt8) (L : List (List UInt8)) : Prop where
 low : B.all (fun b => decide (b.toNat < 128)) = true
 cut : Lib.fields B = L
 short : B.length < 4294967281
 plain : (cutV L).all atomic = true
theorem CutOk.ascii {B : List UInt8} {L : List (List UInt8)} (h : CutOk B L) : ∀ (j : Nat) b, B[j]? = some b → b.toNat < 128 := by
 intro j b hb
 simpa using List.all_eq_true.mp h.low b (List.mem_of_getElem? hb)
theorem words_ok : CutOk wordsB wordsL := ⟨by decide +kernel, by decide +kernel, by decide +kernel, by decide +kernel⟩
theorem signs_ok : CutOk signsB signsL := ⟨by decide +kernel, by decide +kernel, by decide +kernel, by decide +kernel⟩
theorem globals_size : PP.globals.size = 10 := by decide +kernel
theorem tab_cell {w : World} (h : Rel m H w) (hg : Gl PP m) {g : Nat} (hgl : g < PP.globals.size) {y : Blk} (hy : H.get g = some y) (ho : y.o = none) {c : Nat} {v : Value} (hc : y.cells[c]? = some v) (hv : atomic v = true) :
   w.cell? ⟨g, c, none⟩ = some v := by
 obtain ⟨L, k1, k2⟩ := h.blk g y hy
 obtain ⟨L', q1, q2, q3⟩ := hg g hgl
 rw [k1] at q1
 obtain rfl := Option.some.inj q1
 obtain ⟨cs, elem, fz, p1, p2, p3, _⟩ := k2.ex ho
 obtain ⟨hlt, he⟩ := List.getElem?_eq_some_iff.mp hc
 have hfit := k2.fits
 have hlt' : L.base + c < cs.size := by omega
 have := p3 c hlt hlt'
 rw [he] at this
 have e := this.eq_of_atomic hv
 simp only [q3, Nat.zero_add] at e hlt'
 rw [q2] at p1
 simp [World.cell?, p1, hlt', e]
theorem VRs.eq_of_atomic : ∀ {l l' : List Value}, VRs m l l' → l.all atomic = true → l' = l
 | [], [], _, _ => rfl
 | [], _ :: _, h, _ => by have := h.1; simp at this
 | _ :: _, [], h, _ => by have := h.1; simp at this
 | x :: r, y :: s, h, ha => by
   simp only [List.all_cons, Bool.and_eq_true] at ha
   rw [h.head.eq_of_atomic ha.1, VRs.eq_of_atomic h.tail ha.2]
theorem VRa.eq_of_atomic {a a' : Array Value} (h : VRa m a a') (ha : a.toList.all atomic = true) : a' = a := Array.toList_inj.mp (VRs.eq_of_atomic h.toList ha)
theorem jt7 {B : List UInt8} {L : List (List UInt8)} (ok : CutOk B L) {H : Heap} (ht : Tabs H) {k : KV} {kp : KP} (hk : k (.slice (some ⟨H.next, 0, none⟩) L.length L.length) (H.alloc 1 (cutV L))) : callW PP 90 #[strV B] H k kp := by
 refine (Ans.of_calls Tryz.func90 (by decide +kernel) fun m w args' hrel hgl hargs => ?_).ret hk
 obtain rfl := hargs.eq_of_atomic rfl
 have hT : ∀ c : Nat, c < 256 → w.cell? ⟨2, c, none⟩ = some (.int .u8 (if Lib.isSp (UInt8.ofNat c) then 1 else 0)) := fun c hc =>
   tab_cell hrel hgl (by rw [globals_size]; decide) ht.asc rfl (asciiL_at c hc) rfl
 refine (Tryz.fieldsCore ⟨⟨B⟩⟩ w ok.short ok.ascii hT).mono fun e w' ⟨he, hw⟩ => ?_
 change e = .returned (.slice _ (Lib.fields B).length (Lib.fields B).length) at he
 change w' = w.alloc (.cells ((Lib.fields B).map fun l => Value.string ⟨l.toArray⟩).toArray 9) at hw
 rw [ok.cut] at he hw
 subst he
 have hcells : ((L.map fun l => Value.string ⟨l.toArray⟩).toArray) = (cutV L).toArray := rfl
 rw [hcells] at hw
 have hst := Step.alloc (w' := w') hrel 1 (cutV L) (cutV L).toArray 9 (by simp) (fun i a b => by
   have hati : atomic (cutV L)[i] = true := List.all_eq_true.mp ok.plain _ (List.getElem_mem a)
   simpa using VR.atom (m := m) _ hati) (by rw [hw]; rfl) (by rw [hw]; rfl) (by rw [hw]; rfl) (by rw [hw]; rfl)
 refine ⟨_, ?_, hst⟩
 refine VR.slice H.next 0 ⟨w.heap.size, 0, 1, (cutV L).toArray.size⟩ _ L.length L.length L.length (by simp [Mp.add]) (Nat.le_refl _) (Nat.le_refl _) rfl rfl (.inr ⟨rfl, ?_⟩)
 show 0 + L.length * 1 ≤ (cutV L).toArray.size
 simp [cutV]
theorem Step.still {w w' : World} (h : Rel m H w) (ho : w'.os = w.os) (ht : w'.tape = w.tape) (hp : w'.output = w.output) (hs : w.heap.size ≤ w'.heap.size)
   (hb : ∀ c, c < w.heap.size → w'.heap[c]? = w.heap[c]?) : Step m H w m H w' := by
 refine ⟨⟨fun b x hx => ?_, h.apart, fun b L hm => Nat.lt_of_lt_of_le (h.bound b L hm) hs, h.fresh⟩, .refl .., ⟨ho, ht, hp, hs, fun c hc _ => hb c hc⟩⟩
 obtain ⟨L, h1, h2⟩ := h.blk b x hx
 exact ⟨L, h1, h2.mono (Mp.le_refl m) (hb _ (h.bound b L h1))⟩
theorem j9s (s : ByteArray) (hs : s.size ≤ 281474976710656) {k : KV} {kp : KP} (hk : k (.string s) H) : callW PP 131 #[.string s] H k kp := by
 refine (Ans.of_calls Tryz.func131 (by decide +kernel) fun m w args' hrel hgl hargs => ?_).ret hk
 obtain rfl := hargs.eq_of_atomic rfl
 refine (Tryz.stringslite_Clone s w hs).mono fun e w' ⟨he, hw⟩ => ?_
 subst he
 exact ⟨m, VR.atom _ rfl, Step.still hrel hw.os hw.tape hw.output hw.size hw.block⟩
end Go.Am
namespace Go.Am
set_option maxRecDepth 100000
theorem jl4 {α β : Type} (P : Program) (s : Sem α) (f : α → Sem β) : pureRun P (s >>= f) = (pureRun P s).bind fun a => pureRun P (f a) := by
 induction s with
 | pure x => rfl
 | program k ih => exact ih P
 | mark m k ih => exact ih
 | _ => rfl
theorem jl5 {α : Type} (P : Program) (a : α) : pureRun P (pure a) = some a := rfl
theorem j6p (o1 o2 : Operand) (a b : List UInt8) : binA PP .eql 9 o1 o2 (.string ⟨⟨a⟩⟩) (.string ⟨⟨b⟩⟩) = some (.bool (decide (a = b))) := by
 unfold binA
 rw [if_pos (by simp [ground, atomic])]
 simp only [eqGuard, binOp, jl4, Op.stringOp]
 simp [jl5]
 rw [Bool.eq_iff_iff]; simp
def findI (w : List UInt8) : List (List UInt8) → Nat → Int
 | [], _ => -1
 | x :: r, i => if w = x then (i : Int) else findI w r (i + 1)
def resI (w : List UInt8) : Int := if findI w wordsL 0 ≥ 0 then 30 + findI w wordsL 0 else 0
theorem jn3 (w : List UInt8) : ∀ (l : List (List UInt8)) (i : Nat), -1 ≤ findI w l i ∧ findI w l i < (i + l.length : Nat)
 | [], i => by simp [findI]; omega
 | x :: r, i => by
   unfold findI
   have := jn3 w r (i + 1)
   split
   · simp; omega
   · simp only [List.length_cons]; omega
theorem ixS : ixT PP 47 = some (none, 1) := by decide +kernel
theorem jt8 {L : List (List UInt8)} {i : Nat} (h : i < L.length) : (cutV L)[i]? = some (strV L[i]) := by simp [cutV, h]
theorem yg8 {H : Heap} {q : Nat} {L : List (List UInt8)} (hq : H.get q = some ⟨cutV L, true, 1, none⟩) (hL : L.length < 2 ^ 40) (w : List UInt8) {k : KV} {kp : KP} (hk : k (.int .i64 (findI w L 0)) H) :
   callW PP 89 #[.slice (some ⟨q, 0, none⟩) L.length L.length, strV w] H k kp := by
 refine run 2 rfl Tryz.func89 (pr := noPr) (by decide +kernel) (by kernel_rfl) ?_
 simp +decide only [zf89.o, ↓G.o, reduceIte, jd8 Tryz.underlying47]
 refine ja6 (I := fun m E ds H' => ds = [] ∧ E 0 = .slice (some ⟨q, 0, none⟩) L.length L.length ∧ E 1 = strV w ∧ E 7 = .int .i64 (L.length : Int) ∧ ∃ j : Nat, E 8 = .int .i64 (j : Int) ∧ H' = H ∧ j + m = L.length ∧ findI w (L.drop j) j = findI w L 0) (i := L.length) ?_ ⟨rfl, ?_, ?_, ?_, 0, ?_, rfl, by omega, rfl⟩
 · rintro Z m E _ _ ⟨rfl, e0, e1, e7, j, e8, rfl, hm, hf⟩ hZ
   by_cases h : j < L.length
   · rw [List.drop_eq_getElem_cons h, findI] at hf
     by_cases hw : w = L[j]
     · simp +decide only [zf89.o, ↓G.o, reduceIte, e0, e1, e7, e8, h, je4 ixS h, hq, jt8 h, strV, j6p, hw, decide_true]
       rw [← hf, if_pos hw] at hk
       exact hk
     · simp +decide only [zf89.o, ↓G.o, reduceIte, e0, e1, e7, e8, h, je4 ixS h, hq, jt8 h, strV, j6p, hw, decide_false, ja1 (show j < 2 ^ 62 by omega)]
       rw [if_neg hw] at hf
       refine hZ (m - 1) _ _ _ (by omega) ⟨rfl, ?_, ?_, ?_, j + 1, ?_, rfl, by omega, hf⟩ <;> simp +decide only [↓G.o, reduceIte, e0, e1, e7, strV]
   · simp +decide only [zf89.o, ↓G.o, reduceIte, e7, e8, h]
     rw [List.drop_eq_nil_of_le (by omega), findI] at hf
     rw [← hf] at hk
     exact hk
 all_goals simp +decide only [↓G.o, reduceIte] <;> rfl
theorem j9t {H : Heap} (ht : Tabs H) (w : List UInt8) {k : KV} {kp : KP} (hk : k (.int .i64 (resI w)) (H.to (H.next + 1))) : callW PP 60 #[strV w] H k kp := by
 refine ja4 (.refl _) (run 1 rfl Tryz.func60 (pr := noPr) (by decide +kernel) (by kernel_rfl) ?_)
 simp +decide only [zf60.o, ↓G.o, reduceIte]
 refine jt7 words_ok ht ?_
 simp +decide only [↓G.o, reduceIte]
 refine yg8 (L := wordsL) (Heap.get_new _ _ _) (by decide +kernel) w ?_
 have hb := jn3 w wordsL 0
 unfold resI at hk
 by_cases h : findI w wordsL 0 ≥ 0
 · have hw : IntKind.i64.wrap (30 + findI w wordsL 0) = 30 + findI w wordsL 0 := ja8 (by omega) (by have : wordsL.length = 50 := rfl; omega)
   simp +decide only [zf60.o, ↓G.o, reduceIte, h, hw]
   rw [if_pos h] at hk
   exact ⟨_, ht.ghost _ _, hk⟩
 · simp +decide only [zf60.o, ↓G.o, reduceIte, h]
   rw [if_neg h] at hk
   exact ⟨_, ht.ghost _ _, hk⟩
end Go.Am
