/- The run of the law on places. -/
import Derived.Test.YtmliebodadgpbaaGreatDoorLJ
open Go.Proofs
namespace Go.Am

/-- A region's operations. -/
def opsAt (i : Nat) : Code → Option (Array Oper)
  | .seq a b => match opsAt i a with | some x => some x | none => opsAt i b
  | .cond _ a b => match opsAt i a with | some x => some x | none => opsAt i b
  | .block _ b => opsAt i b
  | .loop b => opsAt i b
  | .region j ops _ => if j = i then some ops else none
  | _ => none
def rg (f : Func) (i : Nat) : Array Oper := (opsAt i (bodyOf f)).getD #[]

theorem execF_seq {P : Program} {X : Xf} {K : Kf} {pr : Nat → List (Nat × Nat)} (x y : Code) (E : Env) (ds : List Deferred) (H : Heap) (k : KOE) : execF P X K pr (.seq x y) E ds H k = execF P X K pr x E ds H (thenE (execF P X K pr y) k) := id rfl
theorem execF_ret {P : Program} {X : Xf} {K : Kf} {pr : Nat → List (Nat × Nat)} (E : Env) (ds : List Deferred) (H : Heap) (k : KOE) : execF P X K pr .ret E ds H k = k .ret E ds H := id rfl
theorem execF_plain {P : Program} {X : Xf} {K : Kf} {pr : Nat → List (Nat × Nat)} (i : Nat) (ops : Array Oper) (E : Env) (ds : List Deferred) (H : Heap) (k : KOE) : execF P X K pr (.region i ops false) E ds H k = execOpsE P X K ops ops.toList E ds H (fun E ds H => k .norm E ds H) (fun c E ds H => k (.pan c) E ds H) := id rfl
theorem execF_open {P : Program} {X : Xf} {K : Kf} {pr : Nat → List (Nat × Nat)} (i : Nat) (ops : Array Oper) (E : Env) (ds : List Deferred) (H : Heap) (k : KOE) : execF P X K pr (.region i ops true) E ds H k = execTrF P X K ops ops.toList E ds H [] fun tr E ds H => cond ((pr i).all fun x => pairChkE P ops tr x.1 x.2) (k .norm E ds H) none := id rfl
theorem execTrF_nil {P : Program} {X : Xf} {K : Kf} (ops : Array Oper) (E : Env) (ds : List Deferred) (H : Heap) (tr : List (Env × Heap)) (k : List (Env × Heap) → KE) : execTrF P X K ops [] E ds H tr k = k (tr ++ [(E, H)]) E ds H := id rfl
theorem execTrF_cons {P : Program} {X : Xf} {K : Kf} (ops : Array Oper) (o : Oper) (rest : List Oper) (E : Env) (ds : List Deferred) (H : Heap) (tr : List (Env × Heap)) (k : List (Env × Heap) → KE) :
    execTrF P X K ops (o :: rest) E ds H tr k = guardE ops o E (opE P X K o E ds H (fun E' ds' H' => execTrF P X K ops rest E' ds' H' (tr ++ [(E, H)]) k) (fun _ _ _ _ => none)) (execTrF P X K ops rest (upd E o.dst undef) ds H (tr ++ [(E, H)]) k) := id rfl
theorem guardE_yes (ops : Array Oper) (d : Option Tmp) (op : Op) (t : TypeId) (p : String) (af : Array Edge) (j : Nat) (e : Tmp) (E : Env) (run skip : R) (hd : (ops[j]?).bind (·.dst) = some e) (h : E e = .bool true) : guardE ops ⟨d, op, t, p, af, some (j, true)⟩ E run skip = run := by
  simp [guardE, hd, h]

/-- A place is laid into a new row. -/
theorem laid_pl {H H1 : Heap} (h : Ext H H1) (x y w : Int) : ∃ H2, storeA PP 30 (.pointer (some ⟨H1.next, 0, none⟩)) (.agg #[.int .i64 x, .int .i64 y, .int .i64 w]) (H1.alloc 1 [.int .i64 0, .int .i64 0, .int .i64 0]) = some (undef, H2) ∧ Ext H1 H2 ∧ H2.get H1.next = some (pl x y w) := by
  have e1 : Ext H1 (H1.alloc 1 [.int .i64 0, .int .i64 0, .int .i64 0]) := .alloc h.fresh _ _
  have g : (H1.alloc 1 [.int .i64 0, .int .i64 0, .int .i64 0]).get H1.next = some (pl 0 0 0) := by rw [Heap.get_alloc, if_pos rfl]; rfl
  exact ⟨_, store30 g, e1.set (Nat.le_refl _) h.fresh (by show H1.next < H1.next + 1; omega) _, get_self _ _ _⟩

theorem bslice5 (H : Heap) : buildSliceA PP 34 5 #[(0, .int .u8 97), (1, .int .u8 10), (2, .int .u8 10), (3, .int .u8 98), (4, .int .u8 99)] H = some (.slice (some ⟨H.next, 0, none⟩) 5 5, H.alloc 1 [.int .u8 97, .int .u8 10, .int .u8 10, .int .u8 98, .int .u8 99]) := by
  have zero5 : zeroT PP 5 = some [.int .u8 0] := by kernel_rfl
  have hf : Instr.fill (fun i => some (i * 1, 1)) (zeroRow [.int .u8 0] (5 * 1)).toArray [(0, .int .u8 97), (1, .int .u8 10), (2, .int .u8 10), (3, .int .u8 98), (4, .int .u8 99)] = some #[.int .u8 97, .int .u8 10, .int .u8 10, .int .u8 98, .int .u8 99] := by rfl
  simp only [buildSliceA, und34, size5, zero5, mkRow, hf]
  simp
theorem conv34 (H : Heap) (cells : List Value) : convertA PP 34 34 (.slice (some ⟨H.next, 0, none⟩) 5 5) (H.alloc 1 cells) = some (.slice (some ⟨H.next, 0, none⟩) 5 5, H.alloc 1 cells) := by
  have hg : (H.alloc 1 cells).get H.next = some ⟨cells, true, 1, none⟩ := by rw [Heap.get_alloc, if_pos rfl]
  have hl : look (H.alloc 1 cells) ⟨H.next, 0, none⟩ = some ⟨cells, true, 1, none⟩ := by simp [look, hg]
  simp only [convertA, und34, show PP.underlying 5 = some (.int .u8) from Tryz.underlying5, hl]
  simp
theorem parts_five (E : Env) (i j l m n : Nat) (x y z u v : Operand) : (#[(i, x), (j, y), (l, z), (m, u), (n, v)] : Array (Nat × Operand)).map (fun (i, x) => (i, evalE E x)) = #[(i, evalE E x), (j, evalE E y), (l, evalE E z), (m, evalE E u), (n, evalE E v)] := by simp
def probe : List UInt8 := [97, 10, 10, 98, 99]
theorem probe_row {H : Heap} : Brow (H.alloc 1 [.int .u8 97, .int .u8 10, .int .u8 10, .int .u8 98, .int .u8 99]) (some ⟨H.next, 0, none⟩) probe := by
  refine ⟨fun b hb => ?_, (fun e => by cases e), by decide⟩
  obtain rfl := Option.some.inj hb
  refine ⟨⟨[.int .u8 97, .int .u8 10, .int .u8 10, .int .u8 98, .int .u8 99], true, 1, none⟩, ?_, rfl, Nat.le_refl 5, rfl⟩
  have hg : (H.alloc 1 [Value.int .u8 97, .int .u8 10, .int .u8 10, .int .u8 98, .int .u8 99]).get H.next = some ⟨[.int .u8 97, .int .u8 10, .int .u8 10, .int .u8 98, .int .u8 99], true, 1, none⟩ := by rw [Heap.get_alloc, if_pos rfl]
  simp [look, hg]
theorem probe_at : atN 4 probe.length = 4 := by decide
theorem probe_count : cntB (probe.take 4) 10 = 2 := by decide
theorem probe_last : lastB (probe.take 4) 10 4 = 2 := by decide

theorem reg1 {K : Kf} {H H1 : Heap} {E : Env} {s k : Value} {x y w : Int} (e0 : E 0 = s) (e1 : E 1 = k) (he : Ext H H1) (hr : K 10 #[s, k] H = some (.ret (.agg #[.int .i64 x, .int .i64 y, .int .i64 w]), H1)) (kk : KE) (kp : List PanicEntry → KE) :
    ∃ E' H', E' 0 = s ∧ E' 1 = k ∧ E' 4 = E 4 ∧ E' 5 = .pointer (some ⟨H1.next, 0, none⟩) ∧ Ext H1 H' ∧ H'.get H1.next = some (pl x y w) ∧ execOpsE PP XX K (rg Tryz.f4 1) (rg Tryz.f4 1).toList E [] H kk kp = kk E' [] H' := by
  obtain ⟨H2, hs, h2, hg⟩ := laid_pl he x y w
  have key : ∃ E' : Env, (E' 0 = s ∧ E' 1 = k ∧ E' 4 = E 4 ∧ E' 5 = .pointer (some ⟨H1.next, 0, none⟩)) ∧ execOpsE PP XX K (rg Tryz.f4 1) (rg Tryz.f4 1).toList E [] H kk kp = kk E' [] H2 := by
    simp only [rg, opsAt, bodyOf, Tryz.f4, Option.getD_some, reduceIte, Nat.reduceEqDiff]
    simp (decide := true) only [e0, e1, execOpsE_cons, execOpsE_nil, guardE_none, opE_move, evalE_tmp, upd_some, bindV_ok, reduceIte, opE_callf, opE_alloc, opE_store, map_two, callK_fn Tryz.func10 rfl rfl hr, alloc30, hs, upd_none]
    refine ⟨_, ⟨?_, ?_, ?_, ?_⟩, rfl⟩
    all_goals simp (decide := true) only [upd_some, reduceIte, e0, e1]
  obtain ⟨E', ⟨a0, a1, a4, a5⟩, h⟩ := key
  exact ⟨E', H2, a0, a1, a4, a5, h2, hg, h⟩
theorem reg2 {K : Kf} {H H1 : Heap} {E : Env} {s k : Value} {x y w : Int} (e0 : E 0 = s) (e1 : E 1 = k) (he : Ext H H1) (hr : K 10 #[.slice (some ⟨H.next, 0, none⟩) 5 5, .int .i64 4] (H.alloc 1 [.int .u8 97, .int .u8 10, .int .u8 10, .int .u8 98, .int .u8 99]) = some (.ret (.agg #[.int .i64 x, .int .i64 y, .int .i64 w]), H1)) (kk : KE) (kp : List PanicEntry → KE) :
    ∃ E' H', E' 0 = s ∧ E' 1 = k ∧ E' 5 = E 5 ∧ E' 6 = .pointer (some ⟨H1.next, 0, none⟩) ∧ Ext H1 H' ∧ H'.get H1.next = some (pl x y w) ∧ execOpsE PP XX K (rg Tryz.f4 2) (rg Tryz.f4 2).toList E [] H kk kp = kk E' [] H' := by
  obtain ⟨H2, hs, h2, hg⟩ := laid_pl he x y w
  have key : ∃ E' : Env, (E' 0 = s ∧ E' 1 = k ∧ E' 5 = E 5 ∧ E' 6 = .pointer (some ⟨H1.next, 0, none⟩)) ∧ execOpsE PP XX K (rg Tryz.f4 2) (rg Tryz.f4 2).toList E [] H kk kp = kk E' [] H2 := by
    simp only [rg, opsAt, bodyOf, Tryz.f4, Option.getD_some, reduceIte, Nat.reduceEqDiff]
    simp (decide := true) only [execOpsE_cons, execOpsE_nil, guardE_none, evalE_tmp, evalE_const, upd_some, bindV_ok, reduceIte, opE_callf, opE_alloc, opE_store, opE_buildSlice, opE_convert, parts_five, bslice5, conv34, map_two, callK_fn Tryz.func10 rfl rfl hr, alloc30, hs, upd_none]
    refine ⟨_, ⟨?_, ?_, ?_, ?_⟩, rfl⟩
    all_goals simp (decide := true) only [upd_some, reduceIte, e0, e1]
  obtain ⟨E', ⟨a0, a1, a4, a5⟩, h⟩ := key
  exact ⟨E', H2, a0, a1, a4, a5, h2, hg, h⟩

def pr4 : Nat → List (Nat × Nat) := fun i => cond (Nat.beq i 3) [(0, 3)] []
theorem good4 : goodFp PP pr4 Tryz.f4.ntmps (bodyOf Tryz.f4) = true := by decide +kernel
theorem veq_pl (x y w : Int) : veq (.agg #[.int .i64 x, .int .i64 y, .int .i64 w]) (.agg #[.int .i64 x, .int .i64 y, .int .i64 w]) = true := by
  simp [veq, veqs, veq0]
theorem chk0 {A : Array Oper} (hA : A = rg Tryz.f4 3) {E0 E1 E2 E3 E4 : Env} {H0 H1 H2 H3 H4 : Heap} {b : Nat} {x y w : Int} (h5 : E0 5 = .pointer (some ⟨b, 0, none⟩)) (h13 : E1 13 = .agg #[.int .i64 x, .int .i64 y, .int .i64 w]) (g3 : H3.get b = some (pl x y w)) (g4 : H4.get b = some (pl x y w)) (tl : List (Env × Heap)) :
    ((pr4 3).all fun q => pairChkE PP A ((E0, H0) :: (E1, H1) :: (E2, H2) :: (E3, H3) :: (E4, H4) :: tl) q.1 q.2) = true := by
  have ho : ∃ o, A.toList[0]? = some o ∧ o.op = .load 30 (.tmp 5) ∧ o.dst = some 13 ∧ o.guard = none := by subst hA; exact ⟨_, rfl, rfl, rfl, rfl⟩
  have hp : ∃ o, A.toList[3]? = some o := by subst hA; exact ⟨_, rfl⟩
  obtain ⟨o, a1, a2, a3, a4⟩ := ho
  obtain ⟨o3, b1⟩ := hp
  have hq : ∀ H : Heap, H.get b = some (pl x y w) → qval PP (evalE E0) o H = some (.agg #[.int .i64 x, .int .i64 y, .int .i64 w]) := fun H hg => by
    simp only [qval, opK, a2, evalE_tmp, h5, load30 hg, bindV]
  have e : pr4 3 = [(0, 3)] := rfl
  rw [e]
  simp only [List.all_cons, List.all_nil, Bool.and_true]
  simp only [pairChkE, a1, List.getElem?_cons_zero, List.getElem?_cons_succ, Nat.zero_add, guardBE, a4, a3, hq _ g3, hq _ g4, h13, veq_pl, Bool.and_self, Nat.reduceAdd]

set_option maxHeartbeats 1000000 in
theorem reg3 {A : Array Oper} (hA : A = rg Tryz.f4 3) {K : Kf} {H H5 : Heap} {E : Env} {s k : Value} {b5 b6 : Nat} {x y w : Int} (e0 : E 0 = s) (e1 : E 1 = k) (e5 : E 5 = .pointer (some ⟨b5, 0, none⟩)) (e6 : E 6 = .pointer (some ⟨b6, 0, none⟩))
    (l5 : H.get b5 = some (pl x y w)) (l6 : H5.get b6 = some (pl 4 3 2)) (h11 : K 11 #[s, k] H = some (.ret (.agg #[.int .i64 x, .int .i64 y, .int .i64 w]), H5)) (h9 : K 9 #[] H5 = some (.ret (.bool true), H5)) (kk : List (Env × Heap) → KE) :
    ∃ E' E1 E2 E3 E4 tl, E1 13 = .agg #[.int .i64 x, .int .i64 y, .int .i64 w] ∧ E' 4 = .bool true ∧
      execTrF PP XX K A (rg Tryz.f4 3).toList E [] H [] kk = kk ((E, H) :: (E1, H) :: (E2, H) :: (E3, H) :: (E4, H5) :: tl) E' [] H5 := by
  have d5 : (A[5]?).bind (·.dst) = some 18 := by subst hA; kernel_rfl
  have d10 : (A[10]?).bind (·.dst) = some 23 := by subst hA; kernel_rfl
  have g5 := fun (d : Option Tmp) op t p af (E : Env) (run skip : R) h => guardE_yes A d op t p af 5 18 E run skip d5 h
  have g10 := fun (d : Option Tmp) op t p af (E : Env) (run skip : R) h => guardE_yes A d op t p af 10 23 E run skip d10 h
  clear d5 d10 hA
  have key : ∃ E' E1 E2 E3 E4 tl, (E1 13 = .agg #[.int .i64 x, .int .i64 y, .int .i64 w] ∧ E' 4 = .bool true) ∧
      execTrF PP XX K A (rg Tryz.f4 3).toList E [] H [] kk = kk ((E, H) :: (E1, H) :: (E2, H) :: (E3, H) :: (E4, H5) :: tl) E' [] H5 := by
    simp only [rg, opsAt, bodyOf, Tryz.f4, Option.getD_some, reduceIte, Nat.reduceEqDiff]
    rw [execTrF_cons]
    simp (decide := true) only [e5, guardE_none, opE_load, evalE_tmp, bindV_ok, load30 l5]
    rw [execTrF_cons]
    simp (decide := true) only [e0, guardE_none, opE_move, evalE_tmp, upd_some, reduceIte]
    rw [execTrF_cons]
    simp (decide := true) only [e1, guardE_none, opE_move, evalE_tmp, upd_some, reduceIte]
    rw [execTrF_cons]
    simp (decide := true) only [guardE_none, opE_callf, evalE_tmp, upd_some, reduceIte, map_two, callK_fn Tryz.func11 rfl rfl h11]
    rw [execTrF_cons]
    simp (decide := true) only [guardE_none, opE_binOp, evalE_tmp, upd_some, bindO_ok, groundK_bool, reduceIte, eq30]
    rw [execTrF_cons]
    simp (decide := true) only [guardE_none, opE_move, evalE_tmp, upd_some, reduceIte]
    rw [execTrF_cons]
    simp (decide := true) only [e6, opE_load, evalE_tmp, upd_some, bindV_ok, reduceIte, load30 l6, g5]
    rw [execTrF_cons]
    simp (decide := true) only [opE_build, evalE_const, upd_some, bindO_ok, reduceIte, parts_three, build30, g5]
    rw [execTrF_cons]
    simp (decide := true) only [opE_binOp, evalE_tmp, upd_some, bindO_ok, groundK_bool, reduceIte, eq30, g5]
    rw [execTrF_cons]
    simp (decide := true) only [guardE_none, opE_pick, evalE_tmp, evalE_const, upd_some, reduceIte, pickV_eq]
    rw [execTrF_cons]
    simp (decide := true) only [guardE_none, opE_move, evalE_tmp, upd_some, reduceIte]
    rw [execTrF_cons]
    simp (decide := true) only [opE_callf, upd_some, reduceIte, map_nil, callK_fn Tryz.func9 rfl rfl h9, g10]
    rw [execTrF_cons]
    simp (decide := true) only [guardE_none, opE_pick, evalE_tmp, evalE_const, upd_some, reduceIte, pickV_eq]
    rw [execTrF_cons]
    simp (decide := true) only [guardE_none, opE_assign, evalE_tmp, upd_some, reduceIte]
    rw [execTrF_nil]
    simp only [List.nil_append, List.cons_append]
    refine ⟨_, _, _, _, _, _, ⟨?_, ?_⟩, rfl⟩
    all_goals simp (decide := true) only [upd_some, reduceIte]
  obtain ⟨E', E1, E2, E3, E4, tl, ⟨a0, a1⟩, h⟩ := key
  exact ⟨E', E1, E2, E3, E4, tl, a0, a1, h⟩

theorem topF_fn {P : Program} {okf : FuncId → Bool} {X : Xf} {N : Nat} {hk : Hook} {d : Nat} {f : FuncId} {pr : Nat → List (Nat × Nat)} {fn : Func} {c : Code} {args : Array Value} {H : Heap} (hf : P.funcs[f]? = some fn) (hc : fn.body = some c) (hg : goodFp P pr fn.ntmps c = true) (hs : Nat.ble args.size fn.ntmps = true) :
    topF P okf X N hk d f pr f args H = execF P X (callE P okf X N hk d) pr c (startE args) [] H (finE P fn) := by
  simp [topF, hf, hc, hg, hs]
theorem code4 : bodyOf Tryz.f4 = .seq (.region 0 (rg Tryz.f4 0) false) (.seq (.region 1 (rg Tryz.f4 1) false) (.seq (.region 2 (rg Tryz.f4 2) false) (.seq (.region 3 (rg Tryz.f4 3) true) .ret))) := by kernel_rfl
theorem reg0 {K : Kf} {E : Env} {H : Heap} (kk : KE) (kp : List PanicEntry → KE) : execOpsE PP XX K (rg Tryz.f4 0) (rg Tryz.f4 0).toList E [] H kk kp = kk (upd E (some 4) (.bool false)) [] H := by
  simp only [rg, opsAt, bodyOf, Tryz.f4, Option.getD_some, reduceIte]
  simp (decide := true) only [execOpsE_cons, execOpsE_nil, guardE_none, opE_assign, evalE_const]
/-- What the law answers, whatever the text and the offset: yes. -/
theorem places_run {N d : Nat} {G : Heap} {a : Option Addr} {c : Nat} {s : List UInt8} (hb : Brow G a s) (hc : s.length ≤ c) (hn : a = none → c = 0) (hf : Fresh G) (hG : Ext GG G) (k : Int) (hN : s.length + 10 < N) :
    ∃ H', topF PP okf XX N hk4 (d + 3) 4 pr4 4 #[.slice a s.length c, .int .i64 k] G = some (.ret (.bool true), H') := by
  refine Exists.imp (fun H' h => (topF_fn Tryz.func4 (c := bodyOf Tryz.f4) rfl good4 rfl).trans h) ?_
  rw [code4]
  generalize hA : rg Tryz.f4 3 = A
  obtain ⟨H1, x1, r1⟩ := call10 (N := N) (hk := hk4) (d := d) hb hc hn hf k (by omega) hk4_none
  have hle := atN_le k s.length
  have rl' := rl_eq s (atN k s.length) hle
  have rc' : rc s (atN k s.length) = IntKind.i64.wrap ((atN k s.length : Int) - lastB (s.take (atN k s.length)) 10 (atN k s.length)) := by rw [rc_eq, lastB_take s 10 _ _ (Nat.le_refl _)]
  rw [← rl', ← rc'] at r1
  obtain ⟨E1, H2, a0, a1, a4, a5, x2, g2, r2⟩ := reg1 (K := callE PP okf XX N hk4 (d + 3)) (E := upd (startE #[.slice a s.length c, .int .i64 k]) (some 4) (.bool false)) (s := .slice a s.length c) (k := .int .i64 k) rfl rfl x1 r1
    (fun E ds H => thenE (execF PP XX (callE PP okf XX N hk4 (d + 3)) pr4 (.seq (.region 2 (rg Tryz.f4 2) false) (.seq (.region 3 A true) .ret))) (finE PP Tryz.f4) .norm E ds H) (fun c E ds H => thenE (execF PP XX (callE PP okf XX N hk4 (d + 3)) pr4 (.seq (.region 2 (rg Tryz.f4 2) false) (.seq (.region 3 A true) .ret))) (finE PP Tryz.f4) (.pan c) E ds H)
  have x3 : Ext H2 (H2.alloc 1 [.int .u8 97, .int .u8 10, .int .u8 10, .int .u8 98, .int .u8 99]) := .alloc x2.fresh _ _
  obtain ⟨H3, x4, r3⟩ := call10 (N := N) (hk := hk4) (d := d) (probe_row (H := H2)) (c := 5) (by decide) (fun e => by cases e) x3.fresh 4 (by show 5 < N; omega) hk4_none
  rw [probe_at, probe_count] at r3
  have pl5 : probe.length = 5 := rfl
  rw [pl5] at r3
  have e24 : IntKind.i64.wrap (((4 : Nat) : Int) - lastB (probe.take 4) 10 4) = 2 := by rw [probe_last]; rfl
  have e13 : IntKind.i64.wrap (1 + 2) = 3 := rfl
  rw [e24, e13] at r3
  obtain ⟨E2, H4, b0, b1, b5, b6, x5, g4, r4⟩ := reg2 (K := callE PP okf XX N hk4 (d + 3)) a0 a1 (x3.trans x4) r3
    (fun E ds H => thenE (execF PP XX (callE PP okf XX N hk4 (d + 3)) pr4 (.seq (.region 3 A true) .ret)) (finE PP Tryz.f4) .norm E ds H) (fun c E ds H => thenE (execF PP XX (callE PP okf XX N hk4 (d + 3)) pr4 (.seq (.region 3 A true) .ret)) (finE PP Tryz.f4) (.pan c) E ds H)
  have x24 : Ext H2 H4 := (x3.trans x4).trans x5
  have xG4 : Ext G H4 := (x1.trans x2).trans x24
  obtain ⟨H5, x6, r5⟩ := call11 (N := N) (hk := hk4) (d := d + 2) (c := c) (hb.ext xG4) x5.fresh k (by omega) hk4_none
  have r6 := known_run (N := N) (d := d + 2) (hG.trans (xG4.trans x6))
  obtain ⟨E5, F1, F2, F3, F4, tl, c13, c4, r7⟩ := reg3 hA.symm (K := callE PP okf XX N hk4 (d + 3)) b0 b1 (b5.trans a5) b6 (x24.keep _ _ g2) (x6.keep _ _ g4) r5 r6
    (fun tr E ds H => cond ((pr4 3).all fun x => pairChkE PP A tr x.1 x.2) (thenE (execF PP XX (callE PP okf XX N hk4 (d + 3)) pr4 .ret) (finE PP Tryz.f4) .norm E ds H) none)
  refine ⟨H5, ?_⟩
  rw [execF_seq, execF_plain, reg0, thenE_norm, execF_seq, execF_plain, r2, thenE_norm, execF_seq, execF_plain, r4, thenE_norm, execF_seq, execF_open]
  rw [hA] at r7
  rw [r7, chk0 hA.symm (b5.trans a5) c13 (x24.keep _ _ g2) ((x24.trans x6).keep _ _ g2) tl, cond_true, thenE_norm, execF_ret]
  rw [finE_ret (l := [.bool true]) (by simp (decide := true) [Tryz.f4, resE, c4])]
  rfl
end Go.Am
