/- What the operations do to abstract heaps: functions without a tape. -/
import Derived.Test.YtpfpfpeockbbpaaGreatDoorAmV
import Derived.Laws.Sem
import Derived.Laws.Cells
import Derived.Laws.Append
import Derived.Laws.AppendOwn
namespace Go.Am

abbrev VH := Option (Value × Heap)

/-- A run that asks only for the program. -/
def pureRun {α : Type} (P : Program) : Sem α → Option α
  | .pure a => some a
  | .program k => pureRun P (k P)
  | .mark _ k => pureRun P k
  | _ => none

theorem pureRun_run {α : Type} {P : Program} {s : Sem α} {a : α} (h : pureRun P s = some a) (w : World) : s.run P w = .ok a w := by
  induction s with
  | pure x => simp only [pureRun, Option.some.injEq] at h; subst h; rfl
  | program k ih => exact ih P h
  | mark m k ih => exact ih h
  | load => simp [pureRun] at h
  | store => simp [pureRun] at h
  | new => simp [pureRun] at h
  | shape => simp [pureRun] at h
  | freeze => simp [pureRun] at h
  | frozen => simp [pureRun] at h
  | getObj => simp [pureRun] at h
  | setObj => simp [pureRun] at h
  | choose => simp [pureRun] at h
  | sys => simp [pureRun] at h
  | halt => simp [pureRun] at h

/-- A block as it is, taken into the heap. -/
def Heap.allocB (H : Heap) (x : Blk) : Heap := { m := H.m.set H.next (some x), next := H.next + 1 }
theorem Heap.get_allocB (H : Heap) (x : Blk) (k : Nat) : (H.allocB x).get k = if k = H.next then some x else H.get k := Tr.get_set _ _ _ _
/-- The row of cells behind an address. -/
def look (H : Heap) (a : Addr) : Option Blk :=
  match a.spot with
  | some _ => none
  | none =>
    match H.get a.block with
    | some x => match x.o with | none => some x | some _ => none
    | none => none

def ld1 (H : Heap) (a : Addr) : VH :=
  match look H a with
  | some x => match x.cells[a.off]? with | some v => some (v, H) | none => none
  | none => none

def ldN (H : Heap) (a : Addr) (n : Nat) : VH :=
  match look H a with
  | some x => if a.off + n ≤ x.cells.length then some (.agg ((x.cells.drop a.off).take n).toArray, H) else none
  | none => none

/-- A list with others laid over it from a place on. -/
def over (xs : List Value) (i : Nat) (vs : List Value) : List Value := xs.take i ++ vs ++ xs.drop (i + vs.length)

def st (H : Heap) (a : Addr) (vs : List Value) : VH :=
  match look H a with
  | some x => if x.rw = true ∧ a.off + vs.length ≤ x.cells.length ∧ vs.all Value.oneCell' = true then some (undef, H.set a.block { x with cells := over x.cells a.off vs }) else none
  | none => none

def mk (H : Heap) (es : Nat) (cells : List Value) : VH := some (.pointer (some ⟨H.next, 0, none⟩), H.alloc es cells)

def mkRow (H : Heap) (es : Nat) (cells : List Value) (len : Nat) : VH := some (.slice (some ⟨H.next, 0, none⟩) len len, H.alloc es cells)
def mkT (H : Heap) (es : Nat) (ty : Option (TypeId × Nat)) (cells : List Value) : VH := some (.pointer (some ⟨H.next, 0, none⟩), H.allocT es ty cells)
def mkRowT (H : Heap) (es : Nat) (ty : Option (TypeId × Nat)) (cells : List Value) (len : Nat) : VH := some (.slice (some ⟨H.next, 0, none⟩) len len, H.allocT es ty cells)
/-- What is told of a row that grew out of another. -/
def tyRow (e : TypeId) (off : Nat) : Option (TypeId × Nat) → Option (TypeId × Nat)
  | some (t, _) => if t = e ∧ off = 0 then some (e, 0) else none
  | none => none

def sliceS (s : ByteArray) (l h : Int) : Option ByteArray := if 0 ≤ l ∧ l ≤ h ∧ h ≤ s.size then some (s.extract l.toNat h.toNat) else none

def sliceA (H : Heap) (es : Nat) (a : Option Addr) (cap : Nat) (l h : Int) : Option Value :=
  if 0 ≤ l ∧ l ≤ h ∧ h ≤ cap then
    match a with
    | none => some (.slice none 0 0)
    | some a => match look H a with
      | some x => if x.es = es then some (.slice (some (a.add (l.toNat * es))) (h - l).toNat (cap - l.toNat)) else none
      | none => none
  else none

def sliceP (H : Heap) (es n : Nat) (a : Addr) (l h : Int) : Option Value :=
  if 0 ≤ l ∧ l ≤ h ∧ h ≤ n then
    match look H a with
    | some x => if x.es = es ∧ a.off + n * es ≤ x.cells.length then some (.slice (some (a.add (l.toNat * es))) (h - l).toNat (n - l.toNat)) else none
    | none => none
  else none

/-- The cells that 'append' or 'copy' takes from its source. -/
def srcCells (H : Heap) (es : Nat) : Value → Option (Nat × List Value)
  | .slice none _ _ => some (0, [])
  | .slice (some a) n _ => match look H a with
    | some x => if a.off + n * es ≤ x.cells.length then some (n, (x.cells.drop a.off).take (n * es)) else none
    | none => if n = 0 then some (0, []) else none
  | .string s => if es = 1 then some (s.size, s.data.toList.map fun b => .int .u8 b.toNat) else none
  | _ => none

/-- The most bytes that a row may grow to here. -/
def most : Nat := 2 ^ 47

def app (H : Heap) (e : TypeId) (es bytes : Nat) (s : Value) (n : Nat) (news : List Value) : VH :=
  match s with
  | .slice none _ _ => if n = 0 then some (.slice none 0 0, H) else if n * bytes ≤ most ∧ n ≤ most then mkRowT H es (some (e, 0)) news n else none
  | .slice (some a) len cap =>
    match look H a with
    | some x =>
      if x.rw = true ∧ x.es = es ∧ a.off + len * es ≤ x.cells.length ∧ news.all Value.oneCell' = true ∧ (len + n) * bytes ≤ most ∧ len + n ≤ most then
        if len + n ≤ cap then
          if a.off + cap * es ≤ x.cells.length then some (.slice (some a) (len + n) cap, H.set a.block { x with cells := over x.cells (a.off + len * es) news }) else none
        else mkRowT (H.drop a.block) es (tyRow e a.off x.ty) ((x.cells.drop a.off).take (len * es) ++ news) (len + n)
      else none
    | none => none
  | _ => none

def cpy (H : Heap) (a : Option Addr) (es n : Nat) (news : List Value) : VH :=
  if n = 0 then some (.int .i64 0, H) else
  match a with
  | none => none
  | some a => match st H a (news.take (n * es)) with
    | some (_, H') => some (.int .i64 n, H')
    | none => none


def aggT (P : Program) (t : TypeId) : Option Bool :=
  match P.underlying t with
  | some (.struct _) => some true
  | some (.array _ _) => some true
  | some _ => some false
  | none => none

def sizeT (P : Program) (t : TypeId) : Option Nat := (P.info? t).map (·.size)
def bytesT (P : Program) (t : TypeId) : Option Nat := (P.info? t).map (·.bytes)

def loadA (P : Program) (t : TypeId) (x : Value) (H : Heap) : VH :=
  match x with
  | .pointer (some a) =>
    match aggT P t with
    | some true => match sizeT P t with | some n => ldN H a n | none => none
    | some false => ld1 H a
    | none => none
  | _ => none

def stV (H : Heap) (a : Addr) (n : Nat) (v : Value) : VH := if v.cells.size = n then st H a v.cells.toList else none

def storeA (P : Program) (t : TypeId) (x v : Value) (H : Heap) : VH :=
  match x with
  | .pointer (some a) => match sizeT P t with | some n => stV H a n v | none => none
  | _ => none

def esT (P : Program) (t : TypeId) : Nat :=
  match P.underlying t with
  | some (.array _ e) => (sizeT P e).getD 1
  | _ => 1

def zeroT (P : Program) (t : TypeId) : Option (List Value) :=
  match P.info? t with
  | some i => match i.zero with
    | some z => if z.cells.toList.all atomic = true then some z.cells.toList else none
    | none => none
  | none => none

def allocA (P : Program) (t : TypeId) (H : Heap) : VH :=
  match zeroT P t with | some z => mkT H (esT P t) (some (t, z.length)) z | none => none

def boxA (P : Program) (t : TypeId) (v : Value) (H : Heap) : VH := mkT H (esT P t) (some (t, v.cells.size)) v.cells.toList

def placeA (P : Program) (fields : Array Field) (i : Nat) : Option (Nat × Nat) :=
  match fields[i]? with
  | some f => match sizeT P f.type with
    | some n => some (f.offset, n)
    | none => none
  | none => none

def buildA (P : Program) (t : TypeId) (parts : Array (Nat × Value)) : Option Value :=
  match zeroT P t with
  | some z =>
    match P.underlying t with
    | some (.struct fields) =>
      match Instr.fill (placeA P fields) z.toArray parts.toList with
      | some cells => if fields.all (fun f => (sizeT P f.type).isSome) = true then some (.agg cells) else none
      | none => none
    | some (.array _ e) =>
      match sizeT P e with
      | some n => match Instr.fill (fun i => some (i * n, n)) z.toArray parts.toList with
        | some cells => some (.agg cells)
        | none => none
      | none => none
    | _ => none
  | none => none

def zeroRow (z : List Value) (n : Nat) : List Value := (List.range n).map fun i => z.toArray[i % z.toArray.size]!

def buildSliceA (P : Program) (t : TypeId) (len : Nat) (parts : Array (Nat × Value)) (H : Heap) : VH :=
  match P.underlying t with
  | some (.slice e) =>
    match sizeT P e, zeroT P e with
    | some n, some z =>
      if len * n ≤ 2 ^ 24 ∧ z.length = n ∧ 0 < len * n then
        match Instr.fill (fun i => some (i * n, n)) (zeroRow z (len * n)).toArray parts.toList with
        | some cells => mkRow H n cells.toList len
        | none => none
      else none
    | _, _ => none
  | _ => none

def makeA (H : Heap) (z : List Value) (bytes : Nat) (l c : Int) : VH :=
  if 0 ≤ l ∧ l ≤ c ∧ c ≤ most ∧ bytes * c ≤ most then
    some (.slice (some ⟨H.next, 0, none⟩) l.toNat c.toNat, H.alloc z.length (zeroRow z (c.toNat * z.length)))
  else none

def makeSliceA (P : Program) (t : TypeId) (l c : Value) (H : Heap) : VH :=
  match P.underlying t, l, c with
  | some (.slice e), .int _ l, .int _ c =>
    match P.info? e, zeroT P e with
    | some i, some z => if z.length = i.size then makeA H z i.bytes l c else none
    | _, _ => none
  | _, _, _ => none

def fieldAddrA (P : Program) (s : TypeId) (x : Value) (f : Nat) : Option Value :=
  match x with
  | .pointer (some a) =>
    match P.underlying s with
    | some (.struct fields) =>
      match fields[f]? with
      | some g => match sizeT P g.type with
        | some (_ + 1) => some (.pointer (some (a.add g.offset)))
        | _ => none
      | none => none
    | _ => none
  | _ => none

/-- The address of an element: the index within the length. -/
def at_ (a : Addr) (len : Nat) (es : Nat) (i : Int) : Option Value := if 0 ≤ i ∧ i < len then some (.pointer (some (a.add (i.toNat * es)))) else none

def indexAddrA (P : Program) (t : TypeId) (x i : Value) : Option Value :=
  match i with
  | .int _ i =>
    match P.underlying t, x with
    | some (.array n e), .pointer (some a) => match sizeT P e with | some s => at_ a n s i | none => none
    | some (.slice e), .slice (some a) n _ => match sizeT P e with | some s => at_ a n s i | none => none
    | _, _ => none
  | _ => none

def partA (P : Program) (t : TypeId) (cs : Array Value) (off : Nat) : Option Value :=
  match aggT P t with
  | some true => match sizeT P t with | some n => some (.agg (cs.extract off (off + n))) | none => none
  | some false => cs[off]?
  | none => none

def fieldA (P : Program) (t : TypeId) (x : Value) (f : Nat) : Option Value :=
  match P.underlying t, x with
  | some (.struct fields), .agg cs => match fields[f]? with | some g => partA P g.type cs g.offset | none => none
  | _, _ => none

/-- A byte of a string. -/
def byteAt (s : ByteArray) (i : Int) : Option UInt8 := if 0 ≤ i then s[i.toNat]? else none

def indexA (P : Program) (t : TypeId) (x i : Value) : Option Value :=
  match i with
  | .int _ i =>
    match P.underlying t, x with
    | some .string, .string s => match byteAt s i with | some b => some (.int .u8 b.toNat) | none => none
    | some (.array n e), .agg cs => match sizeT P e with | some s => if 0 ≤ i ∧ i < n then partA P e cs (i.toNat * s) else none | none => none
    | _, _ => none
  | _ => none

def extractA (x : Value) (i : Nat) : Option Value :=
  match x with
  | .tuple vs => vs[i]?
  | _ => none

def ground : Value → Bool
  | .agg cs => cs.toList.all atomic
  | .iface _ v => atomic v
  | v => atomic v

def nilEq (P : Program) (t : TypeId) (a b : Value) : Option Bool :=
  match P.underlying t, a, b with
  | some (.pointer e), .pointer (some p), .pointer (some q) => if p = q ∧ (P.info? e).isSome = true then some true else none
  | some (.pointer _), .pointer (some _), .pointer none => some false
  | some (.pointer _), .pointer none, .pointer (some _) => some false
  | some (.interface _), .iface _ _, .nilIface => some false
  | some (.interface _), .nilIface, .iface _ _ => some false
  | some (.slice _), .slice (some _) _ _, .slice none _ _ => some false
  | some (.slice _), .slice none _ _, .slice (some _) _ _ => some false
  | some (.map _ _), .map (some _), .map none => some false
  | some (.map _ _), .map none, .map (some _) => some false
  | some (.func _ _ _), .func _ _ _, .nilFunc => some false
  | some (.func _ _ _), .nilFunc, .func _ _ _ => some false
  | _, _, _ => none

def binA (P : Program) (op : BinOp) (t : TypeId) (x y : Operand) (a b : Value) : Option Value :=
  if ground a && ground b then pureRun P (do eqGuard op t x y a b; binOp op t a b)
  else match op with
    | .eql => match nilEq P t a b with | some r => some (.bool r) | none => none
    | .neq => match nilEq P t a b with | some r => some (.bool !r) | none => none
    | _ => none

def unA (P : Program) (op : UnOp) (a : Value) : Option Value := if atomic a then pureRun P (Op.unary op a) else none

/-- The bytes of a row of cells. -/
def bytesOf : List Value → Option (List UInt8)
  | [] => some []
  | .int .u8 n :: r => match bytesOf r with | some l => some (UInt8.ofNat n.toNat :: l) | none => none
  | _ => none

def strOf (H : Heap) (a : Option Addr) (len : Nat) : Option ByteArray :=
  match a with
  | none => some .empty
  | some a => if len = 0 then some .empty else match look H a with
    | some x => if a.off + len ≤ x.cells.length then match bytesOf ((x.cells.drop a.off).take len) with | some l => some ⟨l.toArray⟩ | none => none else none
    | none => none

def convertA (P : Program) (src dst : TypeId) (x : Value) (H : Heap) : VH :=
  match P.underlying src, P.underlying dst, x with
  | some _, some (.int k), .int _ n => some (.int k (k.wrap n), H)
  | some _, some .string, .int _ n => some (.string (Utf8.encode n), H)
  | some _, some .string, .string s => some (.string s, H)
  | some _, some (.slice e), .string s =>
    match P.underlying e with
    | some (.int .u8) => if s.size ≤ most then mkRow H 1 (s.data.toList.map fun b => .int .u8 b.toNat) s.size else none
    | _ => none
  | some (.slice _), some (.slice e), .slice (some a) l c =>
    if src == dst then
      match P.underlying e with
      | some (.int .u8) => match look H a with | some x => if x.rw = true then some (.slice (some a) l c, H) else none | none => none
      | _ => none
    else none
  | some (.slice e), some .string, .slice a l _ =>
    match P.underlying e with
    | some (.int .u8) => match strOf H a l with | some s => some (.string s, H) | none => none
    | _ => none
  | some (.pointer t), some .unsafePointer, .pointer (some a) =>
    match look H a, sizeT P t with
    | some x, some (_ + 1) => (match x.ty with | some (_, n) => if a.off < n then some (.pointer (some a), H) else none | none => none)
    | _, _ => none
  | some .unsafePointer, some (.pointer u), .pointer (some a) =>
    match look H a, sizeT P u with
    | some x, some _ => (match x.ty with | some (e, n) => if n ≠ 0 ∧ liesAt P P.depth e (n / P.cellsOf e) a.off u 1 = true then some (.pointer (some a), H) else none | none => none)
    | _, _ => none
  | _, _, _ => none

/-- The bytes of a row of cells that are bytes. -/
def bytesX : List Value → Option (List UInt8)
  | [] => some []
  | .int .u8 n :: r => if 0 ≤ n ∧ n < 256 then (match bytesX r with | some l => some (UInt8.ofNat n.toNat :: l) | none => none) else none
  | _ => none
/-- The first element's address. -/
def dataA (x : Value) (H : Heap) : VH :=
  match x with
  | .slice none _ _ => some (.pointer none, H)
  | .slice (some a) _ c => if c = 0 then none else some (.pointer (some a), H)
  | _ => none
/-- The bytes of a row's head as a string; the row is not written any more, and not looked at. -/
def unsafeStrA (P : Program) (ts : Array TypeId) (p l : Value) (H : Heap) : VH :=
  match p, l, ts[0]? with
  | .pointer _, .int .i64 0, _ => some (.string .empty, H)
  | .pointer (some a), .int .i64 n, some pt =>
    match look H a, P.underlying pt with
    | some x, some (.pointer e) =>
      if 0 < n ∧ a.off = 0 ∧ x.rw = true ∧ n ≤ x.cells.length ∧ n ≤ 2 ^ 60 ∧ P.cellsOf e = 1 ∧ x.ty.map (·.1) = some e then
        match bytesX (x.cells.take n.toNat) with
        | some b => some (.string ⟨b.toArray⟩, H.drop a.block)
        | none => none
      else none
    | _, _ => none
  | _, _, _ => none

def lenA (P : Program) (t : TypeId) (x : Value) (H : Heap) : Option Value :=
  match P.underlying t, x with
  | some .string, .string s => some (.int .i64 s.size)
  | some (.array n _), _ => some (.int .i64 n)
  | some (.pointer arr), _ => match P.underlying arr with | some (.array n _) => some (.int .i64 n) | _ => none
  | some (.slice _), .slice _ n _ => some (.int .i64 n)
  | some (.map _ _), .map none => some (.int .i64 0)
  | some (.map _ _), .map (some r) => match H.get r with
    | some x => match x.o with | some (.map es _) => some (.int .i64 es.size) | _ => none
    | none => none
  | _, _ => none

def sliceOpA (P : Program) (t : TypeId) (x : Value) (lo hi mx : Option Value) (H : Heap) : Option Value :=
  match mx with
  | some _ => none
  | none =>
    match P.underlying t, x with
    | some .string, .string s =>
      match lo, hi with
      | none, none => match sliceS s 0 s.size with | some r => some (.string r) | none => none
      | some (.int _ l), none => match sliceS s l s.size with | some r => some (.string r) | none => none
      | none, some (.int _ h) => match sliceS s 0 h with | some r => some (.string r) | none => none
      | some (.int _ l), some (.int _ h) => match sliceS s l h with | some r => some (.string r) | none => none
      | _, _ => none
    | some (.slice e), .slice a n c =>
      match sizeT P e with
      | some es =>
        match lo, hi with
        | none, none => sliceA H es a c 0 n
        | some (.int _ l), none => sliceA H es a c l n
        | none, some (.int _ h) => sliceA H es a c 0 h
        | some (.int _ l), some (.int _ h) => sliceA H es a c l h
        | _, _ => none
      | none => none
    | some (.array n e), .pointer (some a) =>
      match sizeT P e with
      | some es =>
        match lo, hi with
        | none, none => sliceP H es n a 0 n
        | some (.int _ l), none => sliceP H es n a l n
        | none, some (.int _ h) => sliceP H es n a 0 h
        | some (.int _ l), some (.int _ h) => sliceP H es n a l h
        | _, _ => none
      | none => none
    | _, _ => none

def appendA (P : Program) (ts : Array TypeId) (s x : Value) (H : Heap) : VH :=
  match ts[0]?, ts[1]? with
  | some t, some u =>
    match P.underlying t, P.underlying u with
    | some (.slice e), some (.slice _) | some (.slice e), some .string =>
      match P.info? e, zeroT P e with
      | some i, some z => if z.length = i.size ∧ 0 < i.size then match srcCells H i.size x with
        | some (n, news) => app H e i.size i.bytes s n news
        | none => none
        else none
      | _, _ => none
    | _, _ => none
  | _, _ => none

def copyA (P : Program) (ts : Array TypeId) (d s : Value) (H : Heap) : VH :=
  match ts[0]? with
  | some t => match P.underlying t, d with
    | some (.slice e), .slice a dn _ =>
      match sizeT P e with
      | some es => if es = 0 then none else match srcCells H es s with
        | some (n, news) => cpy H a es (Nat.min n dn) news
        | none => none
      | none => none
    | _, _ => none
  | none => none

def rangeA (P : Program) (t : TypeId) (x : Value) (H : Heap) : VH :=
  match P.underlying t, x with
  | some .string, .string s => some (.pointer (some ⟨H.next, 0, none⟩), H.allocO (.stringIter s 0))
  | _, _ => none

def nextA (x : Value) (str : Bool) (H : Heap) : VH :=
  match x, str with
  | .pointer (some ⟨r, 0, none⟩), true =>
    match H.get r with
    | some b => if b.rw = true then
        match b.o with
        | some (.stringIter s pos) =>
          if pos < s.size then some (.tuple #[.bool true, .int .i64 pos, .int .i32 (Utf8.decode s pos).1], H.set r { b with o := some (.stringIter s (pos + (Utf8.decode s pos).2)) })
          else some (.tuple #[.bool false], H)
        | _ => none
      else none
    | none => none
  | _, _ => none

def assertA (P : Program) (x : Value) (_xType asserted : TypeId) (commaOk : Bool) : Option Value :=
  match P.underlying asserted with
  | some (.interface _) => none
  | none => none
  | some _ =>
    match x, commaOk with
    | .iface t v, true => if t = asserted then some (.tuple #[v, .bool true]) else match P.info? asserted with
      | some i => match i.zero with
        | some z => if ground z then some (.tuple #[z, .bool false]) else none
        | none => none
      | none => none
    | .iface t v, false => if t = asserted then some v else none
    | _, _ => none

def nilCheckA (x : Value) : Option Value :=
  match x with
  | .pointer (some a) => some (.pointer (some a))
  | .func (.func f) a b => some (.func (.func f) a b)
  | .slice a l c => some (.slice a l c)
  | .map m => some (.map m)
  | .iface t v => some (.iface t v)
  | _ => none


def entriesA (H : Heap) (x : Value) : Option (Array MapEntry) :=
  match x with
  | .map none => some #[]
  | .map (some b) => match H.get b with | some y => (match y.o with | some (.map es _) => some es | _ => none) | none => none
  | _ => none
def makeMapA (P : Program) (t : TypeId) (hint : Option Value) (H : Heap) : VH :=
  match hint with
  | none => some (.map (some H.next), H.allocO (.map #[] 0))
  | some (.int _ _) => match P.underlying t with | some (.map _ _) => some (.map (some H.next), H.allocO (.map #[] 0)) | _ => none
  | _ => none
def zeroA (P : Program) (t : TypeId) : Option Value :=
  match P.info? t with | some i => (match i.zero with | some z => if ground z then some z else none | none => none) | none => none
def lookupA (P : Program) (t : TypeId) (x key : Value) (ok : Bool) (H : Heap) : Option Value :=
  match P.underlying t with
  | some (.map kt et) => match P.underlying kt with
    | some d => if keyKind d key = true then match entriesA H x with
      | some es => match Instr.findNow d key es.toList 0 with
        | some (some (_, v)) => some (if ok then .tuple #[v, .bool true] else v)
        | some none => match zeroA P et with | some z => some (if ok then .tuple #[z, .bool false] else z) | none => none
        | none => none
      | none => none
      else none
    | none => none
  | _ => none
def mapUpdateA (P : Program) (t : TypeId) (x key v : Value) (H : Heap) : VH :=
  match P.underlying t with
  | some (.map kt _) => match P.underlying kt with
    | some d => if keyKind d key = true then match x with
      | .map (some b) => match H.get b with
        | some y => if y.rw = true then match y.o with
          | some (.map es clock) => match Instr.findNow d key es.toList 0 with
            | some (some (i, _)) => some (undef, H.set b { y with o := some (.map (es.modify i fun e => { e with key := key, val := v }) clock) })
            | some none => some (undef, H.set b { y with o := some (.map (es.push { key := key, val := v, born := clock }) (clock + 1)) })
            | none => none
          | _ => none
          else none
        | none => none
      | _ => none
      else none
    | none => none
  | _ => none
end Go.Am
