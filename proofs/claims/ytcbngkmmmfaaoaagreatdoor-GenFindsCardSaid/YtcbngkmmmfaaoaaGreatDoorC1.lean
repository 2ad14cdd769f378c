/-
  A PURE MACHINE FOR THE MODEL'S CODE, 1: what one operation does to values and to the abstract heap.
-/
import Derived.Test.YtcbngkmmmfaaoaaGreatDoorC0
namespace Go.Ac
open Go.RowKit

/-- A constant's value, as far as it is a plain one. -/
def ofVal1 : Value → PV
  | .bool b => .bool b
  | .int k n => .int k n
  | .float k b => .flt k b
  | .string s => .str s.data.toList
  | .pointer none => .npt
  | .slice none 0 0 => .nls
  | .map none => .nmap
  | .nilFunc => .nfn
  | .nilIface => .nif
  | _ => .undef
def ofVal : Value → PV
  | .agg c => if PV.ones (c.toList.map ofVal1) then .agg (c.toList.map ofVal1) else .undef
  | .func f a b => if a.isEmpty && b.isEmpty then .fn f [] [] else .undef
  | v => ofVal1 v

/-- The package-level variables that are read: of each its cells. -/
abbrev Glob := Nat → Option (List PV)

def opnd (G : Glob) (f : Nat → PV) : Operand → PV
  | .tmp t => f t
  | .const v => ofVal v
  | .global g => match G g with
    | some c => .rop c
    | none => .undef
  | .func k => .fn (.func k) [] []

def tySz (P : Program) (t : TypeId) : Option Nat := (P.info? t).map (·.size)
/-- A type of one cell or more. -/
def bigB (P : Program) (t : TypeId) : Bool := match tySz P t with
  | some (_ + 1) => true
  | _ => false
def tyAgg (P : Program) (t : TypeId) : Option Bool := (P.underlying t).map fun
  | .struct _ | .array _ _ => true
  | _ => false
/-- The cells of a type's zero value. -/
def tyZero (P : Program) (t : TypeId) : Option (List PV) :=
  match (P.info? t).map (·.zero) with
  | some (some z) => if (z.cells.toList.map ofVal1).all PV.one then some (z.cells.toList.map ofVal1) else none
  | _ => none

def PV.cells : PV → List PV
  | .agg c => c
  | v => [v]
/-- May it be stored? -/
def PV.goes : PV → Bool
  | .undef | .tup _ => false
  | _ => true

/-! ### Numbers, bools, texts -/
def intOp (op : BinOp) (k : IntKind) (a b : Int) : Option PV :=
  match op with
  | .add => some (.int k (k.wrap (a + b)))
  | .sub => some (.int k (k.wrap (a - b)))
  | .mul => some (.int k (k.wrap (a * b)))
  | .quo => if b = 0 then none else some (.int k (k.wrap (a.tdiv b)))
  | .rem => if b = 0 then none else some (.int k (a.tmod b))
  | .and => some (.int k (k.wrap (BitVec.ofInt k.bits a &&& BitVec.ofInt k.bits b).toNat))
  | .or => some (.int k (k.wrap (BitVec.ofInt k.bits a ||| BitVec.ofInt k.bits b).toNat))
  | .xor => some (.int k (k.wrap (BitVec.ofInt k.bits a ^^^ BitVec.ofInt k.bits b).toNat))
  | .andNot => some (.int k (k.wrap (BitVec.ofInt k.bits a &&& ~~~ (BitVec.ofInt k.bits b)).toNat))
  | .eql => some (.bool (decide (a = b)))
  | .neq => some (.bool (!decide (a = b)))
  | .lss => some (.bool (decide (a < b)))
  | .leq => some (.bool (decide (a ≤ b)))
  | .gtr => some (.bool (decide (b < a)))
  | .geq => some (.bool (decide (b ≤ a)))
  | _ => none
def shOp (op : BinOp) (k : IntKind) (a b : Int) : Option PV :=
  if b < 0 then none else
  match op with
  | .shl => some (.int k (k.wrap (a * 2 ^ (min b.toNat k.bits))))
  | .shr => some (.int k (a.fdiv (2 ^ (min b.toNat k.bits))))
  | _ => none
def strOp (op : BinOp) (x y : List UInt8) : Option PV :=
  match op with
  | .add => if x.length + y.length ≤ 9223372036854775807 then some (.str (x ++ y)) else none
  | .eql => some (.bool (decide (x = y)))
  | .neq => some (.bool (!decide (x = y)))
  | .lss => some (.bool (Op.bytesLess x y))
  | .leq => some (.bool (Op.bytesLess x y || decide (x = y)))
  | .gtr => some (.bool (!(Op.bytesLess x y || decide (x = y))))
  | .geq => some (.bool (!Op.bytesLess x y))
  | _ => none
def eqGo (rec : TypeId → List PV → List PV → Option Bool) : List Field → List PV → List PV → Option Bool
  | [], _, _ => some true
  | f :: r, a, b => if f.name = "_" then eqGo rec r a b else match rec f.type (a.drop f.offset) (b.drop f.offset) with
    | some true => eqGo rec r a b
    | x => x
/-- A part of cells, as one of a plain type: its cells are compared. -/
def eqP (P : Program) : Nat → TypeId → List PV → List PV → Option Bool
  | 0, _, _, _ => none
  | d + 1, t, a, b => match P.underlying t, a, b with
    | some .string, .str x :: _, .str y :: _ => some (decide (x = y))
    | some .bool, .bool x :: _, .bool y :: _ => some (decide (x = y))
    | some (.int _), .int k x :: _, .int k' y :: _ => if k = k' then some (decide (x = y)) else none
    | some (.struct fs), _, _ => match tySz P t with
      | some n => if P.stoodInHeld t ∨ a.length < n ∨ b.length < n then none else eqGo (eqP P d) fs.toList (a.take n) (b.take n)
      | none => none
    | _, _, _ => none
def eqS (P : Program) (d : Nat) (t : TypeId) (a b : List PV) : Option Bool := match tySz P t with
  | some n => if a.length = n ∧ b.length = n then eqP P d t a b else none
  | none => none
/-- Are two values of a basic kind the same? -/
def sameV (P : Program) (t : TypeId) (x y : PV) : Option Bool :=
  match P.underlying t, x, y with
  | some (.pointer e), .ptr i u o, .ptr j u' o' => if i = j ∧ u = u' ∧ bigB P e then some (decide (o = o')) else none
  | some (.struct _), .agg a, .agg b => if P.eqGuardType P.depth t then none else eqS P 50 t a b
  | some .bool, .bool a, .bool b => some (a == b)
  | some (.slice _), .nls, .nls => some true
  | some (.slice _), .ro _ (_ + 1), .nls => some false
  | some (.slice _), .ow .., .nls => some false
  | some (.slice _), .emp, .nls => some false
  | some (.pointer _), .ptr .., .npt => some false
  | some (.pointer _), .rop .., .npt => some false
  | some (.pointer _), .npt, .npt => some true
  | some (.interface _), .iface .., .nif => some false
  | some (.interface _), .nif, .iface .. => some false
  | some (.func ..), .nfn, .nfn => some true
  | some (.func ..), .fn .., .nfn => some false
  | _, _, _ => none
def binV (P : Program) (op : BinOp) (t : TypeId) (x y : PV) : Option PV :=
  match op, x, y with
  | .shl, .int k a, .int _ b => shOp .shl k a b
  | .shr, .int k a, .int _ b => shOp .shr k a b
  | op, .int k a, .int k' b => if k = k' then intOp op k a b else none
  | op, .str a, .str b => strOp op a b
  | .eql, x, y => (sameV P t x y).map PV.bool
  | .neq, x, y => (sameV P t x y).map fun b => .bool (!b)
  | _, _, _ => none
def unV (op : UnOp) (x : PV) : Option PV :=
  match op, x with
  | .not, .bool b => some (.bool (!b))
  | .neg, .int k n => some (.int k (k.wrap (0 - n)))
  | .xor, .int k n => some (.int k (k.wrap (BitVec.ofInt k.bits (if k.signed then -1 else k.max) ^^^ BitVec.ofInt k.bits n).toNat))
  | _, _ => none

/-! ### Memory -/
/-- The cells from a pointer on. -/
def behind (h : AH) : PV → Option (List PV)
  | .rop c => some c
  | .ptr id tot off => match h.get id with
    | some (.cells _ _ _ c) => if c.length = tot then some (c.drop off) else none
    | _ => none
  | _ => none
/-- A value of a type out of cells. -/
def readC (P : Program) (t : TypeId) (c : List PV) : Option PV :=
  match tyAgg P t, tySz P t with
  | some true, some n => if n ≤ c.length then some (.agg (c.take n)) else none
  | some false, some _ => c.head?
  | _, _ => none
/-- The cells of a slice, and how many elements. -/
def cellsOf (h : AH) (sz : Nat) : PV → Option (List PV × Nat)
  | .nls => some ([], 0)
  | .els => some ([], 0)
  | .emp => some ([], 0)
  | .ro c n => if c.length = n * sz then some (c, n) else none
  | .ow id tot off n => match h.get id with
    | some (.cells _ s _ c) => if c.length = tot ∧ s = sz ∧ off + n * sz ≤ tot then some ((c.drop off).take (n * sz), n) else none
    | _ => none
  | .str l => if sz = 1 then some (l.map fun b => .int .u8 b.toNat, l.length) else none
  | _ => none
/-- Cells laid into cells, from a place on. -/
def splice {α : Type} (c : List α) (off : Nat) (v : List α) : List α := c.take off ++ v ++ c.drop (off + v.length)
def fillC (place : Nat → Option (Nat × Nat)) (c : List PV) : List (Nat × PV) → Option (List PV)
  | [] => some c
  | (i, v) :: rest => match place i with
    | some (off, size) => if v.cells.length = size ∧ off + size ≤ c.length ∧ v.goes = true then fillC place (splice c off v.cells) rest else none
    | none => none

/-- Is every number in a value still as it says? (What is gone says nothing.) -/
def liveB (h : AH) : PV → Bool
  | .ptr id tot _ => match h.get id with
    | some (.cells _ _ _ c) => c.length = tot
    | _ => false
  | .ow id tot _ _ => match h.get id with
    | some (.cells _ _ _ c) => c.length = tot
    | _ => false
  | _ => true
/-- The size of a slice's elements is the row's. -/
def sizeB (P : Program) (h : AH) (t : TypeId) : PV → Bool
  | .ow id _ _ _ => match h.get id, P.underlying t with
    | some (.cells _ s _ _), some (.slice e) => tySz P e = some s
    | _, _ => false
  | _ => true

/-- What is called: a function, or the body of a range over a function. -/
inductive Tgt where
  | fn (k : FuncId)
  | yl (id : Nat)
/-- What an operation comes to: a value; a value and one number's reading; a call; a panic; a call put off. -/
inductive OR where
  | q (v : PV)
  | w (v : PV) (id : Nat) (o : AO)
  | call (t : Tgt) (args : List PV)
  | pan (v : PV)
  | dfr (k : FuncId) (args : List PV)

def lenV (P : Program) (t : TypeId) (x : PV) : Option PV :=
  match P.underlying t, x with
  | some .string, .str l => some (.int .i64 l.length)
  | some (.slice _), .nls => some (.int .i64 0)
  | some (.slice _), .els => some (.int .i64 0)
  | some (.slice _), .emp => some (.int .i64 0)
  | some (.slice _), .ro _ n => some (.int .i64 n)
  | some (.slice _), .ow _ _ _ n => some (.int .i64 n)
  | some (.array n _), _ => some (.int .i64 n)
  | _, _ => none

def appendV (P : Program) (h : AH) (fresh : Nat) (t : TypeId) (s x : PV) : Option OR :=
  match P.underlying t with
  | some (.slice e) =>
    match P.info? e with
    | some i =>
      match i.zero, cellsOf h i.size x with
      | some z, some (xs, n) =>
        if i.size = 0 ∨ z.cells.size ≠ i.size then none else
        match s with
        | .els => if n = 0 then some (.q .els) else if n * i.bytes ≤ 2 ^ 47 ∧ n ≤ 2 ^ 47 then some (.w (.ow fresh (n * i.size) 0 n) fresh (.cells e i.size false xs)) else none
        | .nls => if n = 0 then some (.q .nls) else if n * i.bytes ≤ 2 ^ 47 ∧ n ≤ 2 ^ 47 then some (.w (.ow fresh (n * i.size) 0 n) fresh (.cells e i.size false xs)) else none
        | .ow id tot off m =>
          match h.get id with
          | some (.cells E sz fz c) =>
            if c.length ≠ tot then none else
            if n = 0 then some (.q s) else
            if fz = false ∧ E = e ∧ sz = i.size ∧ off = 0 ∧ m * i.size = tot ∧ (m + n) * i.bytes ≤ 2 ^ 47 ∧ m + n ≤ 2 ^ 47 then
              some (.w (.ow id (tot + n * i.size) 0 (m + n)) id (.cells e sz false (c ++ xs)))
            else none
          | _ => none
        | _ => none
      | _, _ => none
    | none => none
  | _ => none

def bound (x : PV) (hi : Nat) : Option Nat :=
  match x with
  | .int _ i => if 0 ≤ i ∧ i ≤ hi then some i.toNat else none
  | _ => none
def boundD (x : Option PV) (d hi : Nat) : Option Nat :=
  match x with
  | some v => bound v hi
  | none => some d
def sliceV (P : Program) (t : TypeId) (x : PV) (lo hi mx : Option PV) : Option PV :=
  match P.underlying t, mx with
  | some .string, none => match x with
    | .str s => (boundD hi s.length s.length).bind fun h => (boundD lo 0 h).bind fun l => some (.str ((s.drop l).take (h - l)))
    | _ => none
  | some (.slice e), none => match tySz P e, x with
    | some sz, .ro c n => if c.length = n * sz then (boundD hi n n).bind fun h => (boundD lo 0 h).bind fun l => if l = h then some (.ro [] 0) else some (.ro ((c.drop (l * sz)).take ((h - l) * sz)) (h - l)) else none
    | some sz, .ow id tot off n => (boundD hi n n).bind fun h => (boundD lo 0 h).bind fun l => if l = h then some (.ro [] 0) else some (.ow id tot (off + l * sz) (h - l))
    | some _, .nls => (boundD hi 0 0).bind fun h => (boundD lo 0 h).bind fun _ => some .nls
    | some _, .els => (boundD hi 0 0).bind fun h => (boundD lo 0 h).bind fun _ => some .els
    | _, _ => none
  | some (.slice e), some (.int _ 0) => match tySz P e, x with
    | some _, .ro _ _ | some _, .ow .. | some _, .nls | some _, .els => (boundD hi 1 0).bind fun h => if h = 0 then (boundD lo 0 0).bind fun _ => some .els else none
    | _, _ => none
  | _, _ => none

def idxAddr (P : Program) (t : TypeId) (x i : PV) : Option PV :=
  match i with
  | .int _ i =>
    match P.underlying t with
    | some (.slice e) => match tySz P e, x with
      | some sz, .ro c n => if 0 ≤ i ∧ i < n then some (.rop (c.drop (i.toNat * sz))) else none
      | some sz, .ow id tot off n => if 0 ≤ i ∧ i < n then some (.ptr id tot (off + i.toNat * sz)) else none
      | _, _ => none
    | some (.array n e) => match tySz P e, x with
      | some sz, .rop c => if 0 ≤ i ∧ i < n then some (.rop (c.drop (i.toNat * sz))) else none
      | some sz, .ptr id tot off => if 0 ≤ i ∧ i < n then some (.ptr id tot (off + i.toNat * sz)) else none
      | _, _ => none
    | _ => none
  | _ => none
def fldAddr (P : Program) (t : TypeId) (x : PV) (k : Nat) : Option PV :=
  match P.underlying t with
  | some (.struct fs) => match fs[k]? with
    | some f => match tySz P f.type with
      | some (_ + 1) => match x with
        | .rop c => some (.rop (c.drop f.offset))
        | .ptr id tot off => some (.ptr id tot (off + f.offset))
        | _ => none
      | _ => none
    | none => none
  | _ => none
def fldV (P : Program) (t : TypeId) (x : PV) (k : Nat) : Option PV :=
  match P.underlying t, x with
  | some (.struct fs), .agg c => match fs[k]? with
    | some f => readC P f.type (c.drop f.offset)
    | none => none
  | _, _ => none
def idxV (P : Program) (t : TypeId) (x i : PV) : Option PV :=
  match P.underlying t, x, i with
  | some .string, .str s, .int _ i => if 0 ≤ i then (s[i.toNat]?).map fun b => .int .u8 b.toNat else none
  | some (.array n e), .agg c, .int _ i => if 0 ≤ i ∧ i < n then (tySz P e).bind fun sz => readC P e (c.drop (i.toNat * sz)) else none
  | _, _, _ => none

def convV (P : Program) (h : AH) (fresh : Nat) (s d : TypeId) (x : PV) : Option OR :=
  match P.underlying s, P.underlying d with
  | some _, some (.int k) => match x with
    | .int _ n => some (.q (.int k (k.wrap n)))
    | _ => none
  | some su, some .string => match x with
    | .int _ n => some (.q (.str (Utf8.encode n).data.toList))
    | .str l => some (.q (.str l))
    | _ => match su with
      | .slice e => match P.underlying e, cellsOf h 1 x with
        | some (.int .u8), some (c, _) =>
          if c.all (fun | .int .u8 _ => true | _ => false) then some (.q (.str (c.map fun | .int _ n => UInt8.ofNat n.toNat | _ => 0))) else none
        | _, _ => none
      | _ => none
  | some .string, some (.slice e) => match P.underlying e, x with
    | some (.int .u8), .str l => some (.w (.ow fresh l.length 0 l.length) fresh (.cells e 1 false (l.map fun b => .int .u8 b.toNat)))
    | _, _ => none
  | some (.pointer e), some .unsafePointer => match x with
    | .ptr id tot off => match h.get id with
      | some (.cells _ _ _ c) => if c.length = tot ∧ off < tot ∧ bigB P e then some (.q x) else none
      | _ => none
    | _ => none
  | some .unsafePointer, some (.pointer e) => match x with
    | .ptr id tot 0 => match h.get id with
      | some (.cells E _ _ c) => if c.length = tot ∧ E = e ∧ tySz P e = some tot ∧ 0 < tot then some (.q x) else none
      | _ => none
    | _ => none
  | _, _ => none

def makeSliceV (P : Program) (fresh : Nat) (t : TypeId) (l c : PV) : Option OR :=
  match P.underlying t, l, c with
  | some (.slice e), .int _ l, .int _ c =>
    match P.info? e, tyZero P e with
    | some i, some z =>
      if 0 ≤ l ∧ l ≤ c ∧ c ≤ 2 ^ 40 ∧ c * i.bytes ≤ 2 ^ 40 ∧ z.length = i.size ∧ 0 < i.size then
        if c = 0 then some (.w .els fresh (.cells e i.size false [])) else some (.w (.ow fresh (l.toNat * i.size) 0 l.toNat) fresh (.cells e i.size false (List.replicate l.toNat z).flatten))
      else none
    | _, _ => none
  | _, _, _ => none

def callV (args : List PV) : PV → Option OR
  | .fn (.func k) first captured => some (.call (.fn k) (first ++ args ++ captured))
  | .yld id => some (.call (.yl id) args)
  | _ => none
def deferV (args : List PV) : PV → Option OR
  | .fn (.func k) first captured => some (.dfr k (first ++ args ++ captured))
  | _ => none
/-- A type's zero value. -/
def zeroV (P : Program) (t : TypeId) : Option PV := ((P.info? t).bind (·.zero)).map ofVal
def assertV (P : Program) (d : TypeId) (ok : Bool) (x : PV) : Option PV :=
  match P.underlying d with
  | some (.interface _) | none => none
  | some _ => match x with
    | .iface t v => if t = d then some (if ok then .tup [v, .bool true] else v) else if ok then (zeroV P d).map fun z => .tup [z, .bool false] else none
    | .nif => if ok then (zeroV P d).map fun z => .tup [z, .bool false] else none
    | _ => none
def byteC : PV → Bool
  | .int .u8 _ => true
  | _ => false
def byteR : PV → Bool
  | .int .u8 n => decide (0 ≤ n ∧ n < 256)
  | _ => false
def toB : PV → UInt8
  | .int _ n => UInt8.ofNat n.toNat
  | _ => 0
/-- A string over a row's bytes: the row is read-only from then on. -/
def unsafeStrV (P : Program) (h : AH) (pt : TypeId) (p : PV) (n : Int) : Option OR :=
  if n = 0 then (match p with
    | .npt | .anyp | .ptr .. => some (.q (.str []))
    | _ => none)
  else match p, P.underlying pt with
    | .ptr id tot 0, some (.pointer e) => match h.get id with
      | some (.cells E sz _ c) => if 0 < n ∧ n ≤ 9223372036854775807 ∧ E = e ∧ sz = 1 ∧ tySz P e = some 1 ∧ c.length = tot ∧ n.toNat ≤ tot ∧ (c.take n.toNat).all byteR then some (.w (.str ((c.take n.toNat).map toB)) id (.cells E sz true c)) else none
      | _ => none
    | _, _ => none
def clearV (P : Program) (h : AH) (t : TypeId) (x : PV) : Option OR :=
  match P.underlying t, x with
  | some (.slice _), .nls => some (.q (.tup []))
  | some (.slice _), .els => some (.q (.tup []))
  | some (.slice _), .ro [] 0 => some (.q (.tup []))
  | some (.slice e), .ow id tot off n => match h.get id, tyZero P e with
    | some (.cells E sz fz c), some z => if n = 0 then some (.q (.tup [])) else if fz = false ∧ sz = z.length ∧ c.length = tot ∧ off + n * sz ≤ tot ∧ 0 < sz then
        some (.w (.tup []) id (.cells E sz false (splice c off (List.replicate n z).flatten))) else none
    | _, _ => none
  | _, _ => none

/-- One operation: 'fresh' is the number of what it makes. -/
def aop (P : Program) (ρ : Operand → PV) (h : AH) (fresh : Nat) (o : Oper) : Option OR :=
  match o.op with
  | .move x | .assign x => some (.q (ρ x))
  | .pick c a b => match ρ c with
    | .bool c => some (.q (if c then ρ a else ρ b))
    | _ => none
  | .alloc t => match tyZero P t with
    | some z => some (.w (.ptr fresh z.length 0) fresh (.cells t 0 false z))
    | none => none
  | .box t x => if (ρ x).goes then some (.w (.ptr fresh (ρ x).cells.length 0) fresh (.cells t 0 false (ρ x).cells)) else none
  | .load t a => match behind h (ρ a) with
    | some c => (readC P t c).map OR.q
    | none => none
  | .store t a x => match ρ a, tySz P t with
    | .ptr id tot off, some n => match h.get id with
      | some (.cells E sz fz c) =>
        if fz = false ∧ c.length = tot ∧ (ρ x).goes = true ∧ (ρ x).cells.length = n ∧ off + n ≤ tot then
          some (.w .undef id (.cells E sz false (splice c off (ρ x).cells))) else none
      | _ => none
    | _, _ => none
  | .fieldAddr t x k => if liveB h (ρ x) then (fldAddr P t (ρ x) k).map OR.q else none
  | .indexAddr t x i => if liveB h (ρ x) then (idxAddr P t (ρ x) (ρ i)).map OR.q else none
  | .field t x k => (fldV P t (ρ x) k).map OR.q
  | .index t x i => (idxV P t (ρ x) (ρ i)).map OR.q
  | .extract t i => match ρ t with
    | .tup vs => (vs[i]?).map OR.q
    | _ => none
  | .nilCheck x => match ρ x with
    | .ptr id tot off => match h.get id with
      | some (.cells _ _ _ c) => if c.length = tot then some (.q (.ptr id tot off)) else none
      | _ => none
    | .rop c => some (.q (.rop c))
    | .fn (.func k) a b => some (.q (.fn (.func k) a b))
    | _ => none
  | .binOp op t x y _ => if liveB h (ρ x) && liveB h (ρ y) then (binV P op t (ρ x) (ρ y)).map OR.q else none
  | .unOp op _ x => (unV op (ρ x)).map OR.q
  | .convert s d x => convV P h fresh s d (ρ x)
  | .makeInterface t x => match P.underlying t with
    | some (.interface _) => none
    | some _ => some (.q (.iface t (ρ x)))
    | none => none
  | .makeFunc (.func k) first captured => some (.q (.fn (.func k) (first.toList.map ρ) (captured.toList.map ρ)))
  | .build t parts => match P.underlying t, tyZero P t with
    | some (.struct fs), some z =>
      if fs.toList.all (fun fd => (tySz P fd.type).isSome) then
        (fillC (fun i => (fs[i]?).bind fun fd => (tySz P fd.type).map fun n => (fd.offset, n)) z (parts.toList.map fun (i, x) => (i, ρ x))).map fun c => .q (.agg c)
      else none
    | some (.array _ e), some z => match tySz P e with
      | some n => (fillC (fun i => some (i * n, n)) z (parts.toList.map fun (i, x) => (i, ρ x))).map fun c => .q (.agg c)
      | none => none
    | _, _ => none
  | .buildSlice t len parts => match P.underlying t with
    | some (.slice e) => match tySz P e, tyZero P e with
      | some n, some z =>
        if z.length = n ∧ 0 < n ∧ len * n ≤ 2 ^ 24 then
          (fillC (fun i => some (i * n, n)) (List.replicate len z).flatten (parts.toList.map fun (i, x) => (i, ρ x))).map fun c =>
            .w (if len = 0 then .els else .ow fresh (len * n) 0 len) fresh (.cells e n false c)
        else none
      | _, _ => none
    | _ => none
  | .makeSlice t l c => makeSliceV P fresh t (ρ l) (ρ c)
  | .slice t x lo hi mx => if liveB h (ρ x) && sizeB P h t (ρ x) then (sliceV P t (ρ x) (lo.map ρ) (hi.map ρ) (mx.map ρ)).map OR.q else none
  | .range t x => match P.underlying t, ρ x with
    | some .string, .str l => some (.w (.iter fresh) fresh (.siter l 0))
    | _, _ => none
  | .next it true => match ρ it with
    | .iter id => match h.get id with
      | some (.siter s pos) =>
        if pos < s.length then
          some (.w (.tup [.bool true, .int .i64 pos, .int .i32 (Utf8.decode ⟨s.toArray⟩ pos).1]) id (.siter s (pos + (Utf8.decode ⟨s.toArray⟩ pos).2)))
        else some (.q (.tup [.bool false]))
      | _ => none
    | _ => none
  | .call { callee := .builtin b, args, argTypes } =>
    match b, args.toList.map ρ, argTypes.toList with
    | .len, [x], [t] => (lenV P t x).map OR.q
    | .append, [s, x], [t, u] => match P.underlying u with
      | some .string | some (.slice _) => appendV P h fresh t s x
      | _ => none
    | .min, [.int k x, .int _ y], _ => some (.q (.int k (if y < x then y else x)))
    | .max, [.int k x, .int _ y], _ => some (.q (.int k (if y > x then y else x)))
    | .unsafeSliceData, [.nls], _ => some (.q .npt)
    | .unsafeSliceData, [.ow id tot off n], _ => match h.get id with
      | some (.cells _ _ _ c) => if c.length = tot ∧ 0 < n then some (.q (.ptr id tot off)) else none
      | _ => none
    | .unsafeString, [p, .int .i64 n], [pt, _] => unsafeStrV P h pt p n
    | .clear, [x], [t] => clearV P h t x
    | _, _, _ => none
  | .call { callee := .value c, args, .. } => callV (args.toList.map ρ) (ρ c)
  | .defer { callee := .value c, args, .. } => deferV (args.toList.map ρ) (ρ c)
  | .typeAssert x _ d ok => (assertV P d ok (ρ x)).map OR.q
  | .panic x => match ρ x with
    | .iface t v => some (.pan (.iface t v))
    | _ => none
  | _ => none

end Go.Ac
