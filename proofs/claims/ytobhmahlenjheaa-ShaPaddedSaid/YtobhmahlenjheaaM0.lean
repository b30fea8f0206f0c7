/- The abstract machine: a deterministic evaluator of the model's code over an abstract heap in which slices have no capacity, blocks no real number, and nothing is drawn. Definitions only. -/
import Derived.Orders
import Derived.Below
import Derived.Scope
namespace Go.Proofs.YtobhmahlenjheaaM
open Go

/-! ### Values -/
inductive AV where
  | int (k : IntKind) (n : Int)
  | bool (b : Bool)
  | str (l : List UInt8)
  | val (v : Value)
  | ptr (id off : Nat)
  | sl (id off len esz : Nat)
  | map (id : Nat)
  | iface (t : TypeId) (x : AV)
  | agg (xs : List AV)
  | tup (xs : List AV)
  | func (fn : Fn) (first captured : List AV)
  | any
  deriving Inhabited

def AV.undef : AV := .tup []

def ofCell : Value → AV
  | .int k n => .int k n
  | .bool b => .bool b
  | .string s => .str s.data.toList
  | v => .val v

def ofValue : Value → AV
  | .agg cs => .agg (cs.toList.map ofCell)
  | .tuple vs => .tup (vs.toList.map ofCell)
  | v => ofCell v

/-- Is it a value that one cell may hold? -/
def AV.one : AV → Bool
  | .agg _ | .tup _ | .any => false
  | .val (.agg _) | .val (.tuple _) => false
  | _ => true

def AV.cells : AV → Option (List AV)
  | .agg xs => some xs
  | x => if x.one then some [x] else none

/-! ### The heap -/
inductive AO where
  | cells (c : List AV) (own : Bool) (fz : Nat) (ty : Option (TypeId × Bool))
  | map (es : List (AV × AV × Nat)) (clock : Nat)
  | siter (s : List UInt8) (pos : Nat)
  | dead
  | gvar (g : Nat) (c : List AV)
  deriving Inhabited

/-- Blocks by their numbers, the newest first; none: not to be seen from here. -/
structure AH where
  n : Nat
  l : List (Option AO)

def AH.get (h : AH) (id : Nat) : Option AO := if id < h.n then (h.l[h.n - 1 - id]?).join else none
def AH.push (h : AH) (o : AO) : AH := ⟨h.n + 1, some o :: h.l⟩
def AH.set (h : AH) (id : Nat) (o : AO) : AH := if id < h.n then ⟨h.n, h.l.set (h.n - 1 - id) (some o)⟩ else h

def splice (c : List AV) (off : Nat) (xs : List AV) : List AV := c.take off ++ (xs ++ c.drop (off + xs.length))
def zrow (zs : List AV) : Nat → List AV
  | 0 => []
  | n + 1 => zs ++ zrow zs n

/-! ### Types -/
def szOf (P : Program) (t : TypeId) : Option Nat := (P.info? t).map (·.size)
def isAg (P : Program) (t : TypeId) : Option Bool := (P.underlying t).map fun d => match d with | .struct _ => true | .array _ _ => true | _ => false
def zeroOf (P : Program) (t : TypeId) : Option AV := ((P.info? t).bind (·.zero)).map ofValue
def fieldsOf (P : Program) (t : TypeId) : Option (List Field) :=
  match P.underlying t with
  | some (.struct fs) => some fs.toList
  | _ => none
def sliceElem (P : Program) (t : TypeId) : Option TypeId :=
  match P.underlying t with
  | some (.slice e) => some e
  | _ => none

def apart (P : Program) (t : TypeId) (cs : List AV) (off : Nat) : Option AV :=
  match isAg P t with
  | some true => match szOf P t with
    | some n => if off + n ≤ cs.length then some (.agg ((cs.drop off).take n)) else none
    | none => none
  | some false => cs[off]?
  | none => none

/-! ### Memory -/
/-- A load of a package variable: its contents stand at its own number. -/
def agload (P : Program) (t : TypeId) (g off : Nat) (h : AH) : Option AV :=
  match h.get g with
  | some (.gvar g' c) => if g' = g then apart P t c off else none
  | _ => none
def aload (P : Program) (t : TypeId) (x : AV) (h : AH) : Option AV :=
  match x with
  | .ptr id off => match h.get id with
    | some (.cells c _ _ _) => apart P t c off
    | _ => none
  | .val (.pointer (some ⟨g, off, none⟩)) => agload P t g off h
  | _ => none

def astore (P : Program) (t : TypeId) (x v : AV) (h : AH) : Option AH :=
  match x with
  | .ptr id off => match h.get id with
    | some (.cells c true fz ty) => match v.cells, szOf P t with
      | some xs, some n => if xs.length = n ∧ fz ≤ off ∧ off + n ≤ c.length ∧ xs.all AV.one then some (h.set id (.cells (splice c off xs) true fz ty)) else none
      | _, _ => none
    | _ => none
  | _ => none

/-- A new block of the machine's own, and a pointer to its first cell. -/
def anew (t : TypeId) (cells : List AV) (h : AH) : AV × AH := (.ptr h.n 0, h.push (.cells cells true 0 (some (t, true))))

/-- So many elements of a slice, as cells. -/
def acells (x : AV) (esz n : Nat) (h : AH) : Option (List AV) :=
  match x with
  | .val (.slice none _ _) => if n = 0 then some [] else none
  | .sl id off len sz => if sz = esz ∧ n ≤ len then
      if n = 0 then some [] else
      match h.get id with
      | some (.cells c _ _ _) => if off + n * esz ≤ c.length then some ((c.drop off).take (n * esz)) else none
      | _ => none
    else none
  | .str l => if n ≤ l.length ∧ esz = 1 then some ((l.take n).map fun b => .int .u8 b.toNat) else none
  | _ => none

def alen : AV → Option Nat
  | .val (.slice none 0 _) => some 0
  | .sl _ _ len _ => some len
  | .str l => some l.length
  | _ => none

def abytes : List AV → Option (List UInt8)
  | [] => some []
  | .int .u8 n :: r => (abytes r).map fun l => UInt8.ofNat n.toNat :: l
  | _ :: _ => none

def sizeCap : Nat := 1099511627776

/-- The type of a row that more is appended to. -/
def tyApp (e : TypeId) (ty : Option (TypeId × Bool)) : Option (TypeId × Bool) :=
  match ty with
  | some (t, _) => if t = e then some (e, false) else none
  | none => none

/-- n elements, as cells xs, behind a slice. -/
def aappendAt (e : TypeId) (sz n : Nat) (xs : List AV) (s : AV) (h : AH) : Option (AV × AH) :=
  match s with
  | .val (.slice none 0 0) => if n = 0 then some (.val (.slice none 0 0), h) else some (.sl h.n 0 n sz, h.push (.cells xs true 0 (some (e, false))))
  | .sl id off len sz' =>
    if n = 0 then some (.sl id off len sz', h) else
    match h.get id with
    | some (.cells c true fz ty) =>
      if sz' = sz ∧ off + len * sz ≤ c.length ∧ fz ≤ off + len * sz ∧ xs.all AV.one = true then
        some (.sl h.n 0 (len + n) sz, (h.set id .dead).push (.cells ((c.drop off).take (len * sz) ++ xs) true (fz - off) (tyApp e ty)))
      else none
    | _ => none
  | _ => none

def aroom (i : TypeInfo) (need : Nat) : Bool :=
  need * (i.bytes + 1) ≤ sizeCap && 0 < i.size && i.zero.map (·.cells.size) == some i.size

def notInt : TypeDesc → Bool
  | .slice _ => true
  | .string => true
  | _ => false

def aappend (P : Program) (argTypes : Array TypeId) (args : List AV) (h : AH) : Option (AV × AH) :=
  match argTypes[0]?, argTypes[1]?, args with
  | some st, some xt, [s, x] =>
    match sliceElem P st, (P.underlying xt).map notInt with
    | some e, some true => match P.info? e, alen x, alen s with
      | some i, some n, some len => match aroom i (len + n), acells x i.size n h with
        | true, some xs => aappendAt e i.size n xs s h
        | _, _ => none
      | _, _, _ => none
    | _, _ => none
  | _, _, _ => none

def acopy (P : Program) (argTypes : Array TypeId) (args : List AV) (h : AH) : Option (AV × AH) :=
  match argTypes[0]?, args with
  | some dt, [d, x] =>
    match sliceElem P dt with
    | some e => match P.info? e, alen d, alen x with
      | some i, some m, some n =>
        match acells x i.size (min n m) h with
        | none => none
        | some xs =>
          if xs = [] then (match d with | .val (.slice none 0 0) => some (.int .i64 0, h) | .sl _ _ _ _ => some (.int .i64 (min n m : Nat), h) | _ => none) else
          match d with
          | .sl id off _ sz => match h.get id with
            | some (.cells c true fz ty) => if sz = i.size ∧ off + xs.length ≤ c.length ∧ fz ≤ off ∧ xs.all AV.one then
                some (.int .i64 (min n m : Nat), h.set id (.cells (splice c off xs) true fz ty)) else none
            | _ => none
          | _ => none
      | _, _, _ => none
    | none => none
  | _, _ => none

/-! ### Aggregates -/
def afill (cells : List AV) : List (Nat × Nat × List AV) → Option (List AV)
  | [] => some cells
  | (off, size, xs) :: rest => if xs.length = size ∧ off + size ≤ cells.length then afill (splice cells off xs) rest else none

def placesOf (P : Program) : List Field → Option (List (Nat × Nat))
  | [] => some []
  | f :: fs => match szOf P f.type, placesOf P fs with
    | some s, some r => some ((f.offset, s) :: r)
    | _, _ => none

/-- The parts of a composite, each with where it goes and its size. -/
def partsAt (place : Nat → Option (Nat × Nat)) : List (Nat × AV) → Option (List (Nat × Nat × List AV))
  | [] => some []
  | (i, x) :: rest => match place i, x.cells, partsAt place rest with
    | some (off, size), some xs, some r => some ((off, size, xs) :: r)
    | _, _, _ => none

def abuild (P : Program) (t : TypeId) (parts : List (Nat × AV)) : Option AV :=
  match zeroOf P t with
  | some z => match z.cells, P.underlying t with
    | some zero, some (.struct fs) => match placesOf P fs.toList with
      | some pl => match partsAt (fun i => pl[i]?) parts with
        | some ps => (afill zero ps).map .agg
        | none => none
      | none => none
    | some zero, some (.array _ e) => match szOf P e with
      | some size => match partsAt (fun i => some (i * size, size)) parts with
        | some ps => (afill zero ps).map .agg
        | none => none
      | none => none
    | _, _ => none
  | none => none

def abuildSlice (P : Program) (t : TypeId) (len : Nat) (parts : List (Nat × AV)) (h : AH) : Option (AV × AH) :=
  match sliceElem P t with
  | some e => match szOf P e with
    | some size =>
      if size = 0 ∨ 16777216 < len * size then none else
      match (if len = 0 then some (.agg []) else zeroOf P e) with
      | some z => match z.cells, partsAt (fun i => some (i * size, size)) parts with
        | some zs, some ps => if len ≠ 0 ∧ zs.length ≠ size then none else match afill (zrow zs len) ps with
          | some cells => some (.sl h.n 0 len size, h.push (.cells cells true 0 (some (e, false))))
          | none => none
        | _, _ => none
      | none => none
    | none => none
  | none => none

def amakeSlice (P : Program) (t : TypeId) (l c : AV) (h : AH) : Option (AV × AH) :=
  match sliceElem P t, l, c with
  | some e, .int _ len, .int _ cap =>
    match P.info? e, zeroOf P e with
    | some i, some z => match z.cells with
      | some zs => if 0 ≤ len ∧ len ≤ cap ∧ cap * ((i.bytes : Int) + 1) ≤ sizeCap ∧ zs.length = i.size ∧ 0 < i.size then
          some (.sl h.n 0 len.toNat i.size, h.push (.cells (zrow zs len.toNat) true 0 (some (e, false)))) else none
      | none => none
    | _, _ => none
  | _, _, _ => none

/-- A bound of a slice expression. -/
def abound (dflt : Nat) : Option AV → Option Nat
  | none => some dflt
  | some (.int _ n) => if 0 ≤ n then some n.toNat else none
  | _ => none

def aslice (P : Program) (t : TypeId) (x : AV) (lo hi mx : Option AV) (h : AH) : Option AV :=
  match mx with
  | some _ => none
  | none =>
    match P.underlying t, x with
    | some .string, .str l => match abound 0 lo, abound l.length hi with
      | some a, some b => if a ≤ b ∧ b ≤ l.length then some (.str ((l.take b).drop a)) else none
      | _, _ => none
    | some (.slice e), .sl id off len sz => match szOf P e, abound 0 lo, abound len hi with
      | some s, some a, some b => if s = sz ∧ a ≤ b ∧ b ≤ len then some (.sl id (off + a * sz) (b - a) sz) else none
      | _, _, _ => none
    | some (.slice e), .val (.slice none 0 0) => match szOf P e, abound 0 lo, abound 0 hi with
      | some _, some 0, some 0 => some (.val (.slice none 0 0))
      | _, _, _ => none
    | some (.array n e), .ptr id off => match szOf P e, abound 0 lo, abound n hi, h.get id with
      | some s, some a, some b, some (.cells c _ _ _) => if 0 < s ∧ a ≤ b ∧ b ≤ n ∧ off + n * s ≤ c.length then some (.sl id (off + a * s) (b - a) s) else none
      | _, _, _, _ => none
    | _, _ => none

def afieldAddr (P : Program) (s : TypeId) (x : AV) (f : Nat) : Option AV :=
  match fieldsOf P s, x with
  | some fs, .ptr id off => match fs[f]? with
    | some fd => match szOf P fd.type with
      | some n => if n = 0 then none else some (.ptr id (off + fd.offset))
      | none => none
    | none => none
  | some fs, .val (.pointer (some ⟨g, off, none⟩)) => match fs[f]? with
    | some fd => match szOf P fd.type with
      | some n => if n = 0 then none else some (.val (.pointer (some ⟨g, off + fd.offset, none⟩)))
      | none => none
    | none => none
  | _, _ => none

def afield (P : Program) (t : TypeId) (x : AV) (f : Nat) : Option AV :=
  match fieldsOf P t, x with
  | some fs, .agg cs => match fs[f]? with
    | some fd => apart P fd.type cs fd.offset
    | none => none
  | _, _ => none

def aindexAddr (P : Program) (t : TypeId) (x i : AV) : Option AV :=
  match P.underlying t, x, i with
  | some (.array len e), .ptr id off, .int _ n => match szOf P e with
    | some s => if 0 ≤ n ∧ n < len then some (.ptr id (off + n.toNat * s)) else none
    | none => none
  | some (.array len e), .val (.pointer (some ⟨g, off, none⟩)), .int _ n => match szOf P e with
    | some s => if 0 ≤ n ∧ n < len then some (.val (.pointer (some ⟨g, off + n.toNat * s, none⟩))) else none
    | none => none
  | some (.slice e), .sl id off len sz, .int _ n => match szOf P e with
    | some s => if s = sz ∧ 0 ≤ n ∧ n < len then some (.ptr id (off + n.toNat * s)) else none
    | none => none
  | _, _, _ => none

def aindex (P : Program) (t : TypeId) (x i : AV) : Option AV :=
  match P.underlying t, x, i with
  | some (.array len e), .agg cs, .int _ n => match szOf P e with
    | some s => if 0 ≤ n ∧ n < len then apart P e cs (n.toNat * s) else none
    | none => none
  | some .string, .str l, .int _ n => if 0 ≤ n then (l[n.toNat]?).map fun b => .int .u8 b.toNat else none
  | _, _, _ => none

/-! ### Operators -/
def aint (op : BinOp) (k : IntKind) (a b : Int) : Option AV :=
  match op with
  | .add => some (.int k (k.wrap (a + b)))
  | .sub => some (.int k (k.wrap (a - b)))
  | .mul => some (.int k (k.wrap (a * b)))
  | .quo => if b = 0 then none else some (.int k (k.wrap (a.tdiv b)))
  | .rem => if b = 0 then none else some (.int k (a.tmod b))
  | .and => some (.int k (k.wrap (BitVec.ofInt k.bits a &&& BitVec.ofInt k.bits b).toNat))
  | .or => some (.int k (k.wrap (BitVec.ofInt k.bits a ||| BitVec.ofInt k.bits b).toNat))
  | .xor => some (.int k (k.wrap (BitVec.ofInt k.bits a ^^^ BitVec.ofInt k.bits b).toNat))
  | .andNot => some (.int k (k.wrap (BitVec.ofInt k.bits a &&& ~~~BitVec.ofInt k.bits b).toNat))
  | .eql => some (.bool (a == b))
  | .neq => some (.bool (a != b))
  | .lss => some (.bool (decide (a < b)))
  | .leq => some (.bool (decide (a ≤ b)))
  | .gtr => some (.bool (decide (a > b)))
  | .geq => some (.bool (decide (a ≥ b)))
  | _ => none

def ashift (op : BinOp) (k : IntKind) (a b : Int) : Option AV :=
  if b < 0 then none else
  match op with
  | .shl => some (.int k (k.wrap (a * 2 ^ min b.toNat k.bits)))
  | .shr => some (.int k (a.fdiv (2 ^ min b.toNat k.bits)))
  | _ => none

def astrop (op : BinOp) (a b : List UInt8) : Option AV :=
  match op with
  | .add => if a.length + b.length ≤ sizeCap then some (.str (a ++ b)) else none
  | .eql => some (.bool (a == b))
  | .neq => some (.bool (!(a == b)))
  | .lss => some (.bool (Op.bytesLess a b))
  | .leq => some (.bool (Op.bytesLess a b || a == b))
  | .gtr => some (.bool (!(Op.bytesLess a b || a == b)))
  | .geq => some (.bool (!Op.bytesLess a b))
  | _ => none

/-- Two cells that are compared by what they say. -/
def aeqCell (t : Option TypeDesc) (x y : AV) : Option Bool :=
  match t, x, y with
  | some .bool, .bool a, .bool b => some (a == b)
  | some (.int _), .int k a, .int k' b => if k = k' then some (a == b) else none
  | some .string, .str a, .str b => some (a == b)
  | some (.pointer _), .val (.pointer none), .val (.pointer none) => some true
  | some (.pointer _), .val (.pointer none), .ptr _ _ => some false
  | some (.pointer _), .ptr _ _, .val (.pointer none) => some false
  | some (.interface _), .val .nilIface, .val .nilIface => some true
  | some (.interface _), .val .nilIface, .iface _ _ => some false
  | some (.interface _), .iface _ _, .val .nilIface => some false
  | some (.slice _), .val (.slice none _ _), .val (.slice none _ _) => some true
  | some (.slice _), .val (.slice none _ _), .sl _ _ _ _ => some false
  | some (.slice _), .sl _ _ _ _, .val (.slice none _ _) => some false
  | some (.map _ _), .val (.map none), .val (.map none) => some true
  | some (.map _ _), .val (.map none), .map _ => some false
  | some (.map _ _), .map _, .val (.map none) => some false
  | some (.func _ _ _), .val .nilFunc, .val .nilFunc => some true
  | some (.func _ _ _), .val .nilFunc, .func _ _ _ => some false
  | some (.func _ _ _), .func _ _ _, .val .nilFunc => some false
  | _, _, _ => none

def eqFields (P : Program) (eq : TypeId → AV → AV → Option Bool) : List Field → List AV → List AV → Option Bool
  | [], _, _ => some true
  | f :: fs, xs, ys =>
    if f.name = "_" then eqFields P eq fs xs ys else
    match apart P f.type xs f.offset, apart P f.type ys f.offset with
    | some a, some b => match eq f.type a b with
      | some true => eqFields P eq fs xs ys
      | some false => some false
      | none => none
    | _, _ => none

def eqElems (P : Program) (eq : TypeId → AV → AV → Option Bool) (e : TypeId) (s : Nat) (xs ys : List AV) : List Nat → Option Bool
  | [] => some true
  | i :: is => match apart P e xs (i * s), apart P e ys (i * s) with
    | some a, some b => match eq e a b with
      | some true => eqElems P eq e s xs ys is
      | some false => some false
      | none => none
    | _, _ => none

def aeq (P : Program) : Nat → TypeId → AV → AV → Option Bool
  | 0, _, _, _ => none
  | d + 1, t, x, y =>
    match P.underlying t, x, y with
    | some (.struct fs), .agg xs, .agg ys => if P.stoodInHeld t then none else eqFields P (aeq P d) fs.toList xs ys
    | some (.array n e), .agg xs, .agg ys => match szOf P e with
      | some s => eqElems P (aeq P d) e s xs ys (List.range n)
      | none => none
    | some (.pointer te), .ptr i o, .ptr j p => if i = j ∧ o = p ∧ (szOf P te).isSome = true then some true else none
    | u, x, y => aeqCell u x y

def isConst : Operand → Bool
  | .const _ => true
  | _ => false

/-- Values that == may be asked of, beside numbers and texts. -/
def eqForm : AV → Bool
  | .bool _ | .ptr _ _ | .sl _ _ _ _ | .map _ | .iface _ _ | .agg _ | .func _ _ _ => true
  | .val (.pointer none) | .val (.slice none _ _) | .val (.map none) | .val .nilFunc | .val .nilIface => true
  | _ => false

def isNilI : AV → Bool
  | .val .nilIface => true
  | _ => false

def isAggV : AV → Bool
  | .agg _ => true
  | _ => false

def aeqOp (P : Program) (op : BinOp) (t : TypeId) (xc yc : Bool) (x y : AV) : Option AV :=
  if op = .eql ∨ op = .neq then
    if eqForm x && eqForm y && (!(isNilI x && isNilI y) || xc || yc) && (!(isAggV x && isAggV y) || !P.eqGuardType P.depth t) then
      (aeq P 8 t x y).map fun b => .bool (if op = .eql then b else !b)
    else none
  else none

def abin (P : Program) (op : BinOp) (t : TypeId) (xc yc : Bool) (x y : AV) : Option AV :=
  match x, y with
  | .int k a, .int k' b =>
    if op = .shl ∨ op = .shr then ashift op k a b else if k = k' then aint op k a b else none
  | .str a, .str b => astrop op a b
  | x, y => aeqOp P op t xc yc x y

def aun (op : UnOp) (x : AV) : Option AV :=
  match op, x with
  | .neg, .int k n => aint .sub k 0 n
  | .xor, .int k n => aint .xor k (if k.signed then -1 else k.max) n
  | .not, .bool b => some (.bool !b)
  | _, _ => none

def aconv (P : Program) (src dst : TypeId) (x : AV) (h : AH) : Option (AV × AH) :=
  match P.underlying src, P.underlying dst, x with
  | some _, some (.int k), .int _ n => some (.int k (k.wrap n), h)
  | some _, some .string, .int _ n => some (.str (Utf8.encode n).data.toList, h)
  | some _, some .string, .str l => some (.str l, h)
  | some _, some (.slice e), .str l => match P.underlying e with
    | some (.int .u8) => some (.sl h.n 0 l.length 1, h.push (.cells (l.map fun b => .int .u8 b.toNat) true 0 (some (e, false))))
    | _ => none
  | some (.slice e), some .string, x => match P.underlying e, alen x with
    | some (.int .u8), some n => match acells x 1 n h with
      | some cs => (abytes cs).map fun l => (.str l, h)
      | none => none
    | _, _ => none
  | some (.pointer t), some .unsafePointer, .ptr id off => match h.get id, szOf P t with
    | some (.cells c _ _ _), some n => if n ≠ 0 ∧ off < c.length then some (.ptr id off, h) else none
    | _, _ => none
  | some .unsafePointer, some (.pointer u), .ptr id off => match h.get id, szOf P u with
    | some (.cells c _ _ (some (e, true))), some _ => if liesAt P P.depth e (c.length / P.cellsOf e) off u 1 = true then some (.ptr id off, h) else none
    | _, _ => none
  | _, _, _ => none

def amaxminFrom (isMax : Bool) (k : IntKind) : Int → List AV → Option AV
  | a, [] => some (.int k a)
  | a, .int _ b :: rest => amaxminFrom isMax k (if isMax then (if b > a then b else a) else (if b < a then b else a)) rest
  | _, _ => none

def amaxmin (isMax : Bool) : List AV → Option AV
  | .int k a :: rest => amaxminFrom isMax k a rest
  | _ => none

/-! ### Maps, with keys that are numbers, texts or bools -/
def akey (d : Option TypeDesc) (x y : AV) : Option Bool :=
  match d, x, y with
  | some (.int _), .int k a, .int k' b => if k = k' then some (a == b) else none
  | some .string, .str a, .str b => some (a == b)
  | some .bool, .bool a, .bool b => some (a == b)
  | _, _, _ => none

def afind (d : Option TypeDesc) (k : AV) : List (AV × AV × Nat) → Nat → Option (Option (Nat × AV × Nat))
  | [], _ => some none
  | (k', v, b) :: es, i => match akey d k k' with
    | some true => some (some (i, v, b))
    | some false => afind d k es (i + 1)
    | none => none

/-- May a key of this type be asked for? -/
def akeyOk (d : Option TypeDesc) (k : AV) : Bool :=
  match d, k with
  | some (.int _), .int _ _ => true
  | some .string, .str _ => true
  | some .bool, .bool _ => true
  | _, _ => false

def mapOf (P : Program) (t : TypeId) : Option (TypeId × TypeId) :=
  match P.underlying t with
  | some (.map k e) => some (k, e)
  | _ => none

def amapGet (x : AV) (h : AH) : Option (List (AV × AV × Nat)) :=
  match x with
  | .val (.map none) => some []
  | .map id => match h.get id with
    | some (.map es _) => some es
    | _ => none
  | _ => none

def alookup (P : Program) (t : TypeId) (m k : AV) (ok : Bool) (h : AH) : Option AV :=
  match mapOf P t, amapGet m h with
  | some (kt, et), some es =>
    if akeyOk (P.underlying kt) k then
      match afind (P.underlying kt) k es 0 with
      | some (some (_, v, _)) => some (if ok then .tup [v, .bool true] else v)
      | some none => (zeroOf P et).map fun z => if ok then .tup [z, .bool false] else z
      | none => none
    else none
  | _, _ => none

def setEntry (es : List (AV × AV × Nat)) (i : Nat) (k v : AV) : List (AV × AV × Nat) :=
  match es[i]? with
  | some (_, _, b) => es.set i (k, v, b)
  | none => es

def amapUpdate (P : Program) (t : TypeId) (m k v : AV) (h : AH) : Option AH :=
  match mapOf P t, m with
  | some (kt, _), .map id => match h.get id with
    | some (.map es clock) =>
      if akeyOk (P.underlying kt) k then
        match afind (P.underlying kt) k es 0 with
        | some (some (i, _, _)) => some (h.set id (.map (setEntry es i k v) clock))
        | some none => some (h.set id (.map (es ++ [(k, v, clock)]) (clock + 1)))
        | none => none
      else none
    | _ => none
  | _, _ => none

def amapEntry (P : Program) (t : TypeId) (m k : AV) (h : AH) : Option (AV × AH) :=
  match mapOf P t, m with
  | some (kt, et), .map id => match h.get id with
    | some (.map es clock) =>
      if akeyOk (P.underlying kt) k then
        match afind (P.underlying kt) k es 0 with
        | some (some (i, v, b)) => some (.tup [v, .int .i64 b], h.set id (.map (setEntry es i k v) clock))
        | some none => match zeroOf P et with
          | some z => some (.tup [z, .int .i64 clock], h.set id (.map (es ++ [(k, z, clock)]) (clock + 1)))
          | none => none
        | none => none
      else none
    | _ => none
  | _, _ => none

def bornAt (s : Int) : List (AV × AV × Nat) → Nat → Option Nat
  | [], _ => none
  | (_, _, b) :: es, i => if ((b : Int) == s) = true then some i else bornAt s es (i + 1)

def aentryStore (m s v : AV) (h : AH) : Option AH :=
  match m, s with
  | .map id, .int _ n => match h.get id with
    | some (.map es clock) => match bornAt n es 0 with
      | some i => match es[i]? with
        | some (k, _, b) => some (h.set id (.map (es.set i (k, v, b)) clock))
        | none => none
      | none => none
    | _ => none
  | _, _ => none

def amaplen (m : AV) (h : AH) : Option Nat := (amapGet m h).map List.length

def alenOf (P : Program) (t : TypeId) (x : AV) (h : AH) : Option AV :=
  match P.underlying t, x with
  | some .string, .str l => some (.int .i64 l.length)
  | some (.array n _), _ => some (.int .i64 n)
  | some (.slice _), .sl _ _ n _ => some (.int .i64 n)
  | some (.slice _), .val (.slice none n _) => some (.int .i64 n)
  | some (.map _ _), m => (amaplen m h).map fun n => .int .i64 n
  | some (.pointer a), _ => match P.underlying a with
    | some (.array n _) => some (.int .i64 n)
    | _ => none
  | _, _ => none

/-! ### Iterators over texts -/
def arange (P : Program) (t : TypeId) (x : AV) (h : AH) : Option (AV × AH) :=
  match P.underlying t, x with
  | some .string, .str l => some (.ptr h.n 0, h.push (.siter l 0))
  | _, _ => none

def anext (it : AV) (isString : Bool) (h : AH) : Option (AV × AH) :=
  match it, isString with
  | .ptr id 0, true => match h.get id with
    | some (.siter s pos) =>
      if pos < s.length then
        let d := Utf8.decode ⟨⟨s⟩⟩ pos
        some (.tup [.bool true, .int .i64 pos, .int .i32 d.1], h.set id (.siter s (pos + d.2)))
      else some (.tup [.bool false], h)
    | _ => none
  | _, _ => none

def atypeAssert (P : Program) (x : AV) (asserted : TypeId) (ok : Bool) : Option AV :=
  match P.underlying asserted, x with
  | some (.interface _), _ => none
  | some _, .iface t v => if t = asserted then some (if ok then .tup [v, .bool true] else v)
      else if ok then (zeroOf P asserted).map fun z => .tup [z, .bool false] else none
  | some _, .val .nilIface => if ok then (zeroOf P asserted).map fun z => .tup [z, .bool false] else none
  | _, _ => none

/-! ### Operations -/
def evalOp (env : List AV) : Operand → AV
  | .tmp t => env.getD t .undef
  | .const v => ofValue v
  | .global g => .val (.pointer (some ⟨g, 0, none⟩))
  | .func f => .func (.func f) [] []

abbrev CallF := FuncId → List AV → AH → Option (AV × AH)

def aunsafeString (P : Program) (pt : TypeId) (p : AV) (n : Int) (h : AH) : Option (AV × AH) :=
  if n ≤ 0 ∨ 9223372036854775807 < n then
    (if n = 0 then match p with
      | .ptr _ _ => some (.str [], h)
      | .val (.pointer none) => some (.str [], h)
      | _ => none
    else none)
  else
    match P.underlying pt, p with
    | some (.pointer e), .ptr id off => match h.get id with
      | some (.cells c true _ (some (t, b))) => if t = e ∧ P.cellsOf e = 1 ∧ off + n.toNat ≤ c.length then
          (abytes ((c.drop off).take n.toNat)).map fun l => (.str l, h.set id (.cells c false 0 (some (t, b)))) else none
      | _ => none
    | _, _ => none

def asliceData (args : List AV) (h : AH) : Option (AV × AH) :=
  match args with
  | [.val (.slice none _ _)] => some (.val (.pointer none), h)
  | [.sl id off len _] => if len ≠ 0 then some (.ptr id off, h) else none
  | _ => none

def abuiltin (P : Program) (b : Builtin) (argTypes : Array TypeId) (args : List AV) (h : AH) : Option (AV × AH) :=
  match b with
  | .len => match argTypes[0]?, args with
    | some t, [x] => (alenOf P t x h).map fun v => (v, h)
    | _, _ => none
  | .append => aappend P argTypes args h
  | .copy => acopy P argTypes args h
  | .max => (amaxmin true args).map fun v => (v, h)
  | .min => (amaxmin false args).map fun v => (v, h)
  | .unsafeSliceData => asliceData args h
  | .unsafeString => match argTypes[0]?, args with
    | some pt, [p, .int .i64 n] => aunsafeString P pt p n h
    | _, _ => none
  | _ => none

def acall1 (P : Program) (callF : CallF) (env : List AV) (c : Call) (h : AH) : Option (AV × AH) :=
  match c.callee with
  | .builtin b => abuiltin P b c.argTypes (c.args.toList.map (evalOp env)) h
  | .value f => match evalOp env f with
    | .func (.func f) first captured => callF f (first ++ c.args.toList.map (evalOp env) ++ captured) h
    | _ => none
  | .invoke _ _ => none

def aop (P : Program) (callF : CallF) (env : List AV) (op : Op) (h : AH) : Option (AV × AH) :=
  match op with
  | .move x => some (evalOp env x, h)
  | .assign x => some (evalOp env x, h)
  | .pick c a b => match evalOp env c with
    | .bool t => some (if t then evalOp env a else evalOp env b, h)
    | _ => none
  | .alloc e => match zeroOf P e with
    | some z => z.cells.map fun cs => anew e cs h
    | none => none
  | .box t x => (evalOp env x).cells.map fun cs => anew t cs h
  | .build t parts => (abuild P t (parts.toList.map fun p => (p.1, evalOp env p.2))).map fun v => (v, h)
  | .buildSlice t len parts => abuildSlice P t len (parts.toList.map fun p => (p.1, evalOp env p.2)) h
  | .load t a => (aload P t (evalOp env a) h).map fun v => (v, h)
  | .store t a x => (astore P t (evalOp env a) (evalOp env x) h).map fun h' => (.undef, h')
  | .nilCheck x => match evalOp env x with
    | .ptr id off => some (.ptr id off, h)
    | .func (.func f) a b => some (.func (.func f) a b, h)
    | .sl a b c d => some (.sl a b c d, h)
    | .map id => some (.map id, h)
    | .val (.pointer (some a)) => some (.val (.pointer (some a)), h)
    | _ => none
  | .binOp op t x y _ => (abin P op t (isConst x) (isConst y) (evalOp env x) (evalOp env y)).map fun v => (v, h)
  | .unOp op _ x => (aun op (evalOp env x)).map fun v => (v, h)
  | .convert s d x => aconv P s d (evalOp env x) h
  | .makeInterface t x => match P.underlying t with
    | some (.interface _) => none
    | some _ => some (.iface t (evalOp env x), h)
    | none => none
  | .makeFunc fn first cap => some (.func fn (first.toList.map (evalOp env)) (cap.toList.map (evalOp env)), h)
  | .makeMap _ none => some (.map h.n, h.push (.map [] 0))
  | .makeSlice t l c => amakeSlice P t (evalOp env l) (evalOp env c) h
  | .slice t x lo hi mx => (aslice P t (evalOp env x) (lo.map (evalOp env)) (hi.map (evalOp env)) (mx.map (evalOp env)) h).map fun v => (v, h)
  | .fieldAddr s x f => (afieldAddr P s (evalOp env x) f).map fun v => (v, h)
  | .field t x f => (afield P t (evalOp env x) f).map fun v => (v, h)
  | .indexAddr t x i => (aindexAddr P t (evalOp env x) (evalOp env i)).map fun v => (v, h)
  | .index t x i => (aindex P t (evalOp env x) (evalOp env i)).map fun v => (v, h)
  | .lookup t m k ok => (alookup P t (evalOp env m) (evalOp env k) ok h).map fun v => (v, h)
  | .mapUpdate t m k v => (amapUpdate P t (evalOp env m) (evalOp env k) (evalOp env v) h).map fun h' => (.undef, h')
  | .insert t m k v => (amapUpdate P t (evalOp env m) (evalOp env k) (evalOp env v) h).map fun h' => (.undef, h')
  | .mapEntry t m k => amapEntry P t (evalOp env m) (evalOp env k) h
  | .entryStore _ m s v => (aentryStore (evalOp env m) (evalOp env s) (evalOp env v) h).map fun h' => (.undef, h')
  | .range t x => arange P t (evalOp env x) h
  | .next it s => anext (evalOp env it) s h
  | .typeAssert x _ a ok => (atypeAssert P (evalOp env x) a ok).map fun v => (v, h)
  | .extract x i => match evalOp env x with
    | .tup xs => (xs[i]?).map fun v => (v, h)
    | _ => none
  | .call c => acall1 P callF env c h
  | _ => none

/-! ### Regions -/
def eput (env : List AV) (d : Option Tmp) (v : AV) : List AV :=
  match d with
  | some t => env.set t v
  | none => env

/-- Does the guard of an operation let it run? none: the machine can't tell. -/
def awanted (ops : Array Oper) (o : Oper) (env : List AV) : Option Bool :=
  match o.guard with
  | none => some true
  | some (j, want) => match (ops[j]?).bind (·.dst) with
    | some d => match env[d]? with
      | some (.bool b) => some (b == want)
      | some (.tup []) => some false
      | _ => none
    | none => none

def astep (P : Program) (callF : CallF) (ops : Array Oper) (o : Oper) (env : List AV) (h : AH) : Option (List AV × AH) :=
  match awanted ops o env with
  | some true => (aop P callF env o.op h).map fun r => (eput env o.dst r.1, r.2)
  | some false => some (eput env o.dst .undef, h)
  | none => none

def aops (P : Program) (callF : CallF) (ops : Array Oper) : List Oper → List AV → AH → Option (List AV × AH)
  | [], env, h => some (env, h)
  | o :: rest, env, h => match astep P callF ops o env h with
    | some r => aops P callF ops rest r.1 r.2
    | none => none

/-! ### Code -/
inductive AX where
  | normal
  | exit (id : Nat)
  | ret

abbrev ARes := Option (AX × List AV × AH)

def aloop (f : List AV → AH → ARes) : Nat → List AV → AH → ARes
  | 0, _, _ => none
  | n + 1, env, h => match f env h with
    | some (.normal, env', h') => aloop f n env' h'
    | r => r

def acode (P : Program) (callF : CallF) (drawn : Array Oper → List AV → AH → Option (List AV × AH)) (fuel : Nat) : Code → List AV → AH → ARes
  | .skip, env, h => some (.normal, env, h)
  | .region _ ops false, env, h => (aops P callF ops ops.toList env h).map fun r => (.normal, r.1, r.2)
  | .region _ ops true, env, h => (drawn ops env h).map fun r => (.normal, r.1, r.2)
  | .seq a b, env, h => match acode P callF drawn fuel a env h with
    | some (.normal, env', h') => acode P callF drawn fuel b env' h'
    | r => r
  | .cond c a b, env, h => match evalOp env c with
    | .bool true => acode P callF drawn fuel a env h
    | .bool false => acode P callF drawn fuel b env h
    | _ => none
  | .block id c, env, h => match acode P callF drawn fuel c env h with
    | some (.exit i, env', h') => some (if i = id then .normal else .exit i, env', h')
    | r => r
  | .loop c, env, h => aloop (acode P callF drawn fuel c) fuel env h
  | .exit id, env, h => some (.exit id, env, h)
  | .scope c, env, h => acode P callF drawn fuel c env h
  | .label _, env, h => some (.normal, env, h)
  | .ret, env, h => some (.ret, env, h)
  | _, _, _ => none

def aresult (P : Program) (env : List AV) (h : AH) : ResultVar → Option AV
  | .tmp t => some (env.getD t .undef)
  | .cell a t => aload P t (env.getD a .undef) h

def aresults (P : Program) (env : List AV) (h : AH) : List ResultVar → Option (List AV)
  | [] => some []
  | r :: rs => match aresult P env h r, aresults P env h rs with
    | some x, some xs => some (x :: xs)
    | _, _ => none

def packed : List AV → AV
  | [x] => x
  | xs => .tup xs


/-! ### Calls -/
abbrev Hooks := FuncId → Option (List AV → AH → Option (AV × AH))
abbrev Drawn := CallF → Array Oper → List AV → AH → Option (List AV × AH)

def acall (P : Program) (Γ : Hooks) (D : Drawn) : Nat → CallF
  | 0, f, args, h => match Γ f with
    | some g => g args h
    | none => none
  | n + 1, f, args, h => match Γ f with
    | some g => g args h
    | none => match P.funcs[f]? with
      | some fn => match fn.body with
        | some c => match acode P (acall P Γ D n) (D (acall P Γ D n)) n c (args ++ List.replicate (fn.ntmps - args.length) .undef) h with
          | some (.normal, env', h') => (aresults P env' h' fn.results.toList).map fun vs => (packed vs, h')
          | some (.ret, env', h') => (aresults P env' h' fn.results.toList).map fun vs => (packed vs, h')
          | _ => none
        | none => none
      | none => none

end Go.Proofs.YtobhmahlenjheaaM
