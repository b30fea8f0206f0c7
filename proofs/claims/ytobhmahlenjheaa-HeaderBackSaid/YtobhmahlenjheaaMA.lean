/- The abstract machine: what it is, and that each of its steps is a step of the model (first part). -/
import Derived.Orders
import Derived.Below
import Derived.Scope
import Derived.Laws.Sem
import Derived.Laws.Cells
import Derived.ChangeKeysEq
import Derived.Laws.BitsLemmas
import Derived.LaidEqlPtr
import Derived.LaidEql
import Derived.Laws.StructEq
import Derived.Laws.BytesString
import Derived.Lib.Builder
import Derived.Lib.UnsafeStr
namespace Go.Proofs.YtobhmahlenjheaaM
/-! M0 -/
section
open Go

/-! ### Values -/
inductive AV where
  | int (k : IntKind) (n : Int)
  | bool (b : Bool)
  | str (l : List UInt8)
  | val (v : Value)
  | ptr (id off : Nat)
  | sl (id off len esz : Nat)
  | map (id : Nat)
  | iface (t : TypeId) (x : AV)
  | agg (xs : List AV)
  | tup (xs : List AV)
  | func (fn : Fn) (first captured : List AV)
  | any
  deriving Inhabited

def AV.undef : AV := .tup []

def ofCell : Value → AV
  | .int k n => .int k n
  | .bool b => .bool b
  | .string s => .str s.data.toList
  | v => .val v

def ofValue : Value → AV
  | .agg cs => .agg (cs.toList.map ofCell)
  | .tuple vs => .tup (vs.toList.map ofCell)
  | v => ofCell v

/-- Is it a value that one cell may hold? -/
def AV.one : AV → Bool
  | .agg _ | .tup _ | .any => false
  | .val (.agg _) | .val (.tuple _) => false
  | _ => true

def AV.cells : AV → Option (List AV)
  | .agg xs => some xs
  | x => if x.one then some [x] else none

/-! ### The heap -/
inductive AO where
  | cells (c : List AV) (own : Bool) (fz : Nat) (ty : Option (TypeId × Bool))
  | map (es : List (AV × AV × Nat)) (clock : Nat)
  | siter (s : List UInt8) (pos : Nat)
  | dead
  | gvar (g : Nat) (c : List AV)
  deriving Inhabited

/-- Blocks by their numbers, the newest first; none: not to be seen from here. -/
structure AH where
  n : Nat
  l : List (Option AO)

def AH.get (h : AH) (id : Nat) : Option AO := if id < h.n then (h.l[h.n - 1 - id]?).join else none
def AH.push (h : AH) (o : AO) : AH := ⟨h.n + 1, some o :: h.l⟩
def AH.set (h : AH) (id : Nat) (o : AO) : AH := if id < h.n then ⟨h.n, h.l.set (h.n - 1 - id) (some o)⟩ else h

def splice (c : List AV) (off : Nat) (xs : List AV) : List AV := c.take off ++ (xs ++ c.drop (off + xs.length))
def zrow (zs : List AV) : Nat → List AV
  | 0 => []
  | n + 1 => zs ++ zrow zs n

/-! ### Types -/
def szOf (P : Program) (t : TypeId) : Option Nat := (P.info? t).map (·.size)
def isAg (P : Program) (t : TypeId) : Option Bool := (P.underlying t).map fun d => match d with | .struct _ => true | .array _ _ => true | _ => false
def zeroOf (P : Program) (t : TypeId) : Option AV := ((P.info? t).bind (·.zero)).map ofValue
def fieldsOf (P : Program) (t : TypeId) : Option (List Field) :=
  match P.underlying t with
  | some (.struct fs) => some fs.toList
  | _ => none
def sliceElem (P : Program) (t : TypeId) : Option TypeId :=
  match P.underlying t with
  | some (.slice e) => some e
  | _ => none

def apart (P : Program) (t : TypeId) (cs : List AV) (off : Nat) : Option AV :=
  match isAg P t with
  | some true => match szOf P t with
    | some n => if off + n ≤ cs.length then some (.agg ((cs.drop off).take n)) else none
    | none => none
  | some false => cs[off]?
  | none => none

/-! ### Memory -/
/-- A load of a package variable: its contents stand at its own number. -/
def agload (P : Program) (t : TypeId) (g off : Nat) (h : AH) : Option AV :=
  match h.get g with
  | some (.gvar g' c) => if g' = g then apart P t c off else none
  | _ => none
def aload (P : Program) (t : TypeId) (x : AV) (h : AH) : Option AV :=
  match x with
  | .ptr id off => match h.get id with
    | some (.cells c _ _ _) => apart P t c off
    | _ => none
  | .val (.pointer (some ⟨g, off, none⟩)) => agload P t g off h
  | _ => none

def astore (P : Program) (t : TypeId) (x v : AV) (h : AH) : Option AH :=
  match x with
  | .ptr id off => match h.get id with
    | some (.cells c true fz ty) => match v.cells, szOf P t with
      | some xs, some n => if xs.length = n ∧ fz ≤ off ∧ off + n ≤ c.length ∧ xs.all AV.one then some (h.set id (.cells (splice c off xs) true fz ty)) else none
      | _, _ => none
    | _ => none
  | _ => none

/-- A new block of the machine's own, and a pointer to its first cell. -/
def anew (t : TypeId) (cells : List AV) (h : AH) : AV × AH := (.ptr h.n 0, h.push (.cells cells true 0 (some (t, true))))

/-- So many elements of a slice, as cells. -/
def acells (x : AV) (esz n : Nat) (h : AH) : Option (List AV) :=
  match x with
  | .val (.slice none _ _) => if n = 0 then some [] else none
  | .sl id off len sz => if sz = esz ∧ n ≤ len then
      if n = 0 then some [] else
      match h.get id with
      | some (.cells c _ _ _) => if off + n * esz ≤ c.length then some ((c.drop off).take (n * esz)) else none
      | _ => none
    else none
  | .str l => if n ≤ l.length ∧ esz = 1 then some ((l.take n).map fun b => .int .u8 b.toNat) else none
  | _ => none

def alen : AV → Option Nat
  | .val (.slice none 0 _) => some 0
  | .sl _ _ len _ => some len
  | .str l => some l.length
  | _ => none

def abytes : List AV → Option (List UInt8)
  | [] => some []
  | .int .u8 n :: r => (abytes r).map fun l => UInt8.ofNat n.toNat :: l
  | _ :: _ => none

def sizeCap : Nat := 1099511627776

/-- The type of a row that more is appended to. -/
def tyApp (e : TypeId) (ty : Option (TypeId × Bool)) : Option (TypeId × Bool) :=
  match ty with
  | some (t, _) => if t = e then some (e, false) else none
  | none => none

/-- n elements, as cells xs, behind a slice. -/
def aappendAt (e : TypeId) (sz n : Nat) (xs : List AV) (s : AV) (h : AH) : Option (AV × AH) :=
  match s with
  | .val (.slice none 0 0) => if n = 0 then some (.val (.slice none 0 0), h) else some (.sl h.n 0 n sz, h.push (.cells xs true 0 (some (e, false))))
  | .sl id off len sz' =>
    if n = 0 then some (.sl id off len sz', h) else
    match h.get id with
    | some (.cells c true fz ty) =>
      if sz' = sz ∧ off + len * sz ≤ c.length ∧ fz ≤ off + len * sz ∧ xs.all AV.one = true then
        some (.sl h.n 0 (len + n) sz, (h.set id .dead).push (.cells ((c.drop off).take (len * sz) ++ xs) true (fz - off) (tyApp e ty)))
      else none
    | _ => none
  | _ => none

def aroom (i : TypeInfo) (need : Nat) : Bool :=
  need * (i.bytes + 1) ≤ sizeCap && 0 < i.size && i.zero.map (·.cells.size) == some i.size

def notInt : TypeDesc → Bool
  | .slice _ => true
  | .string => true
  | _ => false

/-- So many zero values behind a row. -/
def aappendN (P : Program) (e : TypeId) (xd : Option TypeDesc) (s x : AV) (h : AH) : Option (AV × AH) :=
  match xd, x with
  | some (.int .i64), .int .i64 m =>
    match P.info? e, alen s, zeroOf P e with
    | some i, some len, some z => match aroom i (len + m.toNat), z.cells with
      | true, some zs => if 0 ≤ m ∧ zs.length = i.size then aappendAt e i.size m.toNat (zrow zs m.toNat) s h else none
      | _, _ => none
    | _, _, _ => none
  | _, _ => none

def aappend (P : Program) (argTypes : Array TypeId) (args : List AV) (h : AH) : Option (AV × AH) :=
  match argTypes[0]?, argTypes[1]?, args with
  | some st, some xt, [s, x] =>
    match sliceElem P st, (P.underlying xt).map notInt with
    | some e, some true => match P.info? e, alen x, alen s with
      | some i, some n, some len => match aroom i (len + n), acells x i.size n h with
        | true, some xs => aappendAt e i.size n xs s h
        | _, _ => none
      | _, _, _ => none
    | some e, some false => aappendN P e (P.underlying xt) s x h
    | _, _ => none
  | _, _, _ => none

def acopy (P : Program) (argTypes : Array TypeId) (args : List AV) (h : AH) : Option (AV × AH) :=
  match argTypes[0]?, args with
  | some dt, [d, x] =>
    match sliceElem P dt with
    | some e => match P.info? e, alen d, alen x with
      | some i, some m, some n =>
        match acells x i.size (min n m) h with
        | none => none
        | some xs =>
          if xs = [] then (match d with | .val (.slice none 0 0) => some (.int .i64 0, h) | .sl _ _ _ _ => some (.int .i64 (min n m : Nat), h) | _ => none) else
          match d with
          | .sl id off _ sz => match h.get id with
            | some (.cells c true fz ty) => if sz = i.size ∧ off + xs.length ≤ c.length ∧ fz ≤ off ∧ xs.all AV.one then
                some (.int .i64 (min n m : Nat), h.set id (.cells (splice c off xs) true fz ty)) else none
            | _ => none
          | _ => none
      | _, _, _ => none
    | none => none
  | _, _ => none

/-! ### Aggregates -/
def afill (cells : List AV) : List (Nat × Nat × List AV) → Option (List AV)
  | [] => some cells
  | (off, size, xs) :: rest => if xs.length = size ∧ off + size ≤ cells.length then afill (splice cells off xs) rest else none

def placesOf (P : Program) : List Field → Option (List (Nat × Nat))
  | [] => some []
  | f :: fs => match szOf P f.type, placesOf P fs with
    | some s, some r => some ((f.offset, s) :: r)
    | _, _ => none

/-- The parts of a composite, each with where it goes and its size. -/
def partsAt (place : Nat → Option (Nat × Nat)) : List (Nat × AV) → Option (List (Nat × Nat × List AV))
  | [] => some []
  | (i, x) :: rest => match place i, x.cells, partsAt place rest with
    | some (off, size), some xs, some r => some ((off, size, xs) :: r)
    | _, _, _ => none

def abuild (P : Program) (t : TypeId) (parts : List (Nat × AV)) : Option AV :=
  match zeroOf P t with
  | some z => match z.cells, P.underlying t with
    | some zero, some (.struct fs) => match placesOf P fs.toList with
      | some pl => match partsAt (fun i => pl[i]?) parts with
        | some ps => (afill zero ps).map .agg
        | none => none
      | none => none
    | some zero, some (.array _ e) => match szOf P e with
      | some size => match partsAt (fun i => some (i * size, size)) parts with
        | some ps => (afill zero ps).map .agg
        | none => none
      | none => none
    | _, _ => none
  | none => none

def abuildSlice (P : Program) (t : TypeId) (len : Nat) (parts : List (Nat × AV)) (h : AH) : Option (AV × AH) :=
  match sliceElem P t with
  | some e => match szOf P e with
    | some size =>
      if size = 0 ∨ 16777216 < len * size then none else
      match (if len = 0 then some (.agg []) else zeroOf P e) with
      | some z => match z.cells, partsAt (fun i => some (i * size, size)) parts with
        | some zs, some ps => if len ≠ 0 ∧ zs.length ≠ size then none else match afill (zrow zs len) ps with
          | some cells => some (.sl h.n 0 len size, h.push (.cells cells true 0 (some (e, false))))
          | none => none
        | _, _ => none
      | none => none
    | none => none
  | none => none

def amakeSlice (P : Program) (t : TypeId) (l c : AV) (h : AH) : Option (AV × AH) :=
  match sliceElem P t, l, c with
  | some e, .int _ len, .int _ cap =>
    match P.info? e, zeroOf P e with
    | some i, some z => match z.cells with
      | some zs => if 0 ≤ len ∧ len ≤ cap ∧ cap * ((i.bytes : Int) + 1) ≤ sizeCap ∧ zs.length = i.size ∧ 0 < i.size then
          some (.sl h.n 0 len.toNat i.size, h.push (.cells (zrow zs len.toNat) true 0 (some (e, false)))) else none
      | none => none
    | _, _ => none
  | _, _, _ => none

/-- A bound of a slice expression. -/
def abound (dflt : Nat) : Option AV → Option Nat
  | none => some dflt
  | some (.int _ n) => if 0 ≤ n then some n.toNat else none
  | _ => none

def aslice (P : Program) (t : TypeId) (x : AV) (lo hi mx : Option AV) (h : AH) : Option AV :=
  match mx with
  | some m => match P.underlying t, x, hi, m with
    | some (.slice e), .sl id off len sz, some hi, .int _ c => match szOf P e, abound 0 lo, abound 0 (some hi) with
      | some s, some a, some b => if s = sz ∧ a ≤ b ∧ (b : Int) ≤ c ∧ c ≤ (len : Int) then some (.sl id (off + a * sz) (b - a) sz) else none
      | _, _, _ => none
    | some (.slice e), .val (.slice none 0 0), some hi, .int _ c => match szOf P e, abound 0 lo, abound 0 (some hi) with
      | some _, some 0, some 0 => if c = 0 then some (.val (.slice none 0 0)) else none
      | _, _, _ => none
    | _, _, _, _ => none
  | none =>
    match P.underlying t, x with
    | some .string, .str l => match abound 0 lo, abound l.length hi with
      | some a, some b => if a ≤ b ∧ b ≤ l.length then some (.str ((l.take b).drop a)) else none
      | _, _ => none
    | some (.slice e), .sl id off len sz => match szOf P e, abound 0 lo, abound len hi with
      | some s, some a, some b => if s = sz ∧ a ≤ b ∧ b ≤ len then some (.sl id (off + a * sz) (b - a) sz) else none
      | _, _, _ => none
    | some (.slice e), .val (.slice none 0 0) => match szOf P e, abound 0 lo, abound 0 hi with
      | some _, some 0, some 0 => some (.val (.slice none 0 0))
      | _, _, _ => none
    | some (.array n e), .ptr id off => match szOf P e, abound 0 lo, abound n hi, h.get id with
      | some s, some a, some b, some (.cells c _ _ _) => if 0 < s ∧ a ≤ b ∧ b ≤ n ∧ off + n * s ≤ c.length then some (.sl id (off + a * s) (b - a) s) else none
      | _, _, _, _ => none
    | _, _ => none

def afieldAddr (P : Program) (s : TypeId) (x : AV) (f : Nat) : Option AV :=
  match fieldsOf P s, x with
  | some fs, .ptr id off => match fs[f]? with
    | some fd => match szOf P fd.type with
      | some n => if n = 0 then none else some (.ptr id (off + fd.offset))
      | none => none
    | none => none
  | some fs, .val (.pointer (some ⟨g, off, none⟩)) => match fs[f]? with
    | some fd => match szOf P fd.type with
      | some n => if n = 0 then none else some (.val (.pointer (some ⟨g, off + fd.offset, none⟩)))
      | none => none
    | none => none
  | _, _ => none

def afield (P : Program) (t : TypeId) (x : AV) (f : Nat) : Option AV :=
  match fieldsOf P t, x with
  | some fs, .agg cs => match fs[f]? with
    | some fd => apart P fd.type cs fd.offset
    | none => none
  | _, _ => none

def aindexAddr (P : Program) (t : TypeId) (x i : AV) : Option AV :=
  match P.underlying t, x, i with
  | some (.array len e), .ptr id off, .int _ n => match szOf P e with
    | some s => if 0 ≤ n ∧ n < len then some (.ptr id (off + n.toNat * s)) else none
    | none => none
  | some (.array len e), .val (.pointer (some ⟨g, off, none⟩)), .int _ n => match szOf P e with
    | some s => if 0 ≤ n ∧ n < len then some (.val (.pointer (some ⟨g, off + n.toNat * s, none⟩))) else none
    | none => none
  | some (.slice e), .sl id off len sz, .int _ n => match szOf P e with
    | some s => if s = sz ∧ 0 ≤ n ∧ n < len then some (.ptr id (off + n.toNat * s)) else none
    | none => none
  | _, _, _ => none

def aindex (P : Program) (t : TypeId) (x i : AV) : Option AV :=
  match P.underlying t, x, i with
  | some (.array len e), .agg cs, .int _ n => match szOf P e with
    | some s => if 0 ≤ n ∧ n < len then apart P e cs (n.toNat * s) else none
    | none => none
  | some .string, .str l, .int _ n => if 0 ≤ n then (l[n.toNat]?).map fun b => .int .u8 b.toNat else none
  | _, _, _ => none

/-! ### Operators -/
def aint (op : BinOp) (k : IntKind) (a b : Int) : Option AV :=
  match op with
  | .add => some (.int k (k.wrap (a + b)))
  | .sub => some (.int k (k.wrap (a - b)))
  | .mul => some (.int k (k.wrap (a * b)))
  | .quo => if b = 0 then none else some (.int k (k.wrap (a.tdiv b)))
  | .rem => if b = 0 then none else some (.int k (a.tmod b))
  | .and => some (.int k (k.wrap (BitVec.ofInt k.bits a &&& BitVec.ofInt k.bits b).toNat))
  | .or => some (.int k (k.wrap (BitVec.ofInt k.bits a ||| BitVec.ofInt k.bits b).toNat))
  | .xor => some (.int k (k.wrap (BitVec.ofInt k.bits a ^^^ BitVec.ofInt k.bits b).toNat))
  | .andNot => some (.int k (k.wrap (BitVec.ofInt k.bits a &&& ~~~BitVec.ofInt k.bits b).toNat))
  | .eql => some (.bool (a == b))
  | .neq => some (.bool (a != b))
  | .lss => some (.bool (decide (a < b)))
  | .leq => some (.bool (decide (a ≤ b)))
  | .gtr => some (.bool (decide (a > b)))
  | .geq => some (.bool (decide (a ≥ b)))
  | _ => none

def ashift (op : BinOp) (k : IntKind) (a b : Int) : Option AV :=
  if b < 0 then none else
  match op with
  | .shl => some (.int k (k.wrap (a * 2 ^ min b.toNat k.bits)))
  | .shr => some (.int k (a.fdiv (2 ^ min b.toNat k.bits)))
  | _ => none

def astrop (op : BinOp) (a b : List UInt8) : Option AV :=
  match op with
  | .add => if a.length + b.length ≤ sizeCap then some (.str (a ++ b)) else none
  | .eql => some (.bool (a == b))
  | .neq => some (.bool (!(a == b)))
  | .lss => some (.bool (Op.bytesLess a b))
  | .leq => some (.bool (Op.bytesLess a b || a == b))
  | .gtr => some (.bool (!(Op.bytesLess a b || a == b)))
  | .geq => some (.bool (!Op.bytesLess a b))
  | _ => none

/-- Two cells that are compared by what they say. -/
def aeqCell (t : Option TypeDesc) (x y : AV) : Option Bool :=
  match t, x, y with
  | some .bool, .bool a, .bool b => some (a == b)
  | some (.int _), .int k a, .int k' b => if k = k' then some (a == b) else none
  | some .string, .str a, .str b => some (a == b)
  | some (.pointer _), .val (.pointer none), .val (.pointer none) => some true
  | some (.pointer _), .val (.pointer none), .ptr _ _ => some false
  | some (.pointer _), .ptr _ _, .val (.pointer none) => some false
  | some (.interface _), .val .nilIface, .val .nilIface => some true
  | some (.interface _), .val .nilIface, .iface _ _ => some false
  | some (.interface _), .iface _ _, .val .nilIface => some false
  | some (.slice _), .val (.slice none _ _), .val (.slice none _ _) => some true
  | some (.slice _), .val (.slice none _ _), .sl _ _ _ _ => some false
  | some (.slice _), .sl _ _ _ _, .val (.slice none _ _) => some false
  | some (.map _ _), .val (.map none), .val (.map none) => some true
  | some (.map _ _), .val (.map none), .map _ => some false
  | some (.map _ _), .map _, .val (.map none) => some false
  | some (.func _ _ _), .val .nilFunc, .val .nilFunc => some true
  | some (.func _ _ _), .val .nilFunc, .func _ _ _ => some false
  | some (.func _ _ _), .func _ _ _, .val .nilFunc => some false
  | _, _, _ => none

def eqFields (P : Program) (eq : TypeId → AV → AV → Option Bool) : List Field → List AV → List AV → Option Bool
  | [], _, _ => some true
  | f :: fs, xs, ys =>
    if f.name = "_" then eqFields P eq fs xs ys else
    match apart P f.type xs f.offset, apart P f.type ys f.offset with
    | some a, some b => match eq f.type a b with
      | some true => eqFields P eq fs xs ys
      | some false => some false
      | none => none
    | _, _ => none

def eqElems (P : Program) (eq : TypeId → AV → AV → Option Bool) (e : TypeId) (s : Nat) (xs ys : List AV) : List Nat → Option Bool
  | [] => some true
  | i :: is => match apart P e xs (i * s), apart P e ys (i * s) with
    | some a, some b => match eq e a b with
      | some true => eqElems P eq e s xs ys is
      | some false => some false
      | none => none
    | _, _ => none

def aeq (P : Program) : Nat → TypeId → AV → AV → Option Bool
  | 0, _, _, _ => none
  | d + 1, t, x, y =>
    match P.underlying t, x, y with
    | some (.struct fs), .agg xs, .agg ys => if P.stoodInHeld t then none else eqFields P (aeq P d) fs.toList xs ys
    | some (.array n e), .agg xs, .agg ys => match szOf P e with
      | some s => eqElems P (aeq P d) e s xs ys (List.range n)
      | none => none
    | some (.pointer te), .ptr i o, .ptr j p => if i = j ∧ o = p ∧ (szOf P te).isSome = true then some true else none
    | u, x, y => aeqCell u x y

def isConst : Operand → Bool
  | .const _ => true
  | _ => false

/-- Values that == may be asked of, beside numbers and texts. -/
def eqForm : AV → Bool
  | .bool _ | .ptr _ _ | .sl _ _ _ _ | .map _ | .iface _ _ | .agg _ | .func _ _ _ => true
  | .val (.pointer none) | .val (.slice none _ _) | .val (.map none) | .val .nilFunc | .val .nilIface => true
  | _ => false

def isNilI : AV → Bool
  | .val .nilIface => true
  | _ => false

def isAggV : AV → Bool
  | .agg _ => true
  | _ => false

def aeqOp (P : Program) (op : BinOp) (t : TypeId) (xc yc : Bool) (x y : AV) : Option AV :=
  if op = .eql ∨ op = .neq then
    if eqForm x && eqForm y && (!(isNilI x && isNilI y) || xc || yc) && (!(isAggV x && isAggV y) || !P.eqGuardType P.depth t) then
      (aeq P 8 t x y).map fun b => .bool (if op = .eql then b else !b)
    else none
  else none

def abin (P : Program) (op : BinOp) (t : TypeId) (xc yc : Bool) (x y : AV) : Option AV :=
  match x, y with
  | .int k a, .int k' b =>
    if op = .shl ∨ op = .shr then ashift op k a b else if k = k' then aint op k a b else none
  | .str a, .str b => astrop op a b
  | x, y => aeqOp P op t xc yc x y

def aun (op : UnOp) (x : AV) : Option AV :=
  match op, x with
  | .neg, .int k n => aint .sub k 0 n
  | .xor, .int k n => aint .xor k (if k.signed then -1 else k.max) n
  | .not, .bool b => some (.bool !b)
  | _, _ => none

def aconv (P : Program) (src dst : TypeId) (x : AV) (h : AH) : Option (AV × AH) :=
  match P.underlying src, P.underlying dst, x with
  | some _, some (.int k), .int _ n => some (.int k (k.wrap n), h)
  | some _, some .string, .int _ n => some (.str (Utf8.encode n).data.toList, h)
  | some _, some .string, .str l => some (.str l, h)
  | some _, some (.slice e), .str l => match P.underlying e with
    | some (.int .u8) => some (.sl h.n 0 l.length 1, h.push (.cells (l.map fun b => .int .u8 b.toNat) true 0 (some (e, false))))
    | _ => none
  | some (.slice e), some .string, x => match P.underlying e, alen x with
    | some (.int .u8), some n => match acells x 1 n h with
      | some cs => (abytes cs).map fun l => (.str l, h)
      | none => none
    | _, _ => none
  | some (.pointer t), some .unsafePointer, .ptr id off => match h.get id, szOf P t with
    | some (.cells c _ _ _), some n => if n ≠ 0 ∧ off < c.length then some (.ptr id off, h) else none
    | _, _ => none
  | some .unsafePointer, some (.pointer u), .ptr id off => match h.get id, szOf P u with
    | some (.cells c _ _ (some (e, true))), some _ => if liesAt P P.depth e (c.length / P.cellsOf e) off u 1 = true then some (.ptr id off, h) else none
    | _, _ => none
  | _, _, _ => none

def amaxminFrom (isMax : Bool) (k : IntKind) : Int → List AV → Option AV
  | a, [] => some (.int k a)
  | a, .int _ b :: rest => amaxminFrom isMax k (if isMax then (if b > a then b else a) else (if b < a then b else a)) rest
  | _, _ => none

def amaxmin (isMax : Bool) : List AV → Option AV
  | .int k a :: rest => amaxminFrom isMax k a rest
  | _ => none

/-! ### Maps, with keys that are numbers, texts or bools -/
def akey (d : Option TypeDesc) (x y : AV) : Option Bool :=
  match d, x, y with
  | some (.int _), .int k a, .int k' b => if k = k' then some (a == b) else none
  | some .string, .str a, .str b => some (a == b)
  | some .bool, .bool a, .bool b => some (a == b)
  | _, _, _ => none

def afind (d : Option TypeDesc) (k : AV) : List (AV × AV × Nat) → Nat → Option (Option (Nat × AV × Nat))
  | [], _ => some none
  | (k', v, b) :: es, i => match akey d k k' with
    | some true => some (some (i, v, b))
    | some false => afind d k es (i + 1)
    | none => none

/-- May a key of this type be asked for? -/
def akeyOk (d : Option TypeDesc) (k : AV) : Bool :=
  match d, k with
  | some (.int _), .int _ _ => true
  | some .string, .str _ => true
  | some .bool, .bool _ => true
  | _, _ => false

def mapOf (P : Program) (t : TypeId) : Option (TypeId × TypeId) :=
  match P.underlying t with
  | some (.map k e) => some (k, e)
  | _ => none

def amapGet (x : AV) (h : AH) : Option (List (AV × AV × Nat)) :=
  match x with
  | .val (.map none) => some []
  | .map id => match h.get id with
    | some (.map es _) => some es
    | _ => none
  | _ => none

def alookup (P : Program) (t : TypeId) (m k : AV) (ok : Bool) (h : AH) : Option AV :=
  match mapOf P t, amapGet m h with
  | some (kt, et), some es =>
    if akeyOk (P.underlying kt) k then
      match afind (P.underlying kt) k es 0 with
      | some (some (_, v, _)) => some (if ok then .tup [v, .bool true] else v)
      | some none => (zeroOf P et).map fun z => if ok then .tup [z, .bool false] else z
      | none => none
    else none
  | _, _ => none

def setEntry (es : List (AV × AV × Nat)) (i : Nat) (k v : AV) : List (AV × AV × Nat) :=
  match es[i]? with
  | some (_, _, b) => es.set i (k, v, b)
  | none => es

def amapUpdate (P : Program) (t : TypeId) (m k v : AV) (h : AH) : Option AH :=
  match mapOf P t, m with
  | some (kt, _), .map id => match h.get id with
    | some (.map es clock) =>
      if akeyOk (P.underlying kt) k then
        match afind (P.underlying kt) k es 0 with
        | some (some (i, _, _)) => some (h.set id (.map (setEntry es i k v) clock))
        | some none => some (h.set id (.map (es ++ [(k, v, clock)]) (clock + 1)))
        | none => none
      else none
    | _ => none
  | _, _ => none

def amapEntry (P : Program) (t : TypeId) (m k : AV) (h : AH) : Option (AV × AH) :=
  match mapOf P t, m with
  | some (kt, et), .map id => match h.get id with
    | some (.map es clock) =>
      if akeyOk (P.underlying kt) k then
        match afind (P.underlying kt) k es 0 with
        | some (some (i, v, b)) => some (.tup [v, .int .i64 b], h.set id (.map (setEntry es i k v) clock))
        | some none => match zeroOf P et with
          | some z => some (.tup [z, .int .i64 clock], h.set id (.map (es ++ [(k, z, clock)]) (clock + 1)))
          | none => none
        | none => none
      else none
    | _ => none
  | _, _ => none

def bornAt (s : Int) : List (AV × AV × Nat) → Nat → Option Nat
  | [], _ => none
  | (_, _, b) :: es, i => if ((b : Int) == s) = true then some i else bornAt s es (i + 1)

def aentryStore (m s v : AV) (h : AH) : Option AH :=
  match m, s with
  | .map id, .int _ n => match h.get id with
    | some (.map es clock) => match bornAt n es 0 with
      | some i => match es[i]? with
        | some (k, _, b) => some (h.set id (.map (es.set i (k, v, b)) clock))
        | none => none
      | none => none
    | _ => none
  | _, _ => none

def amaplen (m : AV) (h : AH) : Option Nat := (amapGet m h).map List.length

def alenOf (P : Program) (t : TypeId) (x : AV) (h : AH) : Option AV :=
  match P.underlying t, x with
  | some .string, .str l => some (.int .i64 l.length)
  | some (.array n _), _ => some (.int .i64 n)
  | some (.slice _), .sl _ _ n _ => some (.int .i64 n)
  | some (.slice _), .val (.slice none n _) => some (.int .i64 n)
  | some (.map _ _), m => (amaplen m h).map fun n => .int .i64 n
  | some (.pointer a), _ => match P.underlying a with
    | some (.array n _) => some (.int .i64 n)
    | _ => none
  | _, _ => none

/-! ### Iterators over texts -/
def arange (P : Program) (t : TypeId) (x : AV) (h : AH) : Option (AV × AH) :=
  match P.underlying t, x with
  | some .string, .str l => some (.ptr h.n 0, h.push (.siter l 0))
  | _, _ => none

def anext (it : AV) (isString : Bool) (h : AH) : Option (AV × AH) :=
  match it, isString with
  | .ptr id 0, true => match h.get id with
    | some (.siter s pos) =>
      if pos < s.length then
        let d := Utf8.decode ⟨⟨s⟩⟩ pos
        some (.tup [.bool true, .int .i64 pos, .int .i32 d.1], h.set id (.siter s (pos + d.2)))
      else some (.tup [.bool false], h)
    | _ => none
  | _, _ => none

def atypeAssert (P : Program) (x : AV) (asserted : TypeId) (ok : Bool) : Option AV :=
  match P.underlying asserted, x with
  | some (.interface _), _ => none
  | some _, .iface t v => if t = asserted then some (if ok then .tup [v, .bool true] else v)
      else if ok then (zeroOf P asserted).map fun z => .tup [z, .bool false] else none
  | some _, .val .nilIface => if ok then (zeroOf P asserted).map fun z => .tup [z, .bool false] else none
  | _, _ => none

/-! ### Operations -/
def evalOp (env : List AV) : Operand → AV
  | .tmp t => env.getD t .undef
  | .const v => ofValue v
  | .global g => .val (.pointer (some ⟨g, 0, none⟩))
  | .func f => .func (.func f) [] []

abbrev CallF := FuncId → List AV → AH → Option (AV × AH)

def aunsafeString (P : Program) (pt : TypeId) (p : AV) (n : Int) (h : AH) : Option (AV × AH) :=
  if n ≤ 0 ∨ 9223372036854775807 < n then
    (if n = 0 then match p with
      | .ptr _ _ => some (.str [], h)
      | .val (.pointer none) => some (.str [], h)
      | _ => none
    else none)
  else
    match P.underlying pt, p with
    | some (.pointer e), .ptr id off => match h.get id with
      | some (.cells c true _ (some (t, b))) => if t = e ∧ P.cellsOf e = 1 ∧ off + n.toNat ≤ c.length then
          (abytes ((c.drop off).take n.toNat)).map fun l => (.str l, h.set id (.cells c false 0 (some (t, b)))) else none
      | _ => none
    | _, _ => none

def asliceData (args : List AV) (h : AH) : Option (AV × AH) :=
  match args with
  | [.val (.slice none _ _)] => some (.val (.pointer none), h)
  | [.sl id off len _] => if len ≠ 0 then some (.ptr id off, h) else none
  | _ => none

def aclear (P : Program) (argTypes : Array TypeId) (args : List AV) (h : AH) : Option (AV × AH) :=
  match argTypes[0]?, args with
  | some t, [x] =>
    match sliceElem P t with
    | some e =>
      match x with
      | .val (.slice none 0 0) => some (.undef, h)
      | .sl id off len sz =>
        if len = 0 then some (.undef, h) else
        match h.get id, zeroOf P e with
        | some (.cells c true fz ty), some z => match z.cells with
          | some zs => if zs.length = sz ∧ 0 < sz ∧ off + (zrow zs len).length ≤ c.length ∧ fz ≤ off ∧ (zrow zs len).all AV.one then some (.undef, h.set id (.cells (splice c off (zrow zs len)) true fz ty)) else none
          | none => none
        | _, _ => none
      | _ => none
    | none => none
  | _, _ => none

def abuiltin (P : Program) (b : Builtin) (argTypes : Array TypeId) (args : List AV) (h : AH) : Option (AV × AH) :=
  match b with
  | .len => match argTypes[0]?, args with
    | some t, [x] => (alenOf P t x h).map fun v => (v, h)
    | _, _ => none
  | .append => aappend P argTypes args h
  | .copy => acopy P argTypes args h
  | .clear => aclear P argTypes args h
  | .cap => match argTypes[0]?, args with
    | some t, [.val (.slice none 0 0)] => match P.underlying t with
      | some (.slice _) => some (.int .i64 0, h)
      | _ => none
    | _, _ => none
  | .max => (amaxmin true args).map fun v => (v, h)
  | .min => (amaxmin false args).map fun v => (v, h)
  | .unsafeSliceData => asliceData args h
  | .unsafeString => match argTypes[0]?, args with
    | some pt, [p, .int .i64 n] => aunsafeString P pt p n h
    | _, _ => none
  | _ => none

def acall1 (P : Program) (callF : CallF) (env : List AV) (c : Call) (h : AH) : Option (AV × AH) :=
  match c.callee with
  | .builtin b => abuiltin P b c.argTypes (c.args.toList.map (evalOp env)) h
  | .value f => match evalOp env f with
    | .func (.func f) first captured => callF f (first ++ c.args.toList.map (evalOp env) ++ captured) h
    | _ => none
  | .invoke _ _ => none

def aop (P : Program) (callF : CallF) (env : List AV) (op : Op) (h : AH) : Option (AV × AH) :=
  match op with
  | .move x => some (evalOp env x, h)
  | .assign x => some (evalOp env x, h)
  | .pick c a b => match evalOp env c with
    | .bool t => some (if t then evalOp env a else evalOp env b, h)
    | _ => none
  | .alloc e => match zeroOf P e with
    | some z => z.cells.map fun cs => anew e cs h
    | none => none
  | .box t x => (evalOp env x).cells.map fun cs => anew t cs h
  | .build t parts => (abuild P t (parts.toList.map fun p => (p.1, evalOp env p.2))).map fun v => (v, h)
  | .buildSlice t len parts => abuildSlice P t len (parts.toList.map fun p => (p.1, evalOp env p.2)) h
  | .load t a => (aload P t (evalOp env a) h).map fun v => (v, h)
  | .store t a x => (astore P t (evalOp env a) (evalOp env x) h).map fun h' => (.undef, h')
  | .nilCheck x => match evalOp env x with
    | .ptr id off => some (.ptr id off, h)
    | .func (.func f) a b => some (.func (.func f) a b, h)
    | .sl a b c d => some (.sl a b c d, h)
    | .map id => some (.map id, h)
    | .val (.pointer (some a)) => some (.val (.pointer (some a)), h)
    | _ => none
  | .binOp op t x y _ => (abin P op t (isConst x) (isConst y) (evalOp env x) (evalOp env y)).map fun v => (v, h)
  | .unOp op _ x => (aun op (evalOp env x)).map fun v => (v, h)
  | .convert s d x => aconv P s d (evalOp env x) h
  | .makeInterface t x => match P.underlying t with
    | some (.interface _) => none
    | some _ => some (.iface t (evalOp env x), h)
    | none => none
  | .makeFunc fn first cap => some (.func fn (first.toList.map (evalOp env)) (cap.toList.map (evalOp env)), h)
  | .makeMap _ none => some (.map h.n, h.push (.map [] 0))
  | .makeSlice t l c => amakeSlice P t (evalOp env l) (evalOp env c) h
  | .slice t x lo hi mx => (aslice P t (evalOp env x) (lo.map (evalOp env)) (hi.map (evalOp env)) (mx.map (evalOp env)) h).map fun v => (v, h)
  | .fieldAddr s x f => (afieldAddr P s (evalOp env x) f).map fun v => (v, h)
  | .field t x f => (afield P t (evalOp env x) f).map fun v => (v, h)
  | .indexAddr t x i => (aindexAddr P t (evalOp env x) (evalOp env i)).map fun v => (v, h)
  | .index t x i => (aindex P t (evalOp env x) (evalOp env i)).map fun v => (v, h)
  | .lookup t m k ok => (alookup P t (evalOp env m) (evalOp env k) ok h).map fun v => (v, h)
  | .mapUpdate t m k v => (amapUpdate P t (evalOp env m) (evalOp env k) (evalOp env v) h).map fun h' => (.undef, h')
  | .insert t m k v => (amapUpdate P t (evalOp env m) (evalOp env k) (evalOp env v) h).map fun h' => (.undef, h')
  | .mapEntry t m k => amapEntry P t (evalOp env m) (evalOp env k) h
  | .entryStore _ m s v => (aentryStore (evalOp env m) (evalOp env s) (evalOp env v) h).map fun h' => (.undef, h')
  | .range t x => arange P t (evalOp env x) h
  | .next it s => anext (evalOp env it) s h
  | .typeAssert x _ a ok => (atypeAssert P (evalOp env x) a ok).map fun v => (v, h)
  | .extract x i => match evalOp env x with
    | .tup xs => (xs[i]?).map fun v => (v, h)
    | _ => none
  | .call c => acall1 P callF env c h
  | _ => none

/-! ### Regions -/
def eput (env : List AV) (d : Option Tmp) (v : AV) : List AV :=
  match d with
  | some t => env.set t v
  | none => env

/-- Does the guard of an operation let it run? none: the machine can't tell. -/
def awanted (ops : Array Oper) (o : Oper) (env : List AV) : Option Bool :=
  match o.guard with
  | none => some true
  | some (j, want) => match (ops[j]?).bind (·.dst) with
    | some d => match env[d]? with
      | some (.bool b) => some (b == want)
      | some (.tup []) => some false
      | _ => none
    | none => none

def astep (P : Program) (callF : CallF) (ops : Array Oper) (o : Oper) (env : List AV) (h : AH) : Option (List AV × AH) :=
  match awanted ops o env with
  | some true => (aop P callF env o.op h).map fun r => (eput env o.dst r.1, r.2)
  | some false => some (eput env o.dst .undef, h)
  | none => none

def aops (P : Program) (callF : CallF) (ops : Array Oper) : List Oper → List AV → AH → Option (List AV × AH)
  | [], env, h => some (env, h)
  | o :: rest, env, h => match astep P callF ops o env h with
    | some r => aops P callF ops rest r.1 r.2
    | none => none

/-! ### Code -/
inductive AX where
  | normal
  | exit (id : Nat)
  | ret

abbrev ARes := Option (AX × List AV × AH)

def aloop (f : List AV → AH → ARes) : Nat → List AV → AH → ARes
  | 0, _, _ => none
  | n + 1, env, h => match f env h with
    | some (.normal, env', h') => aloop f n env' h'
    | r => r

def acode (P : Program) (callF : CallF) (drawn : Array Oper → List AV → AH → Option (List AV × AH)) (fuel : Nat) : Code → List AV → AH → ARes
  | .skip, env, h => some (.normal, env, h)
  | .region _ ops false, env, h => (aops P callF ops ops.toList env h).map fun r => (.normal, r.1, r.2)
  | .region _ ops true, env, h => (drawn ops env h).map fun r => (.normal, r.1, r.2)
  | .seq a b, env, h => match acode P callF drawn fuel a env h with
    | some (.normal, env', h') => acode P callF drawn fuel b env' h'
    | r => r
  | .cond c a b, env, h => match evalOp env c with
    | .bool true => acode P callF drawn fuel a env h
    | .bool false => acode P callF drawn fuel b env h
    | _ => none
  | .block id c, env, h => match acode P callF drawn fuel c env h with
    | some (.exit i, env', h') => some (if i = id then .normal else .exit i, env', h')
    | r => r
  | .loop c, env, h => aloop (acode P callF drawn fuel c) fuel env h
  | .exit id, env, h => some (.exit id, env, h)
  | .scope c, env, h => acode P callF drawn fuel c env h
  | .label _, env, h => some (.normal, env, h)
  | .ret, env, h => some (.ret, env, h)
  | _, _, _ => none

def aresult (P : Program) (env : List AV) (h : AH) : ResultVar → Option AV
  | .tmp t => some (env.getD t .undef)
  | .cell a t => aload P t (env.getD a .undef) h

def aresults (P : Program) (env : List AV) (h : AH) : List ResultVar → Option (List AV)
  | [] => some []
  | r :: rs => match aresult P env h r, aresults P env h rs with
    | some x, some xs => some (x :: xs)
    | _, _ => none

def packed : List AV → AV
  | [x] => x
  | xs => .tup xs


/-! ### Calls -/
abbrev Hooks := FuncId → Option (List AV → AH → Option (AV × AH))
abbrev Drawn := CallF → Array Oper → List AV → AH → Option (List AV × AH)

def acall (P : Program) (Γ : Hooks) (D : Drawn) : Nat → CallF
  | 0, f, args, h => match Γ f with
    | some g => g args h
    | none => none
  | n + 1, f, args, h => match Γ f with
    | some g => g args h
    | none => match P.funcs[f]? with
      | some fn => match fn.body with
        | some c => match acode P (acall P Γ D n) (D (acall P Γ D n)) n c (args ++ List.replicate (fn.ntmps - args.length) .undef) h with
          | some (.normal, env', h') => (aresults P env' h' fn.results.toList).map fun vs => (packed vs, h')
          | some (.ret, env', h') => (aresults P env' h' fn.results.toList).map fun vs => (packed vs, h')
          | _ => none
        | none => none
      | none => none


end
/-! M1 -/
section
open Go Go.RowKit

/-- Where an abstract block lies: the model's block, the place of its first cell, the block's size. -/
structure Loc where
  b : Nat
  o : Nat
  n : Nat

inductive VR (N : Nat → Prop) (φ : Nat → Loc) : AV → Value → Prop
  | int (k : IntKind) (m : Int) : VR N φ (.int k m) (.int k m)
  | bool (b : Bool) : VR N φ (.bool b) (.bool b)
  | str (l : List UInt8) : VR N φ (.str l) (.string ⟨⟨l⟩⟩)
  | val (v : Value) : VR N φ (.val v) v
  | ptr (id off : Nat) (h : N id) : VR N φ (.ptr id off) (.pointer (some ⟨(φ id).b, (φ id).o + off, none⟩))
  | sl (id off len esz : Nat) (a : Addr) (cap : Nat) (h : N id) (hl : len ≤ cap) (ha : cap = 0 ∨ (a = ⟨(φ id).b, (φ id).o + off, none⟩ ∧ (φ id).o + off + cap * esz ≤ (φ id).n)) :
      VR N φ (.sl id off len esz) (.slice (some a) len cap)
  | map (id : Nat) (h : N id) : VR N φ (.map id) (.map (some (φ id).b))
  | iface (t : TypeId) (x : AV) (v : Value) (h : VR N φ x v) : VR N φ (.iface t x) (.iface t v)
  | agg (xs : List AV) (vs : Array Value) (hl : xs.length = vs.size) (h : ∀ (i : Nat) (x : AV) (v : Value), xs[i]? = some x → vs[i]? = some v → VR N φ x v) : VR N φ (.agg xs) (.agg vs)
  | tup (xs : List AV) (vs : Array Value) (hl : xs.length = vs.size) (h : ∀ (i : Nat) (x : AV) (v : Value), xs[i]? = some x → vs[i]? = some v → VR N φ x v) : VR N φ (.tup xs) (.tuple vs)
  | func (fn : Fn) (xs ys : List AV) (us vs : Array Value) (hl : xs.length = us.size) (hl' : ys.length = vs.size)
      (h : ∀ (i : Nat) (x : AV) (v : Value), xs[i]? = some x → us[i]? = some v → VR N φ x v)
      (h' : ∀ (i : Nat) (x : AV) (v : Value), ys[i]? = some x → vs[i]? = some v → VR N φ x v) : VR N φ (.func fn xs ys) (.func fn us vs)
  | any (v : Value) : VR N φ .any v

theorem VR.mono {N N' : Nat → Prop} {φ φ' : Nat → Loc} (hN : ∀ id, N id → N' id) (he : ∀ id, N id → φ' id = φ id) {x : AV} {v : Value} (h : VR N φ x v) : VR N' φ' x v := by
  induction h with
  | int k m => exact .int k m
  | bool b => exact .bool b
  | str l => exact .str l
  | val v => exact .val v
  | ptr id off h => rw [← he id h]; exact .ptr id off (hN id h)
  | sl id off len esz a cap h hl ha => exact .sl id off len esz a cap (hN id h) hl (by rw [he id h]; exact ha)
  | map id h => rw [← he id h]; exact .map id (hN id h)
  | iface t x v _ ih => exact .iface t x v ih
  | agg xs vs hl _ ih => exact .agg xs vs hl ih
  | tup xs vs hl _ ih => exact .tup xs vs hl ih
  | func fn xs ys us vs hl hl' _ _ ih ih' => exact .func fn xs ys us vs hl hl' ih ih'
  | any v => exact .any v

/-- Lists, element by element. -/
def VRs (N : Nat → Prop) (φ : Nat → Loc) (xs : List AV) (vs : List Value) : Prop :=
  xs.length = vs.length ∧ ∀ (i : Nat) (x : AV) (v : Value), xs[i]? = some x → vs[i]? = some v → VR N φ x v

theorem VRs.mono {N N' : Nat → Prop} {φ φ' : Nat → Loc} (hN : ∀ id, N id → N' id) (he : ∀ id, N id → φ' id = φ id) {xs : List AV} {vs : List Value} (h : VRs N φ xs vs) : VRs N' φ' xs vs :=
  ⟨h.1, fun i x v hx hv => (h.2 i x v hx hv).mono hN he⟩

theorem VRs.nil (N : Nat → Prop) (φ : Nat → Loc) : VRs N φ [] [] := ⟨rfl, fun i x v hx _ => by simp at hx⟩
theorem VRs.cons {N : Nat → Prop} {φ : Nat → Loc} {x : AV} {v : Value} {xs : List AV} {vs : List Value} (h : VR N φ x v) (hs : VRs N φ xs vs) : VRs N φ (x :: xs) (v :: vs) :=
  ⟨by simp [hs.1], fun i y u hy hu => by
    cases i with
    | zero => simp at hy hu; subst hy; subst hu; exact h
    | succ i => simp at hy hu; exact hs.2 i y u hy hu⟩
theorem VRs.head {N : Nat → Prop} {φ : Nat → Loc} {x : AV} {v : Value} {xs : List AV} {vs : List Value} (h : VRs N φ (x :: xs) (v :: vs)) : VR N φ x v := h.2 0 x v rfl rfl
theorem VRs.tail {N : Nat → Prop} {φ : Nat → Loc} {x : AV} {v : Value} {xs : List AV} {vs : List Value} (h : VRs N φ (x :: xs) (v :: vs)) : VRs N φ xs vs :=
  ⟨by have := h.1; simpa using this, fun i y u hy hu => h.2 (i + 1) y u (by simpa using hy) (by simpa using hu)⟩
theorem VRs.append {N : Nat → Prop} {φ : Nat → Loc} {xs ys : List AV} {us vs : List Value} (h : VRs N φ xs us) (k : VRs N φ ys vs) : VRs N φ (xs ++ ys) (us ++ vs) := by
  refine ⟨by simp [h.1, k.1], fun i x v hx hv => ?_⟩
  by_cases hi : i < xs.length
  · rw [List.getElem?_append_left hi] at hx
    rw [List.getElem?_append_left (h.1 ▸ hi)] at hv
    exact h.2 i x v hx hv
  · rw [List.getElem?_append_right (by omega)] at hx
    rw [List.getElem?_append_right (by have := h.1; omega)] at hv
    rw [h.1] at hx
    exact k.2 _ x v hx hv
theorem VRs.take {N : Nat → Prop} {φ : Nat → Loc} {xs : List AV} {vs : List Value} (h : VRs N φ xs vs) (n : Nat) : VRs N φ (xs.take n) (vs.take n) := by
  refine ⟨by simp [h.1], fun i x v hx hv => ?_⟩
  rw [List.getElem?_take] at hx hv
  split at hx
  · rename_i hi; rw [if_pos hi] at hv; exact h.2 i x v hx hv
  · cases hx
theorem VRs.drop {N : Nat → Prop} {φ : Nat → Loc} {xs : List AV} {vs : List Value} (h : VRs N φ xs vs) (n : Nat) : VRs N φ (xs.drop n) (vs.drop n) := by
  refine ⟨by simp [h.1], fun i x v hx hv => ?_⟩
  rw [List.getElem?_drop] at hx hv
  exact h.2 _ x v hx hv
theorem VRs.set {N : Nat → Prop} {φ : Nat → Loc} {xs : List AV} {vs : List Value} (h : VRs N φ xs vs) (n : Nat) {y : AV} {u : Value} (k : VR N φ y u) : VRs N φ (xs.set n y) (vs.set n u) := by
  refine ⟨by simp [h.1], fun i x v hx hv => ?_⟩
  rw [List.getElem?_set] at hx hv
  have := h.1
  by_cases hn : n = i
  · subst hn
    simp only [if_true] at hx hv
    split at hx
    · rename_i hlt; rw [if_pos (by omega)] at hv; cases hx; cases hv; exact k
    · cases hx
  · rw [if_neg hn] at hx hv; exact h.2 i x v hx hv
/-- What stands at a place has a partner there. -/
theorem VRs.at {N : Nat → Prop} {φ : Nat → Loc} {xs : List AV} {vs : List Value} (h : VRs N φ xs vs) {i : Nat} {x : AV} (hx : xs[i]? = some x) : ∃ v, vs[i]? = some v ∧ VR N φ x v := by
  have hi : i < xs.length := by
    rcases Nat.lt_or_ge i xs.length with h' | h'
    · exact h'
    · rw [List.getElem?_eq_none h'] at hx; cases hx
  have hi' : i < vs.length := h.1 ▸ hi
  exact ⟨vs[i], List.getElem?_eq_getElem hi', h.2 i x _ hx (List.getElem?_eq_getElem hi')⟩
theorem VRs.map {N : Nat → Prop} {φ : Nat → Loc} {α : Type} (f : α → AV) (g : α → Value) (h : ∀ a, VR N φ (f a) (g a)) : ∀ l : List α, VRs N φ (l.map f) (l.map g)
  | [] => VRs.nil _ _
  | a :: l => VRs.cons (h a) (VRs.map f g h l)

theorem VR.ofCell (N : Nat → Prop) (φ : Nat → Loc) (v : Value) : VR N φ (ofCell v) v := by
  cases v with
  | int k n => exact .int k n
  | bool b => exact .bool b
  | string s => obtain ⟨⟨l⟩⟩ := s; exact .str l
  | _ => exact .val _



theorem VR.ofValue (N : Nat → Prop) (φ : Nat → Loc) (v : Value) : VR N φ (ofValue v) v := by
  have h0 := VR.ofCell N φ v
  cases v with
  | agg cs =>
    refine .agg _ _ (by simp) fun i x u hx hu => ?_
    have := VRs.map (N := N) (φ := φ) Go.Proofs.YtobhmahlenjheaaM.ofCell id (VR.ofCell N φ) cs.toList
    exact this.2 i x u hx (by simpa using hu)
  | tuple cs =>
    refine .tup _ _ (by simp) fun i x u hx hu => ?_
    have := VRs.map (N := N) (φ := φ) Go.Proofs.YtobhmahlenjheaaM.ofCell id (VR.ofCell N φ) cs.toList
    exact this.2 i x u hx (by simpa using hu)
  | _ => exact h0

theorem VR.undef (N : Nat → Prop) (φ : Nat → Loc) : VR N φ .undef Go.undef := .tup [] #[] rfl fun i x v hx _ => by simp at hx

theorem VR.aggs {N : Nat → Prop} {φ : Nat → Loc} {xs : List AV} {vs : List Value} (h : VRs N φ xs vs) : VR N φ (.agg xs) (.agg vs.toArray) :=
  .agg _ _ (by simpa using h.1) fun i x v hx hv => h.2 i x v hx (by simpa using hv)
theorem VR.tups {N : Nat → Prop} {φ : Nat → Loc} {xs : List AV} {vs : List Value} (h : VRs N φ xs vs) : VR N φ (.tup xs) (.tuple vs.toArray) :=
  .tup _ _ (by simpa using h.1) fun i x v hx hv => h.2 i x v hx (by simpa using hv)

theorem VR.one {N : Nat → Prop} {φ : Nat → Loc} {x : AV} {v : Value} (h : VR N φ x v) (hx : x.one = true) : v.oneCell' = true := by
  cases h <;> first | rfl | (simp [AV.one] at hx; done) | skip
  cases v <;> first | rfl | (simp [AV.one] at hx)

/-- A value's cells, and the model's. -/
theorem VR.cells {N : Nat → Prop} {φ : Nat → Loc} {x : AV} {v : Value} (h : VR N φ x v) {cs : List AV} (hc : x.cells = some cs) : VRs N φ cs v.cells.toList := by
  have one : ∀ {y : AV} {u : Value}, VR N φ y u → y.one = true → u.cells = #[u] := fun {y u} hy ho => by
    have := hy.one ho
    cases u <;> first | rfl | (simp [Value.oneCell'] at this)
  cases h with
  | agg xs vs hl h =>
    simp [AV.cells] at hc
    subst hc
    exact ⟨by simpa [Value.cells] using hl, fun i x v hx hv => h i x v hx (by simpa [Value.cells] using hv)⟩
  | _ =>
    simp only [AV.cells] at hc
    split at hc
    · rename_i ho
      cases hc
      rw [one (by first | exact .int _ _ | exact .bool _ | exact .str _ | exact .val _ | exact .ptr _ _ (by assumption) | exact .sl _ _ _ _ _ _ (by assumption) (by assumption) (by assumption) | exact .map _ (by assumption) | exact .iface _ _ _ (by assumption) | exact .tup _ _ (by assumption) (by assumption) | exact .func _ _ _ _ _ (by assumption) (by assumption) (by assumption) (by assumption) | exact .any _) ho]
      exact VRs.cons (by first | exact .int _ _ | exact .bool _ | exact .str _ | exact .val _ | exact .ptr _ _ (by assumption) | exact .sl _ _ _ _ _ _ (by assumption) (by assumption) (by assumption) | exact .map _ (by assumption) | exact .iface _ _ _ (by assumption) | exact .tup _ _ (by assumption) (by assumption) | exact .func _ _ _ _ _ (by assumption) (by assumption) (by assumption) (by assumption) | exact .any _) (VRs.nil _ _)
    · cases hc

/-! ### The heap -/
def AH.ok (h : AH) (id : Nat) : Prop := ∃ o, h.get id = some o

theorem AH.get_lt {h : AH} {id : Nat} {o : AO} (hg : h.get id = some o) : id < h.n := by
  unfold AH.get at hg; split at hg
  · assumption
  · cases hg
theorem AH.get_push_new (h : AH) (o : AO) : (h.push o).get h.n = some o := by simp [AH.get, AH.push]
theorem AH.get_push_old {h : AH} {o : AO} {id : Nat} (hi : id < h.n) : (h.push o).get id = h.get id := by
  have e : h.n + 1 - 1 - id = (h.n - 1 - id) + 1 := by omega
  simp only [AH.get, AH.push, if_pos hi, e, List.getElem?_cons_succ]
  rw [if_pos (by omega)]
theorem AH.get_push_ne {h : AH} {o : AO} {id : Nat} (hi : id ≠ h.n) : (h.push o).get id = h.get id := by
  rcases Nat.lt_or_ge id h.n with h' | h'
  · exact AH.get_push_old h'
  · have h1 : ¬ id < h.n := by omega
    have h2 : ¬ id < (h.push o).n := by rw [show (h.push o).n = h.n + 1 from rfl]; omega
    simp only [AH.get, if_neg h1, if_neg h2]
theorem AH.set_n (h : AH) (id : Nat) (o : AO) : (h.set id o).n = h.n := by unfold AH.set; split <;> rfl
theorem AH.push_n (h : AH) (o : AO) : (h.push o).n = h.n + 1 := rfl
theorem AH.get_set_same {h : AH} {id : Nat} {o p : AO} (hg : h.get id = some p) : (h.set id o).get id = some o := by
  have hlt := AH.get_lt hg
  have hl : h.n - 1 - id < h.l.length := by
    simp only [AH.get, if_pos hlt] at hg
    rcases Nat.lt_or_ge (h.n - 1 - id) h.l.length with h' | h'
    · exact h'
    · rw [List.getElem?_eq_none h'] at hg; cases hg
  simp [AH.get, AH.set, hlt, hl]
theorem AH.get_set_ne {h : AH} {id k : Nat} {o : AO} (hk : k ≠ id) : (h.set id o).get k = h.get k := by
  unfold AH.set
  split
  · rename_i hlt
    simp only [AH.get]
    split
    · rename_i hk'
      rw [List.getElem?_set_ne (by omega)]
    · rfl
  · rfl

theorem AH.ok_lt {h : AH} {id : Nat} (hk : h.ok id) : id < h.n := let ⟨_, hg⟩ := hk; AH.get_lt hg
theorem AH.ok_new (h : AH) (o : AO) : (h.push o).ok h.n := ⟨o, AH.get_push_new h o⟩
theorem AH.ok_push {h : AH} {o : AO} {id : Nat} (hk : h.ok id) : (h.push o).ok id := let ⟨p, hg⟩ := hk; ⟨p, by rw [AH.get_push_old (AH.get_lt hg)]; exact hg⟩
theorem AH.ok_set {h : AH} {id k : Nat} {o p : AO} (hg : h.get id = some p) : (h.set id o).ok k ↔ h.ok k := by
  by_cases e : k = id
  · subst e; exact ⟨fun _ => ⟨p, hg⟩, fun _ => ⟨o, AH.get_set_same hg⟩⟩
  · unfold AH.ok; rw [AH.get_set_ne e]

def AO.owned : AO → Bool
  | .cells _ own _ _ => own
  | .map _ _ => true
  | .siter _ _ => true
  | .dead => false
  | .gvar _ _ => false
def AO.live : AO → Bool
  | .dead => false
  | _ => true
theorem AO.owned_live {o : AO} (h : o.owned = true) : o.live = true := by cases o <;> first | rfl | cases h

def EntR (N : Nat → Prop) (φ : Nat → Loc) (a : AV × AV × Nat) (e : MapEntry) : Prop := VR N φ a.1 e.key ∧ VR N φ a.2.1 e.val ∧ a.2.2 = e.born

def ObjR (N : Nat → Prop) (φ : Nat → Loc) (loc : Loc) : AO → Option Obj → Prop
  | .cells c own fz ty, o => ∃ (C : Array Value) (e : TypeId) (lo hi : Nat), o = some (.cells C e (lo, hi)) ∧ C.size = loc.n ∧ loc.o + c.length ≤ C.size ∧
      (∀ (i : Nat) (x : AV), c[i]? = some x → ∃ v, C[loc.o + i]? = some v ∧ VR N φ x v) ∧ (own = true → ∀ i, loc.o + fz ≤ i → i < C.size → ¬ (lo ≤ i ∧ i < hi)) ∧ (∀ t b, ty = some (t, b) → e = t ∧ (b = true → loc.o = 0 ∧ loc.n = c.length))
  | .map es clock, o => ∃ es' : Array MapEntry, o = some (.map es' clock) ∧ es.length = es'.size ∧ ∀ (i : Nat) (a : AV × AV × Nat) (e : MapEntry), es[i]? = some a → es'[i]? = some e → EntR N φ a e
  | .siter s pos, o => loc.o = 0 ∧ o = some (.stringIter ⟨⟨s⟩⟩ pos)
  | .dead, _ => True
  | .gvar g c, o => loc.b = g ∧ ∃ (C : Array Value) (e : TypeId) (lo hi : Nat), o = some (.cells C e (lo, hi)) ∧ c.length ≤ C.size ∧ ∀ (i : Nat) (x : AV), c[i]? = some x → ∃ v, C[i]? = some v ∧ VR N φ x v

theorem ObjR.mono {N N' : Nat → Prop} {φ φ' : Nat → Loc} (hN : ∀ id, N id → N' id) (he : ∀ id, N id → φ' id = φ id) {loc : Loc} {o : AO} {r : Option Obj} (h : ObjR N φ loc o r) : ObjR N' φ' loc o r := by
  cases o with
  | cells c own fz ty =>
    obtain ⟨C, e, lo, hi, h1, h2, h3, h4, h5⟩ := h
    exact ⟨C, e, lo, hi, h1, h2, h3, fun i x hx => let ⟨v, hv, hr⟩ := h4 i x hx; ⟨v, hv, hr.mono hN he⟩, h5⟩
  | map es clock =>
    obtain ⟨es', h1, h2, h3⟩ := h
    exact ⟨es', h1, h2, fun i a e ha he' => let ⟨k1, k2, k3⟩ := h3 i a e ha he'; ⟨k1.mono hN he, k2.mono hN he, k3⟩⟩
  | siter s pos => exact h
  | dead => trivial
  | gvar g c =>
    obtain ⟨h0, C, e, lo, hi, h1, h2, h3⟩ := h
    exact ⟨h0, C, e, lo, hi, h1, h2, fun i x hx => let ⟨v, hv, hr⟩ := h3 i x hx; ⟨v, hv, hr.mono hN he⟩⟩

theorem ObjR.there {N : Nat → Prop} {φ : Nat → Loc} {loc : Loc} {o : AO} {r : Option Obj} (h : ObjR N φ loc o r) (hl : o.live = true) : ∃ x, r = some x := by
  cases o with
  | cells c own fz ty => obtain ⟨C, e, lo, hi, h1, _⟩ := h; exact ⟨_, h1⟩
  | map es clock => obtain ⟨es', h1, _⟩ := h; exact ⟨_, h1⟩
  | siter s pos => exact ⟨_, h.2⟩
  | dead => cases hl
  | gvar g c => obtain ⟨h0, C, e, lo, hi, h1, _⟩ := h; exact ⟨_, h1⟩

structure Rel (B : Nat) (φ : Nat → Loc) (h : AH) (w : World) : Prop where
  obj : ∀ id o, h.get id = some o → ObjR h.ok φ (φ id) o w.heap[(φ id).b]?
  base : ∀ id o, h.get id = some o → o.owned = true → B ≤ (φ id).b
  sep : ∀ i j o p, h.get i = some o → h.get j = some p → o.owned = true → p.live = true → (φ i).b = (φ j).b → i = j
  bs : B ≤ w.heap.size

theorem Rel.lt {B : Nat} {φ : Nat → Loc} {h : AH} {w : World} (r : Rel B φ h w) {id : Nat} {o : AO} (hg : h.get id = some o) (hl : o.live = true) : (φ id).b < w.heap.size := by
  obtain ⟨x, hx⟩ := (r.obj id o hg).there hl
  rcases Nat.lt_or_ge (φ id).b w.heap.size with h' | h'
  · exact h'
  · rw [Array.getElem?_eq_none h'] at hx; cases hx

/-- What a step of the machine does to the world. -/
structure Step (φ : Nat → Loc) (h : AH) (w : World) (φ' : Nat → Loc) (h' : AH) (w' : World) : Prop where
  os : w'.os = w.os
  tape : w'.tape = w.tape
  output : w'.output = w.output
  size : w.heap.size ≤ w'.heap.size
  n : h.n ≤ h'.n
  okm : ∀ id, h.ok id → h'.ok id
  ext : ∀ id, id < h.n → φ' id = φ id
  frame : ∀ k, k < w.heap.size → (∀ id o, h.get id = some o → o.owned = true → (φ id).b ≠ k) → w'.heap[k]? = w.heap[k]?
  own : ∀ id o, h'.get id = some o → o.owned = true → w.heap.size ≤ (φ' id).b ∨ ∃ j p, h.get j = some p ∧ p.owned = true ∧ (φ j).b = (φ' id).b
  dr : w.drawn ≤ w'.drawn
  lv : ∀ id o, h'.get id = some o → o.live = true → w.heap.size ≤ (φ' id).b ∨ ∃ j p, h.get j = some p ∧ p.live = true ∧ (φ j).b = (φ' id).b

theorem Step.refl (φ : Nat → Loc) (h : AH) (w : World) : Step φ h w φ h w :=
  ⟨rfl, rfl, rfl, Nat.le_refl _, Nat.le_refl _, fun _ hk => hk, fun _ _ => rfl, fun _ _ _ => rfl, fun id o hg ho => .inr ⟨id, o, hg, ho, rfl⟩, Nat.le_refl _, fun id o hg ho => .inr ⟨id, o, hg, ho, rfl⟩⟩

theorem Step.trans {φ φ' φ'' : Nat → Loc} {h h' h'' : AH} {w w' w'' : World} (a : Step φ h w φ' h' w') (b : Step φ' h' w' φ'' h'' w'') : Step φ h w φ'' h'' w'' := by
  refine ⟨b.os.trans a.os, b.tape.trans a.tape, b.output.trans a.output, Nat.le_trans a.size b.size, Nat.le_trans a.n b.n, fun id hk => b.okm id (a.okm id hk), fun id hi => ?_, fun k hk hn => ?_, fun id o hg ho => ?_, Nat.le_trans a.dr b.dr, fun id o hg ho => ?_⟩
  · rw [b.ext id (Nat.lt_of_lt_of_le hi a.n), a.ext id hi]
  · rw [b.frame k (Nat.lt_of_lt_of_le hk a.size) fun id o hg ho => ?_, a.frame k hk hn]
    rcases a.own id o hg ho with h1 | ⟨j, p, hj, hp, he⟩
    · omega
    · rw [← he]; exact hn j p hj hp
  · rcases b.own id o hg ho with h1 | ⟨j, p, hj, hp, he⟩
    · exact .inl (Nat.le_trans a.size h1)
    · rw [← he]
      exact a.own j p hj hp
  · rcases b.lv id o hg ho with h1 | ⟨j, p, hj, hp, he⟩
    · exact .inl (Nat.le_trans a.size h1)
    · rw [← he]
      exact a.lv j p hj hp

/-- A draw. -/
theorem Rel.drew {B : Nat} {φ : Nat → Loc} {h : AH} {w : World} (r : Rel B φ h w) (n : Nat) : Rel B φ h { w with drawn := n } := ⟨r.obj, r.base, r.sep, r.bs⟩
theorem Step.drew (φ : Nat → Loc) (h : AH) (w : World) (n : Nat) (hn : w.drawn ≤ n) : Step φ h w φ h { w with drawn := n } :=
  ⟨rfl, rfl, rfl, Nat.le_refl _, Nat.le_refl _, fun _ hk => hk, fun _ _ => rfl, fun _ _ _ => rfl, fun id o hg ho => .inr ⟨id, o, hg, ho, rfl⟩, hn, fun id o hg ho => .inr ⟨id, o, hg, ho, rfl⟩⟩

def ext1 (φ : Nat → Loc) (n : Nat) (l : Loc) : Nat → Loc := fun id => if id = n then l else φ id
theorem ext1_new (φ : Nat → Loc) (n : Nat) (l : Loc) : ext1 φ n l n = l := by simp [ext1]
theorem ext1_old {φ : Nat → Loc} {n : Nat} {l : Loc} {id : Nat} (h : id < n) : ext1 φ n l id = φ id := by simp [ext1, Nat.ne_of_lt h]

theorem alloc_size (w : World) (x : Obj) : (w.alloc x).heap.size = w.heap.size + 1 := by
  show (w.heap.push x).size = _
  simp
theorem alloc_new (w : World) (x : Obj) : (w.alloc x).heap[w.heap.size]? = some x := by
  show (w.heap.push x)[w.heap.size]? = _
  simp

/-- A new block. -/
theorem Rel.push {B : Nat} {φ : Nat → Loc} {h : AH} {w : World} (r : Rel B φ h w) (o : AO) (x : Obj) (l : Loc) (hb : l.b = w.heap.size)
    (ho : ObjR (h.push o).ok (ext1 φ h.n l) l o (some x)) : Rel B (ext1 φ h.n l) (h.push o) (w.alloc x) ∧ Step φ h w (ext1 φ h.n l) (h.push o) (w.alloc x) := by
  have old : ∀ {id : Nat} {p : AO}, (h.push o).get id = some p → id ≠ h.n → h.get id = some p ∧ id < h.n := fun {id p} hg hne => by
    rw [AH.get_push_ne hne] at hg; exact ⟨hg, AH.get_lt hg⟩
  have heap : ∀ k, k < w.heap.size → (w.alloc x).heap[k]? = w.heap[k]? := fun k hk => Below.heap_alloc w x k hk
  refine ⟨⟨fun id p hg => ?_, fun id p hg hp => ?_, fun i j p q hi hj hp hq he => ?_, ?_⟩, ⟨rfl, rfl, rfl, by rw [alloc_size]; omega, by simp [AH.push_n], fun id hk => AH.ok_push hk, fun id hi => ext1_old hi, fun k hk _ => heap k hk, fun id p hg hp => ?_, Nat.le_refl _, fun id p hg hp => ?_⟩⟩
  · by_cases hid : id = h.n
    · subst hid
      rw [AH.get_push_new] at hg
      cases hg
      rw [ext1_new, hb]
      rw [alloc_new]
      exact ho
    · obtain ⟨hg', hlt⟩ := old hg hid
      rw [ext1_old hlt]
      cases hl : p.live with
      | false => cases p <;> first | trivial | cases hl
      | true =>
        rw [heap _ (r.lt hg' hl)]
        exact (r.obj id p hg').mono (fun k hk => AH.ok_push hk) fun k hk => ext1_old (AH.ok_lt hk)
  · by_cases hid : id = h.n
    · subst hid; rw [ext1_new, hb]; exact r.bs
    · obtain ⟨hg', hlt⟩ := old hg hid
      rw [ext1_old hlt]; exact r.base id p hg' hp
  · by_cases hii : i = h.n
    · subst hii
      by_cases hjj : j = h.n
      · exact hjj.symm
      · obtain ⟨hg', hlt⟩ := old hj hjj
        rw [ext1_new, ext1_old hlt, hb] at he
        have := r.lt hg' hq
        omega
    · obtain ⟨hg', hlt⟩ := old hi hii
      by_cases hjj : j = h.n
      · subst hjj
        rw [ext1_new, ext1_old hlt, hb] at he
        have := r.lt hg' (AO.owned_live hp)
        omega
      · obtain ⟨hg'', hlt'⟩ := old hj hjj
        rw [ext1_old hlt, ext1_old hlt'] at he
        exact r.sep i j p q hg' hg'' hp hq he
  · have := r.bs; rw [alloc_size]; omega
  · by_cases hid : id = h.n
    · subst hid; rw [ext1_new, hb]; exact .inl (Nat.le_refl _)
    · obtain ⟨hg', hlt⟩ := old hg hid
      exact .inr ⟨id, p, hg', hp, by rw [ext1_old hlt]⟩
  · by_cases hid : id = h.n
    · subst hid; rw [ext1_new, hb]; exact .inl (Nat.le_refl _)
    · obtain ⟨hg', hlt⟩ := old hg hid
      exact .inr ⟨id, p, hg', hp, by rw [ext1_old hlt]⟩

/-- A world that differs in one block of the machine's own. -/
structure Turned (w w' : World) (b : Nat) : Prop where
  os : w'.os = w.os
  tape : w'.tape = w.tape
  output : w'.output = w.output
  size : w'.heap.size = w.heap.size
  other : ∀ k, k ≠ b → w'.heap[k]? = w.heap[k]?
  dr : w.drawn ≤ w'.drawn

theorem Rel.update {B : Nat} {φ : Nat → Loc} {h : AH} {w w' : World} (r : Rel B φ h w) {id : Nat} {o : AO} (hg : h.get id = some o) (ho : o.owned = true) (t : Turned w w' (φ id).b)
    (o' : AO) (ho' : ObjR h.ok φ (φ id) o' w'.heap[(φ id).b]?) : Rel B φ (h.set id o') w' ∧ Step φ h w φ (h.set id o') w' := by
  refine ⟨⟨fun k p hk => ?_, fun k p hk hp => ?_, fun i j p q hi hj hp hq he => ?_, by rw [t.size]; exact r.bs⟩, ⟨t.os, t.tape, t.output, by rw [t.size]; exact Nat.le_refl _, by rw [AH.set_n]; exact Nat.le_refl _, fun k hk => (AH.ok_set hg).2 hk, fun _ _ => rfl, fun k hk hn => t.other k fun e => hn id o hg ho e.symm, fun k p hk hp => ?_, t.dr, fun k p hk hp => ?_⟩⟩
  · have hK : ∀ j, h.ok j → (h.set id o').ok j := fun j hj => (AH.ok_set hg).2 hj
    by_cases e : k = id
    · subst e; rw [AH.get_set_same hg] at hk; cases hk; exact ho'.mono hK fun _ _ => rfl
    · rw [AH.get_set_ne e] at hk
      cases hl : p.live with
      | false => cases p <;> first | trivial | cases hl
      | true =>
        rw [t.other _ fun e' => e (r.sep id k o p hg hk ho hl e'.symm).symm]
        exact (r.obj k p hk).mono hK fun _ _ => rfl
  · by_cases e : k = id
    · subst e; exact r.base k o hg ho
    · rw [AH.get_set_ne e] at hk; exact r.base k p hk hp
  · by_cases ei : i = id
    · by_cases ej : j = id
      · rw [ei, ej]
      · rw [AH.get_set_ne ej] at hj
        subst ei
        exact r.sep i j o q hg hj ho hq he
    · rw [AH.get_set_ne ei] at hi
      by_cases ej : j = id
      · subst ej
        exact r.sep i j p o hi hg hp (AO.owned_live ho) he
      · rw [AH.get_set_ne ej] at hj
        exact r.sep i j p q hi hj hp hq he
  · by_cases e : k = id
    · subst e; exact .inr ⟨k, o, hg, ho, rfl⟩
    · rw [AH.get_set_ne e] at hk; exact .inr ⟨k, p, hk, hp, rfl⟩
  · by_cases e : k = id
    · subst e; exact .inr ⟨k, o, hg, AO.owned_live ho, rfl⟩
    · rw [AH.get_set_ne e] at hk; exact .inr ⟨k, p, hk, hp, rfl⟩

/-- A block that is no more to be asked for. -/
theorem Rel.kill {B : Nat} {φ : Nat → Loc} {h : AH} {w : World} (r : Rel B φ h w) {id : Nat} {o : AO} (hg : h.get id = some o) (ho : o.owned = true) :
    Rel B φ (h.set id .dead) w ∧ Step φ h w φ (h.set id .dead) w :=
  r.update hg ho ⟨rfl, rfl, rfl, rfl, fun _ _ => rfl, Nat.le_refl _⟩ .dead trivial

/-- A block that goes on under another name, in its place. -/
theorem Rel.move {B : Nat} {φ : Nat → Loc} {h : AH} {w w' : World} (r : Rel B φ h w) {id : Nat} {o : AO} (hg : h.get id = some o) (ho : o.owned = true) (t : Turned w w' (φ id).b)
    (l : Loc) (hl : l.b = (φ id).b) (o' : AO) (ho' : ObjR ((h.set id .dead).push o').ok (ext1 φ h.n l) l o' w'.heap[l.b]?) :
    Rel B (ext1 φ h.n l) ((h.set id .dead).push o') w' ∧ Step φ h w (ext1 φ h.n l) ((h.set id .dead).push o') w' := by
  obtain ⟨r1, _⟩ := r.kill hg ho
  have hn : (h.set id .dead).n = h.n := AH.set_n _ _ _
  have old : ∀ {k : Nat} {p : AO}, ((h.set id .dead).push o').get k = some p → k ≠ h.n → p.live = true → h.get k = some p ∧ k < h.n ∧ k ≠ id := fun {k p} hk hne hp => by
    rw [AH.get_push_ne (by rw [hn]; exact hne)] at hk
    have hlt := AH.get_lt hk
    rw [hn] at hlt
    by_cases e : k = id
    · subst e; rw [AH.get_set_same hg] at hk; cases hk; cases hp
    · rw [AH.get_set_ne e] at hk; exact ⟨hk, hlt, e⟩
  have new : ∀ {p : AO}, ((h.set id .dead).push o').get h.n = some p → p = o' := fun {p} hk => by
    rw [← hn, AH.get_push_new] at hk; exact (Option.some.inj hk).symm
  refine ⟨⟨fun k p hk => ?_, fun k p hk hp => ?_, fun i j p q hi hj hp hq he => ?_, by rw [t.size]; exact r.bs⟩, ⟨t.os, t.tape, t.output, by rw [t.size]; exact Nat.le_refl _, by rw [AH.push_n, hn]; omega, fun k hk => AH.ok_push ((AH.ok_set hg).2 hk), fun k hk => ext1_old hk, fun k hk hne => t.other k fun e => hne id o hg ho e.symm, fun k p hk hp => ?_, t.dr, fun k p hk hp => ?_⟩⟩
  · by_cases e : k = h.n
    · subst e; rw [new hk, ext1_new]; rw [new hk] at *; exact ho'
    · cases hp : p.live with
      | false => cases p <;> first | trivial | cases hp
      | true =>
        obtain ⟨hk', hlt, hne⟩ := old hk e hp
        rw [ext1_old hlt, t.other _ fun e' => hne (r.sep id k o p hg hk' ho hp e'.symm).symm]
        exact (r.obj k p hk').mono (fun j hj => AH.ok_push ((AH.ok_set hg).2 hj)) fun _ hk => ext1_old (AH.ok_lt hk)
  · by_cases e : k = h.n
    · subst e; rw [ext1_new, hl]; exact r.base id o hg ho
    · obtain ⟨hk', hlt, _⟩ := old hk e (AO.owned_live hp)
      rw [ext1_old hlt]; exact r.base k p hk' hp
  · by_cases ei : i = h.n
    · by_cases ej : j = h.n
      · rw [ei, ej]
      · obtain ⟨hj', hlt, hne⟩ := old hj ej hq
        subst ei
        rw [ext1_new, ext1_old hlt, hl] at he
        exact absurd (r.sep id j o q hg hj' ho hq he).symm hne
    · obtain ⟨hi', hlt, hne⟩ := old hi ei (AO.owned_live hp)
      by_cases ej : j = h.n
      · subst ej
        rw [ext1_new, ext1_old hlt, hl] at he
        exact absurd (r.sep i id p o hi' hg hp (AO.owned_live ho) he) hne
      · obtain ⟨hj', hlt', _⟩ := old hj ej hq
        rw [ext1_old hlt, ext1_old hlt'] at he
        exact r.sep i j p q hi' hj' hp hq he
  · by_cases e : k = h.n
    · subst e; rw [ext1_new, hl]; exact .inr ⟨id, o, hg, ho, rfl⟩
    · obtain ⟨hk', hlt, _⟩ := old hk e (AO.owned_live hp)
      exact .inr ⟨k, p, hk', hp, by rw [ext1_old hlt]⟩
  · by_cases e : k = h.n
    · subst e; rw [ext1_new, hl]; exact .inr ⟨id, o, hg, AO.owned_live ho, rfl⟩
    · obtain ⟨hk', hlt, _⟩ := old hk e hp
      exact .inr ⟨k, p, hk', hp, by rw [ext1_old hlt]⟩


end
/-! M2 -/
section
set_option linter.unusedSimpArgs false
set_option linter.unusedVariables false
open Go Go.RowKit

variable {P : Program} {B : Nat} {φ : Nat → Loc} {h : AH} {w : World}

/-- The result of an operation: a value and a heap of the machine, and the model's. -/
def Res (B : Nat) (φ : Nat → Loc) (h : AH) (w : World) (v : AV) (h' : AH) (v' : Value) (w' : World) : Prop :=
  ∃ φ', VR h'.ok φ' v v' ∧ Rel B φ' h' w' ∧ Step φ h w φ' h' w'

theorem Res.pure {v : AV} {v' : Value} (r : Rel B φ h w) (hv : VR h.ok φ v v') : Res B φ h w v h v' w := ⟨φ, hv, r, Step.refl _ _ _⟩

/-! ### Types -/
theorem info_of_szOf {t : TypeId} {n : Nat} (hs : szOf P t = some n) : ∃ i, P.info? t = some i ∧ i.size = n := by
  unfold szOf at hs
  cases hi : P.info? t with
  | none => rw [hi] at hs; cases hs
  | some i => rw [hi] at hs; exact ⟨i, rfl, Option.some.inj hs⟩

theorem run_typeInfo' {t : TypeId} {i : TypeInfo} (hi : P.info? t = some i) (w : World) : (typeInfo t).run P w = .ok i w := by
  simp [typeInfo, hi]

theorem run_sizeOf' {t : TypeId} {n : Nat} (hs : szOf P t = some n) (w : World) : (sizeOf t).run P w = .ok n w := by
  obtain ⟨i, hi, hn⟩ := info_of_szOf hs
  simp [sizeOf, run_typeInfo' hi, hn]

theorem run_isAgg' {t : TypeId} {b : Bool} (hb : isAg P t = some b) (w : World) : (isAgg t).run P w = .ok b w := by
  unfold isAg at hb
  cases hu : P.underlying t with
  | none => rw [hu] at hb; cases hb
  | some d =>
    rw [hu] at hb
    have hb' := Option.some.inj hb
    subst hb'
    simp only [isAgg, Sem.run_bind, run_underlying hu, Result.andThen_ok]
    cases d <;> rfl

theorem run_zeroValue' {t : TypeId} {z : AV} (hz : zeroOf P t = some z) (w : World) : ∃ v, z = ofValue v ∧ (zeroValue t).run P w = .ok v w := by
  unfold zeroOf at hz
  cases hi : P.info? t with
  | none => rw [hi] at hz; cases hz
  | some i =>
    rw [hi] at hz
    cases hv : i.zero with
    | none => simp [hv] at hz
    | some v =>
      simp [hv] at hz
      exact ⟨v, hz.symm, by simp [zeroValue, run_typeInfo' hi, hv]⟩

/-! ### Cells -/
theorem addr_add (b o i : Nat) : (⟨b, o, none⟩ : Addr).add i = ⟨b, o + i, none⟩ := by
  unfold Addr.add; split <;> simp_all

theorem cell_at {b : Nat} {C : Array Value} {e : TypeId} {fr : Nat × Nat} (hb : w.heap[b]? = some (.cells C e fr)) (o : Nat) : w.cell? ⟨b, o, none⟩ = C[o]? := by
  obtain ⟨lo, hi⟩ := fr
  simp [World.cell?, hb]

theorem frozen_at {b : Nat} {C : Array Value} {e : TypeId} {lo hi : Nat} (hb : w.heap[b]? = some (.cells C e (lo, hi))) (o : Nat) (hn : ¬ (lo ≤ o ∧ o < hi)) : w.frozen? ⟨b, o, none⟩ = false := by
  simp only [World.frozen?, hb]
  simpa [Bool.and_eq_false_iff] using fun h => Nat.le_of_not_lt fun h' => hn ⟨h, h'⟩

theorem run_loadCells' {b : Nat} {C : Array Value} {e : TypeId} {fr : Nat × Nat} (hb : w.heap[b]? = some (.cells C e fr)) (o n : Nat) (hn : o + n ≤ C.size) :
    (loadCells ⟨b, o, none⟩ n).run P w = .ok ((C.toList.drop o).take n).toArray w := by
  have hl : ((C.toList.drop o).take n).length = n := by simp; omega
  have := run_loadCells_list (P := P) w ⟨b, o, none⟩ ((C.toList.drop o).take n) fun j v hj => by
    rw [addr_add, cell_at hb]
    rw [List.getElem?_take] at hj
    split at hj
    · rw [List.getElem?_drop] at hj; simpa using hj
    · cases hj
  rwa [hl] at this

/-- Cells that are written, one by one, into a block of the machine's own. -/
theorem run_storeCells' (b o : Nat) (e : TypeId) (lo hi : Nat) : ∀ (vs : List Value) (i : Nat) (C : Array Value) (w : World), w.heap[b]? = some (.cells C e (lo, hi)) → o + i + vs.length ≤ C.size →
    (∀ v ∈ vs, v.oneCell' = true) → (∀ j, o + i ≤ j → j < C.size → ¬ (lo ≤ j ∧ j < hi)) →
    ∃ w', (storeCells ⟨b, o, none⟩ vs i).run P w = .ok () w' ∧ Turned w w' b ∧ w'.drawn = w.drawn ∧ ∃ C' : Array Value, w'.heap[b]? = some (.cells C' e (lo, hi)) ∧ C'.size = C.size ∧
      C'.toList = C.toList.take (o + i) ++ (vs ++ C.toList.drop (o + i + vs.length))
  | [], i, C, w, hb, hl, h1, hf => ⟨w, rfl, ⟨rfl, rfl, rfl, rfl, fun _ _ => rfl, Nat.le_refl _⟩, rfl, C, hb, rfl, by simp⟩
  | v :: rest, i, C, w, hb, hl, h1, hf => by
    have hlt : o + i < C.size := by simp at hl; omega
    have hst : (store ((⟨b, o, none⟩ : Addr).add i) v).run P w = .ok () (w.setCell ⟨b, o + i, none⟩ v) := by
      rw [addr_add, run_store P w _ v _ (h1 v (by simp)), cell_at hb, Array.getElem?_eq_getElem hlt]
      simp [frozen_at hb (o + i) (hf (o + i) (Nat.le_refl _) hlt)]
    have hb' : (w.setCell ⟨b, o + i, none⟩ v).heap[b]? = some (.cells (C.setIfInBounds (o + i) v) e (lo, hi)) := by
      simp [World.setCell, Array.getElem?_modify, hb]
    obtain ⟨w', hr, ht, hd, C', hC, hs, hL⟩ := run_storeCells' b o e lo hi rest (i + 1) (C.setIfInBounds (o + i) v) (w.setCell ⟨b, o + i, none⟩ v) hb' (by simp at hl ⊢; omega) (fun x hx => h1 x (by simp [hx])) (fun j hj hj' => hf j (by omega) (by simpa using hj'))
    refine ⟨w', ?_, ⟨ht.os, ht.tape, ht.output, by rw [ht.size]; simp [World.setCell], fun k hk => by rw [ht.other k hk, Below.heap_setCell _ _ _ _ hk], ht.dr⟩, hd, C', hC, by simpa using hs, ?_⟩
    · simp only [storeCells, Sem.run_bind, hst, Result.andThen_ok, hr]
    · rw [hL]
      have hlt' : o + i < C.toList.length := by simpa using hlt
      simp only [Array.toList_setIfInBounds]
      have e1 : (C.toList.set (o + i) v).take (o + (i + 1)) = C.toList.take (o + i) ++ [v] := by
        rw [show o + (i + 1) = o + i + 1 by omega, List.take_add_one, List.take_set_of_le (by omega), List.getElem?_set_self hlt']
        rfl
      have e2 : (C.toList.set (o + i) v).drop (o + (i + 1) + rest.length) = C.toList.drop (o + i + (v :: rest).length) := by
        rw [List.drop_set_of_lt (by omega)]
        congr 1
        simp; omega
      rw [e1, e2]
      simp

/-- Of a block that the machine knows, the model's cells. -/
theorem Rel.cells (r : Rel B φ h w) {id : Nat} {c : List AV} {own : Bool} {fz : Nat} {ty : Option (TypeId × Bool)} (hg : h.get id = some (.cells c own fz ty)) :
    ∃ (C : Array Value) (e : TypeId) (lo hi : Nat), w.heap[(φ id).b]? = some (.cells C e (lo, hi)) ∧ C.size = (φ id).n ∧ (φ id).o + c.length ≤ C.size ∧
      VRs h.ok φ c ((C.toList.drop (φ id).o).take c.length) ∧ (own = true → ∀ i, (φ id).o + fz ≤ i → i < C.size → ¬ (lo ≤ i ∧ i < hi)) ∧ (∀ t b, ty = some (t, b) → e = t ∧ (b = true → (φ id).o = 0 ∧ (φ id).n = c.length)) := by
  obtain ⟨C, e, lo, hi, h1, h2, h3, h4, h5⟩ := r.obj id _ hg
  refine ⟨C, e, lo, hi, h1, h2, h3, ⟨by simp; omega, fun i x v hx hv => ?_⟩, h5⟩
  obtain ⟨u, hu, hr⟩ := h4 i x hx
  rw [List.getElem?_take] at hv
  split at hv
  · rw [List.getElem?_drop, Array.getElem?_toList, hu] at hv
    cases hv; exact hr
  · cases hv

/-- Part of a value. -/
theorem run_part' {t : TypeId} {cs : List AV} {vs : Array Value} {off : Nat} {x : AV} (hx : apart P t cs off = some x) {N : Nat → Prop} (hv : VRs N φ cs vs.toList) (w : World) :
    ∃ v, (part t vs off).run P w = .ok v w ∧ VR N φ x v := by
  unfold apart at hx
  cases ha : isAg P t with
  | none => simp [ha] at hx
  | some b =>
    cases b with
    | true =>
      cases hs : szOf P t with
      | none => simp [ha, hs] at hx
      | some n =>
        simp only [ha, hs] at hx
        split at hx
        · rename_i hle
          cases hx
          refine ⟨.agg (vs.extract off (off + n)), by simp [part, run_isAgg' ha, run_sizeOf' hs], ?_⟩
          have := VR.aggs ((hv.drop off).take n)
          have e : ((vs.toList.drop off).take n).toArray = vs.extract off (off + n) := by
            apply Array.ext'
            simp [Array.toList_extract, List.extract_eq_take_drop]
          rwa [e] at this
        · cases hx
    | false =>
      simp only [ha] at hx
      obtain ⟨v, hv', hr⟩ := hv.at hx
      refine ⟨v, ?_, hr⟩
      simp only [part, Sem.run_bind, run_isAgg' ha, Result.andThen_ok]
      rw [Array.getElem?_toList] at hv'
      simp [hv']

theorem apart_agg {t : TypeId} {cs : List AV} {off : Nat} {x : AV} (hx : apart P t cs off = some x) : (∃ n, isAg P t = some true ∧ szOf P t = some n ∧ off + n ≤ cs.length ∧ x = .agg ((cs.drop off).take n)) ∨ (isAg P t = some false ∧ cs[off]? = some x) := by
  unfold apart at hx
  cases ha : isAg P t with
  | none => simp [ha] at hx
  | some b =>
    cases b with
    | true =>
      cases hs : szOf P t with
      | none => simp [ha, hs] at hx
      | some n =>
        simp only [ha, hs] at hx
        split at hx
        · rename_i hle; cases hx; exact .inl ⟨n, rfl, rfl, hle, rfl⟩
        · cases hx
    | false => simp only [ha] at hx; exact .inr ⟨rfl, hx⟩

theorem run_loadVar' (r : Rel B φ h w) {t : TypeId} {x y : AV} {v : Value} (hl : aload P t x h = some y) (hx : VR h.ok φ x v) :
    ∃ u, (Instr.loadAt t v).run P w = .ok u w ∧ VR h.ok φ y u := by
  cases hx with
  | ptr id off hid =>
    simp only [aload] at hl
    split at hl
    · rename_i c own fz ty hg
      obtain ⟨C, e, lo, hi, h1, h2, h3, h4, h5, h6⟩ := r.cells hg
      rcases apart_agg hl with ⟨n, ha, hs, hle, rfl⟩ | ⟨ha, hc⟩
      · have hv := (h4.drop off).take n
        have e1 : ((((C.toList.drop (φ id).o).take c.length).drop off).take n) = ((C.toList.drop ((φ id).o + off)).take n) := by
          rw [List.drop_take, List.take_take, List.drop_drop]
          congr 1
          omega
        rw [e1] at hv
        refine ⟨_, ?_, VR.aggs hv⟩
        simp [Instr.loadAt, Instr.sureAddr, loadVar, run_isAgg' ha, run_sizeOf' hs, run_loadCells' h1 ((φ id).o + off) n (by omega)]
      · obtain ⟨u, hu, hr⟩ := h4.at hc
        refine ⟨u, ?_, hr⟩
        have hoff : off < c.length := by
          rcases Nat.lt_or_ge off c.length with h' | h'
          · exact h'
          · rw [List.getElem?_eq_none h'] at hc; cases hc
        rw [List.getElem?_take, if_pos hoff, List.getElem?_drop, Array.getElem?_toList] at hu
        simp [Instr.loadAt, Instr.sureAddr, loadVar, run_isAgg' ha, cell_at h1, hu]
    · cases hl
  | val v =>
    simp only [aload] at hl
    split at hl
    all_goals first | (exfalso; simp_all; done) | skip
    rename_i g off heq
    cases heq
    unfold agload at hl
    split at hl
    rotate_left
    · cases hl
    rename_i g' c hg
    split at hl
    rotate_left
    · cases hl
    rename_i hgg
    subst hgg
    obtain ⟨k0, C, e, lo, hi, h1, h2, h3⟩ := r.obj _ _ hg
    rw [k0] at h1
    have h4 : VRs h.ok φ c ((C.toList.drop 0).take c.length) := ⟨by simp; omega, fun i x v hx hv => by
      obtain ⟨v', hv', hr⟩ := h3 i x hx
      have hi : i < c.length := by
        rcases Nat.lt_or_ge i c.length with h' | h'
        · exact h'
        · rw [List.getElem?_eq_none h'] at hx; cases hx
      rw [List.drop_zero, List.getElem?_take, if_pos hi, Array.getElem?_toList, hv'] at hv
      cases hv; exact hr⟩
    rcases apart_agg hl with ⟨n, ha, hs, hle, rfl⟩ | ⟨ha, hc⟩
    · have hv := (h4.drop off).take n
      have e1 : ((((C.toList.drop 0).take c.length).drop off).take n) = ((C.toList.drop off).take n) := by
        rw [List.drop_zero, List.drop_take, List.take_take]
        congr 1
        omega
      rw [e1] at hv
      refine ⟨_, ?_, VR.aggs hv⟩
      simp [Instr.loadAt, Instr.sureAddr, loadVar, run_isAgg' ha, run_sizeOf' hs, run_loadCells' h1 off n (by omega)]
    · obtain ⟨u, hu, hr⟩ := h4.at hc
      refine ⟨u, ?_, hr⟩
      have hoff : off < c.length := by
        rcases Nat.lt_or_ge off c.length with h' | h'
        · exact h'
        · rw [List.getElem?_eq_none h'] at hc; cases hc
      rw [List.drop_zero, List.getElem?_take, if_pos hoff, Array.getElem?_toList] at hu
      simp [Instr.loadAt, Instr.sureAddr, loadVar, run_isAgg' ha, cell_at h1, hu]
  | _ => simp [aload] at hl

theorem splice_length {c : List AV} {off : Nat} {xs : List AV} (h : off + xs.length ≤ c.length) : (splice c off xs).length = c.length := by
  simp [splice]; omega

/-- A splice, and the model's cells behind it. -/
theorem VRs.splice {N : Nat → Prop} {c xs : List AV} {L us L' : List Value} {o off : Nat} (hc : VRs N φ c ((L.drop o).take c.length)) (hx : VRs N φ xs us) (hle : off + xs.length ≤ c.length) (hL : o + c.length ≤ L.length)
    (hL' : L' = L.take (o + off) ++ (us ++ L.drop (o + off + us.length))) : VRs N φ (Go.Proofs.YtobhmahlenjheaaM.splice c off xs) ((L'.drop o).take c.length) := by
  subst hL'
  have hu := hx.1
  have e : (((L.take (o + off) ++ (us ++ L.drop (o + off + us.length))).drop o).take c.length) = ((L.drop o).take c.length).take off ++ (us ++ ((L.drop o).take c.length).drop (off + us.length)) := by
    have l1 : (L.take (o + off)).length = o + off := by simp; omega
    have l2 : (((L.drop o).take c.length).take off).length = off := by simp; omega
    apply List.ext_getElem?
    intro i
    simp only [List.getElem?_take, List.getElem?_drop, List.getElem?_append, l1, l2]
    by_cases h1 : i < c.length
    · by_cases h2 : i < off
      · simp only [if_pos h1, if_pos h2]
        rw [if_pos (by omega), if_pos (by omega)]
      · by_cases h3 : i < off + us.length
        · simp only [if_pos h1, if_neg h2]
          rw [if_neg (by omega), if_pos (by omega), if_pos (by omega)]
          congr 1; omega
        · simp only [if_pos h1, if_neg h2]
          rw [if_neg (by omega), if_neg (by omega), if_neg (by omega), if_pos (by omega)]
          congr 1; omega
    · simp only [if_neg h1]
      rw [if_neg (by omega), if_neg (by omega), if_neg (by omega)]
  rw [e, Go.Proofs.YtobhmahlenjheaaM.splice]
  refine (hc.take off).append (hx.append ?_)
  rw [hu]
  exact hc.drop _


end
/-! M3 -/
section
set_option linter.unusedSimpArgs false
set_option linter.unusedVariables false
open Go Go.RowKit

variable {P : Program} {B : Nat} {φ : Nat → Loc} {h : AH} {w : World}

theorem Res.undef {φ' : Nat → Loc} {h' : AH} {w' : World} (r : Rel B φ' h' w') (s : Step φ h w φ' h' w') : Res B φ h w .undef h' Go.undef w' := ⟨φ', VR.undef _ _, r, s⟩

theorem VRs.ones {N : Nat → Prop} {xs : List AV} {vs : List Value} (hx : VRs N φ xs vs) (ho : xs.all AV.one = true) : ∀ v ∈ vs, v.oneCell' = true := by
  intro v hv
  obtain ⟨i, hi⟩ := List.mem_iff_getElem?.1 hv
  have hlt : i < vs.length := by
    rcases Nat.lt_or_ge i vs.length with h' | h'
    · exact h'
    · rw [List.getElem?_eq_none h'] at hi; cases hi
  have hx' : xs[i]? = some (xs[i]'(hx.1 ▸ hlt)) := List.getElem?_eq_getElem _
  exact (hx.2 i _ v hx' hi).one (List.all_eq_true.1 ho _ (List.getElem_mem _))

/-- Cells written into a block of the machine's own. -/
theorem Rel.write (r : Rel B φ h w) {id : Nat} {c : List AV} {fz off : Nat} {ty : Option (TypeId × Bool)} {xs : List AV} {vs : List Value} (hg : h.get id = some (.cells c true fz ty)) (hx : VRs h.ok φ xs vs) (ho : xs.all AV.one = true)
    (hfz : fz ≤ off) (hle : off + xs.length ≤ c.length) :
    ∃ w', (storeCells ⟨(φ id).b, (φ id).o + off, none⟩ vs).run P w = .ok () w' ∧ Rel B φ (h.set id (.cells (splice c off xs) true fz ty)) w' ∧ Step φ h w φ (h.set id (.cells (splice c off xs) true fz ty)) w' := by
  obtain ⟨C, e, lo, hi, h1, h2, h3, h4, h5, h6⟩ := r.cells hg
  have hl := hx.1
  obtain ⟨w', hr, ht, _, C', hC, hs, hL⟩ := run_storeCells' (P := P) (φ id).b ((φ id).o + off) e lo hi vs 0 C w h1 (by omega) (hx.ones ho) (fun j hj hj' => h5 rfl j (by omega) hj')
  obtain ⟨r', s'⟩ := r.update hg rfl ht (.cells (splice c off xs) true fz ty) (by
    rw [hC]
    refine ⟨C', e, lo, hi, rfl, hs.trans h2, by rw [splice_length hle, hs]; exact h3, fun i x hi' => ?_, fun _ i hi' hi'' => h5 rfl i hi' (by rw [← hs]; exact hi''), fun t b ht => by rw [splice_length hle]; exact h6 t b ht⟩
    have hsp := VRs.splice h4 hx hle (by simpa using h3) (L' := C'.toList) (by rw [hL]; simp)
    rw [← splice_length hle] at hsp
    obtain ⟨v, hv, hvr⟩ := hsp.at hi'
    refine ⟨v, ?_, hvr⟩
    rw [List.getElem?_take] at hv
    split at hv
    · rw [List.getElem?_drop, Array.getElem?_toList] at hv; exact hv
    · cases hv)
  exact ⟨w', hr, r', s'⟩

theorem store_sound (r : Rel B φ h w) {t : TypeId} {x y : AV} {x' y' : Value} {h' : AH} (hs : astore P t x y h = some h') (hx : VR h.ok φ x x') (hy : VR h.ok φ y y') :
    ∃ w', (Instr.storeAt t x' y').run P w = .ok () w' ∧ Res B φ h w .undef h' Go.undef w' := by
  cases hx with
  | ptr id off hid =>
    simp only [astore] at hs
    split at hs
    · rename_i c fz ty hg
      split at hs
      · rename_i xs n hc hn
        split at hs
        · rename_i hcond
          obtain ⟨e1, e2, e3, e4⟩ := hcond
          cases hs
          have hcs := hy.cells hc
          obtain ⟨w', hr, r', s'⟩ := r.write (P := P) hg hcs e4 e2 (by omega)
          refine ⟨w', ?_, Res.undef r' s'⟩
          have hsz : y'.cells.size = n := by have := hcs.1; simp at this; omega
          simp [Instr.storeAt, Instr.sureAddr, storeVar, run_sizeOf' hn, hsz, hr]
        · cases hs
      · cases hs
    · cases hs
  | _ => simp [astore] at hs

/-- A new block of cells. -/
theorem Rel.fresh (r : Rel B φ h w) (cs : List AV) (vs : Array Value) (e : TypeId) (fz more : Nat) (ty : Option (TypeId × Bool)) (hty : ∀ t b, ty = some (t, b) → e = t ∧ (b = true → more = 0)) (hv : VRs h.ok φ cs (vs.toList.take cs.length)) (hm : cs.length + more = vs.size) :
    Rel B (ext1 φ h.n ⟨w.heap.size, 0, vs.size⟩) (h.push (.cells cs true fz ty)) (w.alloc (.cells vs e)) ∧
    Step φ h w (ext1 φ h.n ⟨w.heap.size, 0, vs.size⟩) (h.push (.cells cs true fz ty)) (w.alloc (.cells vs e)) := by
  refine r.push (.cells cs true fz ty) (.cells vs e) ⟨w.heap.size, 0, vs.size⟩ rfl ⟨vs, e, 0, 0, rfl, rfl, by show 0 + cs.length ≤ _; omega, fun i x hx => ?_, fun _ i _ _ => by omega, fun t b ht => ⟨(hty t b ht).1, fun hb => ⟨rfl, by have := (hty t b ht).2 hb; show vs.size = cs.length; omega⟩⟩⟩
  obtain ⟨v, hv', hr⟩ := hv.at hx
  refine ⟨v, ?_, hr.mono (fun _ hk => AH.ok_push hk) fun id hid => ext1_old (AH.ok_lt hid)⟩
  rw [List.getElem?_take] at hv'
  split at hv'
  · rw [Array.getElem?_toList] at hv'; simpa using hv'
  · cases hv'

theorem run_newRow (e : TypeId) (vs : Array Value) (w : World) : (newRow e vs).run P w = .ok ⟨w.heap.size, 0, none⟩ (w.alloc (.cells vs e)) := by
  simp [newRow]

theorem Res.new (r : Rel B φ h w) (cs : List AV) (vs : Array Value) (e : TypeId) (hv : VRs h.ok φ cs vs.toList) :
    Res B φ h w (anew e cs h).1 (anew e cs h).2 (.pointer (some ⟨w.heap.size, 0, none⟩)) (w.alloc (.cells vs e)) := by
  have hl := hv.1
  simp at hl
  obtain ⟨r', s'⟩ := r.fresh cs vs e 0 0 (some (e, true)) (fun t b ht => by cases ht; exact ⟨rfl, fun _ => rfl⟩) (by rw [List.take_of_length_le (by simp; omega)]; exact hv) (by omega)
  refine ⟨_, ?_, r', s'⟩
  have := VR.ptr (N := (h.push (.cells cs true 0 (some (e, true)))).ok) (φ := ext1 φ h.n ⟨w.heap.size, 0, vs.size⟩) h.n 0 (AH.ok_new _ _)
  rw [ext1_new] at this
  exact this

theorem box_sound (r : Rel B φ h w) {e : TypeId} {x : AV} {v : Value} {cs : List AV} (hc : x.cells = some cs) (hx : VR h.ok φ x v) :
    ∃ v' w', (Instr.box e v).run P w = .ok v' w' ∧ Res B φ h w (anew e cs h).1 (anew e cs h).2 v' w' :=
  ⟨_, _, by simp [Instr.box, newVar, run_newRow], Res.new r cs v.cells e (hx.cells hc)⟩

theorem alloc_sound (r : Rel B φ h w) {e : TypeId} {z : AV} {cs : List AV} (hz : zeroOf P e = some z) (hc : z.cells = some cs) :
    ∃ v' w', (Instr.alloc e true (.tuple #[])).run P w = .ok v' w' ∧ Res B φ h w (anew e cs h).1 (anew e cs h).2 v' w' := by
  obtain ⟨v, rfl, hr⟩ := run_zeroValue' hz w
  exact ⟨_, _, by simp [Instr.alloc, hr, newVar, run_newRow], Res.new r cs v.cells e ((VR.ofValue _ _ v).cells hc)⟩

/-! ### Elements of slices -/
theorem alen_sound {N : Nat → Prop} {x : AV} {v : Value} {n : Nat} (hl : alen x = some n) (hx : VR N φ x v) (w : World) : (Builtin.lenOf v).run P w = .ok n w := by
  cases hx with
  | str l => simp only [alen] at hl; cases hl; rfl
  | val v =>
    unfold alen at hl
    split at hl
    · rename_i cap he; cases he; cases hl; rfl
    · rename_i he; cases he
    · rename_i he; cases he
    · cases hl
  | sl id off len esz a cap h' hl' ha => simp only [alen] at hl; cases hl; rfl
  | _ => simp [alen] at hl

theorem acells_sound (r : Rel B φ h w) {x : AV} {v : Value} {sz n : Nat} {cs : List AV} (hc : acells x sz n h = some cs) (hx : VR h.ok φ x v) :
    ∃ vs, (Builtin.firstCells sz n v).run P w = .ok vs w ∧ VRs h.ok φ cs vs.toList ∧ cs.length = n * sz := by
  cases hx with
  | str l =>
    simp only [acells] at hc
    split at hc
    · rename_i hcond
      cases hc
      refine ⟨_, rfl, ?_, by simp [hcond.2]; omega⟩
      have := VRs.map (N := h.ok) (φ := φ) (fun b : UInt8 => AV.int .u8 b.toNat) (fun b : UInt8 => Value.int .u8 b.toNat) (fun b => .int _ _) (l.take n)
      rw [List.map_take] at this
      simpa [ByteArray.data_extract, Array.toList_extract, List.extract_eq_take_drop, List.map_take] using this
    · cases hc
  | val v =>
    unfold acells at hc
    split at hc
    · rename_i he
      cases he
      split at hc
      · rename_i hn; subst hn; cases hc; exact ⟨#[], rfl, VRs.nil _ _, by simp⟩
      · cases hc
    · rename_i he; cases he
    · rename_i he; cases he
    · cases hc
  | sl id off len esz a cap hid hl' ha =>
    simp only [acells] at hc
    split at hc
    · rename_i hcond
      split at hc
      · rename_i hn0
        subst hn0
        cases hc
        exact ⟨#[], by simp [Builtin.firstCells, loadCells, loadCellsFrom], VRs.nil _ _, by simp⟩
      split at hc
      · rename_i c own fz ty hg
        split at hc
        · rename_i hle
          cases hc
          obtain ⟨C, e, lo, hi, h1, h2, h3, h4, h5, h6⟩ := r.cells hg
          have hv := (h4.drop off).take (n * sz)
          by_cases hn : n * sz = 0
          · refine ⟨#[], ?_, by rw [hn]; exact VRs.nil _ _, by simp [hn]⟩
            simp [Builtin.firstCells, hn, loadCells, loadCellsFrom]
          · rcases ha with ha | ⟨ha, hn'⟩
            · have : n = 0 := by omega
              subst this; simp at hn
            · refine ⟨((C.toList.drop ((φ id).o + off)).take (n * sz)).toArray, ?_, ?_, by simp; omega⟩
              · subst ha
                simp only [Builtin.firstCells]
                exact run_loadCells' h1 _ _ (by omega)
              · have e1 : ((((C.toList.drop (φ id).o).take c.length).drop off).take (n * sz)) = ((C.toList.drop ((φ id).o + off)).take (n * sz)) := by
                  rw [List.drop_take, List.take_take, List.drop_drop]
                  congr 1
                  omega
                rw [e1] at hv
                simpa using hv
        · cases hc
      · cases hc
    · cases hc
  | _ => simp [acells] at hc

/-! ### Zero cells -/
theorem zrow_length (zs : List AV) : ∀ n, (zrow zs n).length = n * zs.length
  | 0 => by simp [zrow]
  | n + 1 => by simp [zrow, zrow_length zs n, Nat.succ_mul]; omega

theorem zrow_get (zs : List AV) : ∀ (n i : Nat), i < n * zs.length → (zrow zs n)[i]? = zs[i % zs.length]?
  | 0, i, h => by simp at h
  | n + 1, i, h => by
    simp only [zrow]
    by_cases hi : i < zs.length
    · rw [List.getElem?_append_left hi, Nat.mod_eq_of_lt hi]
    · have hi' : zs.length ≤ i := by omega
      rw [List.getElem?_append_right hi', zrow_get zs n (i - zs.length) (by rw [Nat.succ_mul] at h; omega), Nat.mod_eq_sub_mod hi']

/-- The model's cycled zero cells: at least as many as asked. -/
theorem zrow_VRs {N : Nat → Prop} {zs : List AV} {vs : Array Value} (hz : VRs N φ zs vs.toList) (n m : Nat) (hm : n * zs.length ≤ m) (hn : n * zs.length ≠ 0 ∨ m = 0 ∨ zs.length ≠ 0) :
    VRs N φ (zrow zs n) (((Array.range m).map (vs[· % vs.size]!)).toList.take (zrow zs n).length) := by
  have hl := hz.1
  simp at hl
  refine ⟨by simp [zrow_length]; omega, fun i x v hx hv => ?_⟩
  have hi : i < (zrow zs n).length := by
    rcases Nat.lt_or_ge i (zrow zs n).length with h' | h'
    · exact h'
    · rw [List.getElem?_eq_none h'] at hx; cases hx
  rw [List.getElem?_take, if_pos hi] at hv
  rw [zrow_length] at hi
  rw [zrow_get zs n i hi] at hx
  have him : i < m := by omega
  have hv' : v = vs[i % vs.size]! := by
    rw [Array.getElem?_toList, Array.getElem?_map, Array.getElem?_range] at hv
    simp [him] at hv
    exact hv.symm
  obtain ⟨u, hu, hr⟩ := hz.at hx
  rw [Array.getElem?_toList, hl] at hu
  rw [hv', getElem!_def, hu]
  exact hr


end
/-! M4 -/
section
set_option linter.unusedSimpArgs false
set_option linter.unusedVariables false
set_option linter.unusedSectionVars false
open Go Go.RowKit

variable {P : Program} {B : Nat} {φ : Nat → Loc} {h : AH} {w : World}

theorem sliceElem_some {t e : TypeId} (hs : sliceElem P t = some e) : P.underlying t = some (.slice e) := by
  unfold sliceElem at hs
  split at hs
  · rename_i e' he; cases hs; exact he
  · cases hs

theorem growBy_le (L : Nat) : ∀ (r c : Nat), Builtin.growBy L r c ≤ max c (2 * L + 192)
  | 0, c => by simp [Builtin.growBy]; omega
  | r + 1, c => by
    simp only [Builtin.growBy]
    split
    · omega
    · have := growBy_le L r (c + (c + 768) / 4)
      omega

theorem nextcap_le (need cap : Nat) (hc : cap < need) : Builtin.nextslicecap need cap ≤ 2 * need + 192 := by
  unfold Builtin.nextslicecap
  split
  · omega
  · split
    · omega
    · have := growBy_le need 4 cap
      omega

theorem nextcap_ok {need cap bytes : Nat} (hc : cap < need) (hb : need * (bytes + 1) ≤ sizeCap) : ¬ Builtin.nextslicecap need cap * bytes > 2 ^ 48 := by
  have h1 := nextcap_le need cap hc
  have h2 : Builtin.nextslicecap need cap * bytes ≤ (2 * need + 192) * bytes := Nat.mul_le_mul_right _ h1
  have h3 : (2 * need + 192) * bytes ≤ 194 * (need * (bytes + 1)) := by
    have : 192 * bytes ≤ 192 * (need * bytes) := Nat.mul_le_mul_left _ (Nat.le_mul_of_pos_left _ (by omega))
    rw [Nat.add_mul, Nat.mul_add need, Nat.mul_assoc]
    omega
  unfold sizeCap at hb
  omega

theorem zeroCells_size (zs : Array Value) (n : Nat) : (Builtin.zeroCells zs n).size = n * zs.size := by simp [Builtin.zeroCells]

theorem aroom_some {i : TypeInfo} {need : Nat} (hr : aroom i need = true) : need * (i.bytes + 1) ≤ sizeCap ∧ 0 < i.size ∧ ∃ z, i.zero = some z ∧ z.cells.size = i.size := by
  unfold aroom at hr
  simp only [Bool.and_eq_true, decide_eq_true_eq, beq_iff_eq] at hr
  obtain ⟨⟨h1, h2⟩, h3⟩ := hr
  refine ⟨h1, h2, ?_⟩
  cases hz : i.zero with
  | none => simp [hz] at h3
  | some z => simp [hz] at h3; exact ⟨z, rfl, h3⟩

/-- The slice that is appended to. -/
theorem append_shape {N : Nat → Prop} {e : TypeId} {sz n len : Nat} {xs : List AV} {s : AV} {s' : Value} {v : AV} {h h' : AH} (ha : aappendAt e sz n xs s h = some (v, h')) (hs : VR N φ s s') (hl : alen s = some len) :
    ∃ base cap, s' = .slice base len cap ∧ len ≤ cap := by
  cases hs with
  | val v =>
    unfold aappendAt at ha
    split at ha
    · rename_i he; cases he; simp only [alen] at hl; cases hl; exact ⟨none, 0, rfl, Nat.le_refl _⟩
    · rename_i he; cases he
    · cases ha
  | sl id off l esz a cap hid hl' ha' => simp only [alen] at hl; cases hl; exact ⟨some a, cap, rfl, hl'⟩
  | _ => simp [aappendAt] at ha

section
variable (argTypes : Array TypeId) (ty : TypeId) {st xt e : TypeId} {xd : TypeDesc} {i : TypeInfo} {z : Value} {base : Option Addr} {len cap n : Nat} {x' : Value}
    (hst : argTypes[0]? = some st) (hxt : argTypes[1]? = some xt) (hu : P.underlying st = some (.slice e)) (hxd : P.underlying xt = some xd) (hni : notInt xd = true) (hi : P.info? e = some i)
    (hz : i.zero = some z) (hn : (Builtin.lenOf x').run P w = .ok n w)
include hst hxt hu hxd hni hi hz hn

set_option maxHeartbeats 4000000 in
theorem run_append_room (hroom : len + n ≤ cap) :
    (Builtin.append_ argTypes ty #[.slice base len cap, x']).run P w =
      ((Builtin.firstCells i.size n x').run P w).andThen fun new w => ((match base with | some a => storeCells (a.add (len * i.size)) new.toList | none => pure ()).run P w).andThen fun _ w => .ok (.slice base (len + n) cap) w := by
  have hsizeOf : ∀ w : World, (sizeOf e).run P w = .ok i.size w := fun w => by simp [sizeOf, run_typeInfo' hi]
  cases xd
  case slice | string =>
    unfold Builtin.append_
    cases base <;> simp [hst, hxt, run_underlying hu, run_underlying hxd, hsizeOf, hn, hroom]
  all_goals cases hni

set_option maxHeartbeats 4000000 in
theorem run_append_grow (hsz : (len + n) * (i.bytes + 1) ≤ sizeCap) (hroom : cap < len + n) :
    (Builtin.append_ argTypes ty #[.slice base len cap, x']).run P w =
      ((Builtin.firstCells i.size len (.slice base len cap)).run P w.drew).andThen fun old w2 => ((Builtin.firstCells i.size n x').run P w2).andThen fun new w3 =>
        .ok (.slice (some ⟨w3.heap.size, 0, none⟩) (len + n) (Question.cut (.appendCap (len + n) cap e) (w.tape w.drawn (.appendCap (len + n) cap e))))
          (w3.alloc (.cells (old ++ (new ++ Builtin.zeroCells z.cells (Question.cut (.appendCap (len + n) cap e) (w.tape w.drawn (.appendCap (len + n) cap e)) - (len + n)))) e)) := by
  have hsizeOf : ∀ w : World, (sizeOf e).run P w = .ok i.size w := fun w => by simp [sizeOf, run_typeInfo' hi]
  have hzr : ∀ w : World, (zeroValue e).run P w = .ok z w := fun w => by simp [zeroValue, run_typeInfo' hi, hz]
  have hneed : len + n ≤ 1099511627776 := by
    have : (len + n) * 1 ≤ (len + n) * (i.bytes + 1) := Nat.mul_le_mul_left _ (by omega)
    unfold sizeCap at hsz; omega
  have hmax : ¬ (9223372036854775807 < (len : Int) + n) := by omega
  have hroom' : ¬ len + n ≤ cap := by omega
  have hnc : ¬ 281474976710656 < Builtin.nextslicecap (len + n) cap * i.bytes := by have := nextcap_ok hroom hsz; omega
  cases xd
  case slice | string =>
    unfold Builtin.append_
    simp [hst, hxt, run_underlying hu, run_underlying hxd, hsizeOf, hn, hroom', hmax, hnc, hzr, run_newRow, run_typeInfo' hi, Question.forced]
  all_goals cases hni

end

section
variable (argTypes : Array TypeId) (ty : TypeId) {st xt e : TypeId} {i : TypeInfo} {z : Value} {base : Option Addr} {len cap : Nat} {m : Int}
    (hst : argTypes[0]? = some st) (hxt : argTypes[1]? = some xt) (hu : P.underlying st = some (.slice e)) (hxd : P.underlying xt = some (.int .i64)) (hi : P.info? e = some i)
    (hz : i.zero = some z) (hzs : z.cells.size = i.size) (h0 : 0 ≤ m) (hsz : (len + m.toNat) * (i.bytes + 1) ≤ sizeCap)
include hst hxt hu hxd hi hz hzs h0 hsz
theorem int_facts : IntKind.i64.wrap m = m ∧ ¬ m < 0 ∧ ¬ 281474976710656 < m * i.bytes ∧ len + m.toNat ≤ 1099511627776 ∧ (m.toNat * i.size = 0 → Builtin.zeroCells z.cells m.toNat = #[]) := by
  have h1 : (len + m.toNat) * 1 ≤ (len + m.toNat) * (i.bytes + 1) := Nat.mul_le_mul_left _ (by omega)
  have h2 : m.toNat * i.bytes ≤ (len + m.toNat) * (i.bytes + 1) := Nat.mul_le_mul (by omega) (by omega)
  unfold sizeCap at hsz
  refine ⟨by simp [IntKind.wrap, IntKind.bits, IntKind.signed]; omega, by omega, ?_, by omega, fun h => ?_⟩
  · have h3 : m * (i.bytes : Int) = ((m.toNat * i.bytes : Nat) : Int) := by rw [Int.natCast_mul, Int.toNat_of_nonneg h0]
    rw [h3]; omega
  · apply Array.eq_empty_of_size_eq_zero
    rw [zeroCells_size, hzs]; exact h
set_option maxHeartbeats 4000000 in
theorem run_append_int_room (hroom : len + m.toNat ≤ cap) :
    (Builtin.append_ argTypes ty #[.slice base len cap, .int .i64 m]).run P w =
      ((match base with | some a => storeCells (a.add (len * i.size)) (Builtin.zeroCells z.cells m.toNat).toList | none => pure ()).run P w).andThen fun _ w => .ok (.slice base (len + m.toNat) cap) w := by
  have hsizeOf : ∀ w : World, (sizeOf e).run P w = .ok i.size w := fun w => by simp [sizeOf, run_typeInfo' hi]
  have hzr : ∀ w : World, (zeroValue e).run P w = .ok z w := fun w => by simp [zeroValue, run_typeInfo' hi, hz]
  obtain ⟨f1, f2, f3, f4, f5⟩ := int_facts (P := P) argTypes hst hxt hu hxd hi hz hzs h0 hsz
  unfold Builtin.append_
  by_cases hn0 : m.toNat * i.size = 0
  · rw [f5 hn0]
    cases base <;> simp [hst, hxt, run_underlying hu, run_underlying hxd, hsizeOf, asInt, asIntOf, f1, f2, f3, hroom, run_typeInfo' hi, hn0]
  · cases base <;> simp [hst, hxt, run_underlying hu, run_underlying hxd, hsizeOf, asInt, asIntOf, f1, f2, f3, hroom, run_typeInfo' hi, hn0, hzr]
set_option maxHeartbeats 4000000 in
theorem run_append_int_grow (hroom : cap < len + m.toNat) {old : Array Value} (hold : (Builtin.firstCells i.size len (.slice base len cap)).run P w.drew = .ok old w.drew) :
    (Builtin.append_ argTypes ty #[.slice base len cap, .int .i64 m]).run P w =
        .ok (.slice (some ⟨w.drew.heap.size, 0, none⟩) (len + m.toNat) (Question.cut (.appendCap (len + m.toNat) cap e) (w.tape w.drawn (.appendCap (len + m.toNat) cap e))))
          (w.drew.alloc (.cells (old ++ (Builtin.zeroCells z.cells m.toNat ++ Builtin.zeroCells z.cells (Question.cut (.appendCap (len + m.toNat) cap e) (w.tape w.drawn (.appendCap (len + m.toNat) cap e)) - (len + m.toNat)))) e)) := by
  have hsizeOf : ∀ w : World, (sizeOf e).run P w = .ok i.size w := fun w => by simp [sizeOf, run_typeInfo' hi]
  have hzr : ∀ w : World, (zeroValue e).run P w = .ok z w := fun w => by simp [zeroValue, run_typeInfo' hi, hz]
  obtain ⟨f1, f2, f3, f4, f5⟩ := int_facts (P := P) argTypes hst hxt hu hxd hi hz hzs h0 hsz
  have hroom' : ¬ len + m.toNat ≤ cap := by omega
  have hmax : ¬ (9223372036854775807 < (len : Int) + m.toNat) := by omega
  have hmax2 : ¬ (9223372036854775807 < (len : Int) + max m 0) := by omega
  have hnc : ¬ 281474976710656 < Builtin.nextslicecap (len + m.toNat) cap * i.bytes := by have := nextcap_ok hroom hsz; omega
  unfold Builtin.append_
  by_cases hn0 : m.toNat * i.size = 0
  · rw [f5 hn0]
    simp [hst, hxt, run_underlying hu, run_underlying hxd, hsizeOf, asInt, asIntOf, f1, f2, f3, hroom', hmax, hmax2, hnc, hzr, run_newRow, run_typeInfo' hi, Question.forced, hn0, hold]
  · simp [hst, hxt, run_underlying hu, run_underlying hxd, hsizeOf, asInt, asIntOf, f1, f2, f3, hroom', hmax, hmax2, hnc, hzr, run_newRow, run_typeInfo' hi, Question.forced, hn0, hold]
end


end
/-! M5 -/
section
set_option linter.unusedSimpArgs false
set_option linter.unusedVariables false
open Go Go.RowKit

variable {P : Program} {B : Nat} {φ : Nat → Loc} {h : AH} {w : World}

theorem tyApp_some {e t : TypeId} {b : Bool} {ty : Option (TypeId × Bool)} (h : tyApp e ty = some (t, b)) : t = e ∧ b = false ∧ ∃ b', ty = some (e, b') := by
  unfold tyApp at h
  split at h
  · split at h
    · rename_i he; subst he; cases h; exact ⟨rfl, rfl, _, rfl⟩
    · cases h
  · cases h

theorem rel_drew (r : Rel B φ h w) : Rel B φ h w.drew := r.drew (w.drawn + 1)
theorem step_drew (φ : Nat → Loc) (h : AH) (w : World) : Step φ h w φ h w.drew := Step.drew φ h w (w.drawn + 1) (Nat.le_succ _)

theorem two_args {N : Nat → Prop} {s x : AV} {args' : List Value} (h : VRs N φ [s, x] args') : ∃ s' x', args' = [s', x'] ∧ VR N φ s s' ∧ VR N φ x x' := by
  match args', h with
  | [a, b], h => exact ⟨a, b, rfl, h.head, h.tail.head⟩
  | [], h => exact absurd h.1 (by simp)
  | [_], h => exact absurd h.1 (by simp)
  | _ :: _ :: _ :: _, h => exact absurd h.1 (by simp)
theorem one_arg {N : Nat → Prop} {s : AV} {args' : List Value} (h : VRs N φ [s] args') : ∃ s', args' = [s'] ∧ VR N φ s s' := by
  match args', h with
  | [a], h => exact ⟨a, rfl, h.head⟩
  | [], h => exact absurd h.1 (by simp)
  | _ :: _ :: _, h => exact absurd h.1 (by simp)

set_option maxHeartbeats 1000000 in
theorem append_core (r : Rel B φ h w) {e : TypeId} {i : TypeInfo} {z : Value} {n len cap : Nat} {xs : List AV} {s : AV} {base : Option Addr} {v : AV} {h' : AH} {new newG : Array Value} {RUN : Result Value}
    (hpos : 0 < i.size) (hzs : z.cells.size = i.size) (ha : aappendAt e i.size n xs s h = some (v, h')) (hs : VR h.ok φ s (.slice base len cap)) (hlen : alen s = some len) (hlc : len ≤ cap)
    (hnewV : VRs h.ok φ xs new.toList) (hnewVG : VRs h.ok φ xs newG.toList) (hnewL : xs.length = n * i.size)
    (h1R : len + n ≤ cap → RUN = ((match base with | some a => storeCells (a.add (len * i.size)) new.toList | none => pure ()).run P w).andThen fun _ w => .ok (.slice base (len + n) cap) w)
    (h2R : cap < len + n → ∀ old, (Builtin.firstCells i.size len (.slice base len cap)).run P w.drew = .ok old w.drew →
      RUN = .ok (.slice (some ⟨w.drew.heap.size, 0, none⟩) (len + n) (Question.cut (.appendCap (len + n) cap e) (w.tape w.drawn (.appendCap (len + n) cap e))))
          (w.drew.alloc (.cells (old ++ (newG ++ Builtin.zeroCells z.cells (Question.cut (.appendCap (len + n) cap e) (w.tape w.drawn (.appendCap (len + n) cap e)) - (len + n)))) e))) :
    ∃ v' w', RUN = .ok v' w' ∧ Res B φ h w v h' v' w' := by
  have hnewS : new.size = n * i.size := by have := hnewV.1; simp at this; omega
  by_cases hfit : len + n ≤ cap
  · -- there is room
    rw [h1R hfit]
    cases hs with
    | val v0 =>
      unfold aappendAt at ha
      split at ha
      · rename_i he'; cases he'
        split at ha
        · rename_i hn0
          cases ha
          subst hn0
          have hnil : new = #[] := by apply Array.eq_empty_of_size_eq_zero; simpa using hnewS
          subst hnil
          exact ⟨_, _, rfl, Res.pure r (.val _)⟩
        · rename_i hn0; omega
      · rename_i he'; cases he'
      · cases ha
    | sl id off l sz a cap' hid hl' hacap =>
      simp only [alen] at hlen
      cases hlen
      unfold aappendAt at ha
      simp only at ha
      split at ha
      · rename_i hn0
        cases ha
        subst hn0
        have hnil : new = #[] := by apply Array.eq_empty_of_size_eq_zero; simpa using hnewS
        subst hnil
        exact ⟨_, _, rfl, Res.pure r (.sl id off len sz a cap hid hl' hacap)⟩
      · rename_i hn0
        split at ha
        · rename_i c fz ty0 hg
          split at ha
          · rename_i hcond
            obtain ⟨rfl, hoff, hfz, hone⟩ := hcond
            cases ha
            obtain ⟨C, e0, lo, hi', h1, h2, h3, h4, h5, h6⟩ := r.cells hg
            rcases hacap with hc0 | ⟨ha', hcapn⟩
            · omega
            · subst ha'
              have hmul : (len + n) * i.size ≤ cap * i.size := Nat.mul_le_mul_right _ hfit
              rw [Nat.add_mul] at hmul
              obtain ⟨w', hrun, ht, _, C', hC', hCs, hCl⟩ := run_storeCells' (P := P) (φ id).b ((φ id).o + off + len * i.size) e0 lo hi' new.toList 0 C w h1 (by simp; omega) (hnewV.ones hone) (fun j hj hj' => h5 rfl j (by omega) hj')
              have hnewT : new.toList.length = n * i.size := by simpa using hnewS
              have hmove := r.move hg rfl ht ⟨(φ id).b, (φ id).o + off, (φ id).n⟩ rfl (.cells ((c.drop off).take (len * i.size) ++ xs) true (fz - off) (tyApp e ty0)) (by
                show ObjR _ _ _ _ w'.heap[(φ id).b]?
                rw [hC']
                refine ⟨C', e0, lo, hi', rfl, hCs.trans h2, ?_, fun j y hj => ?_, fun _ j hj hj' => h5 rfl j (by simp at hj; omega) (by omega), fun t b ht => ?_⟩
                · simp; omega
                · have hv1 : VRs h.ok φ ((c.drop off).take (len * i.size) ++ xs) ((C'.toList.drop ((φ id).o + off)).take (len * i.size + n * i.size)) := by
                    have e1 : ((C'.toList.drop ((φ id).o + off)).take (len * i.size + n * i.size)) = ((((C.toList.drop (φ id).o).take c.length).drop off).take (len * i.size)) ++ new.toList := by
                      rw [hCl]
                      apply List.ext_getElem?
                      intro j
                      have l1 : (C.toList.take ((φ id).o + off + len * i.size + 0)).length = (φ id).o + off + len * i.size := by simp; omega
                      have l2 : ((((C.toList.drop (φ id).o).take c.length).drop off).take (len * i.size)).length = len * i.size := by simp; omega
                      simp only [List.getElem?_take, List.getElem?_drop, List.getElem?_append, l1, l2]
                      by_cases hj1 : j < len * i.size
                      · rw [if_pos (by omega), if_pos (by omega), if_pos (by omega), if_pos hj1, if_pos hj1, if_pos (by omega)]
                        congr 1; omega
                      · by_cases hj2 : j < len * i.size + n * i.size
                        · rw [if_pos hj2, if_neg (by omega), if_pos (by omega), if_neg hj1]
                          congr 1; omega
                        · rw [if_neg hj2, if_neg hj1, List.getElem?_eq_none (by omega)]
                    rw [e1]
                    exact ((h4.drop off).take _).append hnewV
                  obtain ⟨u, hu, hur⟩ := hv1.at hj
                  rw [List.getElem?_take] at hu
                  split at hu
                  · rw [List.getElem?_drop, Array.getElem?_toList] at hu
                    exact ⟨u, hu, hur.mono (fun _ hk => AH.ok_push ((AH.ok_set hg).2 hk)) fun k hk => ext1_old (AH.ok_lt hk)⟩
                  · cases hu
                · obtain ⟨k1, k2, k3⟩ := tyApp_some ht
                  subst k1 k2
                  obtain ⟨b', k3⟩ := k3
                  exact ⟨(h6 _ _ k3).1, fun hb => by cases hb⟩)
              refine ⟨.slice (some ⟨(φ id).b, (φ id).o + off, none⟩) (len + n) cap, w', ?_, _, ?_, hmove.1, hmove.2⟩
              · simp only [addr_add, hrun, Result.andThen_ok]
              · have := VR.sl (N := ((h.set id .dead).push (.cells ((c.drop off).take (len * i.size) ++ xs) true (fz - off) (tyApp e ty0))).ok) (φ := ext1 φ h.n ⟨(φ id).b, (φ id).o + off, (φ id).n⟩) h.n 0 (len + n) i.size ⟨(φ id).b, (φ id).o + off, none⟩ cap
                  (by have := AH.ok_new (h.set id .dead) (.cells ((c.drop off).take (len * i.size) ++ xs) true (fz - off) (tyApp e ty0)); rwa [AH.set_n] at this) hfit (.inr ⟨by rw [ext1_new]; rfl, by rw [ext1_new]; exact hcapn⟩)
                exact this
          · cases ha
        · cases ha
    | _ => simp [aappendAt] at ha
  · -- a new row
    generalize hcut : Question.cut (.appendCap (len + n) cap e) (w.tape w.drawn (.appendCap (len + n) cap e)) = cut
    have hcut' : len + n ≤ cut := by rw [← hcut]; simp only [Question.cut]; omega
    have r1 := rel_drew r
    have s1 := step_drew φ h w
    have fin : ∀ (fz0 : Nat) (ty1 : Option (TypeId × Bool)) (hty1 : ∀ t b, ty1 = some (t, b) → e = t ∧ b = false) (h1 : AH) (old : Array Value) (ocs : List AV), (Builtin.firstCells i.size len (.slice base len cap)).run P w.drew = .ok old w.drew → VRs h.ok φ ocs old.toList → ocs.length = len * i.size → h1.n = h.n → Rel B φ h1 w.drew → Step φ h w φ h1 w.drew →
        ∃ v' w', RUN = .ok v' w' ∧
          Res B φ h w (.sl h.n 0 (len + n) i.size) (h1.push (.cells (ocs ++ xs) true fz0 ty1)) v' w' := by
      intro fz0 ty1 hty1 h1 old ocs hold holdV holdL hn1 r2 s2
      rw [h2R (by omega) old hold, hcut]
      have hl1 := holdV.1
      have hl2 := hnewVG.1
      simp at hl1 hl2
      have hsize : (old ++ (newG ++ Builtin.zeroCells z.cells (cut - (len + n)))).size = cut * i.size := by
        simp only [Array.size_append, zeroCells_size, hzs]
        have : (cut - (len + n)) * i.size + (len + n) * i.size = cut * i.size := by rw [← Nat.add_mul]; congr 1; omega
        rw [Nat.add_mul] at this
        omega
      have hf := r2.fresh (ocs ++ xs) (old ++ (newG ++ Builtin.zeroCells z.cells (cut - (len + n)))) e fz0 ((cut - (len + n)) * i.size) ty1 (fun t b ht => ⟨(hty1 t b ht).1, fun hb => by rw [(hty1 t b ht).2] at hb; cases hb⟩) (by
        have : (old ++ (newG ++ Builtin.zeroCells z.cells (cut - (len + n)))).toList.take (ocs ++ xs).length = old.toList ++ newG.toList := by
          simp only [Array.toList_append, List.length_append]
          rw [← List.append_assoc, List.take_left' (by simp; omega)]
        rw [this]
        exact (holdV.append hnewVG).mono s2.okm fun _ _ => rfl) (by
        rw [hsize]
        have : (cut - (len + n)) * i.size + (len + n) * i.size = cut * i.size := by rw [← Nat.add_mul]; congr 1; omega
        rw [Nat.add_mul] at this
        simp; omega)
      refine ⟨_, _, rfl, _, ?_, hf.1, s2.trans hf.2⟩
      rw [hn1]
      refine .sl h.n 0 (len + n) i.size _ cut (by have := AH.ok_new h1 (.cells (ocs ++ xs) true fz0 ty1); rwa [hn1] at this) hcut' (.inr ⟨by simp [ext1_new], by simp [ext1_new, hsize]⟩)
    cases hs with
    | val v0 =>
      unfold aappendAt at ha
      split at ha
      · rename_i he'; cases he'
        simp only [alen] at hlen
        cases hlen
        split at ha
        · rename_i hn0; omega
        · cases ha
          have := fin 0 (some (e, false)) (fun t b ht => by cases ht; exact ⟨rfl, rfl⟩) h #[] [] (by simp [Builtin.firstCells]) (VRs.nil _ _) (by simp) rfl r1 s1
          simpa using this
      · rename_i he'; cases he'
      · cases ha
    | sl id off l sz a cap' hid hl' hacap =>
      simp only [alen] at hlen
      cases hlen
      unfold aappendAt at ha
      simp only at ha
      split at ha
      · rename_i hn0; omega
      · split at ha
        · rename_i c fz ty0 hg
          split at ha
          · rename_i hcond
            obtain ⟨rfl, hoff, hfz, hone⟩ := hcond
            cases ha
            obtain ⟨old, hold, holdV, holdL⟩ := acells_sound (P := P) r1 (x := .sl id off len i.size) (sz := i.size) (n := len) (cs := (c.drop off).take (len * i.size)) (by by_cases h0 : len = 0 <;> simp [acells, hg, hoff, h0]) (.sl id off len i.size a cap hid hl' hacap)
            obtain ⟨r2, s2⟩ := r1.kill hg rfl
            exact fin (fz - off) (tyApp e ty0) (fun t b ht => by obtain ⟨k1, k2, _⟩ := tyApp_some ht; exact ⟨k1.symm, k2⟩) (h.set id .dead) old _ hold holdV holdL (AH.set_n _ _ _) r2 (s1.trans s2)
          · cases ha
        · cases ha
    | _ => simp [aappendAt] at ha

set_option maxHeartbeats 1000000 in
theorem append_sound0 (r : Rel B φ h w) {argTypes : Array TypeId} {ty st xt e : TypeId} {s x : AV} {s' x' : Value} {i : TypeInfo} {n len : Nat} {xs : List AV} {v : AV} {h' : AH} (hst : argTypes[0]? = some st) (hxt : argTypes[1]? = some xt)
    (he : sliceElem P st = some e) (hxd : (P.underlying xt).map notInt = some true) (hi : P.info? e = some i) (hn : alen x = some n) (hlen : alen s = some len) (hroom : aroom i (len + n) = true) (hxs : acells x i.size n h = some xs)
    (ha : aappendAt e i.size n xs s h = some (v, h')) (hs : VR h.ok φ s s') (hx : VR h.ok φ x x') : ∃ v' w', (Builtin.append_ argTypes ty #[s', x']).run P w = .ok v' w' ∧ Res B φ h w v h' v' w' := by
  obtain ⟨hsz, hpos, z, hz, hzs⟩ := aroom_some hroom
  obtain ⟨xd, hxu, hni⟩ : ∃ xd, P.underlying xt = some xd ∧ notInt xd = true := by
    cases hu : P.underlying xt with
    | none => simp [hu] at hxd
    | some xd => simp [hu] at hxd; exact ⟨xd, rfl, hxd⟩
  have hund := sliceElem_some he
  have hnl := alen_sound (P := P) hn hx w
  obtain ⟨base, cap, rfl, hlc⟩ := append_shape ha hs hlen
  obtain ⟨new, hnew, hnewV, hnewL⟩ := acells_sound (P := P) r hxs hx
  obtain ⟨new1, hnew1, hnewV1, _⟩ := acells_sound (P := P) (rel_drew r) hxs hx
  refine append_core (P := P) r hpos hzs ha hs hlen hlc hnewV hnewV1 hnewL (fun hfit => ?_) (fun hg old hold => ?_)
  · rw [run_append_room (P := P) argTypes ty hst hxt hund hxu hni hi hz hnl hfit, hnew, Result.andThen_ok]
  · rw [run_append_grow (P := P) argTypes ty hst hxt hund hxu hni hi hz hnl hsz hg, hold, Result.andThen_ok, hnew1, Result.andThen_ok]


end
/-! M6 -/
section
set_option linter.unusedSimpArgs false
set_option linter.unusedVariables false
open Go Go.RowKit

variable {P : Program} {B : Nat} {φ : Nat → Loc} {h : AH} {w : World}

theorem run_copy (argTypes : Array TypeId) (ty : TypeId) {dt e : TypeId} {i : TypeInfo} {base : Option Addr} {m cap n : Nat} {x' : Value} {new : Array Value}
    (hdt : argTypes[0]? = some dt) (hu : P.underlying dt = some (.slice e)) (hi : P.info? e = some i) (hn : (Builtin.lenOf x').run P w = .ok n w) (hnew : (Builtin.firstCells i.size (min n m) x').run P w = .ok new w) :
    (Builtin.copy_ argTypes ty #[.slice base m cap, x']).run P w = ((match base with | some a => storeCells a new.toList | none => pure ()).run P w).andThen fun _ w => .ok (.int .i64 (min n m : Nat)) w := by
  have hsizeOf : ∀ w : World, (sizeOf e).run P w = .ok i.size w := fun w => by simp [sizeOf, run_typeInfo' hi]
  have hmin : Nat.min n m = min n m := rfl
  unfold Builtin.copy_
  cases base <;> simp [hdt, run_underlying hu, hn, hsizeOf, hnew, hmin, goInt]

theorem copy_sound (r : Rel B φ h w) {argTypes : Array TypeId} {ty : TypeId} {args : List AV} {args' : List Value} {v : AV} {h' : AH} (ha : acopy P argTypes args h = some (v, h'))
    (hargs : VRs h.ok φ args args') : ∃ v' w', (Builtin.copy_ argTypes ty args'.toArray).run P w = .ok v' w' ∧ Res B φ h w v h' v' w' := by
  unfold acopy at ha
  split at ha
  rotate_left
  · cases ha
  rename_i dt d x hdt
  obtain ⟨d', x', rfl, hd, hx⟩ := two_args hargs
  split at ha
  rotate_left
  · cases ha
  rename_i e he
  split at ha
  rotate_left
  · cases ha
  rename_i i m n hi hm hn
  split at ha
  · cases ha
  rename_i xs hxs
  have hund := sliceElem_some he
  have hnl := alen_sound (P := P) hn hx w
  obtain ⟨new, hnew, hnewV, hnewL⟩ := acells_sound (P := P) r hxs hx
  split at ha
  · rename_i hnil
    subst hnil
    have hnewE : new = #[] := by
      apply Array.eq_empty_of_size_eq_zero
      have := hnewV.1; simp at this; simp [← this]
    subst hnewE
    split at ha
    · cases ha
      cases hd with
      | val v0 =>
        simp only [alen] at hm
        cases hm
        rw [run_copy (P := P) argTypes ty hdt hund hi hnl hnew]
        refine ⟨_, _, rfl, Res.pure r ?_⟩
        simp; exact .int _ _
    · cases ha
      cases hd with
      | sl id off l sz a cap hid hl' hacap =>
        simp only [alen] at hm
        cases hm
        rw [run_copy (P := P) argTypes ty hdt hund hi hnl hnew]
        exact ⟨_, _, rfl, Res.pure r (.int _ _)⟩
    · cases ha
  · rename_i hne
    split at ha
    · rename_i id off l sz
      split at ha
      · rename_i c fz ty0 hg
        split at ha
        · rename_i hcond
          obtain ⟨rfl, hoff, hfz, hone⟩ := hcond
          cases ha
          cases hd with
          | sl id off l sz a cap hid hl' hacap =>
            simp only [alen] at hm
            cases hm
            rw [run_copy (P := P) argTypes ty hdt hund hi hnl hnew]
            rcases hacap with hc0 | ⟨ha', hcapn⟩
            · exfalso
              apply hne
              have : m = 0 := by omega
              subst this
              simp at hnewL
              exact hnewL
            · subst ha'
              obtain ⟨w', hrun, r', s'⟩ := r.write (P := P) hg hnewV hone hfz hoff
              refine ⟨.int .i64 (min n m : Nat), w', ?_, φ, .int _ _, r', s'⟩
              simp [hrun]
        · cases ha
      · cases ha
    · cases ha


theorem zeroCells_VRs {N : Nat → Prop} {zs : List AV} {vs : Array Value} (hz : VRs N φ zs vs.toList) : ∀ n, VRs N φ (zrow zs n) (Builtin.zeroCells vs n).toList
  | 0 => by simpa [zrow, Builtin.zeroCells] using VRs.nil _ _
  | n + 1 => by
    by_cases h0 : zs.length = 0
    · have e1 : zs = [] := List.eq_nil_of_length_eq_zero h0
      have e2 : vs.size = 0 := by have := hz.1; rw [h0] at this; simpa using this.symm
      subst e1
      have e3 : zrow ([] : List AV) (n + 1) = [] := List.eq_nil_of_length_eq_zero (by rw [zrow_length]; simp)
      have e4 : (Builtin.zeroCells vs (n + 1)).toList = [] := List.eq_nil_of_length_eq_zero (by rw [Array.length_toList, zeroCells_size, e2]; simp)
      rw [e3, e4]; exact VRs.nil _ _
    · have hs : vs.size = zs.length := by have := hz.1; simpa using this.symm
      have := zrow_VRs hz (n + 1) ((n + 1) * vs.size) (by rw [hs]; exact Nat.le_refl _) (.inr (.inr h0))
      rw [List.take_of_length_le (by simp [zrow_length, hs])] at this
      exact this


set_option maxHeartbeats 1000000 in
theorem append_sound (r : Rel B φ h w) {argTypes : Array TypeId} {ty : TypeId} {args : List AV} {args' : List Value} {v : AV} {h' : AH} (ha : aappend P argTypes args h = some (v, h'))
    (hargs : VRs h.ok φ args args') : ∃ v' w', (Builtin.append_ argTypes ty args'.toArray).run P w = .ok v' w' ∧ Res B φ h w v h' v' w' := by
  unfold aappend at ha
  split at ha
  rotate_left
  · cases ha
  rename_i st xt s x hst hxt
  obtain ⟨s', x', rfl, hs, hx⟩ := two_args hargs
  split at ha
  · rename_i e he hxd
    split at ha
    rotate_left
    · cases ha
    rename_i i n len hi hn hlen
    split at ha
    rotate_left
    · cases ha
    rename_i xs hroom hxs
    exact append_sound0 r hst hxt he hxd hi hn hlen hroom hxs ha hs hx
  · rename_i e he hxd
    unfold aappendN at ha
    split at ha
    rotate_left
    · cases ha
    rename_i m hxu
    split at ha
    rotate_left
    · cases ha
    rename_i i len z hi hlen hz0
    split at ha
    rotate_left
    · cases ha
    rename_i zs hroom hzc
    split at ha
    rotate_left
    · cases ha
    rename_i hc
    obtain ⟨h0, hzl⟩ := hc
    cases hx
    obtain ⟨hsz, hpos, zv, hz, hzs⟩ := aroom_some hroom
    obtain ⟨base, cap, rfl, hlc⟩ := append_shape ha hs hlen
    have hzv : z = ofValue zv := by
      unfold zeroOf at hz0
      rw [hi] at hz0
      simp [hz] at hz0
      exact hz0.symm
    have hV : VRs h.ok φ zs zv.cells.toList := by
      subst hzv
      exact (VR.ofValue h.ok φ zv).cells hzc
    have hnV := zeroCells_VRs hV m.toNat
    exact append_core (P := P) r hpos hzs ha hs hlen hlc hnV hnV (by rw [zrow_length, hzl]) (fun hfit => run_append_int_room (P := P) argTypes ty hst hxt (sliceElem_some he) hxu hi hz hzs h0 hsz hfit)
      (fun hg old hold => run_append_int_grow (P := P) argTypes ty hst hxt (sliceElem_some he) hxu hi hz hzs h0 hsz hg hold)
  · cases ha

theorem clear_sound (r : Rel B φ h w) {argTypes : Array TypeId} {ty : TypeId} {args : List AV} {args' : List Value} {v : AV} {h' : AH} (ha : aclear P argTypes args h = some (v, h'))
    (hargs : VRs h.ok φ args args') : ∃ v' w', (Builtin.clear_ argTypes ty args'.toArray).run P w = .ok v' w' ∧ Res B φ h w v h' v' w' := by
  unfold aclear at ha
  split at ha
  rotate_left
  · cases ha
  rename_i t x ht
  obtain ⟨x', rfl, hx⟩ := one_arg hargs
  split at ha
  rotate_left
  · cases ha
  rename_i e he
  have hund := sliceElem_some he
  have hu : VR h.ok φ .undef (.tuple #[]) := VR.undef _ _
  split at ha
  · cases ha
    cases hx with
    | val v0 => exact ⟨.tuple #[], w, by unfold Builtin.clear_; simp [ht, run_underlying hund], Res.pure r hu⟩
  · rename_i id off len sz
    cases hx with
    | sl id off len sz a cap hid hl hacap =>
    split at ha
    · rename_i h0
      subst h0
      cases ha
      exact ⟨.tuple #[], w, by unfold Builtin.clear_; simp [ht, run_underlying hund], Res.pure r hu⟩
    · rename_i h0
      split at ha
      rotate_left
      · cases ha
      rename_i c fz ty0 z hg hz
      split at ha
      rotate_left
      · cases ha
      rename_i zs hzs
      split at ha
      rotate_left
      · cases ha
      rename_i hcond
      obtain ⟨q1, q2, q3, q4, q5⟩ := hcond
      cases ha
      rcases hacap with hc0 | ⟨rfl, hcapn⟩
      · omega
      obtain ⟨Z, rfl, hZ⟩ := run_zeroValue' hz w
      have hv := (VR.ofValue h.ok φ Z).cells hzs
      obtain ⟨w', hrun, r', s'⟩ := r.write (P := P) hg (zeroCells_VRs hv len) q5 q4 q3
      refine ⟨.tuple #[], w', ?_, φ, VR.undef _ _, r', s'⟩
      unfold Builtin.clear_
      cases len with
      | zero => exact absurd rfl h0
      | succ len => simp [ht, run_underlying hund, hZ, hrun]
  · cases ha

/-! ### Composites -/
theorem fold_sets (off : Nat) : ∀ (l : List Value) (k : Nat) (cs : Array Value), off + k + l.length ≤ cs.size →
    ((l.zipIdx k).foldl (fun (cs : Array Value) p => cs.setIfInBounds (off + p.2) p.1) cs).toList = cs.toList.take (off + k) ++ (l ++ cs.toList.drop (off + k + l.length))
  | [], k, cs, h => by simp
  | v :: l, k, cs, h => by
    simp only [List.zipIdx_cons, List.foldl_cons]
    rw [fold_sets off l (k + 1) _ (by simp at h ⊢; omega)]
    have hlt : off + k < cs.toList.length := by simp at h ⊢; omega
    simp only [Array.toList_setIfInBounds]
    have e1 : (cs.toList.set (off + k) v).take (off + (k + 1)) = cs.toList.take (off + k) ++ [v] := by
      rw [show off + (k + 1) = off + k + 1 by omega, List.take_add_one, List.take_set_of_le (by omega), List.getElem?_set_self hlt]
      rfl
    have e2 : (cs.toList.set (off + k) v).drop (off + (k + 1) + l.length) = cs.toList.drop (off + k + (v :: l).length) := by
      rw [List.drop_set_of_lt (by omega)]
      congr 1
      simp; omega
    rw [e1, e2]
    simp

theorem fill_sound {N : Nat → Prop} {place : Nat → Option (Nat × Nat)} : ∀ (parts : List (Nat × AV)) (parts' : List (Nat × Value)) (ps : List (Nat × Nat × List AV)) (zs out : List AV) (Z : Array Value),
    parts.length = parts'.length → (∀ (i : Nat) (p : Nat × AV) (q : Nat × Value), parts[i]? = some p → parts'[i]? = some q → p.1 = q.1 ∧ VR N φ p.2 q.2) →
    partsAt place parts = some ps → afill zs ps = some out → VRs N φ zs Z.toList → ∃ Z', Instr.fill place Z parts' = some Z' ∧ VRs N φ out Z'.toList
  | [], [], ps, zs, out, Z, _, _, hp, hf, hz => by
    simp only [partsAt] at hp; cases hp
    simp only [afill] at hf; cases hf
    exact ⟨Z, rfl, hz⟩
  | (i, x) :: parts, (j, v) :: parts', ps, zs, out, Z, hl, hv, hp, hf, hz => by
    obtain ⟨hij, hxv⟩ := hv 0 (i, x) (j, v) rfl rfl
    simp only at hij hxv
    subst hij
    simp only [partsAt] at hp
    split at hp
    · rename_i off size xs r hpl hxs hr
      cases hp
      simp only [afill] at hf
      split at hf
      · rename_i hcond
        have hcs := hxv.cells hxs
        have hl1 := hcs.1
        have hl2 := hz.1
        simp at hl1 hl2
        have hfold := fold_sets off v.cells.toList 0 Z (by simp; omega)
        have hZ1 : VRs N φ (splice zs off xs) ((v.cells.zipIdx.foldl (fun cs (c, j) => cs.setIfInBounds (off + j) c) Z).toList) := by
          rw [← Array.foldl_toList, Array.toList_zipIdx, hfold]
          have := VRs.splice (N := N) (φ := φ) (c := zs) (xs := xs) (L := Z.toList) (us := v.cells.toList) (o := 0) (off := off) (L' := Z.toList.take (0 + off) ++ (v.cells.toList ++ Z.toList.drop (0 + off + v.cells.toList.length)))
            (by rw [List.drop_zero, List.take_of_length_le (by simp; omega)]; exact hz) hcs (by omega) (by simp; omega) rfl
          rw [List.drop_zero, List.take_of_length_le (by simp; omega)] at this
          simpa using this
        obtain ⟨Z', hZ', hZv⟩ := fill_sound parts parts' r (splice zs off xs) out _ (by simpa using hl) (fun k p q hp hq => hv (k + 1) p q (by simpa using hp) (by simpa using hq)) hr hf hZ1
        refine ⟨Z', ?_, hZv⟩
        simp only [Instr.fill, hpl]
        rw [if_neg]
        · exact hZ'
        · simp; omega
      · cases hf
    · cases hp
  | [], _ :: _, _, _, _, _, hl, _, _, _, _ => by simp at hl
  | _ :: _, [], _, _, _, _, hl, _, _, _, _ => by simp at hl

theorem afill_length : ∀ {ps : List (Nat × Nat × List AV)} {zs out : List AV}, afill zs ps = some out → out.length = zs.length
  | [], zs, out, h => by simp only [afill] at h; cases h; rfl
  | (off, size, xs) :: ps, zs, out, h => by
    simp only [afill] at h
    split at h
    · rename_i hc
      rw [afill_length h, splice_length (by omega)]
    · cases h

theorem placesOf_sound : ∀ (fs : List Field) (pl : List (Nat × Nat)), placesOf P fs = some pl → ∀ w : World,
    (fs.mapM fun f => do pure (f.offset, ← sizeOf f.type) : Sem (List (Nat × Nat))).run P w = .ok pl w
  | [], pl, h, w => by simp only [placesOf] at h; cases h; rfl
  | f :: fs, pl, h, w => by
    simp only [placesOf] at h
    split at h
    · rename_i s r hs hr
      cases h
      have ih := placesOf_sound fs r hr w
      simp only [List.mapM_cons, Sem.run_bind, run_sizeOf' hs, Result.andThen_ok, Sem.run_pure]
      rw [ih]
      rfl
    · cases h

theorem mapM_places (fs : Array Field) (pl : List (Nat × Nat)) (h : placesOf P fs.toList = some pl) (w : World) :
    (fs.mapM fun f => do pure (f.offset, ← sizeOf f.type) : Sem (Array (Nat × Nat))).run P w = .ok pl.toArray w := by
  have := placesOf_sound fs.toList pl h w
  rw [Array.mapM_eq_mapM_toList]
  simp only [Sem.run_map, this, Result.andThen_ok]

/-- The parts that the model is handed. -/
def partsR (N : Nat → Prop) (φ : Nat → Loc) (parts : List (Nat × AV)) (parts' : List (Nat × Value)) : Prop :=
  parts.length = parts'.length ∧ ∀ (i : Nat) (p : Nat × AV) (q : Nat × Value), parts[i]? = some p → parts'[i]? = some q → p.1 = q.1 ∧ VR N φ p.2 q.2

theorem build_sound {t : TypeId} {parts : List (Nat × AV)} {parts' : List (Nat × Value)} {v : AV} {N : Nat → Prop} (hb : abuild P t parts = some v) (hp : partsR N φ parts parts') (w : World) :
    ∃ v', (Instr.build t parts'.toArray).run P w = .ok v' w ∧ VR N φ v v' := by
  unfold abuild at hb
  split at hb
  rotate_left
  · cases hb
  rename_i z hz
  obtain ⟨Z, rfl, hZ⟩ := run_zeroValue' hz w
  split at hb
  · rename_i zero fs hzero hu
    split at hb
    · rename_i pl hpl
      split at hb
      · rename_i ps hps
        cases hf : afill zero ps with
        | none => simp [hf] at hb
        | some out =>
          simp [hf] at hb
          subst hb
          obtain ⟨Z', hZ', hv⟩ := fill_sound parts parts' ps zero out Z.cells hp.1 hp.2 hps hf ((VR.ofValue N φ Z).cells hzero)
          refine ⟨.agg Z', ?_, .agg _ _ (by have := hv.1; simpa using this) fun i x u hx hu' => hv.2 i x u hx (by simpa using hu')⟩
          have hm := mapM_places fs pl hpl w
          have e : (fun i : Nat => pl.toArray[i]?) = fun i : Nat => pl[i]? := by funext i; simp
          unfold Instr.build
          simp only [Sem.run_bind, hZ, Result.andThen_ok, run_underlying hu, hm]
          rw [e, hZ']
          rfl
      · cases hb
    · cases hb
  · rename_i zero n e hzero hu
    split at hb
    · rename_i size hsz
      split at hb
      · rename_i ps hps
        cases hf : afill zero ps with
        | none => simp [hf] at hb
        | some out =>
          simp [hf] at hb
          subst hb
          obtain ⟨Z', hZ', hv⟩ := fill_sound parts parts' ps zero out Z.cells hp.1 hp.2 hps hf ((VR.ofValue N φ Z).cells hzero)
          refine ⟨.agg Z', ?_, .agg _ _ (by have := hv.1; simpa using this) fun i x u hx hu' => hv.2 i x u hx (by simpa using hu')⟩
          unfold Instr.build
          simp only [Sem.run_bind, hZ, Result.andThen_ok, run_underlying hu, run_sizeOf' hsz]
          rw [hZ']
          rfl
      · cases hb
    · cases hb
  · cases hb

theorem buildSlice_sound (r : Rel B φ h w) {t : TypeId} {len : Nat} {parts : List (Nat × AV)} {parts' : List (Nat × Value)} {v : AV} {h' : AH} (hb : abuildSlice P t len parts h = some (v, h')) (hp : partsR h.ok φ parts parts') :
    ∃ v' w', (Instr.buildSlice t len parts'.toArray).run P w = .ok v' w' ∧ Res B φ h w v h' v' w' := by
  unfold abuildSlice at hb
  split at hb
  rotate_left
  · cases hb
  rename_i e he
  split at hb
  rotate_left
  · cases hb
  rename_i size hsz
  split at hb
  · cases hb
  rename_i hcond
  split at hb
  rotate_left
  · cases hb
  rename_i z hz
  split at hb
  rotate_left
  · cases hb
  rename_i zs ps hzs hps
  split at hb
  · cases hb
  rename_i hlen
  split at hb
  rotate_left
  · cases hb
  rename_i cells hf
  cases hb
  have hund := sliceElem_some he
  have hpos : 0 < size := by omega
  have hlim : ¬ len * size > 2 ^ 24 := by omega
  obtain ⟨Z, hZrun, hZV⟩ : ∃ Z : Array Value, ((if len * size = 0 then pure #[] else do pure (← zeroValue e).cells : Sem (Array Value)).run P w = .ok Z w) ∧
      VRs h.ok φ (zrow zs len) (((Array.range (len * size)).map (Z[· % Z.size]!)).toList) := by
    by_cases h0 : len = 0
    · subst h0
      exact ⟨#[], by simp, by simpa [zrow] using VRs.nil _ _⟩
    · rw [if_neg h0] at hz
      obtain ⟨Z, rfl, hZ⟩ := run_zeroValue' hz w
      have hzl : zs.length = size := by
        apply Classical.byContradiction
        intro hne
        exact hlen ⟨h0, hne⟩
      have hne : len * size ≠ 0 := Nat.mul_ne_zero h0 (by omega)
      refine ⟨Z.cells, by rw [if_neg hne]; simp [hZ], ?_⟩
      have hv := (VR.ofValue h.ok φ Z).cells hzs
      have := zrow_VRs hv len (len * size) (by rw [hzl]; exact Nat.le_refl _) (.inl (by rw [hzl]; exact hne))
      rw [List.take_of_length_le (by simp [zrow_length, hzl])] at this
      exact this
  obtain ⟨Z', hZ', hv⟩ := fill_sound parts parts' ps (zrow zs len) cells _ hp.1 hp.2 hps hf hZV
  have hl := hv.1
  simp at hl
  have hsize : Z'.size = len * size := by
    have hfl := afill_length hf
    rw [zrow_length] at hfl
    by_cases h0 : len = 0
    · subst h0; omega
    · have hz2 : zs.length = size := by
        apply Classical.byContradiction
        intro hne
        exact hlen ⟨h0, hne⟩
      rw [hz2] at hfl
      omega
  obtain ⟨r', s'⟩ := r.fresh cells Z' e 0 0 (some (e, false)) (fun t b ht => by cases ht; exact ⟨rfl, fun hb => rfl⟩) (by rw [List.take_of_length_le (by simp; omega)]; exact hv) (by omega)
  refine ⟨.slice (some ⟨w.heap.size, 0, none⟩) len len, w.alloc (.cells Z' e), ?_, _, ?_, r', s'⟩
  · unfold Instr.buildSlice
    simp only [Sem.run_bind, run_underlying hund, Result.andThen_ok, run_sizeOf' hsz, if_neg hlim]
    by_cases h0 : len * size = 0
    · rw [if_pos h0] at hZrun
      have hZ0 : Z = #[] := by cases hZrun; rfl
      subst hZ0
      rw [if_pos h0]
      simp only [Sem.run_bind, Sem.run_pure, Result.andThen_ok, hZ', run_newRow]
    · rw [if_neg h0] at hZrun
      rw [if_neg h0]
      simp only [Sem.run_bind] at hZrun ⊢
      cases hz0 : (zeroValue e).run P w with
      | ok zv w1 =>
        rw [hz0] at hZrun
        cases hZrun
        simp only [Sem.run_bind, Sem.run_pure, Result.andThen_ok, hZ', run_newRow]
      | halt x w1 => rw [hz0] at hZrun; cases hZrun
  · exact .sl h.n 0 len size _ len (AH.ok_new _ _) (Nat.le_refl _) (.inr ⟨by simp [ext1_new], by simp [ext1_new, hsize]⟩)


end
/-! M7 -/
section
set_option linter.unusedSimpArgs false
set_option linter.unusedVariables false
open Go Go.RowKit

variable {P : Program} {B : Nat} {φ : Nat → Loc} {h : AH} {w : World}

theorem wrap_small (n : Int) (h0 : 0 ≤ n) (h1 : n ≤ 1099511627776) : IntKind.i64.wrap n = n := by
  rw [IntKind.wrap_i64]
  omega

theorem makeSlice_sound (r : Rel B φ h w) {t : TypeId} {l c v : AV} {l' c' : Value} {h' : AH} (hm : amakeSlice P t l c h = some (v, h')) (hl : VR h.ok φ l l') (hc : VR h.ok φ c c') :
    ∃ v' w', (Instr.makeSlice t l' c').run P w = .ok v' w' ∧ Res B φ h w v h' v' w' := by
  unfold amakeSlice at hm
  split at hm
  rotate_left
  · cases hm
  rename_i e k1 len k2 cap he
  cases hl
  cases hc
  split at hm
  rotate_left
  · cases hm
  rename_i i z hi hz
  split at hm
  rotate_left
  · cases hm
  rename_i zs hzs
  split at hm
  rotate_left
  · cases hm
  rename_i hcond
  obtain ⟨h0, hlc, hcap, hzl, hpos⟩ := hcond
  cases hm
  have hund := sliceElem_some he
  obtain ⟨Z, rfl, hZ⟩ := run_zeroValue' hz w
  have hv := (VR.ofValue h.ok φ Z).cells hzs
  obtain ⟨m, rfl⟩ := Int.eq_ofNat_of_zero_le h0
  obtain ⟨n, rfl⟩ := Int.eq_ofNat_of_zero_le (Int.le_trans h0 hlc)
  have hcapn : n * (i.bytes + 1) ≤ sizeCap := by
    have : ((n * (i.bytes + 1) : Nat) : Int) ≤ sizeCap := by push_cast; exact hcap
    exact Int.ofNat_le.1 this
  have hn1 : n ≤ 1099511627776 := by
    have : n * 1 ≤ n * (i.bytes + 1) := Nat.mul_le_mul_left _ (by omega)
    unfold sizeCap at hcapn; omega
  have hbn : ¬ ((i.bytes : Int) * n > 2 ^ 48) := by
    have : n * i.bytes ≤ n * (i.bytes + 1) := Nat.mul_le_mul_left _ (by omega)
    have h3 : ((i.bytes : Int) * n) = ((n * i.bytes : Nat) : Int) := by push_cast; exact Int.mul_comm _ _
    rw [h3]
    unfold sizeCap at hcapn
    omega
  have hmn : m ≤ n := by omega
  have hw1 : IntKind.i64.wrap (m : Int) = m := wrap_small _ (by omega) (by omega)
  have hw2 : IntKind.i64.wrap (n : Int) = n := wrap_small _ (by omega) (by omega)
  have hsizeOf : ∀ w : World, (sizeOf e).run P w = .ok i.size w := fun w => by simp [sizeOf, run_typeInfo' hi]
  obtain ⟨Zr, hZr, hZV, hZs⟩ : ∃ Zr : Array Value, ((if n * i.size = 0 then pure #[] else do pure (← zeroValue e).cells : Sem (Array Value)).run P w = .ok Zr w) ∧
      VRs h.ok φ (zrow zs m) (((Array.range (n * i.size)).map (Zr[· % Zr.size]!)).toList.take (zrow zs m).length) ∧ True := by
    by_cases hz0 : n * i.size = 0
    · refine ⟨#[], by simp [hz0], ?_, trivial⟩
      have hn0 : n = 0 := by rcases Nat.mul_eq_zero.1 hz0 with h | h <;> omega
      have hm0 : m = 0 := by omega
      subst hm0
      simpa [zrow] using VRs.nil _ _
    · refine ⟨Z.cells, by rw [if_neg hz0]; simp [hZ], ?_, trivial⟩
      exact zrow_VRs hv m (n * i.size) (by rw [hzl]; exact Nat.mul_le_mul_right _ hmn) (.inr (.inr (by omega)))
  generalize hrow : (Array.range (n * i.size)).map (Zr[· % Zr.size]!) = row at hZV
  have hrows : row.size = n * i.size := by rw [← hrow]; simp
  have hmul : m * i.size ≤ n * i.size := Nat.mul_le_mul_right _ hmn
  obtain ⟨r', s'⟩ := r.fresh (zrow zs m) row e 0 (n * i.size - m * i.size) (some (e, false)) (fun t b ht => by cases ht; exact ⟨rfl, fun hb => by cases hb⟩) hZV (by rw [zrow_length, hzl, hrows]; omega)
  refine ⟨.slice (some ⟨w.heap.size, 0, none⟩) m n, w.alloc (.cells row e), ?_, _, ?_, r', s'⟩
  · unfold Instr.makeSlice
    have hb1 : ¬ (n : Int) < 0 := by omega
    have hb2 : ¬ (m : Int) < 0 := by omega
    have hb3 : ¬ (m : Int) > n := by omega
    simp only [Sem.run_bind, run_underlying hund, Result.andThen_ok, asInt, asIntOf, Sem.run_pure, run_typeInfo' hi, hw1, hw2]
    simp only [decide_eq_false hb1, decide_eq_false hb2, decide_eq_false hb3, decide_eq_false hbn, Bool.or_false, Bool.false_eq_true, if_false, Sem.run_bind, Sem.run_pure, Result.andThen_ok, run_askRoom, hsizeOf, Int.toNat_natCast]
    by_cases hz0 : n * i.size = 0
    · rw [if_pos hz0] at hZr
      have hZ0 : Zr = #[] := by cases hZr; rfl
      subst hZ0
      rw [if_pos hz0]
      simp only [Sem.run_bind, Sem.run_pure, Result.andThen_ok, hrow, run_newRow]
    · rw [if_neg hz0] at hZr
      simp only [Sem.run_bind, hZ, Result.andThen_ok, Sem.run_pure] at hZr
      have hZ0 : Zr = Z.cells := by cases hZr; rfl
      subst hZ0
      rw [if_neg hz0]
      simp only [Sem.run_bind, hZ, Sem.run_pure, Result.andThen_ok, hrow, run_newRow]
  · simp only [Int.toNat_natCast]
    exact .sl h.n 0 m i.size _ n (AH.ok_new _ _) hmn (.inr ⟨by simp [ext1_new], by simp [ext1_new, hrows]⟩)

/-! ### Slice expressions -/
def OVR (N : Nat → Prop) (φ : Nat → Loc) : Option AV → Option Value → Prop
  | none, none => True
  | some x, some v => VR N φ x v
  | _, _ => False

theorem bounds_sound {N : Nat → Prop} {lo hi : Option AV} {lo' hi' : Option Value} {isS : Bool} {len cap a b : Nat} (hlo : OVR N φ lo lo') (hhi : OVR N φ hi hi') (ha : abound 0 lo = some a) (hb : abound len hi = some b)
    (hab : a ≤ b) (hbc : b ≤ cap) (w : World) : (Instr.sliceBounds isS len cap lo' hi' none).run P w = .ok (a, b, cap) w := by
  have hH : (match hi', (none : Option Value) with
    | some v, some _ => Instr.sliceBound v cap .slice3B
    | some v, none => Instr.sliceBound v cap (if isS then .sliceAcap else .sliceAlen)
    | none, none => pure len
    | none, some _ => stuck "Slice: max without high").run P w = .ok b w := by
    cases hi with
    | none =>
      cases hi' with
      | none => simp only [abound] at hb; cases hb; rfl
      | some v => exact hhi.elim
    | some x =>
      cases hi' with
      | none => exact hhi.elim
      | some v =>
        have hx : VR N φ x v := hhi
        cases hx with
        | int k n =>
          simp only [abound] at hb
          split at hb
          · rename_i hn
            cases hb
            have : 0 ≤ n ∧ n ≤ (cap : Int) := by omega
            simp [Instr.sliceBound, asIntOf, this]
          · cases hb
        | _ => simp [abound] at hb
  have hL : (match lo' with
    | some v => Instr.sliceBound v b (if (none : Option Value).isSome then .slice3C else .sliceB)
    | none => pure 0).run P w = .ok a w := by
    cases lo with
    | none =>
      cases lo' with
      | none => simp only [abound] at ha; cases ha; rfl
      | some v => exact hlo.elim
    | some x =>
      cases lo' with
      | none => exact hlo.elim
      | some v =>
        have hx : VR N φ x v := hlo
        cases hx with
        | int k n =>
          simp only [abound] at ha
          split at ha
          · rename_i hn
            cases ha
            have : 0 ≤ n ∧ n ≤ (b : Int) := by omega
            simp [Instr.sliceBound, asIntOf, this]
          · cases ha
        | _ => simp [abound] at ha
  unfold Instr.sliceBounds
  simp only [Sem.run_bind, Sem.run_pure, Result.andThen_ok]
  cases hi' <;> cases lo' <;> simp_all

theorem bounds3_sound {N : Nat → Prop} {lo : Option AV} {x : AV} {lo' hi' : Option Value} {k : IntKind} {c : Int} {len cap a b : Nat} (hlo : OVR N φ lo lo') (hhi : OVR N φ (some x) hi') (ha : abound 0 lo = some a) (hb : abound 0 (some x) = some b)
    (hab : a ≤ b) (hbc : (b : Int) ≤ c) (hc : c ≤ (cap : Int)) (w : World) : (Instr.sliceBounds true len cap lo' hi' (some (.int k c))).run P w = .ok (a, b, c.toNat) w := by
  cases hi' with
  | none => exact hhi.elim
  | some v =>
    have hx : VR N φ x v := hhi
    cases hx with
    | int k2 n =>
      simp only [abound] at hb
      split at hb
      · rename_i hn
        cases hb
        have h1 : 0 ≤ c ∧ c ≤ (cap : Int) := by omega
        have h2 : 0 ≤ n ∧ n ≤ ((c.toNat : Nat) : Int) := by omega
        cases lo with
        | none =>
          cases lo' with
          | none => simp only [abound] at ha; cases ha; simp [Instr.sliceBounds, Instr.sliceBound, asIntOf, h1.1, h1.2, h2.1, h2.2]; omega
          | some v => exact hlo.elim
        | some y =>
          cases lo' with
          | none => exact hlo.elim
          | some u =>
            have hy : VR N φ y u := hlo
            cases hy with
            | int k3 l =>
              simp only [abound] at ha
              split at ha
              · rename_i hl
                cases ha
                have h3 : 0 ≤ l ∧ l ≤ ((n.toNat : Nat) : Int) := by omega
                have h2' : n ≤ max c 0 := by omega
                have h3' : l ≤ max n 0 := by omega
                simp [Instr.sliceBounds, Instr.sliceBound, asIntOf, h1.1, h1.2, h2.1, h2', h3.1, h3']
              · cases ha
            | _ => simp [abound] at ha
      · cases hb
    | _ => simp [abound] at hb

theorem slice_sound (r : Rel B φ h w) {t : TypeId} {x v : AV} {x' : Value} {lo hi mx : Option AV} {lo' hi' mx' : Option Value} (hs : aslice P t x lo hi mx h = some v) (hx : VR h.ok φ x x')
    (hlo : OVR h.ok φ lo lo') (hhi : OVR h.ok φ hi hi') (hmx : OVR h.ok φ mx mx') : ∃ v', (Instr.sliceAt t x' lo' hi' mx').run P w = .ok v' w ∧ VR h.ok φ v v' := by
  unfold aslice at hs
  split at hs
  · rename_i mv
    cases mx' with
    | none => exact hmx.elim
    | some mv' =>
    have hmv : VR h.ok φ mv mv' := hmx
    split at hs
    · rename_i e id off len sz hv k c hu
      cases hmv
      cases hx with
      | sl _ _ _ _ a0 cap hid hl hacap =>
      split at hs
      rotate_left
      · cases hs
      rename_i s a b hsz ha hb
      split at hs
      rotate_left
      · cases hs
      rename_i hcond
      obtain ⟨rfl, hab, hbc, hcl⟩ := hcond
      cases hs
      have hb' := bounds3_sound (P := P) (k := k) (len := len) (cap := cap) hlo hhi ha hb hab hbc (by omega) w
      refine ⟨.slice (if c.toNat = a then some a0 else some (a0.add (a * s))) (b - a) (c.toNat - a), ?_, ?_⟩
      · simp [Instr.sliceAt, Instr.slice, run_underlying hu, hb', run_sizeOf' hsz]
      · have hif : (if c.toNat = a then some a0 else some (a0.add (a * s))) = some (if c.toNat = a then a0 else a0.add (a * s)) := by split <;> rfl
        rw [hif]
        refine .sl id (off + a * s) (b - a) s _ (c.toNat - a) hid (by omega) ?_
        by_cases hca : c.toNat = a
        · exact .inl (by omega)
        · right
          rcases hacap with h0 | ⟨ha0, hn⟩
          · omega
          · rw [if_neg hca, ha0, addr_add]
            refine ⟨by congr 1; omega, ?_⟩
            have h1 : (c.toNat - a) * s + a * s = c.toNat * s := by rw [← Nat.add_mul]; congr 1; omega
            have h2 : c.toNat * s ≤ cap * s := Nat.mul_le_mul_right _ (by omega)
            omega
    · rename_i e hv k c hu
      cases hmv
      cases hx
      split at hs
      rotate_left
      · cases hs
      rename_i s hsz ha hb
      split at hs
      rotate_left
      · cases hs
      rename_i hc0
      subst hc0
      cases hs
      have hb' := bounds3_sound (P := P) (k := k) (c := 0) (len := 0) (cap := 0) hlo hhi ha hb (Nat.le_refl _) (by omega) (by omega) w
      exact ⟨.slice none 0 0, by simp [Instr.sliceAt, Instr.slice, run_underlying hu, hb', run_sizeOf' hsz], .val _⟩
    · cases hs
  have hmx' : mx' = none := by cases mx' with
    | none => rfl
    | some v => exact hmx.elim
  subst hmx'
  split at hs
  · -- a text
    rename_i l hu
    cases hx
    split at hs
    rotate_left
    · cases hs
    rename_i a b ha hb
    split at hs
    rotate_left
    · cases hs
    rename_i hcond
    cases hs
    refine ⟨.string ((⟨⟨l⟩⟩ : ByteArray).extract a b), ?_, ?_⟩
    · have hb' := bounds_sound (P := P) (isS := false) (len := l.length) (cap := l.length) hlo hhi ha hb hcond.1 hcond.2 w
      have hsz : (⟨⟨l⟩⟩ : ByteArray).size = l.length := rfl
      simp [Instr.sliceAt, Instr.slice, run_underlying hu, hsz, hb']
    · have e : (⟨⟨l⟩⟩ : ByteArray).extract a b = ⟨⟨(l.take b).drop a⟩⟩ := by
        apply ByteArray.ext
        rw [ByteArray.data_extract]
        apply Array.ext'
        simp [Array.toList_extract, List.extract_eq_take_drop, List.drop_take]
      rw [e]
      exact .str _
  · -- a slice
    rename_i e id off len sz hu
    cases hx with
    | sl _ _ _ _ a0 cap hid hl hacap =>
      split at hs
      rotate_left
      · cases hs
      rename_i s a b hsz ha hb
      split at hs
      rotate_left
      · cases hs
      rename_i hcond
      obtain ⟨rfl, hab, hbl⟩ := hcond
      cases hs
      have hb' := bounds_sound (P := P) (isS := true) (len := len) (cap := cap) hlo hhi ha hb hab (by omega) w
      refine ⟨.slice (if cap = a then some a0 else some (a0.add (a * s))) (b - a) (cap - a), ?_, ?_⟩
      · simp [Instr.sliceAt, Instr.slice, run_underlying hu, hb', run_sizeOf' hsz]
      · have hif : (if cap = a then some a0 else some (a0.add (a * s))) = some (if cap = a then a0 else a0.add (a * s)) := by split <;> rfl
        rw [hif]
        refine .sl id (off + a * s) (b - a) s _ (cap - a) hid (by omega) ?_
        by_cases hca : cap = a
        · exact .inl (by omega)
        · right
          rcases hacap with h0 | ⟨ha0, hn⟩
          · omega
          · rw [if_neg hca, ha0, addr_add]
            refine ⟨by congr 1; omega, ?_⟩
            have : (cap - a) * s + a * s = cap * s := by rw [← Nat.add_mul]; congr 1; omega
            omega
  · -- no slice
    rename_i e hu
    cases hx
    split at hs
    rotate_left
    · cases hs
    rename_i s hsz ha hb
    cases hs
    have hb' := bounds_sound (P := P) (isS := true) (len := 0) (cap := 0) hlo hhi ha hb (Nat.le_refl _) (Nat.le_refl _) w
    exact ⟨.slice none 0 0, by simp [Instr.sliceAt, Instr.slice, run_underlying hu, hb', run_sizeOf' hsz], .val _⟩
  · -- an array
    rename_i n e id off hu
    cases hx with
    | ptr _ _ hid =>
      split at hs
      rotate_left
      · cases hs
      rename_i s a b c own fz ty hsz ha hb hg
      split at hs
      rotate_left
      · cases hs
      rename_i hcond
      obtain ⟨hs0, hab, hbn, hoff⟩ := hcond
      cases hs
      obtain ⟨C, e0, lo0, hi0, h1, h2, h3, h4, h5, h6⟩ := r.cells hg
      have hb' := bounds_sound (P := P) (isS := false) (len := n) (cap := n) hlo hhi ha hb hab hbn w
      refine ⟨.slice (some (if n = a then ⟨(φ id).b, (φ id).o + off, none⟩ else (⟨(φ id).b, (φ id).o + off, none⟩ : Addr).add (a * s))) (b - a) (n - a), ?_, ?_⟩
      · simp [Instr.sliceAt, Instr.sureAddr, run_underlying hu, hb', run_sizeOf' hsz]
      · refine .sl id (off + a * s) (b - a) s _ (n - a) hid (by omega) ?_
        by_cases hca : n = a
        · exact .inl (by omega)
        · right
          rw [if_neg hca, addr_add]
          refine ⟨by congr 1; omega, ?_⟩
          have : (n - a) * s + a * s = n * s := by rw [← Nat.add_mul]; congr 1; omega
          omega
  · cases hs

/-! ### Addresses and parts -/
theorem fieldsOf_some {t : TypeId} {fs : List Field} (hf : fieldsOf P t = some fs) : ∃ a : Array Field, P.underlying t = some (.struct a) ∧ a.toList = fs := by
  unfold fieldsOf at hf
  split at hf
  · rename_i a ha; cases hf; exact ⟨a, ha, rfl⟩
  · cases hf

theorem fieldAddr_sound {N : Nat → Prop} {s : TypeId} {x v : AV} {x' : Value} {f : Nat} (hf : afieldAddr P s x f = some v) (hx : VR N φ x x') (w : World) :
    ∃ v', (Instr.fieldAt s x' f).run P w = .ok v' w ∧ VR N φ v v' := by
  unfold afieldAddr at hf
  split at hf
  rotate_left
  · rename_i fs g off hfs
    obtain ⟨a, hu, rfl⟩ := fieldsOf_some hfs
    cases hx with
    | val _ =>
      split at hf
      rotate_left
      · cases hf
      rename_i fd hfd
      split at hf
      rotate_left
      · cases hf
      rename_i n hn
      split at hf
      · cases hf
      rename_i hn0
      cases hf
      rw [Array.getElem?_toList] at hfd
      refine ⟨.pointer (some ⟨g, off + fd.offset, none⟩), ?_, .val _⟩
      simp [Instr.fieldAt, run_underlying hu, hfd, Instr.sureAddr, fieldPlace, run_sizeOf' hn, hn0, addr_add]
  · cases hf
  rename_i fs id off hfs
  obtain ⟨a, hu, rfl⟩ := fieldsOf_some hfs
  cases hx with
  | ptr _ _ hid =>
    split at hf
    rotate_left
    · cases hf
    rename_i fd hfd
    split at hf
    rotate_left
    · cases hf
    rename_i n hn
    split at hf
    · cases hf
    rename_i hn0
    cases hf
    rw [Array.getElem?_toList] at hfd
    refine ⟨.pointer (some ⟨(φ id).b, (φ id).o + (off + fd.offset), none⟩), ?_, .ptr _ _ hid⟩
    simp [Instr.fieldAt, run_underlying hu, hfd, Instr.sureAddr, fieldPlace, run_sizeOf' hn, hn0, addr_add, Nat.add_assoc]

theorem field_sound {N : Nat → Prop} {t : TypeId} {x v : AV} {x' : Value} {f : Nat} (hf : afield P t x f = some v) (hx : VR N φ x x') (w : World) :
    ∃ v', (Instr.field t x' f).run P w = .ok v' w ∧ VR N φ v v' := by
  unfold afield at hf
  split at hf
  rotate_left
  · cases hf
  rename_i fs cs hfs
  obtain ⟨a, hu, rfl⟩ := fieldsOf_some hfs
  cases hx with
  | agg _ vs hl hv =>
    split at hf
    rotate_left
    · cases hf
    rename_i fd hfd
    rw [Array.getElem?_toList] at hfd
    obtain ⟨u, hu', hr⟩ := run_part' hf (vs := vs) (N := N) (φ := φ) ⟨by simpa using hl, fun i x v hx hv' => hv i x v hx (by simpa using hv')⟩ w
    exact ⟨u, by simp [Instr.field, run_underlying hu, hfd, asAgg, hu'], hr⟩

theorem indexAddr_sound {N : Nat → Prop} {t : TypeId} {x i v : AV} {x' i' : Value} (hs : aindexAddr P t x i = some v) (hx : VR N φ x x') (hi : VR N φ i i') (w : World) :
    ∃ v', (Instr.indexAt t x' i').run P w = .ok v' w ∧ VR N φ v v' := by
  unfold aindexAddr at hs
  split at hs
  · rename_i len e id off k n hu
    cases hi
    cases hx with
    | ptr _ _ hid =>
      split at hs
      rotate_left
      · cases hs
      rename_i s hsz
      split at hs
      rotate_left
      · cases hs
      rename_i hc
      cases hs
      refine ⟨.pointer (some ⟨(φ id).b, (φ id).o + (off + n.toNat * s), none⟩), ?_, .ptr _ _ hid⟩
      simp [Instr.indexAt, asIntOf, run_underlying hu, Instr.sureAddr, hc, run_sizeOf' hsz, addr_add, Nat.add_assoc]
  · rename_i len e g off k n hu
    cases hi
    cases hx with
    | val _ =>
      split at hs
      rotate_left
      · cases hs
      rename_i s hsz
      split at hs
      rotate_left
      · cases hs
      rename_i hc
      cases hs
      refine ⟨.pointer (some ⟨g, off + n.toNat * s, none⟩), ?_, .val _⟩
      simp [Instr.indexAt, asIntOf, run_underlying hu, Instr.sureAddr, hc, run_sizeOf' hsz, addr_add]
  · rename_i e id off len sz k n hu
    cases hi
    cases hx with
    | sl _ _ _ _ a cap hid hl hacap =>
      split at hs
      rotate_left
      · cases hs
      rename_i s hsz
      split at hs
      rotate_left
      · cases hs
      rename_i hc
      obtain ⟨rfl, hc0, hc1⟩ := hc
      cases hs
      rcases hacap with h0 | ⟨ha, _⟩
      · omega
      · subst ha
        refine ⟨.pointer (some ⟨(φ id).b, (φ id).o + (off + n.toNat * s), none⟩), ?_, .ptr _ _ hid⟩
        simp [Instr.indexAt, asIntOf, run_underlying hu, hc0, hc1, run_sizeOf' hsz, addr_add, Nat.add_assoc]
  · cases hs

theorem bytes_get (l : List UInt8) (n : Nat) : (⟨⟨l⟩⟩ : ByteArray)[n]? = l[n]? := by
  by_cases hn : n < l.length
  · rw [List.getElem?_eq_getElem hn, getElem?_pos (⟨⟨l⟩⟩ : ByteArray) n (show n < (⟨⟨l⟩⟩ : ByteArray).size from hn)]
    rfl
  · rw [List.getElem?_eq_none (by omega), getElem?_neg (⟨⟨l⟩⟩ : ByteArray) n (show ¬ n < (⟨⟨l⟩⟩ : ByteArray).size from hn)]

theorem index_sound {N : Nat → Prop} {t : TypeId} {x i v : AV} {x' i' : Value} (hs : aindex P t x i = some v) (hx : VR N φ x x') (hi : VR N φ i i') (w : World) :
    ∃ v', (Instr.index t x' i').run P w = .ok v' w ∧ VR N φ v v' := by
  unfold aindex at hs
  split at hs
  · rename_i len e cs k n hu
    cases hi
    cases hx with
    | agg _ vs hl hv =>
      split at hs
      rotate_left
      · cases hs
      rename_i s hsz
      split at hs
      rotate_left
      · cases hs
      rename_i hc
      obtain ⟨u, hu', hr⟩ := run_part' hs (vs := vs) (N := N) (φ := φ) ⟨by simpa using hl, fun i x v hx hv' => hv i x v hx (by simpa using hv')⟩ w
      exact ⟨u, by simp [Instr.index, asIntOf, run_underlying hu, hc, run_sizeOf' hsz, hu'], hr⟩
  · rename_i l k n hu
    cases hi
    cases hx
    split at hs
    rotate_left
    · cases hs
    rename_i hn
    cases hb : l[n.toNat]? with
    | none => simp [hb] at hs
    | some b =>
      simp [hb] at hs
      subst hs
      exact ⟨_, by simp [Instr.index, asIntOf, run_underlying hu, hn, bytes_get, hb], .int _ _⟩
  · cases hs


end
/-! M8 -/
section
set_option linter.unusedSimpArgs false
set_option linter.unusedVariables false
open Go Go.RowKit

variable {P : Program} {B : Nat} {φ : Nat → Loc} {h : AH} {w : World}

theorem mk_toList (l : List UInt8) : (⟨⟨l⟩⟩ : ByteArray).toList = l := by rw [ByteArray.toList_eq]

/-! ### Equality -/
theorem eqCell_sound {N : Nat → Prop} {t : TypeId} {x y : AV} {x' y' : Value} {b : Bool} (he : aeqCell (P.underlying t) x y = some b) (hx : VR N φ x x') (hy : VR N φ y y') (d : Nat) (w : World) :
    (Op.equalIn (d + 1) t x' y').run P w = .ok b w := by
  unfold aeqCell at he
  split at he
  · rename_i hu; cases hx; cases hy; cases he; simp [Op.equalIn, run_underlying hu]
  · rename_i hu; cases hx; cases hy
    split at he
    · rename_i hk; cases he; simp [Op.equalIn, run_underlying hu, hk]
    · cases he
  · rename_i hu; cases hx; cases hy; cases he; simp only [Op.equalIn, Sem.run_bind, run_underlying hu, Result.andThen_ok, Sem.run_pure, beq_toListBytes, mk_toList]
  all_goals first | (cases he; done) | (rename_i hu; cases hx; cases hy; cases he; simp [Op.equalIn, run_underlying hu])

theorem eq_sound {N : Nat → Prop} : ∀ (d : Nat) {t : TypeId} {x y : AV} {x' y' : Value} {b : Bool}, aeq P d t x y = some b → VR N φ x x' → VR N φ y y' → ∀ (D : Nat) (w : World), d ≤ D → (Op.equalIn D t x' y').run P w = .ok b w
  | 0, _, _, _, _, _, _, he, _, _, _, _, _ => by simp [aeq] at he
  | d + 1, t, x, y, x', y', b, he, hx, hy, D, w, hD => by
    obtain ⟨D, rfl⟩ : ∃ k, D = k + 1 := ⟨D - 1, by omega⟩
    unfold aeq at he
    split at he
    · rename_i fs xs ys hu
      cases hx with
      | agg _ us hl hv =>
      cases hy with
      | agg _ vs hl' hv' =>
      split at he
      · cases he
      rename_i hstood
      have hstood' : P.stoodInHeld t = false := by simpa using hstood
      have hf : P.fieldsOf t = fs := by simp [Program.fieldsOf, hu]
      rw [run_equalIn_struct w D t us vs (by rw [hf]; exact hu) hstood', hf]
      have ux : VRs N φ xs us.toList := ⟨by simpa using hl, fun i x v hx hv0 => hv i x v hx (by simpa using hv0)⟩
      have uy : VRs N φ ys vs.toList := ⟨by simpa using hl', fun i x v hx hv0 => hv' i x v hx (by simpa using hv0)⟩
      generalize fs.toList = l at he
      clear hu hf
      induction l with
      | nil => simp only [eqFields] at he; cases he; simp [Op.eqFields]
      | cons f l ih =>
        simp only [eqFields] at he
        split at he
        · rename_i hn
          simp only [Op.eqFields, hn, ne_eq, not_true_eq_false, if_false]
          exact ih he
        · rename_i hn
          split at he
          · rename_i a c ha hc
            obtain ⟨a', ha', hav⟩ := run_part' ha ux w
            obtain ⟨c', hc', hcv⟩ := run_part' hc uy w
            split at he
            · rename_i hq
              have := eq_sound d hq hav hcv D w (by omega)
              simp only [Op.eqFields, hn, ne_eq, not_false_eq_true, if_true, Sem.run_bind, ha', hc', this, Result.andThen_ok, Bool.not_true, Bool.false_eq_true, if_false]
              exact ih he
            · rename_i hq
              cases he
              have := eq_sound d hq hav hcv D w (by omega)
              simp [Op.eqFields, hn, ha', hc', this]
            · cases he
          · cases he
    · rename_i n e xs ys hu
      cases hx with
      | agg _ us hl hv =>
      cases hy with
      | agg _ vs hl' hv' =>
      split at he
      rotate_left
      · cases he
      rename_i s hs
      obtain ⟨i, hi, his⟩ := info_of_szOf hs
      have hcell : P.cellsOf e = s := by simp [Program.cellsOf, hi, his]
      rw [run_equalIn_array w D us vs hu hi, hcell]
      have ux : VRs N φ xs us.toList := ⟨by simpa using hl, fun i x v hx hv0 => hv i x v hx (by simpa using hv0)⟩
      have uy : VRs N φ ys vs.toList := ⟨by simpa using hl', fun i x v hx hv0 => hv' i x v hx (by simpa using hv0)⟩
      generalize List.range n = l at he
      clear hu
      induction l with
      | nil => simp only [eqElems] at he; cases he; simp [Op.eqItems]
      | cons j l ih =>
        simp only [eqElems] at he
        split at he
        · rename_i a c ha hc
          obtain ⟨a', ha', hav⟩ := run_part' ha ux w
          obtain ⟨c', hc', hcv⟩ := run_part' hc uy w
          split at he
          · rename_i hq
            have := eq_sound d hq hav hcv D w (by omega)
            simp only [Op.eqItems, Sem.run_bind, ha', hc', this, Result.andThen_ok, Bool.not_true, Bool.false_eq_true, if_false]
            exact ih he
          · rename_i hq
            cases he
            have := eq_sound d hq hav hcv D w (by omega)
            simp [Op.eqItems, ha', hc', this]
          · cases he
        · cases he
    · rename_i te i o j p hu
      cases hx; cases hy
      split at he
      · rename_i hcond
        obtain ⟨rfl, rfl, hs⟩ := hcond
        cases he
        obtain ⟨s, hs⟩ := Option.isSome_iff_exists.1 hs
        obtain ⟨i, hi, his⟩ := info_of_szOf hs
        simp [Op.equalIn, run_underlying hu, sizeOf, typeInfo, hi, run_sameAddr_same]
      · cases he
    · exact eqCell_sound he hx hy D w

/-! ### Operators -/
theorem int_sound (op : BinOp) (k : IntKind) (t : TypeId) (a b : Int) {v : AV} (hv : aint op k a b = some v) (N : Nat → Prop) (φ : Nat → Loc) (w : World) :
    ∃ v', (binOp op t (.int k a) (.int k b)).run P w = .ok v' w ∧ VR N φ v v' := by
  cases op <;> simp only [aint] at hv <;>
    first
    | (cases hv; refine ⟨_, ?_, .int _ _⟩; simp only [binOp, ne_eq, not_true_eq_false, if_false, Op.intArith, Op.intBits, Sem.run_pure])
    | (cases hv; refine ⟨_, ?_, .bool _⟩; simp only [binOp, ne_eq, not_true_eq_false, if_false, Op.intCmp, Sem.run_pure])
    | (split at hv
       · cases hv
       · rename_i hb; cases hv; refine ⟨_, ?_, .int _ _⟩; simp only [binOp, ne_eq, not_true_eq_false, if_false, Op.intDiv, hb, Sem.run_pure])
    | cases hv

theorem shift_sound (op : BinOp) (k k' : IntKind) (t : TypeId) (a b : Int) {v : AV} (hv : ashift op k a b = some v) (N : Nat → Prop) (φ : Nat → Loc) (w : World) :
    ∃ v', (binOp op t (.int k a) (.int k' b)).run P w = .ok v' w ∧ VR N φ v v' := by
  unfold ashift at hv
  split at hv
  · cases hv
  rename_i hb
  cases op <;> simp only at hv <;> first | (cases hv; refine ⟨_, ?_, .int _ _⟩; simp only [binOp, Op.shift, hb, if_false, Sem.run_pure]) | cases hv

theorem strop_sound (op : BinOp) (t : TypeId) (a b : List UInt8) {v : AV} (hv : astrop op a b = some v) (N : Nat → Prop) (φ : Nat → Loc) (w : World) :
    ∃ v', (binOp op t (.string ⟨⟨a⟩⟩) (.string ⟨⟨b⟩⟩)).run P w = .ok v' w ∧ VR N φ v v' := by
  have e : ∀ op, (binOp op t (.string ⟨⟨a⟩⟩) (.string ⟨⟨b⟩⟩)) = Op.stringOp op ⟨⟨a⟩⟩ ⟨⟨b⟩⟩ := fun op => by cases op <;> rfl
  rw [e]
  unfold astrop at hv
  cases op <;> simp only at hv <;> try (cases hv; done)
  · split at hv
    · rename_i hl
      cases hv
      refine ⟨.string (⟨⟨a⟩⟩ ++ ⟨⟨b⟩⟩), ?_, ?_⟩
      · have h1 : ¬ (((⟨⟨a⟩⟩ : ByteArray).size + (⟨⟨b⟩⟩ : ByteArray).size : Nat) : Int) > IntKind.i64.max := by
          have h2 : (⟨⟨a⟩⟩ : ByteArray).size = a.length := rfl
          have h3 : (⟨⟨b⟩⟩ : ByteArray).size = b.length := rfl
          rw [h2, h3]
          unfold sizeCap at hl
          simp only [IntKind.max, IntKind.signed, IntKind.bits]
          simp only [if_true]
          omega
        simp only [Op.stringOp, if_neg h1, Sem.run_pure]
      · have e2 : ((⟨⟨a⟩⟩ : ByteArray) ++ ⟨⟨b⟩⟩) = ⟨⟨a ++ b⟩⟩ := by
          apply ByteArray.ext
          rw [ByteArray.data_append]
          simp
        rw [e2]
        exact .str _
    · cases hv
  all_goals (cases hv; refine ⟨_, ?_, .bool _⟩; simp only [Op.stringOp, mk_toList, Sem.run_pure])

theorem guard_plain {op : BinOp} {t : TypeId} {x y : Operand} {a b : Value} (h1 : ¬ (a = .nilIface ∧ b = .nilIface)) (h2 : ¬ ((∃ xs, a = .agg xs) ∧ ∃ ys, b = .agg ys)) (w : World) :
    (eqGuard op t x y a b).run P w = .ok () w := by
  by_cases hop : op = .eql ∨ op = .neq
  · cases a
    case nilIface => cases b <;> first | exact absurd ⟨rfl, rfl⟩ h1 | (rcases hop with rfl | rfl <;> rfl)
    case agg xs => cases b <;> first | exact absurd ⟨⟨_, rfl⟩, ⟨_, rfl⟩⟩ h2 | (rcases hop with rfl | rfl <;> rfl)
    all_goals (rcases hop with rfl | rfl <;> rfl)
  · cases op <;> first | rfl | (simp at hop)

theorem bin_eq (t : TypeId) (op : BinOp) (hop : op = .eql ∨ op = .neq) {x' y' : Value} {b : Bool} (he : (Op.equalIn 10000 t x' y').run P w = .ok b w)
    (hi : ¬ ∃ k a, x' = .int k a) (hs : ¬ ∃ s, x' = .string s) (hf : ¬ ∃ k a, x' = .float k a) (hc : ¬ ∃ k a b, x' = .complex k a b) :
    (binOp op t x' y').run P w = .ok (.bool (if op = .eql then b else !b)) w := by
  have hq : (Op.equal t x' y').run P w = .ok b w := he
  rcases hop with rfl | rfl
  · cases x' <;> first | exact absurd ⟨_, _, rfl⟩ hi | exact absurd ⟨_, rfl⟩ hs | exact absurd ⟨_, _, rfl⟩ hf | exact absurd ⟨_, _, _, rfl⟩ hc | simp [binOp, hq]
  · cases x' <;> first | exact absurd ⟨_, _, rfl⟩ hi | exact absurd ⟨_, rfl⟩ hs | exact absurd ⟨_, _, rfl⟩ hf | exact absurd ⟨_, _, _, rfl⟩ hc | simp [binOp, hq]


end
/-! M9 -/
section
set_option linter.unusedSimpArgs false
set_option linter.unusedVariables false
open Go Go.RowKit

variable {P : Program} {B : Nat} {φ : Nat → Loc} {h : AH} {w : World}

theorem eqForm_shape {N : Nat → Prop} {x : AV} {v : Value} (hf : eqForm x = true) (hx : VR N φ x v) :
    (¬ ∃ k a, v = .int k a) ∧ (¬ ∃ s, v = .string s) ∧ (¬ ∃ k a, v = .float k a) ∧ (¬ ∃ k a b, v = .complex k a b) ∧ (v = .nilIface → isNilI x = true) ∧ ((∃ xs, v = .agg xs) → isAggV x = true) := by
  cases hx with
  | val v => unfold eqForm at hf; split at hf <;> first | (cases hf; done) | (rename_i he; cases he; done) | (rename_i he; cases he; simp [isNilI, isAggV]; done)
  | int k m => cases hf
  | str l => cases hf
  | tup xs vs hl h => cases hf
  | any v => cases hf
  | _ => simp [isAggV]

theorem eqOp_sound {N : Nat → Prop} {op : BinOp} {t : TypeId} {x y : Operand} {a b v : AV} {a' b' : Value} (hv : aeqOp P op t (isConst x) (isConst y) a b = some v) (ha : VR N φ a a') (hb : VR N φ b b') (w : World) :
    ∃ v', (do eqGuard op t x y a' b'; binOp op t a' b' : Sem Value).run P w = .ok v' w ∧ VR N φ v v' := by
  unfold aeqOp at hv
  split at hv
  rotate_left
  · cases hv
  rename_i hop
  split at hv
  rotate_left
  · cases hv
  rename_i hc
  simp only [Bool.and_eq_true] at hc
  obtain ⟨⟨⟨hfa, hfb⟩, hnil⟩, hagg⟩ := hc
  cases he : aeq P 8 t a b with
  | none => simp [he] at hv
  | some q =>
    simp [he] at hv
    subst hv
    obtain ⟨s1, s2, s3, s4, s5, s6⟩ := eqForm_shape hfa ha
    obtain ⟨t1, t2, t3, t4, t5, t6⟩ := eqForm_shape hfb hb
    have hbin := bin_eq (P := P) (w := w) t op hop (eq_sound 8 he ha hb 10000 w (by omega)) s1 s2 s3 s4
    refine ⟨.bool (if op = .eql then q else !q), ?_, .bool _⟩
    have hg : (eqGuard op t x y a' b').run P w = .ok () w := by
      by_cases hn : a' = .nilIface ∧ b' = .nilIface
      · obtain ⟨rfl, rfl⟩ := hn
        rw [s5 rfl, t5 rfl] at hnil
        simp only [Bool.and_self, Bool.not_true, Bool.false_or, Bool.or_eq_true] at hnil
        rcases hnil with h1 | h1
        · cases x <;> first | (cases h1; done) | (rcases hop with rfl | rfl <;> rfl)
        · cases y <;> first | (cases h1; done) | (cases x <;> rcases hop with rfl | rfl <;> rfl)
      · by_cases hg : (∃ xs, a' = .agg xs) ∧ ∃ ys, b' = .agg ys
        · obtain ⟨⟨xs, rfl⟩, ys, rfl⟩ := hg
          rw [s6 ⟨_, rfl⟩, t6 ⟨_, rfl⟩] at hagg
          simp at hagg
          exact run_eqGuard_agg w op t x y xs ys hagg
        · exact guard_plain hn hg w
    simp only [Sem.run_bind, hg, Result.andThen_ok, hbin]

theorem bin_sound {N : Nat → Prop} {op : BinOp} {t : TypeId} {x y : Operand} {a b v : AV} {a' b' : Value} (hv : abin P op t (isConst x) (isConst y) a b = some v) (ha : VR N φ a a') (hb : VR N φ b b') (w : World) :
    ∃ v', (do eqGuard op t x y a' b'; binOp op t a' b' : Sem Value).run P w = .ok v' w ∧ VR N φ v v' := by
  unfold abin at hv
  split at hv
  · cases ha
    cases hb
    rename_i k a k' b
    have hg := guard_plain (P := P) (op := op) (t := t) (x := x) (y := y) (a := .int k a) (b := .int k' b) (by simp) (by simp) w
    simp only [Sem.run_bind, hg, Result.andThen_ok]
    split at hv
    · exact shift_sound op k k' t a b hv N φ w
    · split at hv
      · rename_i hk
        subst hk
        exact int_sound op k t a b hv N φ w
      · cases hv
  · cases ha
    cases hb
    rename_i a b
    have hg := guard_plain (P := P) (op := op) (t := t) (x := x) (y := y) (a := .string ⟨⟨a⟩⟩) (b := .string ⟨⟨b⟩⟩) (by simp) (by simp) w
    simp only [Sem.run_bind, hg, Result.andThen_ok]
    exact strop_sound op t a b hv N φ w
  · exact eqOp_sound hv ha hb w

theorem un_sound {N : Nat → Prop} {op : UnOp} {x v : AV} {x' : Value} (hv : aun op x = some v) (hx : VR N φ x x') (w : World) : ∃ v', (Op.unary op x').run P w = .ok v' w ∧ VR N φ v v' := by
  unfold aun at hv
  split at hv
  · cases hx
    simp only [aint] at hv
    cases hv
    exact ⟨_, rfl, .int _ _⟩
  · cases hx
    simp only [aint] at hv
    cases hv
    exact ⟨_, rfl, .int _ _⟩
  · cases hx
    cases hv
    exact ⟨_, rfl, .bool _⟩
  · cases hv

/-! ### max and min -/
theorem maxmin_from {N : Nat → Prop} (isMax : Bool) (k : IntKind) : ∀ (l : List AV) (vs : List Value) (a : Int) {v : AV}, amaxminFrom isMax k a l = some v → VRs N φ l vs → ∀ w : World,
    ∃ v', (vs.foldlM (if isMax then Builtin.max2 else Builtin.min2) (Value.int k a)).run P w = .ok v' w ∧ VR N φ v v'
  | [], [], a, v, hv, _, w => by simp only [amaxminFrom] at hv; cases hv; exact ⟨_, rfl, .int _ _⟩
  | x :: l, u :: vs, a, v, hv, hl, w => by
    have hx := hl.head
    cases x with
    | int k' b =>
      cases hx
      simp only [amaxminFrom] at hv
      obtain ⟨v', hr, hvr⟩ := maxmin_from isMax k l vs _ hv hl.tail w
      refine ⟨v', ?_, hvr⟩
      rw [List.foldlM_cons]
      cases isMax
      · simp only [Bool.false_eq_true, if_false, Sem.run_bind, Builtin.min2, Sem.run_pure, Result.andThen_ok] at hr ⊢
        exact hr
      · simp only [if_true, Sem.run_bind, Builtin.max2, Sem.run_pure, Result.andThen_ok] at hr ⊢
        exact hr
    | _ => simp [amaxminFrom] at hv
  | [], _ :: _, _, _, _, hl, _ => by have := hl.1; simp at this
  | _ :: _, [], _, _, _, hl, _ => by have := hl.1; simp at this

theorem maxmin_sound {N : Nat → Prop} (isMax : Bool) {args : List AV} {args' : List Value} {v : AV} (hv : amaxmin isMax args = some v) (ha : VRs N φ args args') (at_ : Array TypeId) (ty : TypeId) (w : World) :
    ∃ v', (if isMax then Builtin.max_ at_ ty args'.toArray else Builtin.min_ at_ ty args'.toArray).run P w = .ok v' w ∧ VR N φ v v' := by
  unfold amaxmin at hv
  split at hv
  · rename_i k a rest
    match args', ha with
    | [], ha => have := ha.1; simp at this
    | u :: us, ha =>
      have hh := ha.head
      cases hh
      obtain ⟨v', hr, hvr⟩ := maxmin_from (P := P) isMax k rest us a hv ha.tail w
      refine ⟨v', ?_, hvr⟩
      cases isMax
      · simpa [Builtin.min_] using hr
      · simpa [Builtin.max_] using hr
  · cases hv


end
/-! M10 -/
section
set_option linter.unusedSimpArgs false
set_option linter.unusedVariables false
open Go Go.RowKit

variable {P : Program} {B : Nat} {φ : Nat → Loc} {h : AH} {w : World}

theorem VR.strOf (N : Nat → Prop) (φ : Nat → Loc) (s : ByteArray) : VR N φ (.str s.data.toList) (.string s) := by
  obtain ⟨⟨l⟩⟩ := s
  exact .str l

theorem AH.set_same {h : AH} {id : Nat} {o : AO} (hg : h.get id = some o) : h.set id o = h := by
  have hlt := AH.get_lt hg
  simp only [AH.get, if_pos hlt] at hg
  have hg' : h.l[h.n - 1 - id]? = some (some o) := by
    cases hq : h.l[h.n - 1 - id]? with
    | none => rw [hq] at hg; cases hg
    | some q => rw [hq] at hg; simp at hg; rw [hg]
  simp only [AH.set, if_pos hlt]
  have : h.l.set (h.n - 1 - id) (some o) = h.l := by
    apply List.ext_getElem?
    intro i
    rw [List.getElem?_set]
    split
    · rename_i he
      subst he
      split
      · exact hg'.symm
      · rename_i hge; rw [List.getElem?_eq_none (by omega)]
    · rfl
  rw [this]

/-- A block whose marks turn, but not what it says. -/
theorem Rel.turn (r : Rel B φ h w) {w' : World} {id : Nat} {o : AO} (hg : h.get id = some o) (ho : o.owned = true) (t : Turned w w' (φ id).b) (ho' : ObjR h.ok φ (φ id) o w'.heap[(φ id).b]?) :
    Rel B φ h w' ∧ Step φ h w φ h w' := by
  have := r.update hg ho t o ho'
  rwa [AH.set_same hg] at this

theorem freeze_turned (w : World) (b o n : Nat) : Turned w (w.freeze ⟨b, o, none⟩ n) b := by
  unfold World.freeze
  split
  · exact ⟨rfl, rfl, rfl, rfl, fun _ _ => rfl, Nat.le_refl _⟩
  · refine ⟨rfl, rfl, rfl, by simp, fun k hk => ?_, Nat.le_refl _⟩
    simp only [Array.getElem?_modify]
    rw [if_neg (by omega)]

theorem freeze_at {w : World} {b : Nat} {C : Array Value} {e : TypeId} (hb : w.heap[b]? = some (.cells C e (0, 0))) (o n : Nat) (hn : n ≠ 0) : (w.freeze ⟨b, o, none⟩ n).heap[b]? = some (.cells C e (o, o + n)) := by
  unfold World.freeze
  rw [if_neg hn]
  simp [Array.getElem?_modify, hb]

theorem stringToBytes_sound (r : Rel B φ h w) (e : TypeId) (l : List UInt8) :
    ∃ v' w', (Conv.stringToBytes e ⟨⟨l⟩⟩).run P w = .ok v' w' ∧ Res B φ h w (.sl h.n 0 l.length 1) (h.push (.cells (l.map fun b => .int .u8 b.toNat) true 0 (some (e, false)))) v' w' := by
  have hsz : (⟨⟨l⟩⟩ : ByteArray).size = l.length := rfl
  generalize hcut : Question.cut (.appendCap l.length 0 e) (w.tape w.drawn (.appendCap l.length 0 e)) = cut
  have hcut' : l.length ≤ cut := by rw [← hcut]; simp only [Question.cut]; omega
  let vs : Array Value := (⟨l⟩ : Array UInt8).map (fun b => Value.int .u8 b.toNat) ++ Array.replicate (cut - l.length) (.int .u8 0)
  have hvs : vs.size = cut := by simp [vs]; omega
  have hv : VRs h.ok φ (l.map fun b => .int .u8 b.toNat) (vs.toList.take (l.map fun b => (AV.int .u8 b.toNat)).length) := by
    have e1 : vs.toList.take (l.map fun b => (AV.int .u8 b.toNat)).length = l.map fun b => Value.int .u8 b.toNat := by
      simp only [vs, Array.toList_append, Array.toList_map, List.length_map]
      rw [List.take_left' (by simp)]
    rw [e1]
    exact VRs.map _ _ (fun b => .int _ _) l
  obtain ⟨r1, s1⟩ := (rel_drew r).fresh (l.map fun b => .int .u8 b.toNat) vs e 0 (cut - l.length) (some (e, false)) (fun t b ht => by cases ht; exact ⟨rfl, fun hb => by cases hb⟩) hv (by rw [hvs]; simp; omega)
  have hb : (w.drew.alloc (.cells vs e)).heap[w.heap.size]? = some (.cells vs e (0, 0)) := alloc_new w.drew _
  have ht := freeze_turned (w.drew.alloc (.cells vs e)) w.heap.size vs.size 1
  have hf := freeze_at hb vs.size 1 (by omega)
  obtain ⟨r2, s2⟩ := r1.turn (w' := (w.drew.alloc (.cells vs e)).freeze ⟨w.heap.size, vs.size, none⟩ 1) (id := h.n) (AH.get_push_new h _) rfl (by rw [ext1_new]; exact ht) (by
    rw [ext1_new]
    show ObjR _ _ _ _ ((w.drew.alloc (.cells vs e)).freeze ⟨w.heap.size, vs.size, none⟩ 1).heap[w.heap.size]?
    rw [hf]
    refine ⟨vs, e, vs.size, vs.size + 1, rfl, rfl, by show 0 + _ ≤ _; rw [hvs]; simp; omega, fun i x hx => ?_, fun _ i _ hi' => by omega, fun t b ht => by cases ht; exact ⟨rfl, fun hb => by cases hb⟩⟩
    obtain ⟨v, hv', hr⟩ := hv.at hx
    rw [List.getElem?_take] at hv'
    split at hv'
    · rw [Array.getElem?_toList] at hv'
      exact ⟨v, by simpa using hv', hr.mono (fun _ hk => AH.ok_push hk) fun id hid => ext1_old (AH.ok_lt hid)⟩
    · cases hv')
  refine ⟨.slice (some ⟨w.heap.size, 0, none⟩) l.length cut, (w.drew.alloc (.cells vs e)).freeze ⟨w.heap.size, vs.size, none⟩ 1, ?_, _, ?_, r2, ((step_drew φ h w).trans s1).trans s2⟩
  · have hshape : (w.drew.alloc (.cells vs e)).shape? w.heap.size = some (e, vs.size) := by
      unfold World.shape?
      rw [hb]
    have hmark : (markStringish ⟨w.heap.size, 0, none⟩).run P (w.drew.alloc (.cells vs e)) = .ok () ((w.drew.alloc (.cells vs e)).freeze ⟨w.heap.size, vs.size, none⟩ 1) := by
      unfold markStringish
      simp only [Sem.run_bind, run_shape, Result.andThen_ok]
      rw [hshape]
      rfl
    have hdrew : (w.drew).heap.size = w.heap.size := rfl
    have hmk : (⟨l⟩ : Array UInt8).map (fun b => Value.int .u8 b.toNat) ++ Array.replicate (cut - l.length) (.int .u8 0) = vs := rfl
    unfold Conv.stringToBytes
    have hq : (choose (.appendCap (⟨⟨l⟩⟩ : ByteArray).size 0 e)).run P w = .ok cut w.drew := by
      rw [hsz, run_choose]
      simp only [Question.forced, Bool.false_eq_true, if_false]
      rw [hcut]
      rfl
    rw [hsz] at hq
    simp only [Sem.run_bind, hsz, hq, Result.andThen_ok, run_newRow, hsz, hdrew, hmk, hmark, Sem.run_pure]
  · exact .sl h.n 0 l.length 1 _ cut (AH.ok_new _ _) hcut' (.inr ⟨by rw [ext1_new]; rfl, by simp [ext1_new, hvs]⟩)

theorem abytes_map : ∀ {cs : List AV} {l : List UInt8}, abytes cs = some l → ∃ ns : List Int, cs = ns.map (AV.int .u8) ∧ l = ns.map fun n => UInt8.ofNat n.toNat
  | [], l, h => by simp only [abytes] at h; cases h; exact ⟨[], rfl, rfl⟩
  | c :: cs, l, h => by
    unfold abytes at h
    split at h
    · rename_i he; cases he
    · rename_i n r he
      cases he
      cases hr : abytes cs with
      | none => simp [hr] at h
      | some l' =>
        simp [hr] at h
        obtain ⟨ns, h1, h2⟩ := abytes_map hr
        exact ⟨n :: ns, by rw [h1]; rfl, by rw [← h, h2]; rfl⟩
    · cases h

theorem VRs.u8s {N : Nat → Prop} : ∀ {ns : List Int} {vs : List Value}, VRs N φ (ns.map (AV.int .u8)) vs → vs = ns.map (Value.int .u8)
  | [], [], _ => rfl
  | n :: ns, v :: vs, h => by
    have hh := h.head
    cases hh
    have := VRs.u8s h.tail
    rw [this]
    rfl
  | [], _ :: _, h => by have := h.1; simp at this
  | _ :: _, [], h => by have := h.1; simp at this

theorem foldl_push (ns : List Int) : ∀ s : List UInt8, ns.foldl (fun (r : ByteArray) n => r.push (UInt8.ofNat n.toNat)) ⟨⟨s⟩⟩ = ⟨⟨s ++ ns.map fun n => UInt8.ofNat n.toNat⟩⟩ := by
  induction ns with
  | nil => intro s; simp
  | cons n ns ih =>
    intro s
    simp only [List.foldl_cons, List.map_cons]
    have : (⟨⟨s⟩⟩ : ByteArray).push (UInt8.ofNat n.toNat) = ⟨⟨s ++ [UInt8.ofNat n.toNat]⟩⟩ := by
      show (⟨(⟨s⟩ : Array UInt8).push _⟩ : ByteArray) = _
      congr 1
      apply Array.ext'
      simp
    rw [this, ih]
    simp

theorem conv_sound (r : Rel B φ h w) {s d : TypeId} {x v : AV} {x' : Value} {h' : AH} (hc : aconv P s d x h = some (v, h')) (hx : VR h.ok φ x x') :
    ∃ v' w', (convert s d x').run P w = .ok v' w' ∧ Res B φ h w v h' v' w' := by
  unfold aconv at hc
  split at hc
  · rename_i sd k k' n hs hd
    cases hx; cases hc
    exact ⟨_, _, by simp [convert, run_underlying hs, run_underlying hd, Conv.intToInt], Res.pure r (.int _ _)⟩
  · rename_i sd k n hs hd
    cases hx; cases hc
    exact ⟨_, _, by simp [convert, run_underlying hs, run_underlying hd, Conv.intToString], Res.pure r (VR.strOf _ _ _)⟩
  · rename_i sd l hs hd
    cases hx; cases hc
    exact ⟨_, _, by simp [convert, run_underlying hs, run_underlying hd], Res.pure r (.str _)⟩
  · rename_i sd e l hs hd
    cases hx
    split at hc
    · rename_i he
      cases hc
      have : (convert s d (.string ⟨⟨l⟩⟩)).run P w = (Conv.stringToBytes e ⟨⟨l⟩⟩).run P w := by simp [convert, run_underlying hs, run_underlying hd, run_underlying he]
      rw [this]
      exact stringToBytes_sound r e l
    · cases hc
  · rename_i _ e hs hd hni hnstr
    split at hc
    rotate_left
    · cases hc
    rename_i n he hn
    split at hc
    rotate_left
    · cases hc
    rename_i cs hcs
    cases hb : abytes cs with
    | none => simp [hb] at hc
    | some l =>
      simp [hb] at hc
      obtain ⟨rfl, rfl⟩ := hc
      obtain ⟨ns, hns, hl⟩ := abytes_map hb
      obtain ⟨vs, hvs, hvv, hlen⟩ := acells_sound (P := P) r hcs hx
      rw [hns] at hvv
      have hvs' := VRs.u8s hvv
      cases hx with
      | val v0 =>
        unfold alen at hn
        split at hn
        · rename_i he'; cases he'; cases hn
          have hns0 : ns = [] := by
            have : ns.length = 0 := by have := hlen; rw [hns] at this; simpa using this
            exact List.eq_nil_of_length_eq_zero this
          subst hns0
          subst hl
          refine ⟨.string .empty, w, ?_, Res.pure r (.str [])⟩
          simp [convert, run_underlying hs, run_underlying hd, run_underlying he, Conv.bytesToString]
        · rename_i he'; cases he'
        · rename_i he'; cases he'
        · cases hn
      | sl id off len sz a cap hid hl' ha =>
        simp only [alen] at hn
        cases hn
        rw [run_convert_bytes_string w s d e (some a) n cap hs he hd]
        have hload : (loadCells a n).run P w = .ok (ns.map (Value.int .u8)).toArray w := by
          have : (Builtin.firstCells 1 n (.slice (some a) n cap)).run P w = (loadCells a (n * 1)).run P w := rfl
          rw [this, Nat.mul_one] at hvs
          rw [hvs]
          congr 1
          apply Array.ext'
          simpa using hvs'
        rw [run_bytesToString w a n cap ns hload]
        refine ⟨_, _, rfl, Res.pure r ?_⟩
        have := foldl_push ns []
        have e0 : (ByteArray.empty : ByteArray) = ⟨⟨[]⟩⟩ := rfl
        rw [e0, this, hl]
        exact .str _
      | str l0 => exact absurd rfl (hnstr l0)
      | _ => simp [alen] at hn
  · rename_i t id off hs hd
    split at hc
    rotate_left
    · cases hc
    rename_i c own fz ty n hg hsz
    split at hc
    rotate_left
    · cases hc
    rename_i hcond
    cases hc
    obtain ⟨C, e, lo, hi, h1, h2, h3, h4, h5, h6⟩ := r.cells hg
    obtain ⟨i, hi', his⟩ := info_of_szOf hsz
    cases hx with
    | ptr _ _ hid =>
      have hsh : w.shape? (φ id).b = some (e, C.size) := by unfold World.shape?; rw [h1]
      exact ⟨_, w, Lib.run_to_unsafe w ⟨(φ id).b, (φ id).o + off, none⟩ hs hd hi' (by rw [his]; exact hcond.1) hsh (by show (φ id).o + off < C.size; omega), Res.pure r (.ptr id off hid)⟩
  · rename_i u id off hs hd
    split at hc
    rotate_left
    · cases hc
    rename_i c own fz e n hg hsz
    split at hc
    rotate_left
    · cases hc
    rename_i hcond
    cases hc
    obtain ⟨C, e', lo, hi, h1, h2, h3, h4, h5, h6⟩ := r.cells hg
    obtain ⟨k1, k2⟩ := h6 _ _ rfl
    obtain ⟨k2, k3⟩ := k2 rfl
    subst k1
    obtain ⟨i, hi', his⟩ := info_of_szOf hsz
    cases hx with
    | ptr _ _ hid =>
      have hsh : w.shape? (φ id).b = some (e', C.size) := by unfold World.shape?; rw [h1]
      refine ⟨_, w, Lib.run_from_unsafe w ⟨(φ id).b, (φ id).o + off, none⟩ hs hd hi' hsh ?_, Res.pure r (.ptr id off hid)⟩
      rw [k2, Nat.zero_add, h2, k3]
      exact hcond
  · cases hc

/-! ### Texts gone over -/
theorem range_sound (r : Rel B φ h w) {t : TypeId} {x v : AV} {x' : Value} {h' : AH} (hc : arange P t x h = some (v, h')) (hx : VR h.ok φ x x') :
    ∃ v' w', (Instr.range t x').run P w = .ok v' w' ∧ Res B φ h w v h' v' w' := by
  unfold arange at hc
  split at hc
  · rename_i l hu
    cases hx; cases hc
    obtain ⟨r', s'⟩ := r.push (.siter l 0) (.stringIter ⟨⟨l⟩⟩ 0) ⟨w.heap.size, 0, 0⟩ rfl ⟨rfl, rfl⟩
    refine ⟨.pointer (some ⟨w.heap.size, 0, none⟩), w.alloc (.stringIter ⟨⟨l⟩⟩ 0), by simp [Instr.range, run_underlying hu], _, ?_, r', s'⟩
    have := VR.ptr (N := (h.push (.siter l 0)).ok) (φ := ext1 φ h.n ⟨w.heap.size, 0, 0⟩) h.n 0 (AH.ok_new _ _)
    rw [ext1_new] at this
    exact this
  · cases hc

theorem run_getObj {b : Nat} {o : Obj} (hb : w.heap[b]? = some o) (hc : ∀ c e f, o ≠ .cells c e f) : (getObj b).run P w = .ok o w := by
  simp only [getObj, Sem.run, hb]

theorem run_setObj {b : Nat} {o x : Obj} (hb : w.heap[b]? = some x) (hc : ∀ c e f, x ≠ .cells c e f) : ∃ w', (setObj b o).run P w = .ok () w' ∧ Turned w w' b ∧ w'.heap[b]? = some o := by
  have hlt : b < w.heap.size := by
    rcases Nat.lt_or_ge b w.heap.size with h' | h'
    · exact h'
    · rw [Array.getElem?_eq_none h'] at hb; cases hb
  refine ⟨{ w with heap := w.heap.setIfInBounds b o }, ?_, ⟨rfl, rfl, rfl, by simp, fun k hk => by simp [Array.getElem?_setIfInBounds, Ne.symm hk], Nat.le_refl _⟩, by simp [Array.getElem?_setIfInBounds, hlt]⟩
  simp only [setObj, Sem.run, hb]

theorem next_sound (r : Rel B φ h w) {it v : AV} {it' : Value} {b : Bool} {ty : TypeId} {h' : AH} (hc : anext it b h = some (v, h')) (hx : VR h.ok φ it it') :
    ∃ v' w', (Instr.next it' b ty).run P w = .ok v' w' ∧ Res B φ h w v h' v' w' := by
  unfold anext at hc
  split at hc
  rotate_left
  · cases hc
  rename_i id
  split at hc
  rotate_left
  · cases hc
  rename_i s pos hg
  cases hx with
  | ptr _ _ hid =>
    have ho := r.obj id _ hg
    obtain ⟨ho0, hob⟩ := ho
    have hsz : (⟨⟨s⟩⟩ : ByteArray).size = s.length := rfl
    have hget := run_getObj (P := P) hob (fun _ _ _ => by simp)
    split at hc
    · rename_i hlt
      cases hc
      obtain ⟨w', hset, ht, hw'⟩ := run_setObj (P := P) (o := .stringIter ⟨⟨s⟩⟩ (pos + (Utf8.decode ⟨⟨s⟩⟩ pos).2)) hob (fun _ _ _ => by simp)
      obtain ⟨r', s'⟩ := r.update hg rfl ht (.siter s (pos + (Utf8.decode ⟨⟨s⟩⟩ pos).2)) (by rw [hw']; exact ⟨ho0, rfl⟩)
      refine ⟨.tuple #[.bool true, .int .i64 pos, .int .i32 (Utf8.decode ⟨⟨s⟩⟩ pos).1], w', ?_, φ, ?_, r', s'⟩
      rotate_left
      · exact VR.tups (VRs.cons (.bool true) (VRs.cons (.int .i64 pos) (VRs.cons (.int .i32 _) (VRs.nil _ _))))
      · simp only [Instr.next, ho0, Nat.add_zero, Sem.run_bind, hget, Result.andThen_ok]
        simp only [hsz, hlt, if_true, Sem.run_bind, hset, Result.andThen_ok, Sem.run_pure]
        rfl
    · rename_i hlt
      cases hc
      refine ⟨_, w, ?_, Res.pure r (VR.tups (VRs.cons (.bool false) (VRs.nil _ _)))⟩
      simp only [Instr.next, ho0, Nat.add_zero, Sem.run_bind, hget, Result.andThen_ok]
      simp only [hsz, hlt, if_false, Sem.run_pure]

theorem typeAssert_sound {N : Nat → Prop} {x v : AV} {x' : Value} {xt t : TypeId} {ok : Bool} (hc : atypeAssert P x t ok = some v) (hx : VR N φ x x') (w : World) :
    ∃ v', (Instr.typeAssert x' xt t ok).run P w = .ok v' w ∧ VR N φ v v' := by
  unfold atypeAssert at hc
  split at hc
  · cases hc
  · rename_i td t' y hni hu
    cases hx with
    | iface _ _ u hu' =>
      split at hc
      · rename_i he
        subst he
        cases hc
        refine ⟨if ok then .tuple #[u, .bool true] else u, ?_, ?_⟩
        · cases td <;> first | exact absurd rfl (hni _) | simp [Instr.typeAssert, run_underlying hu]
        · cases ok
          · exact hu'
          · exact VR.tups (VRs.cons hu' (VRs.cons (.bool true) (VRs.nil _ _)))
      · rename_i hne
        split at hc
        · rename_i hok
          cases hz : zeroOf P t with
          | none => simp [hz] at hc
          | some z =>
            simp [hz] at hc
            subst hc
            subst hok
            obtain ⟨z', rfl, hz'⟩ := run_zeroValue' hz w
            refine ⟨.tuple #[z', .bool false], ?_, VR.tups (VRs.cons (VR.ofValue _ _ z') (VRs.cons (.bool false) (VRs.nil _ _)))⟩
            cases td <;> first | exact absurd rfl (hni _) | simp [Instr.typeAssert, run_underlying hu, hne, hz']
        · cases hc
  · rename_i td hni hu
    cases hx
    split at hc
    · rename_i hok
      cases hz : zeroOf P t with
      | none => simp [hz] at hc
      | some z =>
        simp [hz] at hc
        subst hc
        subst hok
        obtain ⟨z', rfl, hz'⟩ := run_zeroValue' hz w
        refine ⟨.tuple #[z', .bool false], ?_, VR.tups (VRs.cons (VR.ofValue _ _ z') (VRs.cons (.bool false) (VRs.nil _ _)))⟩
        cases td <;> first | exact absurd rfl (hni _) | simp [Instr.typeAssert, run_underlying hu, hz']
    · cases hc
  · cases hc


end
/-! M11 -/
section
set_option linter.unusedSimpArgs false
set_option linter.unusedVariables false
open Go Go.RowKit

variable {P : Program} {B : Nat} {φ : Nat → Loc} {h : AH} {w : World}

/-- The entries of a map, and the model's. -/
def EntsR (N : Nat → Prop) (φ : Nat → Loc) (es : List (AV × AV × Nat)) (es' : List MapEntry) : Prop :=
  es.length = es'.length ∧ ∀ (i : Nat) (a : AV × AV × Nat) (e : MapEntry), es[i]? = some a → es'[i]? = some e → EntR N φ a e

theorem EntsR.tail {N : Nat → Prop} {a : AV × AV × Nat} {e : MapEntry} {es : List (AV × AV × Nat)} {es' : List MapEntry} (h : EntsR N φ (a :: es) (e :: es')) : EntsR N φ es es' :=
  ⟨by have := h.1; simpa using this, fun i b f hb hf => h.2 (i + 1) b f (by simpa using hb) (by simpa using hf)⟩

theorem key_sound {N : Nat → Prop} {d : TypeDesc} {x y : AV} {x' y' : Value} {b : Bool} (hk : akey (some d) x y = some b) (hx : VR N φ x x') (hy : VR N φ y y') :
    Instr.sameNow d x' y' = some b ∧ (b = true → Instr.sameBits 10000 y' x' = true) := by
  unfold akey at hk
  split at hk
  · rename_i hd; cases hd; cases hx; cases hy
    split at hk
    · rename_i he; subst he; cases hk
      refine ⟨by simp [Instr.sameNow], fun hb => ?_⟩
      simp at hb
      subst hb
      simp [Instr.sameBits]
    · cases hk
  · rename_i hd; cases hd; cases hx; cases hy; cases hk
    refine ⟨by simp only [Instr.sameNow, beq_toListBytes, mk_toList], fun hb => ?_⟩
    simp at hb
    subst hb
    simp only [Instr.sameBits, beq_toListBytes, beq_self_eq_true]
  · rename_i hd; cases hd; cases hx; cases hy; cases hk
    refine ⟨by simp [Instr.sameNow], fun hb => ?_⟩
    simp at hb
    subst hb
    simp [Instr.sameBits]
  · cases hk

/-- What the search in a map comes to. -/
theorem find_sound {N : Nat → Prop} {d : TypeDesc} {k : AV} {k' : Value} (hk : VR N φ k k') : ∀ (es : List (AV × AV × Nat)) (es' : List MapEntry) (i : Nat) (r : Option (Nat × AV × Nat)), afind (some d) k es i = some r → EntsR N φ es es' →
    (r = none ∧ Instr.findNow d k' es' i = some none) ∨ (∃ j v b e, r = some (i + j, v, b) ∧ Instr.findNow d k' es' i = some (some (i + j, e.val)) ∧ es'[j]? = some e ∧ VR N φ v e.val ∧ b = e.born ∧ (∃ ka, es[j]? = some (ka, v, b)) ∧ Instr.sameBits 10000 e.key k' = true)
  | [], [], i, r, hf, _ => by simp only [afind] at hf; cases hf; exact .inl ⟨rfl, rfl⟩
  | (ka, v, b) :: es, e :: es', i, r, hf, hr => by
    obtain ⟨h1, h2, h3⟩ := hr.2 0 _ _ rfl rfl
    simp only [afind] at hf
    split at hf
    · rename_i hq
      cases hf
      obtain ⟨s1, s2⟩ := key_sound hq hk h1
      exact .inr ⟨0, v, b, e, rfl, by simp [Instr.findNow, s1], rfl, h2, h3, ⟨ka, rfl⟩, s2 rfl⟩
    · rename_i hq
      obtain ⟨s1, _⟩ := key_sound hq hk h1
      rcases find_sound hk es es' (i + 1) r hf hr.tail with ⟨q1, q2⟩ | ⟨j, v', b', e', q1, q2, q3, q4, q5, ⟨ka', q6⟩, q7⟩
      · exact .inl ⟨q1, by simp [Instr.findNow, s1, q2]⟩
      · refine .inr ⟨j + 1, v', b', e', by rw [q1]; congr 2; omega, ?_, by simpa using q3, q4, q5, ⟨ka', by simpa using q6⟩, q7⟩
        simp only [Instr.findNow, s1, q2]
        congr 3; omega
    · cases hf
  | [], _ :: _, _, _, _, hr => by have := hr.1; simp at this
  | _ :: _, [], _, _, _, hr => by have := hr.1; simp at this

theorem checkKey_ok {N : Nat → Prop} {kt : TypeId} {k : AV} {k' : Value} (ho : akeyOk (P.underlying kt) k = true) (hk : VR N φ k k') (empty : Bool) (w : World) :
    (Instr.checkKey empty 10000 kt k').run P w = .ok () w ∧ ∃ d, P.underlying kt = some d := by
  have e : ∀ v, Instr.checkKey empty 10000 kt v = Instr.checkKey empty (9999 + 1) kt v := fun _ => rfl
  rw [e]
  unfold akeyOk at ho
  split at ho
  · rename_i hu; cases hk; exact ⟨by rw [Instr.checkKey]; simp only [Sem.run_bind, run_underlying hu, Result.andThen_ok]; rfl, _, hu⟩
  · rename_i hu; cases hk; exact ⟨by rw [Instr.checkKey]; simp only [Sem.run_bind, run_underlying hu, Result.andThen_ok]; rfl, _, hu⟩
  · rename_i hu; cases hk; exact ⟨by rw [Instr.checkKey]; simp only [Sem.run_bind, run_underlying hu, Result.andThen_ok]; rfl, _, hu⟩
  · cases ho

theorem mapOf_some {t kt et : TypeId} (hm : mapOf P t = some (kt, et)) : P.underlying t = some (.map kt et) := by
  unfold mapOf at hm
  split at hm
  · rename_i hu; cases hm; exact hu
  · cases hm

theorem findKey_run {kt : TypeId} {d : TypeDesc} (hu : P.underlying kt = some d) {k' : Value} {es : List MapEntry} {r : Option (Nat × Value)} (hf : Instr.findNow d k' es 0 = some r) (w : World) :
    (Instr.findKey kt k' es).run P w = .ok r w := by
  simp [Instr.findKey, run_underlying hu, hf]

theorem lookup_sound (r : Rel B φ h w) {t : TypeId} {m k v : AV} {m' k' : Value} {ok : Bool} (hl : alookup P t m k ok h = some v) (hm : VR h.ok φ m m') (hk : VR h.ok φ k k') :
    ∃ v', (Instr.lookup t m' k' ok).run P w = .ok v' w ∧ VR h.ok φ v v' := by
  unfold alookup at hl
  split at hl
  rotate_left
  · cases hl
  rename_i kt et es hmt hes
  have hut := mapOf_some hmt
  split at hl
  rotate_left
  · cases hl
  rename_i hok
  obtain ⟨es', hget, hents⟩ : ∃ es' : Array MapEntry, ((match m' with | .map none => pure #[] | .map (some r) => (do match (← getObj r) with | .map es _ => pure es | _ => stuck "Lookup: map expected") | _ => stuck "Lookup: map expected" : Sem (Array MapEntry)).run P w = .ok es' w) ∧ EntsR h.ok φ es es'.toList := by
    unfold amapGet at hes
    split at hes
    · cases hm; cases hes; exact ⟨#[], rfl, rfl, fun i a e ha _ => by simp at ha⟩
    · rename_i id
      cases hm
      split at hes
      · rename_i es0 clock hg
        cases hes
        obtain ⟨es', h1, h2, h3⟩ := r.obj id _ hg
        have hgo := run_getObj (P := P) h1 (fun _ _ _ => by simp)
        exact ⟨es', by simp [hgo], by simpa using h2, fun i a e ha he => h3 i a e ha (by simpa using he)⟩
      · cases hes
    · cases hes
  obtain ⟨hck, d, hud⟩ := checkKey_ok (P := P) hok hk es'.isEmpty w
  rw [hud] at hl
  have fin : ∀ (q : Option (Nat × Value)) (z : Value), (Instr.findKey kt k' es'.toList).run P w = .ok q w → (match q with | some (_, v) => z = (if ok then .tuple #[v, .bool true] else v) | none => ∃ zv, (zeroValue et).run P w = .ok zv w ∧ z = (if ok then .tuple #[zv, .bool false] else zv)) →
      (Instr.lookup t m' k' ok).run P w = .ok z w := by
    intro q z hq hz
    unfold Instr.lookup
    simp only [Sem.run_bind, run_underlying hut, Result.andThen_ok]
    cases m' with
    | map mr =>
      cases mr with
      | none =>
        simp only [Sem.run_pure, Sem.run_bind, Result.andThen_ok] at hget ⊢
        cases hget
        rw [hck]
        simp only [Result.andThen_ok, hq]
        cases q with
        | some p => obtain ⟨i, v⟩ := p; simp only at hz; subst hz; cases ok <;> rfl
        | none => obtain ⟨zv, hzv, rfl⟩ := hz; simp only [Sem.run_bind, hzv, Result.andThen_ok, Sem.run_pure]
      | some b =>
        simp only [Sem.run_bind] at hget ⊢
        cases hgo : (getObj b).run P w with
        | halt x w1 => rw [hgo] at hget; cases hget
        | ok o w1 =>
          rw [hgo] at hget
          simp only [Result.andThen_ok] at hget ⊢
          cases o with
          | map e0 c0 =>
            simp only [Sem.run_pure, Sem.run_bind, Result.andThen_ok] at hget ⊢
            cases hget
            rw [hck]
            simp only [Result.andThen_ok, hq]
            cases q with
            | some p => obtain ⟨i, v⟩ := p; simp only at hz; subst hz; cases ok <;> rfl
            | none => obtain ⟨zv, hzv, rfl⟩ := hz; simp only [Sem.run_bind, hzv, Result.andThen_ok, Sem.run_pure]
          | _ => cases hget
    | _ => cases hget
  split at hl
  · rename_i j v0 b0 hf
    cases hl
    rcases find_sound hk es es'.toList 0 _ hf hents with ⟨q1, _⟩ | ⟨j', v', b', e', q1, q2, q3, q4, q5, _, _⟩
    · cases q1
    · cases q1
      refine ⟨_, fin _ _ (findKey_run hud q2 w) rfl, ?_⟩
      cases ok
      · exact q4
      · exact VR.tups (VRs.cons q4 (VRs.cons (.bool true) (VRs.nil _ _)))
  · rename_i hf
    rcases find_sound hk es es'.toList 0 _ hf hents with ⟨_, q2⟩ | ⟨j', v', b', e', q1, _⟩
    · cases hz : zeroOf P et with
      | none => simp [hz] at hl
      | some z =>
        simp [hz] at hl
        subst hl
        obtain ⟨z', rfl, hz'⟩ := run_zeroValue' hz w
        refine ⟨_, fin none _ (findKey_run hud q2 w) ⟨z', hz', rfl⟩, ?_⟩
        cases ok
        · exact VR.ofValue _ _ z'
        · exact VR.tups (VRs.cons (VR.ofValue _ _ z') (VRs.cons (.bool false) (VRs.nil _ _)))
    · cases q1
  · cases hl

theorem EntsR.set {N : Nat → Prop} {es : List (AV × AV × Nat)} {es' : Array MapEntry} (hr : EntsR N φ es es'.toList) {i : Nat} {k v : AV} {b : Nat} (f : MapEntry → MapEntry) {e : MapEntry} (he : es'[i]? = some e) (hn : EntR N φ (k, v, b) (f e)) :
    EntsR N φ (es.set i (k, v, b)) (es'.modify i f).toList := by
  refine ⟨by simp [hr.1], fun j a x ha hx => ?_⟩
  rw [Array.getElem?_toList, Array.getElem?_modify] at hx
  rw [List.getElem?_set] at ha
  by_cases hij : i = j
  · subst hij
    rw [if_pos rfl, he] at hx
    simp only [if_true] at ha
    split at ha
    · cases ha; cases hx; exact hn
    · cases ha
  · rw [if_neg hij] at hx ha
    exact hr.2 j a x ha (by simpa using hx)

theorem EntsR.push {N : Nat → Prop} {es : List (AV × AV × Nat)} {es' : Array MapEntry} (hr : EntsR N φ es es'.toList) {a : AV × AV × Nat} {e : MapEntry} (hn : EntR N φ a e) : EntsR N φ (es ++ [a]) (es'.push e).toList := by
  have hl := hr.1
  refine ⟨by simp [hl], fun j b x hb hx => ?_⟩
  rw [Array.toList_push] at hx
  rw [List.getElem?_append] at hb hx
  split at hb
  · rename_i hj; rw [if_pos (by omega)] at hx; exact hr.2 j b x hb hx
  · rename_i hj
    rw [if_neg (by omega), ← hl] at hx
    cases hjj : j - es.length with
    | zero => rw [hjj] at hb hx; cases hb; cases hx; exact hn
    | succ q => rw [hjj] at hb; simp at hb

theorem keyStays_run {old new : Value} (hs : Instr.sameBits 10000 old new = true) (w : World) : (Instr.keyThatStays old new).run P w = .ok new w := by
  simp [Instr.keyThatStays, hs]

theorem ObjR.ofEnts {N : Nat → Prop} {l : Loc} {es : List (AV × AV × Nat)} {es' : Array MapEntry} {clock : Nat} (hr : EntsR N φ es es'.toList) : ObjR N φ l (.map es clock) (some (.map es' clock)) :=
  ⟨es', rfl, by simpa using hr.1, fun i a e ha he => hr.2 i a e ha (by simpa using he)⟩

theorem mapUpdate_sound (r : Rel B φ h w) {t : TypeId} {m k v : AV} {m' k' v' : Value} {h' : AH} (hl : amapUpdate P t m k v h = some h') (hm : VR h.ok φ m m') (hk : VR h.ok φ k k') (hv : VR h.ok φ v v') :
    ∃ w', (Instr.mapUpdate t m' k' v').run P w = .ok () w' ∧ Res B φ h w .undef h' Go.undef w' := by
  unfold amapUpdate at hl
  split at hl
  rotate_left
  · cases hl
  rename_i kt et id hmt
  have hut := mapOf_some hmt
  cases hm with
  | map _ hid =>
    split at hl
    rotate_left
    · cases hl
    rename_i es clock hg
    split at hl
    rotate_left
    · cases hl
    rename_i hok
    obtain ⟨es', h1, h2, h3⟩ := r.obj id _ hg
    have hents : EntsR h.ok φ es es'.toList := ⟨by simpa using h2, fun i a e ha he => h3 i a e ha (by simpa using he)⟩
    have hgo := run_getObj (P := P) h1 (fun _ _ _ => by simp)
    obtain ⟨hck, d, hud⟩ := checkKey_ok (P := P) hok hk false w
    rw [hud] at hl
    split at hl
    · rename_i j v0 b0 hf
      cases hl
      rcases find_sound hk es es'.toList 0 _ hf hents with ⟨q1, _⟩ | ⟨j', v1, b', e', q1, q2, q3, q4, q5, ⟨ka, q6⟩, q7⟩
      · cases q1
      · cases q1
        simp only [Nat.zero_add] at q2 ⊢
        obtain ⟨w', hset, ht, hw'⟩ := run_setObj (P := P) (o := .map (es'.modify j' fun e => { e with key := k', val := v' }) clock) h1 (fun _ _ _ => by simp)
        have he' : es'[j']? = some e' := by simpa using q3
        have hse : setEntry es j' k v = es.set j' (k, v, b0) := by simp [setEntry, q6]
        obtain ⟨r', s'⟩ := r.update hg rfl ht (.map (setEntry es j' k v) clock) (by
          rw [hw', hse]
          exact ObjR.ofEnts (hents.set (fun e => { e with key := k', val := v' }) he' ⟨hk, hv, q5⟩))
        refine ⟨w', ?_, Res.undef r' s'⟩
        unfold Instr.mapUpdate
        simp only [Sem.run_bind, run_underlying hut, Result.andThen_ok, hgo]
        rw [hck]
        simp only [Result.andThen_ok, findKey_run hud q2 w, Sem.run_bind, he', Option.map_some, Option.getD_some, keyStays_run q7, hset]
    · rename_i hf
      cases hl
      rcases find_sound hk es es'.toList 0 _ hf hents with ⟨_, q2⟩ | ⟨j', v1, b', e', q1, _⟩
      · obtain ⟨w', hset, ht, hw'⟩ := run_setObj (P := P) (o := .map (es'.push { key := k', val := v', born := clock }) (clock + 1)) h1 (fun _ _ _ => by simp)
        obtain ⟨r', s'⟩ := r.update hg rfl ht (.map (es ++ [(k, v, clock)]) (clock + 1)) (by
          rw [hw']
          exact ObjR.ofEnts (hents.push ⟨hk, hv, rfl⟩))
        refine ⟨w', ?_, Res.undef r' s'⟩
        unfold Instr.mapUpdate
        simp only [Sem.run_bind, run_underlying hut, Result.andThen_ok, hgo]
        rw [hck]
        simp only [Result.andThen_ok, findKey_run hud q2 w, Sem.run_bind, hset]
      · cases q1
    · cases hl

theorem mapEntry_sound (r : Rel B φ h w) {t : TypeId} {m k v : AV} {m' k' : Value} {h' : AH} (hl : amapEntry P t m k h = some (v, h')) (hm : VR h.ok φ m m') (hk : VR h.ok φ k k') :
    ∃ v' w', (Instr.mapEntry t m' k').run P w = .ok v' w' ∧ Res B φ h w v h' v' w' := by
  unfold amapEntry at hl
  split at hl
  rotate_left
  · cases hl
  rename_i kt et id hmt
  have hut := mapOf_some hmt
  cases hm with
  | map _ hid =>
    split at hl
    rotate_left
    · cases hl
    rename_i es clock hg
    split at hl
    rotate_left
    · cases hl
    rename_i hok
    obtain ⟨es', h1, h2, h3⟩ := r.obj id _ hg
    have hents : EntsR h.ok φ es es'.toList := ⟨by simpa using h2, fun i a e ha he => h3 i a e ha (by simpa using he)⟩
    have hgo := run_getObj (P := P) h1 (fun _ _ _ => by simp)
    obtain ⟨hck, d, hud⟩ := checkKey_ok (P := P) hok hk false w
    rw [hud] at hl
    split at hl
    · rename_i j v0 b0 hf
      cases hl
      rcases find_sound hk es es'.toList 0 _ hf hents with ⟨q1, _⟩ | ⟨j', v1, b', e', q1, q2, q3, q4, q5, ⟨ka, q6⟩, q7⟩
      · cases q1
      · cases q1
        simp only [Nat.zero_add] at q2 ⊢
        obtain ⟨w', hset, ht, hw'⟩ := run_setObj (P := P) (o := .map (es'.modify j' fun e => { e with key := k' }) clock) h1 (fun _ _ _ => by simp)
        have he' : es'[j']? = some e' := by simpa using q3
        have hse : setEntry es j' k v0 = es.set j' (k, v0, b0) := by simp [setEntry, q6]
        obtain ⟨r', s'⟩ := r.update hg rfl ht (.map (setEntry es j' k v0) clock) (by
          rw [hw', hse]
          exact ObjR.ofEnts (hents.set (fun e => { e with key := k' }) he' ⟨hk, q4, q5⟩))
        refine ⟨.tuple #[e'.val, .int .i64 e'.born], w', ?_, φ, ?_, r', s'⟩
        · unfold Instr.mapEntry
          simp only [Sem.run_bind, run_underlying hut, Result.andThen_ok, hgo]
          rw [hck]
          simp only [Result.andThen_ok, findKey_run hud q2 w, Sem.run_bind, he', Option.map_some, Option.getD_some, keyStays_run q7, hset, Sem.run_pure]
          rfl
        · rw [q5]
          exact VR.tups (VRs.cons (q4.mono s'.okm fun _ _ => rfl) (VRs.cons (.int _ _) (VRs.nil _ _)))
    · rename_i hf
      split at hl
      rotate_left
      · cases hl
      rename_i z hz
      cases hl
      obtain ⟨z', rfl, hz'⟩ := run_zeroValue' hz w
      rcases find_sound hk es es'.toList 0 _ hf hents with ⟨_, q2⟩ | ⟨j', v1, b', e', q1, _⟩
      · obtain ⟨w', hset, ht, hw'⟩ := run_setObj (P := P) (o := .map (es'.push { key := k', val := z', born := clock }) (clock + 1)) h1 (fun _ _ _ => by simp)
        obtain ⟨r', s'⟩ := r.update hg rfl ht (.map (es ++ [(k, ofValue z', clock)]) (clock + 1)) (by
          rw [hw']
          exact ObjR.ofEnts (hents.push ⟨hk, VR.ofValue _ _ z', rfl⟩))
        refine ⟨.tuple #[z', .int .i64 clock], w', ?_, φ, ?_, r', s'⟩
        · unfold Instr.mapEntry
          simp only [Sem.run_bind, run_underlying hut, Result.andThen_ok, hgo]
          rw [hck]
          simp only [Result.andThen_ok, findKey_run hud q2 w, Sem.run_bind, hz', hset, Sem.run_pure]
          rfl
        · exact VR.tups (VRs.cons (VR.ofValue _ _ z') (VRs.cons (.int _ _) (VRs.nil _ _)))
      · cases q1
    · cases hl

theorem findIdx_list (es : Array MapEntry) (p : MapEntry → Bool) : es.findIdx? p = es.toList.findIdx? p := by
  obtain ⟨l⟩ := es
  simp

theorem born_sound {N : Nat → Prop} {n : Int} : ∀ (es : List (AV × AV × Nat)) (es' : List MapEntry) (i j : Nat), bornAt n es i = some j → EntsR N φ es es' → i ≤ j ∧ es'.findIdx? (fun e => (e.born : Int) == n) = some (j - i)
  | [], _, i, j, hb, _ => by simp [bornAt] at hb
  | (k, v, b) :: es, e :: es', i, j, hb, hr => by
    obtain ⟨_, _, h3⟩ := hr.2 0 _ _ rfl rfl
    simp only at h3
    subst h3
    simp only [bornAt] at hb
    split at hb
    · rename_i hq
      cases hb
      exact ⟨Nat.le_refl _, by simp [List.findIdx?_cons, hq]⟩
    · rename_i hq
      obtain ⟨q1, q2⟩ := born_sound es es' (i + 1) j hb hr.tail
      refine ⟨by omega, ?_⟩
      rw [List.findIdx?_cons, if_neg hq, q2]
      simp; omega
  | _ :: _, [], _, _, _, hr => by have := hr.1; simp at this

theorem entryStore_sound (r : Rel B φ h w) {t : TypeId} {m s v : AV} {m' s' v' : Value} {h' : AH} (hl : aentryStore m s v h = some h') (hm : VR h.ok φ m m') (hs : VR h.ok φ s s') (hv : VR h.ok φ v v') :
    ∃ w', (Instr.entryStore t m' s' v').run P w = .ok () w' ∧ Res B φ h w .undef h' Go.undef w' := by
  unfold aentryStore at hl
  split at hl
  rotate_left
  · cases hl
  rename_i id k n
  cases hs
  cases hm with
  | map _ hid =>
    split at hl
    rotate_left
    · cases hl
    rename_i es clock hg
    split at hl
    rotate_left
    · cases hl
    rename_i i hi
    split at hl
    rotate_left
    · cases hl
    rename_i ka va b hei
    cases hl
    obtain ⟨es', h1, h2, h3⟩ := r.obj id _ hg
    have hents : EntsR h.ok φ es es'.toList := ⟨by simpa using h2, fun i a e ha he => h3 i a e ha (by simpa using he)⟩
    have hgo := run_getObj (P := P) h1 (fun _ _ _ => by simp)
    obtain ⟨_, hb⟩ := born_sound es es'.toList 0 i hi hents
    rw [Nat.sub_zero] at hb
    have hb' : es'.findIdx? (fun e => (e.born : Int) == n) = some i := by rw [← hb, findIdx_list]
    have hlt : i < es'.size := by
      have h0 : i < es.length := by
        rcases Nat.lt_or_ge i es.length with h' | h'
        · exact h'
        · rw [List.getElem?_eq_none h'] at hei; cases hei
      omega
    have hge : es'[i]? = some es'[i] := Array.getElem?_eq_getElem hlt
    obtain ⟨g1, g2, g3⟩ := h3 i _ _ hei hge
    obtain ⟨w', hset, ht, hw'⟩ := run_setObj (P := P) (o := .map (es'.modify i fun e => { e with val := v' }) clock) h1 (fun _ _ _ => by simp)
    obtain ⟨r', s'⟩ := r.update hg rfl ht (.map (es.set i (ka, v, b)) clock) (by
      rw [hw']
      exact ObjR.ofEnts (hents.set (fun e => { e with val := v' }) hge ⟨g1, hv, g3⟩))
    refine ⟨w', ?_, Res.undef r' s'⟩
    unfold Instr.entryStore
    simp only [Sem.run_bind, Sem.run_pure, Result.andThen_ok, hgo, asInt, asIntOf, hb', hset]

theorem len_sound (r : Rel B φ h w) {at_ : Array TypeId} {ty t : TypeId} {x v : AV} {x' : Value} (h0 : at_[0]? = some t) (hl : alenOf P t x h = some v) (hx : VR h.ok φ x x') :
    ∃ v', (Builtin.len_ at_ ty #[x']).run P w = .ok v' w ∧ VR h.ok φ v v' := by
  unfold alenOf at hl
  split at hl
  · rename_i l hu
    cases hx; cases hl
    refine ⟨_, ?_, .int _ _⟩
    simp [Builtin.len_, h0, run_underlying hu, goInt]
    rfl
  · rename_i n e hu
    cases hl
    exact ⟨_, by simp [Builtin.len_, h0, run_underlying hu, goInt], .int _ _⟩
  · rename_i e id off n sz hu
    cases hx; cases hl
    exact ⟨_, by simp [Builtin.len_, h0, run_underlying hu, goInt], .int _ _⟩
  · rename_i e n c hu
    cases hx; cases hl
    exact ⟨_, by simp [Builtin.len_, h0, run_underlying hu, goInt], .int _ _⟩
  · rename_i k e hu
    unfold amaplen amapGet at hl
    split at hl
    · cases hx
      simp at hl
      subst hl
      exact ⟨_, by simp [Builtin.len_, h0, run_underlying hu, goInt], .int _ _⟩
    · rename_i id
      cases hx
      split at hl
      · rename_i es clock hg
        simp at hl
        subst hl
        obtain ⟨es', h1, h2, h3⟩ := r.obj id _ hg
        have hgo := run_getObj (P := P) h1 (fun _ _ _ => by simp)
        exact ⟨_, by simp [Builtin.len_, h0, run_underlying hu, goInt, hgo, h2], .int _ _⟩
      · simp at hl
    · simp at hl
  · rename_i a hu
    split at hl
    · rename_i n e hu'
      cases hl
      exact ⟨_, by simp [Builtin.len_, h0, run_underlying hu, run_underlying hu', goInt], .int _ _⟩
    · cases hl
  · cases hl


end
/-! M11a -/
section
set_option linter.unusedSimpArgs false
set_option linter.unusedVariables false
open Go Go.RowKit

variable {P : Program} {B : Nat} {φ : Nat → Loc} {h : AH} {w : World}

theorem liesAt_row {e : TypeId} (hc : P.cellsOf e = 1) (count off n : Nat) (hn : off + n ≤ count) : liesAt P P.depth e count off e n = true := by
  have hd : P.depth = (2 * (P.types.size + Made.depth) + 1) + 1 := rfl
  rw [hd]
  simp only [liesAt, Bool.or_eq_true]
  left
  rw [hd]
  simp [rowAt, hc, hn, sameLayout, Nat.mod_one]

theorem run_loadBytesAt : ∀ (ns : List Int) (b o : Nat) (acc : ByteArray), (∀ j x, ns[j]? = some x → w.cell? ⟨b, o + j, none⟩ = some (.int .u8 x)) →
    (loadBytes ⟨b, o, none⟩ acc ns.length).run P w = .ok ⟨acc.data ++ (ns.map fun n => UInt8.ofNat n.toNat).toArray⟩ w
  | [], b, o, acc, _ => by simp [loadBytes]
  | x :: ns, b, o, acc, h => by
    have h0 : w.cell? ⟨b, o, none⟩ = some (.int .u8 x) := by simpa using h 0 x rfl
    have ih := run_loadBytesAt ns b (o + 1) (acc.push (x.toNat.toUInt8)) (fun j y hy => by
      have := h (j + 1) y (by simpa using hy)
      rw [← this]
      congr 2
      omega)
    have ea : (⟨b, o, none⟩ : Addr).add 1 = ⟨b, o + 1, none⟩ := by simp [Addr.add]
    simp only [List.length_cons, loadBytes, Sem.run_bind, run_load, h0, Result.andThen, ea]
    rw [ih]
    congr 1
    apply ByteArray.ext
    simp [ByteArray.push]

theorem freeze_any {b : Nat} {C : Array Value} {e : TypeId} {lo hi : Nat} (hb : w.heap[b]? = some (.cells C e (lo, hi))) (o n : Nat) : ∃ lo' hi', (w.freeze ⟨b, o, none⟩ n).heap[b]? = some (.cells C e (lo', hi')) := by
  unfold World.freeze
  split
  · exact ⟨_, _, hb⟩
  · simp only [Array.getElem?_modify, hb]
    simp only [if_true, Option.map_some]
    split
    · exact ⟨_, _, rfl⟩
    · exact ⟨_, _, rfl⟩

theorem sliceData_sound (r : Rel B φ h w) {at_ : Array TypeId} {ty : TypeId} {args : List AV} {args' : List Value} {v : AV} {h' : AH} (hb : asliceData args h = some (v, h')) (ha : VRs h.ok φ args args') :
    ∃ v' w', (Builtin.unsafeSliceData_ at_ ty args'.toArray).run P w = .ok v' w' ∧ Res B φ h w v h' v' w' := by
  unfold asliceData at hb
  split at hb
  · rename_i a b
    obtain ⟨x', rfl, hx⟩ := one_arg ha
    cases hx
    cases hb
    exact ⟨_, _, Lib.run_unsafeSliceData_nil w at_ ty _ _, Res.pure r (.val _)⟩
  · rename_i id off len sz
    obtain ⟨x', rfl, hx⟩ := one_arg ha
    split at hb
    rotate_left
    · cases hb
    rename_i hl
    cases hb
    cases hx with
    | sl _ _ _ _ a cap hid hle hac =>
      rcases hac with hc | ⟨rfl, hn⟩
      · omega
      · exact ⟨_, _, Lib.run_unsafeSliceData_row w at_ ty _ len cap (by omega), Res.pure r (.ptr id off hid)⟩
  · cases hb

theorem unsafeString_sound (r : Rel B φ h w) {at_ : Array TypeId} {ty pt : TypeId} {p : AV} {p' : Value} {n : Int} {v : AV} {h' : AH} (h0 : at_[0]? = some pt) (hb : aunsafeString P pt p n h = some (v, h')) (hp : VR h.ok φ p p') :
    ∃ v' w', (Builtin.unsafeString_ at_ ty #[p', .int .i64 n]).run P w = .ok v' w' ∧ Res B φ h w v h' v' w' := by
  have hmax : IntKind.i64.max = 9223372036854775807 := rfl
  unfold aunsafeString at hb
  split at hb
  · split at hb
    rotate_left
    · cases hb
    rename_i hn
    subst hn
    split at hb
    · rename_i id off
      cases hb
      cases hp with
      | ptr _ _ hid =>
        refine ⟨.string .empty, w, ?_, Res.pure r (.str [])⟩
        change ((asInt (Value.int .i64 0) >>= _ : Sem Value)).run P w = _
        simp [asInt, asIntOf, h0, hmax]
    · cases hb
      cases hp
      refine ⟨.string .empty, w, ?_, Res.pure r (.str [])⟩
      change ((asInt (Value.int .i64 0) >>= _ : Sem Value)).run P w = _
      simp [asInt, asIntOf, h0, hmax]
    · cases hb
  · rename_i hn
    have hn1 : ¬ n < 0 := by omega
    have hn2 : ¬ (9223372036854775807 : Int) < n := by omega
    have hn3 : n ≠ 0 := by omega
    split at hb
    rotate_left
    · cases hb
    rename_i e id off hpt
    split at hb
    rotate_left
    · cases hb
    rename_i c fz t b hg
    split at hb
    rotate_left
    · cases hb
    rename_i hcond
    obtain ⟨rfl, hcell, hle⟩ := hcond
    cases hab : abytes ((c.drop off).take n.toNat) with
    | none => simp [hab] at hb
    | some l =>
      simp [hab] at hb
      obtain ⟨rfl, rfl⟩ := hb
      obtain ⟨ns, hns, hl⟩ := abytes_map hab
      obtain ⟨C, e', lo, hi, h1, h2, h3, h4, h5, h6⟩ := r.cells hg
      obtain ⟨k1, k2⟩ := h6 _ _ rfl
      subst k1
      cases hp with
      | ptr _ _ hid =>
        have hlen : ns.length = n.toNat := by
          have := congrArg List.length hns
          simp at this
          omega
        have hvals : ∀ j x, ns[j]? = some x → w.cell? ⟨(φ id).b, (φ id).o + off + j, none⟩ = some (.int .u8 x) := fun j x hj => by
          rw [cell_at h1]
          have hjl : j < n.toNat := by
            rw [← hlen]
            rcases Nat.lt_or_ge j ns.length with h' | h'
            · exact h'
            · rw [List.getElem?_eq_none h'] at hj; cases hj
          have hcj : c[off + j]? = some (.int .u8 x) := by
            have e1 : ((c.drop off).take n.toNat)[j]? = some (.int .u8 x) := by rw [hns, List.getElem?_map, hj]; rfl
            rw [List.getElem?_take, if_pos hjl, List.getElem?_drop] at e1
            exact e1
          obtain ⟨u, hu, hr⟩ := h4.at hcj
          cases hr
          rw [List.getElem?_take] at hu
          split at hu
          · rw [List.getElem?_drop, Array.getElem?_toList] at hu
            rw [← hu]
            congr 1
            omega
          · cases hu
        have hload := run_loadBytesAt (P := P) (w := w) ns (φ id).b ((φ id).o + off) .empty hvals
        rw [hlen] at hload
        have hsh : w.shape? (φ id).b = some (e', C.size) := by unfold World.shape?; rw [h1]
        have hlies : liesAt P P.depth e' (C.size / P.cellsOf e') ((φ id).o + off) e' n.toNat = true := by
          rw [hcell, Nat.div_one]
          exact liesAt_row hcell _ _ _ (by omega)
        obtain ⟨lo', hi', hfr⟩ := freeze_any h1 ((φ id).o + off) n.toNat
        obtain ⟨r', s'⟩ := r.update hg rfl (freeze_turned w (φ id).b ((φ id).o + off) n.toNat) (.cells c false 0 (some (e', b))) (by
          rw [hfr]
          refine ⟨C, e', lo', hi', rfl, h2, h3, fun i x hx => ?_, fun hf => (by cases hf), h6⟩
          obtain ⟨u, hu, hr⟩ := h4.at hx
          rw [List.getElem?_take] at hu
          split at hu
          · rw [List.getElem?_drop, Array.getElem?_toList] at hu
            exact ⟨u, hu, hr⟩
          · cases hu)
        have hval : (⟨(ByteArray.empty : ByteArray).data ++ (ns.map fun n => UInt8.ofNat n.toNat).toArray⟩ : ByteArray) = ⟨⟨l⟩⟩ := by
          rw [hl]
          apply ByteArray.ext
          apply Array.ext'
          simp
        rw [hval] at hload
        refine ⟨.string ⟨⟨l⟩⟩, w.freeze ⟨(φ id).b, (φ id).o + off, none⟩ n.toNat, ?_, _, .str l, r', s'⟩
        change ((asInt (Value.int .i64 n) >>= _ : Sem Value)).run P w = _
        simp [asInt, asIntOf, h0, hmax, hn1, hn2, hn3, variablesAt, hsh, elemOf, run_underlying hpt, hlies, hload]

end
end Go.Proofs.YtobhmahlenjheaaM
