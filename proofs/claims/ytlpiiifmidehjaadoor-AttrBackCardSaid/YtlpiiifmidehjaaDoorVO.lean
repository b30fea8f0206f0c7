/- Plain operations by name. -/
import Derived.Test.YtlpiiifmidehjaaDoorS4
namespace Go.Proofs.YtlpiiifmidehjaaDoorM
open Go Go.RowKit
abbrev oAdd (k : IntKind) (x y : Int) : Int := k.wrap (x + y)
abbrev oSub (k : IntKind) (x y : Int) : Int := k.wrap (x - y)
abbrev oMul (k : IntKind) (x y : Int) : Int := k.wrap (x * y)
abbrev oNeg (k : IntKind) (x : Int) : Int := k.wrap (0 - x)
abbrev oWrap (k : IntKind) (x : Int) : Int := k.wrap x
abbrev oEqI (x y : Int) : Bool := x == y
abbrev oNeI (x y : Int) : Bool := x != y
abbrev oLt (x y : Int) : Bool := decide (x < y)
abbrev oLe (x y : Int) : Bool := decide (x ≤ y)
abbrev oGt (x y : Int) : Bool := decide (x > y)
abbrev oGe (x y : Int) : Bool := decide (x ≥ y)
abbrev oEqS (x y : List UInt8) : Bool := x == y
abbrev oBl (x y : List UInt8) : Bool := Op.bytesLess x y
abbrev oEqB (x y : Bool) : Bool := x == y
abbrev oNot (x : Bool) : Bool := !x
abbrev oAnd (x y : Bool) : Bool := x && y
abbrev oOr (x y : Bool) : Bool := x || y
abbrev oPl (x y : Int) : Int := x + y
abbrev oMi (x y : Int) : Int := x - y
abbrev oMin (x y : Int) : Int := min x y
abbrev oLen {α : Type} (l : List α) : Int := l.length
abbrev oTD {α : Type} (l : List α) (a b : Int) : List α := (l.take b.toNat).drop a.toNat
abbrev oEnc (n : Int) : List UInt8 := (Utf8.encode n).data.toList
abbrev oByt (l : List Int) : List UInt8 := l.map byt
abbrev oInts (l : List UInt8) : List Int := l.map fun b => (b.toNat : Int)
abbrev oGetD {α : Type} (x : Option α) (z : α) : α := x.getD z
abbrev oIsSome {α : Type} (x : Option α) : Bool := x.isSome
abbrev oSet {α : Type} (l : List α) (i : Int) (x : α) : List α := l.set i.toNat x
abbrev oRep {α : Type} (n : Int) (z : α) : List α := List.replicate n.toNat z
abbrev oClr {α : Type} (l : List α) (a b : Int) (z : α) : List α := l.take a.toNat ++ (List.replicate (b.toNat - a.toNat) z ++ l.drop b.toNat)
abbrev oDecN (l : List UInt8) (p : Int) : Int := p + (Utf8.decode ⟨⟨l⟩⟩ p.toNat).2
abbrev oDecR (l : List UInt8) (p : Int) : Int := (Utf8.decode ⟨⟨l⟩⟩ p.toNat).1
abbrev oBind {α β : Type} (x : Option α) (f : α → Option β) : Option β := x.bind f
abbrev oCond {α : Type} (b : Bool) (x y : α) : α := bif b then x else y
theorem oMi_eq (x y : Int) : oMi x y = x - y := rfl
theorem oPl_eq (x y : Int) : oPl x y = x + y := rfl
theorem oLen_eq {α : Type} (l : List α) : oLen l = (l.length : Int) := rfl
theorem oTD_eq {α : Type} (l : List α) (a b : Int) : oTD l a b = (l.take b.toNat).drop a.toNat := rfl
theorem oTD_len {α : Type} (l : List α) (a b : Int) : (oTD l a b).length = ((l.take b.toNat).drop a.toNat).length := rfl
end Go.Proofs.YtlpiiifmidehjaaDoorM
