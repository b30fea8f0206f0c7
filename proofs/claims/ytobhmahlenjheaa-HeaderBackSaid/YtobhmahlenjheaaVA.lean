/- The value machine: what it is, and its steps (first part). -/
import Derived.Test.YtobhmahlenjheaaSA
namespace Go.Proofs.YtobhmahlenjheaaM
/-! VO -/
section
open Go Go.RowKit
abbrev oAdd (k : IntKind) (x y : Int) : Int := k.wrap (x + y)
abbrev oSub (k : IntKind) (x y : Int) : Int := k.wrap (x - y)
abbrev oMul (k : IntKind) (x y : Int) : Int := k.wrap (x * y)
abbrev oNeg (k : IntKind) (x : Int) : Int := k.wrap (0 - x)
abbrev oWrap (k : IntKind) (x : Int) : Int := k.wrap x
abbrev oEqI (x y : Int) : Bool := x == y
abbrev oNeI (x y : Int) : Bool := x != y
abbrev oLt (x y : Int) : Bool := decide (x < y)
abbrev oLe (x y : Int) : Bool := decide (x ≤ y)
abbrev oGt (x y : Int) : Bool := decide (x > y)
abbrev oGe (x y : Int) : Bool := decide (x ≥ y)
abbrev oEqS (x y : List UInt8) : Bool := x == y
abbrev oBl (x y : List UInt8) : Bool := Op.bytesLess x y
abbrev oEqB (x y : Bool) : Bool := x == y
abbrev oNot (x : Bool) : Bool := !x
abbrev oAnd (x y : Bool) : Bool := x && y
abbrev oOr (x y : Bool) : Bool := x || y
abbrev oPl (x y : Int) : Int := x + y
abbrev oMi (x y : Int) : Int := x - y
abbrev oMin (x y : Int) : Int := min x y
abbrev oLen {α : Type} (l : List α) : Int := l.length
abbrev oTD {α : Type} (l : List α) (a b : Int) : List α := (l.take b.toNat).drop a.toNat
abbrev oEnc (n : Int) : List UInt8 := (Utf8.encode n).data.toList
abbrev oByt (l : List Int) : List UInt8 := l.map byt
abbrev oInts (l : List UInt8) : List Int := l.map fun b => (b.toNat : Int)
abbrev oGetD {α : Type} (x : Option α) (z : α) : α := x.getD z
abbrev oIsSome {α : Type} (x : Option α) : Bool := x.isSome
abbrev oSet {α : Type} (l : List α) (i : Int) (x : α) : List α := l.set i.toNat x
abbrev oRep {α : Type} (n : Int) (z : α) : List α := List.replicate n.toNat z
abbrev oClr {α : Type} (l : List α) (a b : Int) (z : α) : List α := l.take a.toNat ++ (List.replicate (b.toNat - a.toNat) z ++ l.drop b.toNat)
abbrev oDecN (l : List UInt8) (p : Int) : Int := p + (Utf8.decode ⟨⟨l⟩⟩ p.toNat).2
abbrev oDecR (l : List UInt8) (p : Int) : Int := (Utf8.decode ⟨⟨l⟩⟩ p.toNat).1
abbrev oBind {α β : Type} (x : Option α) (f : α → Option β) : Option β := x.bind f
abbrev oCond {α : Type} (b : Bool) (x y : α) : α := bif b then x else y
theorem oMi_eq (x y : Int) : oMi x y = x - y := rfl
theorem oPl_eq (x y : Int) : oPl x y = x + y := rfl
theorem oLen_eq {α : Type} (l : List α) : oLen l = (l.length : Int) := rfl
theorem oTD_eq {α : Type} (l : List α) (a b : Int) : oTD l a b = (l.take b.toNat).drop a.toNat := rfl
theorem oTD_len {α : Type} (l : List α) (a b : Int) : (oTD l a b).length = ((l.take b.toNat).drop a.toNat).length := rfl

end
/-! V0 -/
section
set_option linter.unusedSimpArgs false
set_option linter.unusedVariables false
open Go Go.RowKit

/-! ### Maps -/
structure GMap (κ ν : Type) where
  es : List (κ × ν × Nat)
  clock : Nat
  deriving DecidableEq, Inhabited

section
variable {κ ν : Type} [DecidableEq κ]
def GMap.idx (k : κ) : List (κ × ν × Nat) → Nat → Option (Nat × ν × Nat)
  | [], _ => none
  | (k', v, b) :: es, i => if k = k' then some (i, v, b) else GMap.idx k es (i + 1)
def mget (m : GMap κ ν) (k : κ) : Option ν := (GMap.idx k m.es 0).map fun x => x.2.1
def mset (m : GMap κ ν) (k : κ) (v : ν) : GMap κ ν :=
  match GMap.idx k m.es 0 with
  | some (i, _, _) => ⟨(match m.es[i]? with | some (_, _, b) => m.es.set i (k, v, b) | none => m.es), m.clock⟩
  | none => ⟨m.es ++ [(k, v, m.clock)], m.clock + 1⟩
end
def mnew {κ ν : Type} : GMap κ ν := ⟨[], 0⟩

/-! ### Types -/
inductive Ty where
  | int (k : IntKind) | bool | str | lst (e : Ty) | map (k e : Ty) | nil | cons (a b : Ty)
  deriving DecidableEq, Inhabited

abbrev Ty.D : Ty → Type
  | .int _ => Int
  | .bool => Bool
  | .str => List UInt8
  | .lst e => List e.D
  | .map k e => GMap k.D e.D
  | .nil => Unit
  | .cons a b => a.D × b.D
def Ty.size : Ty → Nat
  | .nil => 0
  | .cons a b => a.size + b.size
  | _ => 1
def Ty.ag : Ty → Bool
  | .nil => true
  | .cons _ _ => true
  | _ => false
def Ty.dflt : (t : Ty) → t.D
  | .int _ => (0 : Int)
  | .bool => false
  | .str => ([] : List UInt8)
  | .lst e => ([] : List e.D)
  | .map k e => (⟨[], 0⟩ : GMap k.D e.D)
  | .nil => ()
  | .cons a b => (a.dflt, b.dflt)
/-- No part of it names memory. -/
def Ty.flat : Ty → Bool
  | .lst _ => false
  | .map _ _ => false
  | .cons a b => a.flat && b.flat
  | _ => true
def castD {t t' : Ty} (h : t = t') (v : t.D) : t'.D := h ▸ v
def asT (t t' : Ty) (v : t.D) : Option t'.D := if h : t = t' then some (castD h v) else none

/-! ### Lists side by side -/
def All2 {α β : Type} (R : α → β → Prop) : List α → List β → Prop
  | [], [] => True
  | a :: as, b :: bs => R a b ∧ All2 R as bs
  | _, _ => False

section
variable {α β γ : Type} {R S : α → β → Prop}
theorem All2.len : ∀ {as : List α} {bs : List β}, All2 R as bs → as.length = bs.length
  | [], [], _ => rfl
  | _ :: _, _ :: _, h => by simp [All2.len h.2]
  | [], _ :: _, h => h.elim
  | _ :: _, [], h => h.elim
theorem All2.mono (hm : ∀ a b, R a b → S a b) : ∀ {as : List α} {bs : List β}, All2 R as bs → All2 S as bs
  | [], [], _ => trivial
  | _ :: _, _ :: _, h => ⟨hm _ _ h.1, All2.mono hm h.2⟩
  | [], _ :: _, h => h.elim
  | _ :: _, [], h => h.elim
theorem All2.at : ∀ {as : List α} {bs : List β} {i : Nat} {b : β}, All2 R as bs → bs[i]? = some b → ∃ a, as[i]? = some a ∧ R a b
  | [], [], _, _, _, hb => by simp at hb
  | a :: as, b :: bs, 0, _, h, hb => by simp at hb; subst hb; exact ⟨a, rfl, h.1⟩
  | a :: as, b :: bs, i + 1, _, h, hb => by simp at hb; obtain ⟨x, h1, h2⟩ := All2.at h.2 hb; exact ⟨x, by simpa using h1, h2⟩
  | [], _ :: _, _, _, h, _ => h.elim
  | _ :: _, [], _, _, h, _ => h.elim
theorem All2.at1 : ∀ {as : List α} {bs : List β} {i : Nat} {a : α}, All2 R as bs → as[i]? = some a → ∃ b, bs[i]? = some b ∧ R a b
  | [], [], _, _, _, hb => by simp at hb
  | a :: as, b :: bs, 0, _, h, hb => by simp at hb; subst hb; exact ⟨b, rfl, h.1⟩
  | a :: as, b :: bs, i + 1, _, h, hb => by simp at hb; obtain ⟨x, h1, h2⟩ := All2.at1 h.2 hb; exact ⟨x, by simpa using h1, h2⟩
  | [], _ :: _, _, _, h, _ => h.elim
  | _ :: _, [], _, _, h, _ => h.elim
theorem All2.set : ∀ {as : List α} {bs : List β} (i : Nat) {a : α} {b : β}, All2 R as bs → R a b → All2 R (as.set i a) (bs.set i b)
  | [], [], _, _, _, _, _ => by simp [All2]
  | a :: as, b :: bs, 0, _, _, h, k => ⟨k, h.2⟩
  | a :: as, b :: bs, i + 1, _, _, h, k => ⟨h.1, All2.set i h.2 k⟩
  | [], _ :: _, _, _, _, h, _ => h.elim
  | _ :: _, [], _, _, _, h, _ => h.elim
theorem All2.append : ∀ {as : List α} {bs : List β} {as' : List α} {bs' : List β}, All2 R as bs → All2 R as' bs' → All2 R (as ++ as') (bs ++ bs')
  | [], [], _, _, _, k => k
  | a :: as, b :: bs, _, _, h, k => ⟨h.1, All2.append h.2 k⟩
  | [], _ :: _, _, _, h, _ => h.elim
  | _ :: _, [], _, _, h, _ => h.elim
theorem All2.take : ∀ {as : List α} {bs : List β} (n : Nat), All2 R as bs → All2 R (as.take n) (bs.take n)
  | _, _, 0, _ => by simp [All2]
  | [], [], n + 1, _ => by simp [All2]
  | a :: as, b :: bs, n + 1, h => ⟨h.1, All2.take n h.2⟩
  | [], _ :: _, _ + 1, h => h.elim
  | _ :: _, [], _ + 1, h => h.elim
theorem All2.drop : ∀ {as : List α} {bs : List β} (n : Nat), All2 R as bs → All2 R (as.drop n) (bs.drop n)
  | _, _, 0, h => by simpa using h
  | [], [], n + 1, _ => by simp [All2]
  | a :: as, b :: bs, n + 1, h => by simpa using All2.drop n h.2
  | [], _ :: _, _ + 1, h => h.elim
  | _ :: _, [], _ + 1, h => h.elim
theorem All2.rep (n : Nat) {a : α} {b : β} (h : R a b) : All2 R (List.replicate n a) (List.replicate n b) := by
  induction n with
  | zero => trivial
  | succ n ih => exact ⟨h, ih⟩
theorem All2.map1 (f : γ → α) (g : γ → β) (h : ∀ x, R (f x) (g x)) : ∀ l : List γ, All2 R (l.map f) (l.map g)
  | [] => trivial
  | x :: l => ⟨h x, All2.map1 f g h l⟩
end

/-! ### Frozen memory -/
structure FM where
  c : Nat → Option (List AV)
  v : Nat → Option (List AV)
  b : Nat → Prop

structure FM.le (g g' : FM) : Prop where
  c : ∀ id x, g.c id = some x → g'.c id = some x
  v : ∀ id x, g.v id = some x → g'.v id = some x
  b : g'.b = g.b
theorem FM.le.refl (g : FM) : g.le g := ⟨fun _ _ h => h, fun _ _ h => h, rfl⟩
theorem FM.le.trans {a b c : FM} (h : a.le b) (k : b.le c) : a.le c := ⟨fun i x hx => k.c i x (h.c i x hx), fun i x hx => k.v i x (h.v i x hx), k.b.trans h.b⟩

abbrev nilS : AV := .val (.slice none 0 0)

def LR {α : Type} (g : FM) (R : List AV → α → Prop) (sz : Nat) (x : AV) (l : List α) : Prop :=
  (x = nilS ∧ l = []) ∨ ∃ id off, x = .sl id off l.length sz ∧ (l = [] ∨ ∃ c xs, g.c id = some c ∧ off + l.length * sz ≤ c.length ∧ (c.drop off).take (l.length * sz) = xs.flatten ∧ All2 R xs l)

/-- Such cells are such a value. -/
def RepC (g : FM) : (t : Ty) → List AV → t.D → Prop
  | .int k, c, n => c = [.int k n]
  | .bool, c, b => c = [.bool b]
  | .str, c, s => c = [.str s]
  | .lst e, c, l => ∃ x, c = [x] ∧ LR g (RepC g e) e.size x l
  | .map _ _, _, _ => False
  | .nil, c, _ => c = []
  | .cons a b, c, v => ∃ c1 c2, c = c1 ++ c2 ∧ RepC g a c1 v.1 ∧ RepC g b c2 v.2

def RepV (g : FM) (t : Ty) (x : AV) (v : t.D) : Prop := if t.ag then ∃ cs, x = .agg cs ∧ RepC g t cs v else RepC g t [x] v

theorem RepC.len {g : FM} : ∀ {t : Ty} {c : List AV} {v : t.D}, RepC g t c v → c.length = t.size
  | .int _, _, _, h => by cases h; rfl
  | .bool, _, _, h => by cases h; rfl
  | .str, _, _, h => by cases h; rfl
  | .lst _, _, _, h => by obtain ⟨x, rfl, _⟩ := h; rfl
  | .map _ _, _, _, h => h.elim
  | .nil, _, _, h => by cases h; rfl
  | .cons a b, _, _, h => by obtain ⟨c1, c2, rfl, h1, h2⟩ := h; simp [RepC.len h1, RepC.len h2, Ty.size]

theorem LR.mono {α : Type} {g g' : FM} (hg : g.le g') {R S : List AV → α → Prop} (hR : ∀ c v, R c v → S c v) {sz : Nat} {x : AV} {l : List α} (h : LR g R sz x l) : LR g' S sz x l := by
  rcases h with h | ⟨id, off, hx, h | ⟨c, xs, h1, h2, h3, h4⟩⟩
  · exact .inl h
  · exact .inr ⟨id, off, hx, .inl h⟩
  · exact .inr ⟨id, off, hx, .inr ⟨c, xs, hg.c _ _ h1, h2, h3, h4.mono hR⟩⟩

theorem RepC.mono {g g' : FM} (hg : g.le g') : ∀ {t : Ty} {c : List AV} {v : t.D}, RepC g t c v → RepC g' t c v
  | .int _, _, _, h => h
  | .bool, _, _, h => h
  | .str, _, _, h => h
  | .lst e, _, _, h => by obtain ⟨x, rfl, h⟩ := h; exact ⟨x, rfl, h.mono hg fun c v => RepC.mono hg⟩
  | .map _ _, _, _, h => h.elim
  | .nil, _, _, h => h
  | .cons a b, _, _, h => by obtain ⟨c1, c2, rfl, h1, h2⟩ := h; exact ⟨c1, c2, rfl, RepC.mono hg h1, RepC.mono hg h2⟩
theorem RepV.mono {g g' : FM} (hg : g.le g') {t : Ty} {x : AV} {v : t.D} (h : RepV g t x v) : RepV g' t x v := by
  unfold RepV at *
  split
  · rename_i ht; rw [if_pos ht] at h; obtain ⟨cs, rfl, h⟩ := h; exact ⟨cs, rfl, h.mono hg⟩
  · rename_i ht; rw [if_neg ht] at h; exact h.mono hg

/-- With another base. -/
theorem RepC.reb {g : FM} {B : Nat → Prop} : ∀ {t : Ty} {c : List AV} {v : t.D}, RepC g t c v → RepC ⟨g.c, g.v, B⟩ t c v
  | .int _, _, _, h => h
  | .bool, _, _, h => h
  | .str, _, _, h => h
  | .lst e, _, _, h => by
    obtain ⟨x, rfl, h⟩ := h
    refine ⟨x, rfl, ?_⟩
    rcases h with h | ⟨id, off, hx, h | ⟨c, xs, h1, h2, h3, h4⟩⟩
    · exact .inl h
    · exact .inr ⟨id, off, hx, .inl h⟩
    · exact .inr ⟨id, off, hx, .inr ⟨c, xs, h1, h2, h3, h4.mono fun _ _ => RepC.reb⟩⟩
  | .map _ _, _, _, h => h.elim
  | .nil, _, _, h => h
  | .cons a b, _, _, h => by obtain ⟨c1, c2, rfl, h1, h2⟩ := h; exact ⟨c1, c2, rfl, RepC.reb h1, RepC.reb h2⟩
theorem RepV.reb {g : FM} {B : Nat → Prop} {t : Ty} {x : AV} {v : t.D} (h : RepV g t x v) : RepV ⟨g.c, g.v, B⟩ t x v := by
  unfold RepV at *
  split
  · rename_i ht; rw [if_pos ht] at h; obtain ⟨cs, rfl, h⟩ := h; exact ⟨cs, rfl, h.reb⟩
  · rename_i ht; rw [if_neg ht] at h; exact h.reb
/-- What names no memory is so anywhere. -/
theorem RepC.free {g g' : FM} : ∀ {t : Ty} {c : List AV} {v : t.D}, t.flat = true → RepC g t c v → RepC g' t c v
  | .int _, _, _, _, h => h
  | .bool, _, _, _, h => h
  | .str, _, _, _, h => h
  | .lst e, _, _, hf, _ => by cases hf
  | .map _ _, _, _, _, h => h.elim
  | .nil, _, _, _, h => h
  | .cons a b, _, _, hf, h => by
    obtain ⟨c1, c2, rfl, h1, h2⟩ := h
    simp only [Ty.flat, Bool.and_eq_true] at hf
    exact ⟨c1, c2, rfl, RepC.free hf.1 h1, RepC.free hf.2 h2⟩

theorem RepC.ones {g : FM} : ∀ {t : Ty} {c : List AV} {v : t.D}, RepC g t c v → c.all AV.one = true
  | .int _, _, _, h => by cases h; rfl
  | .bool, _, _, h => by cases h; rfl
  | .str, _, _, h => by cases h; rfl
  | .lst e, _, _, h => by
    obtain ⟨x, rfl, h⟩ := h
    rcases h with ⟨rfl, _⟩ | ⟨id, off, rfl, _⟩ <;> rfl
  | .map _ _, _, _, h => h.elim
  | .nil, _, _, h => by cases h; rfl
  | .cons a b, _, _, h => by
    obtain ⟨c1, c2, rfl, h1, h2⟩ := h
    rw [List.all_append, RepC.ones h1, RepC.ones h2]; rfl

theorem RepV.cells {g : FM} {t : Ty} {x : AV} {v : t.D} (h : RepV g t x v) : ∃ cs, x.cells = some cs ∧ RepC g t cs v := by
  unfold RepV at h
  split at h
  · obtain ⟨cs, rfl, h⟩ := h; exact ⟨cs, rfl, h⟩
  · refine ⟨[x], ?_, h⟩
    have := RepC.ones h
    simp only [List.all_cons, List.all_nil, Bool.and_true] at this
    unfold AV.cells
    split
    · rename_i h'; cases this
    · rw [if_pos this]
theorem RepV.ofC {g : FM} {t : Ty} {c : List AV} {v : t.D} (h : RepC g t c v) : (t.ag = true → RepV g t (.agg c) v) ∧ (t.ag = false → ∃ x, c = [x] ∧ RepV g t x v) := by
  refine ⟨fun ht => by unfold RepV; rw [if_pos ht]; exact ⟨c, rfl, h⟩, fun ht => ?_⟩
  have hl := h.len
  obtain ⟨x, rfl⟩ : ∃ x, c = [x] := by
    have : c.length = 1 := by rw [hl]; cases t <;> first | rfl | cases ht
    exact List.length_eq_one_iff.1 this
  exact ⟨x, rfl, by unfold RepV; rw [if_neg (by simp [ht])]; exact h⟩

/-! ### Parts of a value -/
/-- The part of type t' that stands behind o cells. -/
def partT : (t : Ty) → t.D → Nat → (t' : Ty) → Option t'.D
  | .cons a b, v, o, t' => if h : o = 0 ∧ Ty.cons a b = t' then some (castD h.2 v) else if o < a.size then partT a v.1 o t' else partT b v.2 (o - a.size) t'
  | t, v, o, t' => if h : o = 0 ∧ t = t' then some (castD h.2 v) else none
/-- With another part there. -/
def setT : (t : Ty) → t.D → Nat → (t' : Ty) → t'.D → Option t.D
  | .cons a b, v, o, t', x => if h : o = 0 ∧ t' = Ty.cons a b then some (castD h.2 x) else if o < a.size then (setT a v.1 o t' x).map fun y => (y, v.2) else (setT b v.2 (o - a.size) t' x).map fun y => (v.1, y)
  | t, v, o, t', x => if h : o = 0 ∧ t' = t then some (castD h.2 x) else none

theorem RepC.cast {g : FM} {t t' : Ty} (h : t = t') {c : List AV} {v : t.D} (hr : RepC g t c v) : RepC g t' c (castD h v) := by subst h; exact hr
theorem RepV.cast {g : FM} {t t' : Ty} (h : t = t') {c : AV} {v : t.D} (hr : RepV g t c v) : RepV g t' c (castD h v) := by subst h; exact hr

theorem part_end {g : FM} {t t' : Ty} {v : t.D} {c : List AV} {o : Nat} {v' : t'.D} (hr : RepC g t c v) (h : (if h : o = 0 ∧ t = t' then some (castD h.2 v) else none) = some v') :
    o + t'.size ≤ c.length ∧ RepC g t' ((c.drop o).take t'.size) v' := by
  split at h
  · rename_i hh
    obtain ⟨rfl, rfl⟩ := hh
    cases h
    have hl := hr.len
    refine ⟨by omega, ?_⟩
    rw [List.drop_zero, List.take_of_length_le (by omega)]
    exact hr
  · cases h

theorem partT_ok {g : FM} : ∀ {t : Ty} {v : t.D} {c : List AV} {o : Nat} {t' : Ty} {v' : t'.D}, RepC g t c v → partT t v o t' = some v' → o + t'.size ≤ c.length ∧ RepC g t' ((c.drop o).take t'.size) v'
  | .cons a b, v, c, o, t', v', hr, h => by
    unfold partT at h
    split at h
    · rename_i hh
      exact part_end hr (by rw [dif_pos hh]; exact h)
    · obtain ⟨c1, c2, rfl, h1, h2⟩ := hr
      have l1 := h1.len
      split at h
      · rename_i ho
        obtain ⟨k1, k2⟩ := partT_ok h1 h
        refine ⟨by simp; omega, ?_⟩
        rw [List.drop_append, List.take_append_of_le_length (by simp; omega)]
        exact k2
      · rename_i ho
        obtain ⟨k1, k2⟩ := partT_ok h2 h
        refine ⟨by simp; omega, ?_⟩
        rw [List.drop_append, List.drop_of_length_le (by omega), List.nil_append, l1]
        exact k2
  | .int _, v, c, o, t', v', hr, h => part_end hr (by unfold partT at h; exact h)
  | .bool, v, c, o, t', v', hr, h => part_end hr (by unfold partT at h; exact h)
  | .str, v, c, o, t', v', hr, h => part_end hr (by unfold partT at h; exact h)
  | .lst _, v, c, o, t', v', hr, h => part_end hr (by unfold partT at h; exact h)
  | .map _ _, v, c, o, t', v', hr, h => hr.elim
  | .nil, v, c, o, t', v', hr, h => part_end hr (by unfold partT at h; exact h)

theorem splice_len {c : List AV} {o : Nat} {xs : List AV} (h : o + xs.length ≤ c.length) : (splice c o xs).length = c.length := by
  unfold splice; simp; omega

theorem set_end {g : FM} {t t' : Ty} {v v' : t.D} {c xs : List AV} {o : Nat} {x : t'.D} (hr : RepC g t c v) (hx : RepC g t' xs x) (h : (if h : o = 0 ∧ t' = t then some (castD h.2 x) else none) = some v') :
    o + xs.length ≤ c.length ∧ RepC g t (splice c o xs) v' := by
  split at h
  · rename_i hh
    obtain ⟨rfl, rfl⟩ := hh
    cases h
    have hl := hr.len
    have hl' := hx.len
    refine ⟨by omega, ?_⟩
    unfold splice
    rw [List.take_zero, List.nil_append, List.drop_of_length_le (by omega), List.append_nil]
    exact hx
  · cases h

theorem setT_ok {g : FM} : ∀ {t : Ty} {v : t.D} {c xs : List AV} {o : Nat} {t' : Ty} {x : t'.D} {v' : t.D}, RepC g t c v → RepC g t' xs x → setT t v o t' x = some v' → o + xs.length ≤ c.length ∧ RepC g t (splice c o xs) v'
  | .cons a b, v, c, xs, o, t', x, v', hr, hx, h => by
    unfold setT at h
    split at h
    · rename_i hh
      exact set_end hr hx (by rw [dif_pos hh]; exact h)
    · obtain ⟨c1, c2, rfl, h1, h2⟩ := hr
      have l1 := h1.len
      split at h
      · rename_i ho
        obtain ⟨y, hy, rfl⟩ := Option.map_eq_some_iff.1 h
        obtain ⟨k1, k2⟩ := setT_ok h1 hx hy
        refine ⟨by simp; omega, splice c1 o xs, c2, ?_, k2, h2⟩
        unfold splice
        rw [List.take_append_of_le_length (by omega), List.drop_append, show o + xs.length - c1.length = 0 by omega, List.drop_zero]
        simp [List.append_assoc]
      · rename_i ho
        obtain ⟨y, hy, rfl⟩ := Option.map_eq_some_iff.1 h
        obtain ⟨k1, k2⟩ := setT_ok h2 hx hy
        refine ⟨by simp; omega, c1, splice c2 (o - a.size) xs, ?_, h1, k2⟩
        unfold splice
        rw [List.take_append, List.take_of_length_le (by omega), List.drop_append, List.drop_of_length_le (l := c1) (by omega), l1]
        simp only [List.nil_append, List.append_assoc]
        rw [show o + xs.length - a.size = o - a.size + xs.length by omega]
  | .int _, v, c, xs, o, t', x, v', hr, hx, h => set_end hr hx (by unfold setT at h; exact h)
  | .bool, v, c, xs, o, t', x, v', hr, hx, h => set_end hr hx (by unfold setT at h; exact h)
  | .str, v, c, xs, o, t', x, v', hr, hx, h => set_end hr hx (by unfold setT at h; exact h)
  | .lst _, v, c, xs, o, t', x, v', hr, hx, h => set_end hr hx (by unfold setT at h; exact h)
  | .map _ _, v, c, xs, o, t', x, v', hr, hx, h => hr.elim
  | .nil, v, c, xs, o, t', x, v', hr, hx, h => set_end hr hx (by unfold setT at h; exact h)

/-! ### Types of the program -/
def tyFs (f : TypeId → Option Ty) : List Field → Option Ty
  | [] => some .nil
  | x :: xs => match f x.type, tyFs f xs with
    | some a, some b => some (.cons a b)
    | _, _ => none
def tyRep (e : Ty) : Nat → Ty
  | 0 => .nil
  | n + 1 => .cons e (tyRep e n)
def tyOfN (P : Program) : Nat → TypeId → Option Ty
  | 0, _ => none
  | n + 1, t => match P.underlying t with
    | some (.int k) => some (.int k)
    | some .bool => some .bool
    | some .string => some .str
    | some (.slice e) => (tyOfN P n e).map .lst
    | some (.struct fs) => tyFs (tyOfN P n) fs.toList
    | some (.array m e) => if m ≤ 16 then (tyOfN P n e).map fun t => tyRep t m else none
    | _ => none
/-- A type written out (Lean's kernel computes it once). -/
def fTy : Ty → {R : Type} → (Ty → R) → R
  | .lst e, _, K => fTy e fun e' => K (.lst e')
  | .map a b, _, K => fTy a fun a' => fTy b fun b' => K (.map a' b')
  | .cons a b, _, K => fTy a fun a' => fTy b fun b' => K (.cons a' b')
  | .int k, _, K => K (.int k)
  | .bool, _, K => K .bool
  | .str, _, K => K .str
  | .nil, _, K => K .nil
theorem fTy_eq : ∀ (t : Ty) {R : Type} (K : Ty → R), fTy t K = K t
  | .lst e, _, K => by unfold fTy; rw [fTy_eq]
  | .map a b, _, K => by unfold fTy; rw [fTy_eq, fTy_eq]
  | .cons a b, _, K => by unfold fTy; rw [fTy_eq, fTy_eq]
  | .int k, _, K => rfl
  | .bool, _, K => rfl
  | .str, _, K => rfl
  | .nil, _, K => rfl
/-- The plain type of a type: as many cells, one value or several. -/
def tyOf (P : Program) (t : TypeId) : Option Ty :=
  match tyOfN P 8 t with
  | some T => fTy T fun T => if szOf P t = some T.size ∧ isAg P t = some T.ag then some T else none
  | none => none
theorem tyOf_ok {P : Program} {t : TypeId} {T : Ty} (h : tyOf P t = some T) : szOf P t = some T.size ∧ isAg P t = some T.ag := by
  unfold tyOf at h
  split at h
  · rw [fTy_eq] at h
    split at h
    · rename_i hh; cases h; exact hh
    · cases h
  · cases h

theorem apart_rep {P : Program} {g : FM} {t : TypeId} {T : Ty} (ht : tyOf P t = some T) {c : List AV} {off : Nat} {v : T.D} (hl : off + T.size ≤ c.length) (hr : RepC g T ((c.drop off).take T.size) v) : ∃ x, apart P t c off = some x ∧ RepV g T x v := by
  obtain ⟨h1, h2⟩ := tyOf_ok ht
  obtain ⟨k1, k2⟩ := RepV.ofC hr
  unfold apart
  rw [h1, h2]
  cases ha : T.ag with
  | true => exact ⟨_, by simp only [if_pos hl], k1 ha⟩
  | false =>
    obtain ⟨x, hx, hv⟩ := k2 ha
    refine ⟨x, ?_, hv⟩
    have hs : T.size = 1 := by cases T <;> first | rfl | cases ha
    have := congrArg (fun l => l[0]?) hx
    simp only [hs] at this
    rw [List.getElem?_take, if_pos (by omega), List.getElem?_drop] at this
    simpa using this

end
/-! V1 -/
section
set_option linter.unusedSimpArgs false
set_option linter.unusedVariables false
open Go Go.RowKit

/-- What is known of a value. nl and cn are lists of such. -/
inductive SV where
  | dead
  | un
  | con (x : AV)
  | kb (b : Bool)
  | pv (t : Ty) (v : t.D)
  | ptr (k off : Nat)
  | row (k : Nat)
  | view (k : Nat) (a b : Int)
  | ept (k : Nat) (i : Int) (o : Nat)
  | osl (k off n : Nat)
  | fpt (t : Ty) (v : t.D) (o : Nat)
  | gpt (g : Nat) (t : Ty) (l : List t.D)
  | mp (k : Nat)
  | fn (f : FuncId) (a b : SV)
  | ifc (t : TypeId) (x : SV)
  | tup (x : SV)
  | agg (x : SV)
  | nl
  | cn (a b : SV)

instance : Inhabited SV := ⟨.dead⟩

inductive SO where
  | obj (t : TypeId) (cs : SV)
  | row (e : TypeId) (t : Ty) (l : List t.D)
  | map (kt et : Ty) (m : GMap kt.D et.D)
  | sit (s : List UInt8) (p : Int)
  | arr (e : TypeId) (n sz : Nat) (cs : SV)

structure VS where
  ts : List SV
  os : List (Option SO)

/-! ### Lists of them -/
def SV.nth : SV → Nat → Option SV
  | .cn a _, 0 => some a
  | .cn _ b, n + 1 => b.nth n
  | _, _ => none
def SV.len : SV → Nat
  | .cn _ b => b.len + 1
  | _ => 0
def SV.drp : SV → Nat → SV
  | s, 0 => s
  | .cn _ b, n + 1 => b.drp n
  | _, _ + 1 => .nl
def SV.tk : SV → Nat → SV
  | _, 0 => .nl
  | .cn a b, n + 1 => .cn a (b.tk n)
  | _, _ + 1 => .nl
def SV.app : SV → SV → SV
  | .cn a b, s => .cn a (b.app s)
  | _, s => s
def SV.ofList : List SV → SV
  | [] => .nl
  | a :: l => .cn a (SV.ofList l)

def SV.okC : SV → Bool
  | .pv t _ => !t.ag
  | .con c => c.one
  | .kb _ | .ptr _ _ | .row _ | .view _ _ _ | .ept _ _ _ | .fpt _ _ _ | .gpt _ _ _ | .mp _ | .fn _ _ _ | .ifc _ _ => true
  | _ => false
def SV.okL : SV → Bool
  | .nl => true
  | .cn a b => a.okC && b.okL
  | _ => false

/-! ### The relation -/
def hid : AV → Option Nat
  | .ptr id _ => some id
  | .sl id _ _ _ => some id
  | .map id => some id
  | _ => none

section
variable (g : FM) (H : List AV)
/-- Such values are so known: one, or a list. -/
def SVL : SV → List AV → Prop
  | .dead, l => ∃ x, l = [x]
  | .un, l => l = [.undef]
  | .con c, l => l = [c]
  | .kb b, l => l = [.bool b]
  | .pv t v, l => ∃ x, l = [x] ∧ RepV g t x v
  | .ptr k off, l => ∃ id, H[k]? = some (.ptr id 0) ∧ l = [.ptr id off]
  | .row k, l => ∃ x, H[k]? = some x ∧ l = [x] ∧ (x = nilS ∨ ∃ id off n sz, x = .sl id off n sz)
  | .view k a b, l => 0 ≤ a ∧ a ≤ b ∧ ((∃ id off n sz, H[k]? = some (.sl id off n sz) ∧ b ≤ n ∧ l = [.sl id (off + a.toNat * sz) (b.toNat - a.toNat) sz]) ∨ (H[k]? = some nilS ∧ a = 0 ∧ b = 0 ∧ l = [nilS]))
  | .ept k i o, l => 0 ≤ i ∧ ∃ id off n sz, H[k]? = some (.sl id off n sz) ∧ i < n ∧ l = [.ptr id (off + i.toNat * sz + o)]
  | .osl k o n, l => ∃ id, H[k]? = some (.ptr id 0) ∧ l = [.sl id o n 1]
  | .fpt t v o, l => ((∃ id off c, l = [.ptr id (off + o)] ∧ g.c id = some c ∧ off + t.size ≤ c.length ∧ RepC g t ((c.drop off).take t.size) v) ∨
      (∃ id off c, l = [.val (.pointer (some ⟨id, off + o, none⟩))] ∧ g.v id = some c ∧ off + t.size ≤ c.length ∧ RepC g t ((c.drop off).take t.size) v))
  | .gpt n t zs, l => l = [.val (.pointer (some ⟨n, 0, none⟩))] ∧ ∃ xs, g.v n = some xs.flatten ∧ All2 (RepC g t) xs zs
  | .mp k, l => ∃ id, H[k]? = some (.map id) ∧ l = [.map id]
  | .fn f a b, l => ∃ xs ys, l = [.func (.func f) xs ys] ∧ SVL a xs ∧ SVL b ys
  | .ifc t s, l => ∃ x, l = [.iface t x] ∧ SVL s [x]
  | .tup s, l => ∃ xs, l = [.tup xs] ∧ SVL s xs
  | .agg s, l => ∃ xs, l = [.agg xs] ∧ SVL s xs
  | .nl, l => l = []
  | .cn a b, l => ∃ x xs, l = x :: xs ∧ SVL a [x] ∧ SVL b xs

def SVR (s : SV) (x : AV) : Prop := SVL g H s [x]

def EntV (kt et : Ty) (a : AV × AV × Nat) (b : kt.D × et.D × Nat) : Prop := RepV g kt a.1 b.1 ∧ RepV g et a.2.1 b.2.1 ∧ a.2.2 = b.2.2

def SOR (h : AH) : SO → AV → Prop
  | .obj t cs, x => ∃ id c, x = .ptr id 0 ∧ h.get id = some (.cells c true 0 (some (t, true))) ∧ SVL g H cs c ∧ cs.okL = true
  | .row e t l, x => (x = nilS ∧ l = []) ∨ ∃ id off c xs, x = .sl id off l.length t.size ∧ h.get id = some (.cells c true 0 (some (e, false))) ∧ off + l.length * t.size ≤ c.length ∧ (c.drop off).take (l.length * t.size) = xs.flatten ∧ All2 (RepC g t) xs l
  | .map kt et m, x => ∃ id es, x = .map id ∧ h.get id = some (.map es m.clock) ∧ All2 (EntV g kt et) es m.es
  | .sit s p, x => ∃ id, x = .ptr id 0 ∧ 0 ≤ p ∧ h.get id = some (.siter s p.toNat)
  | .arr e n sz cs, x => ∃ id c, x = .sl id 0 n sz ∧ h.get id = some (.cells c true 0 (some (e, false))) ∧ SVL g H cs c ∧ cs.okL = true
end

variable {g g' : FM} {H H' : List AV}

def Hpre (H H' : List AV) : Prop := ∀ (k : Nat) (x : AV), H[k]? = some x → H'[k]? = some x
theorem Hpre.refl (H : List AV) : Hpre H H := fun _ _ h => h
theorem Hpre.trans {A B C : List AV} (h : Hpre A B) (k : Hpre B C) : Hpre A C := fun i x hx => k i x (h i x hx)
theorem Hpre.add (H : List AV) (x : AV) : Hpre H (H ++ [x]) := fun k y h => by
  have hk : k < H.length := by
    rcases Nat.lt_or_ge k H.length with h' | h'
    · exact h'
    · rw [List.getElem?_eq_none h'] at h; cases h
  rw [List.getElem?_append_left hk]; exact h

theorem EntV.mono (hg : g.le g') {kt et : Ty} {a : AV × AV × Nat} {b : kt.D × et.D × Nat} (h : EntV g kt et a b) : EntV g' kt et a b := ⟨h.1.mono hg, h.2.1.mono hg, h.2.2⟩

theorem SVL.mono (hg : g.le g') (hH : Hpre H H') : ∀ {s : SV} {l : List AV}, SVL g H s l → SVL g' H' s l
  | .dead, _, h => h
  | .un, _, h => h
  | .con _, _, h => h
  | .kb _, _, h => h
  | .pv t v, _, h => by obtain ⟨x, rfl, h⟩ := h; exact ⟨x, rfl, h.mono hg⟩
  | .ptr k off, _, h => by obtain ⟨id, h1, h2⟩ := h; exact ⟨id, hH _ _ h1, h2⟩
  | .row k, _, h => by obtain ⟨x, h1, h2⟩ := h; exact ⟨x, hH _ _ h1, h2⟩
  | .view k a b, _, h => by
    obtain ⟨h1, h2, h3⟩ := h
    refine ⟨h1, h2, ?_⟩
    rcases h3 with ⟨id, n, sz, hz, h3, h4⟩ | ⟨h3, h4⟩
    · exact .inl ⟨id, n, sz, hz, hH _ _ h3, h4⟩
    · exact .inr ⟨hH _ _ h3, h4⟩
  | .ept k i o, _, h => by obtain ⟨h0, id, off, n, sz, h1, h2⟩ := h; exact ⟨h0, id, off, n, sz, hH _ _ h1, h2⟩
  | .osl k o n, _, h => by obtain ⟨id, h1, h2⟩ := h; exact ⟨id, hH _ _ h1, h2⟩
  | .fpt t v o, _, h => by
    rcases h with ⟨id, off, c, h1, h2, h3, h4⟩ | ⟨id, off, c, h1, h2, h3, h4⟩
    · exact .inl ⟨id, off, c, h1, hg.c _ _ h2, h3, h4.mono hg⟩
    · exact .inr ⟨id, off, c, h1, hg.v _ _ h2, h3, h4.mono hg⟩
  | .gpt n t zs, _, h => by obtain ⟨h1, xs, h2, h3⟩ := h; exact ⟨h1, xs, hg.v _ _ h2, h3.mono fun c v => RepC.mono hg⟩
  | .mp k, _, h => by obtain ⟨x, h1, h2⟩ := h; exact ⟨x, hH _ _ h1, h2⟩
  | .fn f a b, _, h => by obtain ⟨xs, ys, h1, h2, h3⟩ := h; exact ⟨xs, ys, h1, SVL.mono hg hH h2, SVL.mono hg hH h3⟩
  | .ifc t s, _, h => by obtain ⟨x, h1, h2⟩ := h; exact ⟨x, h1, SVL.mono hg hH h2⟩
  | .tup s, _, h => by obtain ⟨xs, h1, h2⟩ := h; exact ⟨xs, h1, SVL.mono hg hH h2⟩
  | .agg s, _, h => by obtain ⟨xs, h1, h2⟩ := h; exact ⟨xs, h1, SVL.mono hg hH h2⟩
  | .nl, _, h => h
  | .cn a b, _, h => by obtain ⟨x, xs, h1, h2, h3⟩ := h; exact ⟨x, xs, h1, SVL.mono hg hH h2, SVL.mono hg hH h3⟩

theorem SVL.reb {B : Nat → Prop} : ∀ {s : SV} {l : List AV}, SVL g H s l → SVL ⟨g.c, g.v, B⟩ H s l
  | .dead, _, h => h
  | .un, _, h => h
  | .con _, _, h => h
  | .kb _, _, h => h
  | .pv t v, _, h => by obtain ⟨x, rfl, h⟩ := h; exact ⟨x, rfl, h.reb⟩
  | .ptr k off, _, h => h
  | .row k, _, h => h
  | .view k a b, _, h => h
  | .ept k i o, _, h => h
  | .osl k o n, _, h => h
  | .fpt t v o, _, h => by
    rcases h with ⟨id, off, c, h1, h2, h3, h4⟩ | ⟨id, off, c, h1, h2, h3, h4⟩
    · exact .inl ⟨id, off, c, h1, h2, h3, h4.reb⟩
    · exact .inr ⟨id, off, c, h1, h2, h3, h4.reb⟩
  | .gpt n t zs, _, h => by obtain ⟨h1, xs, h2, h3⟩ := h; exact ⟨h1, xs, h2, h3.mono fun c v => RepC.reb⟩
  | .mp k, _, h => h
  | .fn f a b, _, h => by obtain ⟨xs, ys, h1, h2, h3⟩ := h; exact ⟨xs, ys, h1, SVL.reb h2, SVL.reb h3⟩
  | .ifc t s, _, h => by obtain ⟨x, h1, h2⟩ := h; exact ⟨x, h1, SVL.reb h2⟩
  | .tup s, _, h => by obtain ⟨xs, h1, h2⟩ := h; exact ⟨xs, h1, SVL.reb h2⟩
  | .agg s, _, h => by obtain ⟨xs, h1, h2⟩ := h; exact ⟨xs, h1, SVL.reb h2⟩
  | .nl, _, h => h
  | .cn a b, _, h => by obtain ⟨x, xs, h1, h2, h3⟩ := h; exact ⟨x, xs, h1, SVL.reb h2, SVL.reb h3⟩

theorem SVR.mono (hg : g.le g') (hH : Hpre H H') {s : SV} {x : AV} (h : SVR g H s x) : SVR g' H' s x := SVL.mono hg hH h

/-! ### Lists -/
theorem SVL.nth : ∀ {s : SV} {l : List AV} {i : Nat} {a : SV}, SVL g H s l → s.nth i = some a → ∃ x, l[i]? = some x ∧ SVR g H a x
  | .cn a b, _, 0, _, h, hn => by obtain ⟨x, xs, rfl, h1, h2⟩ := h; cases hn; exact ⟨x, rfl, h1⟩
  | .cn a b, _, i + 1, _, h, hn => by obtain ⟨x, xs, rfl, h1, h2⟩ := h; obtain ⟨y, k1, k2⟩ := SVL.nth h2 hn; exact ⟨y, by simpa using k1, k2⟩
  | .dead, _, _, _, _, hn => by simp [SV.nth] at hn
  | .un, _, _, _, _, hn => by simp [SV.nth] at hn
  | .con _, _, _, _, _, hn => by simp [SV.nth] at hn
  | .kb _, _, _, _, _, hn => by simp [SV.nth] at hn
  | .pv _ _, _, _, _, _, hn => by simp [SV.nth] at hn
  | .ptr _ _, _, _, _, _, hn => by simp [SV.nth] at hn
  | .row _, _, _, _, _, hn => by simp [SV.nth] at hn
  | .view _ _ _, _, _, _, _, hn => by simp [SV.nth] at hn
  | .ept _ _ _, _, _, _, _, hn => by simp [SV.nth] at hn
  | .osl _ _ _, _, _, _, _, hn => by simp [SV.nth] at hn
  | .fpt _ _ _, _, _, _, _, hn => by simp [SV.nth] at hn
  | .gpt _ _ _, _, _, _, _, hn => by simp [SV.nth] at hn
  | .mp _, _, _, _, _, hn => by simp [SV.nth] at hn
  | .fn _ _ _, _, _, _, _, hn => by simp [SV.nth] at hn
  | .ifc _ _, _, _, _, _, hn => by simp [SV.nth] at hn
  | .tup _, _, _, _, _, hn => by simp [SV.nth] at hn
  | .agg _, _, _, _, _, hn => by simp [SV.nth] at hn
  | .nl, _, _, _, _, hn => by simp [SV.nth] at hn

/-- Is it such a list? -/
def SV.isL : SV → Bool
  | .nl => true
  | .cn _ b => b.isL
  | _ => false

theorem SVL.len : ∀ {s : SV} {l : List AV}, s.isL = true → SVL g H s l → l.length = s.len
  | .nl, _, _, h => by cases h; rfl
  | .cn a b, _, hl, h => by obtain ⟨x, xs, rfl, h1, h2⟩ := h; simp [SV.len, SVL.len (s := b) hl h2]
  | .dead, _, hl, _ => by cases hl
  | .un, _, hl, _ => by cases hl
  | .con _, _, hl, _ => by cases hl
  | .kb _, _, hl, _ => by cases hl
  | .pv _ _, _, hl, _ => by cases hl
  | .ptr _ _, _, hl, _ => by cases hl
  | .row _, _, hl, _ => by cases hl
  | .view _ _ _, _, hl, _ => by cases hl
  | .ept _ _ _, _, hl, _ => by cases hl
  | .osl _ _ _, _, hl, _ => by cases hl
  | .fpt _ _ _, _, hl, _ => by cases hl
  | .gpt _ _ _, _, hl, _ => by cases hl
  | .mp _, _, hl, _ => by cases hl
  | .fn _ _ _, _, hl, _ => by cases hl
  | .ifc _ _, _, hl, _ => by cases hl
  | .tup _, _, hl, _ => by cases hl
  | .agg _, _, hl, _ => by cases hl

theorem SVL.drp : ∀ {n : Nat} {s : SV} {l : List AV}, s.isL = true → n ≤ s.len → SVL g H s l → SVL g H (s.drp n) (l.drop n)
  | 0, s, l, _, _, h => by simpa [SV.drp] using h
  | n + 1, .cn a b, _, hl, hn, h => by
    obtain ⟨x, xs, rfl, h1, h2⟩ := h
    simp only [SV.drp, List.drop_succ_cons]
    exact SVL.drp (s := b) hl (by simp [SV.len] at hn; omega) h2
  | n + 1, .nl, _, hl, hn, h => by simp [SV.len] at hn
theorem SVL.tk : ∀ {n : Nat} {s : SV} {l : List AV}, s.isL = true → n ≤ s.len → SVL g H s l → SVL g H (s.tk n) (l.take n)
  | 0, s, l, _, _, h => by cases s <;> simp [SV.tk, SVL]
  | n + 1, .cn a b, _, hl, hn, h => by
    obtain ⟨x, xs, rfl, h1, h2⟩ := h
    exact ⟨x, xs.take n, rfl, h1, SVL.tk (s := b) hl (by simp [SV.len] at hn; omega) h2⟩
  | n + 1, .nl, _, hl, hn, h => by simp [SV.len] at hn
theorem SVL.app : ∀ {s s' : SV} {l l' : List AV}, s.isL = true → SVL g H s l → SVL g H s' l' → SVL g H (s.app s') (l ++ l')
  | .nl, _, _, _, _, h, k => by cases h; exact k
  | .cn a b, _, _, _, hl, h, k => by obtain ⟨x, xs, rfl, h1, h2⟩ := h; exact ⟨x, xs ++ _, rfl, h1, SVL.app (s := b) hl h2 k⟩
theorem SV.isL_drp : ∀ {n : Nat} {s : SV}, s.isL = true → (s.drp n).isL = true
  | 0, s, h => by simpa [SV.drp] using h
  | n + 1, .cn a b, h => SV.isL_drp (n := n) (s := b) h
  | n + 1, .nl, h => rfl
theorem SV.isL_tk : ∀ {n : Nat} {s : SV}, (s.tk n).isL = true
  | 0, s => by cases s <;> rfl
  | n + 1, .cn a b => SV.isL_tk (n := n) (s := b)
  | n + 1, .nl => rfl
  | n + 1, .dead => rfl
  | n + 1, .un => rfl
  | n + 1, .con _ => rfl
  | n + 1, .kb _ => rfl
  | n + 1, .pv _ _ => rfl
  | n + 1, .ptr _ _ => rfl
  | n + 1, .row _ => rfl
  | n + 1, .view _ _ _ => rfl
  | n + 1, .ept _ _ _ => rfl
  | n + 1, .osl _ _ _ => rfl
  | n + 1, .fpt _ _ _ => rfl
  | n + 1, .gpt _ _ _ => rfl
  | n + 1, .mp _ => rfl
  | n + 1, .fn _ _ _ => rfl
  | n + 1, .ifc _ _ => rfl
  | n + 1, .tup _ => rfl
  | n + 1, .agg _ => rfl
theorem SV.isL_app : ∀ {s s' : SV}, s.isL = true → s'.isL = true → (s.app s').isL = true
  | .nl, _, _, k => k
  | .cn a b, _, h, k => SV.isL_app (s := b) h k
theorem SV.len_drp : ∀ {n : Nat} {s : SV}, s.isL = true → (s.drp n).len = s.len - n
  | 0, s, h => by simp [SV.drp]
  | n + 1, .cn a b, h => by simp [SV.drp, SV.len, SV.len_drp (n := n) (s := b) h]
  | n + 1, .nl, h => by simp [SV.drp, SV.len]
theorem SVL.ofList {α : Type} {f : α → SV} {e : α → AV} (h : ∀ a, SVR g H (f a) (e a)) : ∀ l : List α, SVL g H (SV.ofList (l.map f)) (l.map e)
  | [] => rfl
  | a :: l => ⟨e a, l.map e, rfl, h a, SVL.ofList h l⟩
theorem SV.isL_ofList : ∀ l : List SV, (SV.ofList l).isL = true
  | [] => rfl
  | a :: l => SV.isL_ofList l

/-! ### Memory -/
def FM.ok (g : FM) (h : AH) : Prop := (∀ id c, g.c id = some c → ∃ own fz ty, h.get id = some (.cells c own fz ty)) ∧ ∀ id c, g.v id = some c → h.get id = some (.gvar id c)

structure VMem (h0 : AH) (X : List Nat) (g : FM) (H : List AV) (os : List (Option SO)) (h : AH) : Prop where
  n : h0.n ≤ h.n
  old : ∀ k o, k ∉ X → h0.get k = some o → h.get k = some o
  fz : g.ok h
  hl : H.length = os.length
  so : ∀ (k : Nat) (o : SO) (x : AV), os[k]? = some (some o) → H[k]? = some x → SOR g H h o x
  own : ∀ (k : Nat) (o : SO) (x : AV) (id : Nat), os[k]? = some (some o) → H[k]? = some x → hid x = some id → (id ∈ X ∨ h0.n ≤ id) ∧ g.c id = none ∧ g.v id = none
  gx : ∀ id c, g.c id = some c → g.b id ∨ id ∈ X ∨ h0.n ≤ id
  nd : ∀ (k : Nat) (o : SO) (x : AV) (k' : Nat) (o' : SO) (x' : AV) (id : Nat), os[k]? = some (some o) → H[k]? = some x → os[k']? = some (some o') → H[k']? = some x' → hid x = some id → hid x' = some id → k = k'

structure EnvR (g : FM) (H : List AV) (ts : List SV) (env : List AV) : Prop where
  len : env.length = ts.length
  get : ∀ (d : Nat) (s : SV) (x : AV), ts[d]? = some s → env[d]? = some x → SVR g H s x

theorem EnvR.mono (hg : g.le g') (hH : Hpre H H') {ts : List SV} {env : List AV} (h : EnvR g H ts env) : EnvR g' H' ts env := ⟨h.len, fun d s x h1 h2 => (h.get d s x h1 h2).mono hg hH⟩
theorem EnvR.set {ts : List SV} {env : List AV} (h : EnvR g H ts env) (d : Nat) {s : SV} {x : AV} (hr : SVR g H s x) : EnvR g H (ts.set d s) (env.set d x) := by
  refine ⟨by simp [h.len], fun d' s' x' h1 h2 => ?_⟩
  rw [List.getElem?_set] at h1 h2
  split at h1
  · rename_i e
    rw [if_pos e] at h2
    split at h1
    · rw [if_pos (by rw [h.len]; assumption)] at h2; cases h1; cases h2; exact hr
    · cases h1
  · rename_i e
    rw [if_neg e] at h2
    exact h.get d' s' x' h1 h2

/-- Other things known of the temporaries. -/
theorem EnvR.turn {ts : List SV} {env : List AV} (h : EnvR g H ts env) (d : Nat) {s : SV} (hr : ∀ x, env[d]? = some x → SVR g H s x) : EnvR g H (ts.set d s) env := by
  refine ⟨by simp [h.len], fun d' s' x' h1 h2 => ?_⟩
  rw [List.getElem?_set] at h1
  split at h1
  · rename_i e
    subst e
    split at h1
    · cases h1; exact hr _ h2
    · cases h1
  · exact h.get d' s' x' h1 h2

theorem SOR.keep {h h' : AH} {o : SO} {x : AV} (hr : SOR g H h o x) (hk : ∀ id q, hid x = some id → h.get id = some q → h'.get id = some q) : SOR g H h' o x := by
  cases o with
  | obj t cs => obtain ⟨id, c, rfl, h1, h2⟩ := hr; exact ⟨id, c, rfl, hk _ _ rfl h1, h2⟩
  | row e t l =>
    rcases hr with h1 | ⟨id, off, c, xs, rfl, h1, h2⟩
    · exact .inl h1
    · exact .inr ⟨id, off, c, xs, rfl, hk _ _ rfl h1, h2⟩
  | map kt et m => obtain ⟨id, es, rfl, h1, h2⟩ := hr; exact ⟨id, es, rfl, hk _ _ rfl h1, h2⟩
  | sit s p => obtain ⟨id, rfl, h1, h2⟩ := hr; exact ⟨id, rfl, h1, hk _ _ rfl h2⟩
  | arr e n sz cs => obtain ⟨id, c, rfl, h1, h2⟩ := hr; exact ⟨id, c, rfl, hk _ _ rfl h1, h2⟩
theorem SOR.mono (hg : g.le g') (hH : Hpre H H') {h : AH} {o : SO} {x : AV} (hr : SOR g H h o x) : SOR g' H' h o x := by
  cases o with
  | obj t cs => obtain ⟨id, c, h0, h1, h2, h3⟩ := hr; exact ⟨id, c, h0, h1, h2.mono hg hH, h3⟩
  | row e t l =>
    rcases hr with h1 | ⟨id, off, c, xs, h0, h1, h2, h3, h4⟩
    · exact .inl h1
    · exact .inr ⟨id, off, c, xs, h0, h1, h2, h3, h4.mono fun c v => RepC.mono hg⟩
  | map kt et m => obtain ⟨id, es, h0, h1, h2⟩ := hr; exact ⟨id, es, h0, h1, h2.mono fun a b => EntV.mono hg⟩
  | sit s p => exact hr
  | arr e n sz cs => obtain ⟨id, c, h0, h1, h2, h3⟩ := hr; exact ⟨id, c, h0, h1, h2.mono hg hH, h3⟩
theorem SOR.reb {B : Nat → Prop} {h : AH} {o : SO} {x : AV} (hr : SOR g H h o x) : SOR ⟨g.c, g.v, B⟩ H h o x := by
  cases o with
  | obj t cs => obtain ⟨id, c, h0, h1, h2, h3⟩ := hr; exact ⟨id, c, h0, h1, h2.reb, h3⟩
  | row e t l =>
    rcases hr with h1 | ⟨id, off, c, xs, h0, h1, h2, h3, h4⟩
    · exact .inl h1
    · exact .inr ⟨id, off, c, xs, h0, h1, h2, h3, h4.mono fun c v => RepC.reb⟩
  | map kt et m => obtain ⟨id, es, h0, h1, h2⟩ := hr; exact ⟨id, es, h0, h1, h2.mono fun a b h => ⟨h.1.reb, h.2.1.reb, h.2.2⟩⟩
  | sit s p => exact hr
  | arr e n sz cs => obtain ⟨id, c, h0, h1, h2, h3⟩ := hr; exact ⟨id, c, h0, h1, h2.reb, h3⟩
theorem SOR.lt {h : AH} {o : SO} {x : AV} {id : Nat} (hr : SOR g H h o x) (hx : hid x = some id) : id < h.n := by
  cases o with
  | obj t cs => obtain ⟨i, c, rfl, h1, h2⟩ := hr; cases hx; exact AH.get_lt h1
  | row e t l =>
    rcases hr with ⟨rfl, _⟩ | ⟨i, off, c, xs, rfl, h1, h2⟩
    · cases hx
    · cases hx; exact AH.get_lt h1
  | map kt et m => obtain ⟨i, es, rfl, h1, h2⟩ := hr; cases hx; exact AH.get_lt h1
  | sit s p => obtain ⟨i, rfl, h1, h2⟩ := hr; cases hx; exact AH.get_lt h2
  | arr e n sz cs => obtain ⟨i, c, rfl, h1, h2⟩ := hr; cases hx; exact AH.get_lt h1

section
variable {h0 h h' : AH} {X : List Nat} {os : List (Option SO)}

theorem set_at {α : Type} {l : List α} {k j : Nat} {a b : α} (h : (l.set k a)[j]? = some b) : (j = k ∧ b = a ∧ k < l.length) ∨ (j ≠ k ∧ l[j]? = some b) := by
  rw [List.getElem?_set] at h
  split at h
  · rename_i e
    split at h
    · cases h; exact .inl ⟨e.symm, rfl, by assumption⟩
    · cases h
  · rename_i e; exact .inr ⟨fun hh => e hh.symm, h⟩
theorem app_at {α : Type} {l : List α} {j : Nat} {a b : α} (h : (l ++ [a])[j]? = some b) : (j = l.length ∧ b = a) ∨ (j < l.length ∧ l[j]? = some b) := by
  rcases Nat.lt_or_ge j l.length with hj | hj
  · rw [List.getElem?_append_left hj] at h; exact .inr ⟨hj, h⟩
  · rw [List.getElem?_append_right hj] at h
    cases e : j - l.length with
    | zero => rw [e] at h; simp at h; exact .inl ⟨by omega, h.symm⟩
    | succ n => rw [e] at h; simp at h
theorem lt_at {α : Type} {l : List α} {j : Nat} {b : α} (h : l[j]? = some b) : j < l.length := by
  rcases Nat.lt_or_ge j l.length with h' | h'
  · exact h'
  · rw [List.getElem?_eq_none h'] at h; cases h

/-- A slot that is forgotten, with whatever becomes of its block. -/
theorem VMem.chg (M : VMem h0 X g H os h) {k : Nat} {o : SO} {x : AV} {id : Nat} (hk : os[k]? = some (some o)) (hx : H[k]? = some x) (hi : hid x = some id) (hn : h.n ≤ h'.n) (hf : ∀ j q, j ≠ id → h.get j = some q → h'.get j = some q) :
    VMem h0 X g H (os.set k none) h' := by
  obtain ⟨w1, w2, w3⟩ := M.own k o x id hk hx hi
  refine ⟨Nat.le_trans M.n hn, fun j q hj hq => hf j q (fun e => ?_) (M.old j q hj hq), ⟨fun j c hj => ?_, fun j c hj => ?_⟩, by simp [M.hl], fun j o' x' h1 h2 => ?_, fun j o' x' i h1 h2 h3 => ?_, M.gx, fun j o' x' j' o'' x'' i h1 h2 h3 h4 h5 h6 => ?_⟩
  · subst e
    rcases w1 with w1 | w1
    · exact hj w1
    · have := AH.get_lt hq; omega
  · obtain ⟨a, b, c', hq⟩ := M.fz.1 j c hj
    exact ⟨a, b, c', hf j _ (fun e => by subst e; rw [w2] at hj; cases hj) hq⟩
  · exact hf j _ (fun e => by subst e; rw [w3] at hj; cases hj) (M.fz.2 j c hj)
  · rcases set_at h1 with ⟨_, e, _⟩ | ⟨hne, h1⟩
    · cases e
    · exact (M.so j o' x' h1 h2).keep fun i q hi' hq => hf i q (fun e => by subst e; exact hne (M.nd j o' x' k o x _ h1 h2 hk hx hi' hi)) hq
  · rcases set_at h1 with ⟨_, e, _⟩ | ⟨hne, h1⟩
    · cases e
    · exact M.own j o' x' i h1 h2 h3
  · rcases set_at h1 with ⟨_, e, _⟩ | ⟨hne, h1⟩
    · cases e
    · rcases set_at h3 with ⟨_, e, _⟩ | ⟨hne', h3⟩
      · cases e
      · exact M.nd j o' x' j' o'' x'' i h1 h2 h3 h4 h5 h6

theorem VMem.drop (M : VMem h0 X g H os h) (k : Nat) : VMem h0 X g H (os.set k none) h := by
  refine ⟨M.n, M.old, M.fz, by simp [M.hl], fun j o' x' h1 h2 => ?_, fun j o' x' i h1 h2 h3 => ?_, M.gx, fun j o' x' j' o'' x'' i h1 h2 h3 h4 h5 h6 => ?_⟩
  · rcases set_at h1 with ⟨_, e, _⟩ | ⟨hne, h1⟩
    · cases e
    · exact M.so j o' x' h1 h2
  · rcases set_at h1 with ⟨_, e, _⟩ | ⟨hne, h1⟩
    · cases e
    · exact M.own j o' x' i h1 h2 h3
  · rcases set_at h1 with ⟨_, e, _⟩ | ⟨hne, h1⟩
    · cases e
    · rcases set_at h3 with ⟨_, e, _⟩ | ⟨hne', h3⟩
      · cases e
      · exact M.nd j o' x' j' o'' x'' i h1 h2 h3 h4 h5 h6

/-- Another content in the same place. -/
theorem VMem.upd (M : VMem h0 X g H os h) {k : Nat} {o : SO} {x : AV} {id : Nat} (hk : os[k]? = some (some o)) (hx : H[k]? = some x) (hi : hid x = some id) (hn : h.n ≤ h'.n) (hf : ∀ j q, j ≠ id → h.get j = some q → h'.get j = some q)
    {o' : SO} (ho : SOR g H h' o' x) : VMem h0 X g H (os.set k (some o')) h' := by
  have C := M.chg hk hx hi hn hf
  have hlt := lt_at hk
  have old : ∀ {j p}, (os.set k (some o'))[j]? = some (some p) → (j = k ∧ p = o') ∨ (j ≠ k ∧ (os.set k none)[j]? = some (some p) ∧ os[j]? = some (some p)) := fun {j p} hj => by
    rcases set_at hj with ⟨e, e', _⟩ | ⟨hne, hj⟩
    · cases e'; exact .inl ⟨e, rfl⟩
    · exact .inr ⟨hne, by rw [List.getElem?_set_ne (fun e => hne e.symm)]; exact hj, hj⟩
  refine ⟨C.n, C.old, C.fz, by simp [M.hl], fun j p x' h1 h2 => ?_, fun j p x' i h1 h2 h3 => ?_, M.gx, fun j p x' j' p' x'' i h1 h2 h3 h4 h5 h6 => ?_⟩
  · rcases old h1 with ⟨rfl, rfl⟩ | ⟨hne, h1, _⟩
    · rw [hx] at h2; cases h2; exact ho
    · exact C.so j p x' h1 h2
  · rcases old h1 with ⟨rfl, rfl⟩ | ⟨hne, _, h1⟩
    · exact M.own j o x' i hk h2 h3
    · exact M.own j p x' i h1 h2 h3
  · rcases old h1 with ⟨rfl, rfl⟩ | ⟨hne, _, h1'⟩
    · rcases old h3 with ⟨rfl, rfl⟩ | ⟨hne', _, h3⟩
      · rfl
      · exact M.nd j o x' j' p' x'' i hk h2 h3 h4 h5 h6
    · rcases old h3 with ⟨rfl, rfl⟩ | ⟨hne', _, h3⟩
      · exact M.nd j p x' j' o x'' i h1' h2 hk h4 h5 h6
      · exact M.nd j p x' j' p' x'' i h1' h2 h3 h4 h5 h6

/-- Another content, without a change of memory. -/
theorem VMem.say (M : VMem h0 X g H os h) {k : Nat} {o : SO} {x : AV} (hk : os[k]? = some (some o)) (hx : H[k]? = some x) {o' : SO} (ho : SOR g H h o' x) : VMem h0 X g H (os.set k (some o')) h := by
  have old : ∀ {j p}, (os.set k (some o'))[j]? = some (some p) → (j = k ∧ p = o') ∨ (j ≠ k ∧ os[j]? = some (some p)) := fun {j p} hj => by
    rcases set_at hj with ⟨e, e', _⟩ | ⟨hne, hj⟩
    · cases e'; exact .inl ⟨e, rfl⟩
    · exact .inr ⟨hne, hj⟩
  refine ⟨M.n, M.old, M.fz, by simp [M.hl], fun j p x' h1 h2 => ?_, fun j p x' i h1 h2 h3 => ?_, M.gx, fun j p x' j' p' x'' i h1 h2 h3 h4 h5 h6 => ?_⟩
  · rcases old h1 with ⟨rfl, rfl⟩ | ⟨hne, h1⟩
    · rw [hx] at h2; cases h2; exact ho
    · exact M.so j p x' h1 h2
  · rcases old h1 with ⟨rfl, rfl⟩ | ⟨hne, h1⟩
    · exact M.own j o x' i hk h2 h3
    · exact M.own j p x' i h1 h2 h3
  · rcases old h1 with ⟨rfl, rfl⟩ | ⟨hne, h1'⟩
    · rcases old h3 with ⟨rfl, rfl⟩ | ⟨hne', h3⟩
      · rfl
      · exact M.nd j o x' j' p' x'' i hk h2 h3 h4 h5 h6
    · rcases old h3 with ⟨rfl, rfl⟩ | ⟨hne', h3⟩
      · exact M.nd j p x' j' o x'' i h1' h2 hk h4 h5 h6
      · exact M.nd j p x' j' p' x'' i h1' h2 h3 h4 h5 h6

/-- One more slot. -/
theorem VMem.add (M : VMem h0 X g H os h) (hn : h.n ≤ h'.n) (hf : ∀ j q, h.get j = some q → h'.get j = some q) {o : SO} {x : AV} (hx : ∀ id, hid x = some id → h.n ≤ id) (ho : SOR g (H ++ [x]) h' o x) :
    VMem h0 X g (H ++ [x]) (os ++ [some o]) h' := by
  have hp := Hpre.add H x
  have hle := FM.le.refl g
  have old : ∀ {j p y}, (os ++ [some o])[j]? = some (some p) → (H ++ [x])[j]? = some y → (j = os.length ∧ p = o ∧ y = x) ∨ (os[j]? = some (some p) ∧ H[j]? = some y) := fun {j p y} hj hy => by
    rcases app_at hj with ⟨e, e'⟩ | ⟨hlt, hj⟩
    · cases e'
      rcases app_at hy with ⟨_, e''⟩ | ⟨hlt, _⟩
      · exact .inl ⟨e, rfl, e''⟩
      · rw [M.hl] at hlt; omega
    · rcases app_at hy with ⟨e, _⟩ | ⟨_, hy⟩
      · rw [M.hl] at e; omega
      · exact .inr ⟨hj, hy⟩
  have gn : ∀ id, h.n ≤ id → g.c id = none ∧ g.v id = none := fun id hid => by
    refine ⟨?_, ?_⟩
    · cases e : g.c id with
      | none => rfl
      | some c => obtain ⟨_, _, _, hq⟩ := M.fz.1 id c e; have := AH.get_lt hq; omega
    · cases e : g.v id with
      | none => rfl
      | some c => have := AH.get_lt (M.fz.2 id c e); omega
  refine ⟨Nat.le_trans M.n hn, fun j q hj hq => hf j q (M.old j q hj hq), ⟨fun j c hj => let ⟨a, b, d, hq⟩ := M.fz.1 j c hj; ⟨a, b, d, hf _ _ hq⟩, fun j c hj => hf _ _ (M.fz.2 j c hj)⟩, by simp [M.hl], fun j p y h1 h2 => ?_, fun j p y i h1 h2 h3 => ?_, M.gx, fun j p y j' p' y' i h1 h2 h3 h4 h5 h6 => ?_⟩
  · rcases old h1 h2 with ⟨rfl, rfl, rfl⟩ | ⟨h1, h2⟩
    · exact ho
    · exact ((M.so j p y h1 h2).mono hle hp).keep fun i q _ hq => hf i q hq
  · rcases old h1 h2 with ⟨rfl, rfl, rfl⟩ | ⟨h1, h2⟩
    · have := hx i h3; exact ⟨.inr (Nat.le_trans M.n this), gn i this⟩
    · exact M.own j p y i h1 h2 h3
  · rcases old h1 h2 with ⟨rfl, rfl, rfl⟩ | ⟨h1', h2'⟩
    · rcases old h3 h4 with ⟨rfl, rfl, rfl⟩ | ⟨h3, h4⟩
      · rfl
      · have := hx i h5; have := (M.so j' p' y' h3 h4).lt h6; omega
    · rcases old h3 h4 with ⟨rfl, rfl, rfl⟩ | ⟨h3, h4⟩
      · have := hx i h6; have := (M.so j p y h1' h2').lt h5; omega
      · exact M.nd j p y j' p' y' i h1' h2' h3 h4 h5 h6
end

end
/-! V2 -/
section
set_option linter.unusedSimpArgs false
set_option linter.unusedVariables false
open Go Go.RowKit

/-! ### How results go on: really, or only to see which ways out there are -/
structure Md (R : Type) where
  real : Bool
  mrg : R → R → R

section
variable {R α : Type}
def vbind (m : Md R) (d : α) (x : Option α) (k : α → Option R) : Option R := bif m.real then oBind x k else k d
def vcond (m : Md R) (b : Bool) (x y : Option R) : Option R :=
  bif m.real then (oCond b x y) else
  match x, y with
  | some a, some c => some (m.mrg a c)
  | some a, none => some a
  | none, y => y
theorem vbind_ok {m : Md R} (hm : m.real = true) {d : α} {x : Option α} {k : α → Option R} {r : R} (h : vbind m d x k = some r) : ∃ a, x = some a ∧ k a = some r := by
  unfold vbind at h
  rw [hm] at h
  exact obind h
theorem vcond_ok {m : Md R} (hm : m.real = true) {b : Bool} {x y : Option R} {r : R} (h : vcond m b x y = some r) : (b = true ∧ x = some r) ∨ (b = false ∧ y = some r) := by
  unfold vcond at h
  rw [hm] at h
  cases b
  · exact .inr ⟨rfl, h⟩
  · exact .inl ⟨rfl, h⟩
end

/-! ### Constants and operands -/
def cellSV : Value → SV
  | .int k n => .pv (.int k) n
  | .bool b => .kb b
  | .string s => .pv .str s.data.toList
  | v => .con (ofCell v)
def litSV : Value → SV
  | .agg cs => .agg (SV.ofList (cs.toList.map cellSV))
  | .tuple _ => .dead
  | v => cellSV v

/-- Told variables: an array of such elements. -/
structure GVar where
  g : Nat
  t : Ty
  l : List t.D
def gfind (n : Nat) : List GVar → Option GVar
  | [] => none
  | x :: xs => if x.g = n then some x else gfind n xs
def GOK (g : FM) (gl : List GVar) : Prop := ∀ x ∈ gl, ∃ xs, g.v x.g = some xs.flatten ∧ All2 (RepC g x.t) xs x.l
theorem GOK.mono {g g' : FM} (hg : g.le g') {gl : List GVar} (h : GOK g gl) : GOK g' gl := fun x hx => let ⟨xs, h1, h2⟩ := h x hx; ⟨xs, hg.v _ _ h1, h2.mono fun _ _ => RepC.mono hg⟩
theorem GOK.reb {g : FM} {B : Nat → Prop} {gl : List GVar} (h : GOK g gl) : GOK ⟨g.c, g.v, B⟩ gl := fun x hx => let ⟨xs, h1, h2⟩ := h x hx; ⟨xs, h1, h2.mono fun _ _ => RepC.reb⟩
theorem gfind_mem {n : Nat} {x : GVar} : ∀ {l : List GVar}, gfind n l = some x → x ∈ l ∧ x.g = n
  | [], h => by cases h
  | y :: l, h => by
    unfold gfind at h
    split at h
    · cases h; exact ⟨List.mem_cons_self .., by assumption⟩
    · obtain ⟨h1, h2⟩ := gfind_mem h; exact ⟨List.mem_cons_of_mem _ h1, h2⟩

def evS (gl : List GVar) (S : VS) : Operand → SV
  | .tmp t => S.ts.getD t .dead
  | .const v => litSV v
  | .global g => match gfind g gl with
    | some x => .gpt g x.t x.l
    | none => .con (.val (.pointer (some ⟨g, 0, none⟩)))
  | .func f => .fn f .nl .nl

section
variable {g : FM} {H : List AV}
theorem cellSV_ok (v : Value) : SVR g H (cellSV v) (ofCell v) := by
  cases v with
  | int k n => exact ⟨_, rfl, rfl⟩
  | bool b => exact rfl
  | string s => exact ⟨_, rfl, rfl⟩
  | _ => exact rfl
theorem litSV_ok (v : Value) : SVR g H (litSV v) (ofValue v) := by
  cases v with
  | agg cs => exact ⟨_, rfl, by
      have := SVL.ofList (g := g) (H := H) (f := cellSV) (e := ofCell) cellSV_ok cs.toList
      exact this⟩
  | tuple _ => exact ⟨_, rfl⟩
  | int k n => exact cellSV_ok (.int k n)
  | bool b => exact cellSV_ok (.bool b)
  | string s => exact cellSV_ok (.string s)
  | _ => exact rfl

theorem evS_ok {gl : List GVar} (hG : GOK g gl) {S : VS} {env : List AV} (E : EnvR g H S.ts env) (o : Operand) : SVR g H (evS gl S o) (evalOp env o) := by
  cases o with
  | tmp t =>
    show SVR g H (S.ts.getD t .dead) (env.getD t .undef)
    rw [List.getD_eq_getElem?_getD, List.getD_eq_getElem?_getD]
    cases h1 : S.ts[t]? with
    | none => exact ⟨_, rfl⟩
    | some s =>
      have hlt := lt_at h1
      have h2 : env[t]? = some (env[t]'(by rw [E.len]; exact hlt)) := List.getElem?_eq_getElem (by rw [E.len]; exact hlt)
      rw [h2]
      exact E.get t s _ h1 h2
  | const v => exact litSV_ok v
  | global n =>
    show SVR g H (match gfind n gl with | some x => .gpt n x.t x.l | none => .con (.val (.pointer (some ⟨n, 0, none⟩)))) (.val (.pointer (some ⟨n, 0, none⟩)))
    split
    · rename_i x hx
      obtain ⟨h1, rfl⟩ := gfind_mem hx
      obtain ⟨xs, h2, h3⟩ := hG x h1
      exact ⟨rfl, xs, h2, h3⟩
    · exact rfl
  | func f => exact ⟨[], [], rfl, rfl, rfl⟩
end

/-! ### Plain values -/
/-- The value of a cell of a plain type. -/
def toC (t : Ty) : SV → Option t.D
  | .pv t' v => asT t' t v
  | .kb b => asT .bool t b
  | .con (.val (.slice none 0 0)) => match t with
    | .lst e => some ([] : List e.D)
    | _ => none
  | _ => none
def toA : (t : Ty) → SV → Option (t.D × SV)
  | .nil, s => some ((), s)
  | .cons a b, s => match toA a s with
    | some (x, s') => match toA b s' with
      | some (y, s'') => some ((x, y), s'')
      | none => none
    | none => none
  | t, .cn a s => match t.ag, toC t a with
    | false, some x => some (x, s)
    | _, _ => none
  | _, _ => none
def toT (t : Ty) : SV → Option t.D
  | .agg s => if t.ag then (match toA t s with | some (x, .nl) => some x | _ => none) else none
  | s => toC t s

section
variable {g : FM} {H : List AV}
theorem asT_ok {t t' : Ty} {v : t.D} {v' : t'.D} (h : asT t t' v = some v') {x : AV} (hr : RepV g t x v) : RepV g t' x v' := by
  unfold asT at h
  split at h
  · rename_i e; cases h; exact hr.cast e
  · cases h
theorem RepV.bool (b : Bool) : RepV g .bool (.bool b) b := rfl
theorem toC_ok {t : Ty} {s : SV} {v : t.D} (h : toC t s = some v) {x : AV} (hr : SVR g H s x) : RepV g t x v := by
  unfold toC at h
  split at h
  · obtain ⟨y, e, hv⟩ := hr; cases e; exact asT_ok h hv
  · cases hr; exact asT_ok h (RepV.bool _)
  · cases hr
    split at h
    · cases h; exact ⟨_, rfl, .inl ⟨rfl, rfl⟩⟩
    · cases h
  · cases h
theorem RepV.c1 {t : Ty} (ht : t.ag = false) {x : AV} {v : t.D} (h : RepV g t x v) : RepC g t [x] v := by unfold RepV at h; rwa [if_neg (by simp [ht])] at h
theorem toA_ok : ∀ {t : Ty} {s : SV} {v : t.D} {s' : SV} {l : List AV}, toA t s = some (v, s') → SVL g H s l → ∃ c1 c2, l = c1 ++ c2 ∧ RepC g t c1 v ∧ SVL g H s' c2
  | .nil, s, v, s', l, h, hr => by unfold toA at h; cases h; exact ⟨[], l, rfl, rfl, hr⟩
  | .cons a b, s, v, s', l, h, hr => by
    unfold toA at h
    split at h
    · rename_i x s1 h1
      split at h
      · rename_i y s2 h2
        cases h
        obtain ⟨c1, c2, rfl, k1, k2⟩ := toA_ok h1 hr
        obtain ⟨c3, c4, rfl, k3, k4⟩ := toA_ok h2 k2
        exact ⟨c1 ++ c3, c4, by simp, ⟨c1, c3, rfl, k1, k3⟩, k4⟩
      · cases h
    · cases h
  | .int k, s, v, s', l, h, hr => by
    cases s <;> simp only [toA] at h <;> first | (cases h; done) | skip
    obtain ⟨x, xs, rfl, h1, h2⟩ := hr
    split at h
    · cases h; exact ⟨[x], xs, rfl, (toC_ok ‹_› h1).c1 rfl, h2⟩
    · cases h
  | .bool, s, v, s', l, h, hr => by
    cases s <;> simp only [toA] at h <;> first | (cases h; done) | skip
    obtain ⟨x, xs, rfl, h1, h2⟩ := hr
    split at h
    · cases h; exact ⟨[x], xs, rfl, (toC_ok ‹_› h1).c1 rfl, h2⟩
    · cases h
  | .str, s, v, s', l, h, hr => by
    cases s <;> simp only [toA] at h <;> first | (cases h; done) | skip
    obtain ⟨x, xs, rfl, h1, h2⟩ := hr
    split at h
    · cases h; exact ⟨[x], xs, rfl, (toC_ok ‹_› h1).c1 rfl, h2⟩
    · cases h
  | .lst e, s, v, s', l, h, hr => by
    cases s <;> simp only [toA] at h <;> first | (cases h; done) | skip
    obtain ⟨x, xs, rfl, h1, h2⟩ := hr
    split at h
    · cases h; exact ⟨[x], xs, rfl, (toC_ok ‹_› h1).c1 rfl, h2⟩
    · cases h
  | .map _ _, s, v, s', l, h, hr => by
    cases s <;> simp only [toA] at h <;> first | (cases h; done) | skip
    obtain ⟨x, xs, rfl, h1, h2⟩ := hr
    split at h
    · cases h; exact ⟨[x], xs, rfl, (toC_ok ‹_› h1).c1 rfl, h2⟩
    · cases h
theorem toT_ok {t : Ty} {s : SV} {v : t.D} (h : toT t s = some v) {x : AV} (hr : SVR g H s x) : RepV g t x v := by
  unfold toT at h
  split at h
  · split at h
    · rename_i ht
      split at h
      · rename_i y h1
        cases h
        obtain ⟨xs, e, hx⟩ := hr
        cases e
        obtain ⟨c1, c2, rfl, k1, k2⟩ := toA_ok h1 hx
        cases k2
        rw [List.append_nil]
        exact (RepV.ofC k1).1 ht
      · cases h
    · cases h
  · exact toC_ok h hr
end

/-! ### Cells -/
def flatT : (t : Ty) → t.D → SV → SV
  | .nil, _, r => r
  | .cons a b, v, r => flatT a v.1 (flatT b v.2 r)
  | t, v, r => .cn (.pv t v) r
/-- The cells of a value. -/
def cellsSV : SV → Option SV
  | .agg s => if s.okL then some s else none
  | .pv t v => if t.ag then some (flatT t v .nl) else some (.cn (.pv t v) .nl)
  | s => if s.okC then some (.cn s .nl) else none

section
variable {g : FM} {H : List AV}
theorem SV.okC_one {s : SV} (h : s.okC = true) {x : AV} (hr : SVR g H s x) : x.one = true := by
  cases s with
  | pv t v =>
    obtain ⟨y, e, hv⟩ := hr
    cases e
    have ht : t.ag = false := by simpa [SV.okC] using h
    have := (hv.c1 ht).ones
    simpa using this
  | con c => cases hr; exact h
  | kb b => cases hr; rfl
  | ptr k o => obtain ⟨id, _, e⟩ := hr; cases e; rfl
  | row k => obtain ⟨y, _, e, rfl | ⟨_, _, _, _, rfl⟩⟩ := hr <;> cases e <;> rfl
  | view k a b => obtain ⟨_, _, ⟨id, off, n, sz, _, _, e⟩ | ⟨_, _, _, e⟩⟩ := hr <;> cases e <;> rfl
  | ept k i o => obtain ⟨_, id, off, n, sz, _, _, e⟩ := hr; cases e; rfl
  | fpt t v o => obtain ⟨id, off, c, e, _⟩ | ⟨id, off, c, e, _⟩ := hr <;> cases e <;> rfl
  | gpt n t l => obtain ⟨e, _⟩ := hr; cases e; rfl
  | mp k => obtain ⟨id, _, e⟩ := hr; cases e; rfl
  | fn f a b => obtain ⟨xs, ys, e, _⟩ := hr; cases e; rfl
  | ifc t a => obtain ⟨y, e, _⟩ := hr; cases e; rfl
  | _ => cases h
theorem SV.okL_isL : ∀ {s : SV}, s.okL = true → s.isL = true
  | .nl, _ => rfl
  | .cn a b, h => by simp only [SV.okL, Bool.and_eq_true] at h; exact SV.okL_isL (s := b) h.2
theorem SVL.ones : ∀ {s : SV} {l : List AV}, s.okL = true → SVL g H s l → l.all AV.one = true
  | .nl, _, _, h => by cases h; rfl
  | .cn a b, _, ho, h => by
    obtain ⟨x, xs, rfl, h1, h2⟩ := h
    simp only [SV.okL, Bool.and_eq_true] at ho
    simp only [List.all_cons, SV.okC_one ho.1 h1, SVL.ones ho.2 h2, Bool.and_self]
theorem flatT_ok : ∀ {t : Ty} {v : t.D} {c : List AV} {r : SV} {l : List AV}, RepC g t c v → SVL g H r l → SVL g H (flatT t v r) (c ++ l)
  | .nil, _, _, _, _, h, k => by cases h; exact k
  | .cons a b, v, _, r, l, h, k => by
    obtain ⟨c1, c2, rfl, h1, h2⟩ := h
    unfold flatT
    rw [List.append_assoc]
    exact flatT_ok h1 (flatT_ok h2 k)
  | .int _, _, _, _, _, h, k => by cases h; exact ⟨_, _, rfl, ⟨_, rfl, rfl⟩, k⟩
  | .bool, _, _, _, _, h, k => by cases h; exact ⟨_, _, rfl, ⟨_, rfl, rfl⟩, k⟩
  | .str, _, _, _, _, h, k => by cases h; exact ⟨_, _, rfl, ⟨_, rfl, rfl⟩, k⟩
  | .lst e, _, _, _, _, h, k => by
    have h0 := h
    obtain ⟨x, rfl, h⟩ := h
    exact ⟨_, _, rfl, ⟨x, rfl, h0⟩, k⟩
  | .map _ _, _, _, _, _, h, k => h.elim
theorem flatT_okL : ∀ {t : Ty} {v : t.D} {r : SV}, r.okL = true → (flatT t v r).okL = true
  | .nil, _, _, k => k
  | .cons a b, v, _, k => flatT_okL (t := a) (flatT_okL (t := b) k)
  | .int _, _, _, k => by simp [flatT, SV.okL, SV.okC, Ty.ag, k]
  | .bool, _, _, k => by simp [flatT, SV.okL, SV.okC, Ty.ag, k]
  | .str, _, _, k => by simp [flatT, SV.okL, SV.okC, Ty.ag, k]
  | .lst e, _, _, k => by simp [flatT, SV.okL, SV.okC, Ty.ag, k]
  | .map _ _, _, _, k => by simp [flatT, SV.okL, SV.okC, Ty.ag, k]

theorem cellsSV_ok {s cs : SV} (h : cellsSV s = some cs) {x : AV} (hr : SVR g H s x) : ∃ l, x.cells = some l ∧ SVL g H cs l ∧ l.all AV.one = true ∧ cs.okL = true := by
  have one : ∀ {s : SV}, s.okC = true → SVR g H s x → ∃ l, x.cells = some l ∧ SVL g H (.cn s .nl) l ∧ l.all AV.one = true ∧ (SV.cn s .nl).okL = true := fun {s} hs hr => by
    have ho := SV.okC_one hs hr
    refine ⟨[x], ?_, ⟨x, [], rfl, hr, rfl⟩, by simp [ho], by simp [SV.okL, hs]⟩
    unfold AV.cells
    split
    · cases ho
    · rw [if_pos ho]
  unfold cellsSV at h
  split at h
  · split at h
    · rename_i ho
      cases h
      obtain ⟨xs, e, hx⟩ := hr
      cases e
      exact ⟨xs, rfl, hx, SVL.ones ho hx, ho⟩
    · cases h
  · rename_i t v
    split at h
    · rename_i ht
      cases h
      obtain ⟨y, e, hv⟩ := hr
      cases e
      obtain ⟨c, h1, h2⟩ := hv.cells
      refine ⟨c, h1, ?_, h2.ones, flatT_okL rfl⟩
      have := flatT_ok (H := H) (r := .nl) (l := []) h2 rfl
      simpa using this
    · rename_i ht
      cases h
      exact one (by simp [SV.okC, ht]) hr
  · split at h
    · rename_i ho; cases h; exact one ho hr
    · cases h
end

end
/-! V3 -/
section
set_option linter.unusedSimpArgs false
set_option linter.unusedVariables false
open Go Go.RowKit

section
variable {R : Type}
/-! ### Operators -/
def vint (m : Md R) (op : BinOp) (k : IntKind) (x y : Int) (K : SV → Option R) : Option R :=
  match op with
  | .add => K (.pv (.int k) (oAdd k x y))
  | .sub => K (.pv (.int k) (oSub k x y))
  | .mul => K (.pv (.int k) (oMul k x y))
  | .quo => vbind m (0 : Int) (quoI k x y) fun z => K (.pv (.int k) z)
  | .rem => vbind m (0 : Int) (remI x y) fun z => K (.pv (.int k) z)
  | .and => K (.pv (.int k) (andI k x y))
  | .or => K (.pv (.int k) (orI k x y))
  | .xor => K (.pv (.int k) (xorI k x y))
  | .andNot => K (.pv (.int k) (andNotI k x y))
  | .eql => K (.pv .bool (oEqI x y))
  | .neq => K (.pv .bool (oNeI x y))
  | .lss => K (.pv .bool (oLt x y))
  | .leq => K (.pv .bool (oLe x y))
  | .gtr => K (.pv .bool (oGt x y))
  | .geq => K (.pv .bool (oGe x y))
  | _ => none
def vshift (m : Md R) (op : BinOp) (k : IntKind) (x y : Int) (K : SV → Option R) : Option R :=
  match op with
  | .shl => vbind m (0 : Int) (shlI k x y) fun z => K (.pv (.int k) z)
  | .shr => vbind m (0 : Int) (shrI x k y) fun z => K (.pv (.int k) z)
  | _ => none
def vstr (m : Md R) (op : BinOp) (x y : List UInt8) (K : SV → Option R) : Option R :=
  match op with
  | .add => vbind m ([] : List UInt8) (cat x y) fun z => K (.pv .str z)
  | .eql => K (.pv .bool (oEqS x y))
  | .neq => K (.pv .bool (oNot (oEqS x y)))
  | .lss => K (.pv .bool (oBl x y))
  | .leq => K (.pv .bool (oOr (oBl x y) (oEqS x y)))
  | .gtr => K (.pv .bool (oNot (oOr (oBl x y) (oEqS x y))))
  | .geq => K (.pv .bool (oNot (oBl x y)))
  | _ => none
/-- A bool: known, or not. -/
def vnot : SV → Option SV
  | .kb b => some (.kb !b)
  | .pv t v => match asT t .bool v with
    | some b => some (.pv .bool (oNot b))
    | none => none
  | _ => none
/-- Is what is known of two values enough to tell whether they are the same? -/
def kEq : SV → SV → Option Bool
  | .con (.val (.pointer none)), .con (.val (.pointer none)) => some true
  | .con (.val (.pointer none)), .ptr _ _ => some false
  | .ptr _ _, .con (.val (.pointer none)) => some false
  | .con (.val (.map none)), .mp _ => some false
  | .mp _, .con (.val (.map none)) => some false
  | .con (.val (.slice none _ _)), .con (.val (.slice none _ _)) => some true
  | .con (.val .nilFunc), .con (.val .nilFunc) => some true
  | .con (.val .nilFunc), .fn _ _ _ => some false
  | .fn _ _ _, .con (.val .nilFunc) => some false
  | .con (.val .nilIface), .ifc _ _ => some false
  | .ifc _ _, .con (.val .nilIface) => some false
  | _, _ => none
/-- The type that such a comparison is of. -/
def kEqTy (d : Option TypeDesc) (a b : SV) : Bool :=
  match d with
  | some (.pointer _) => (match a, b with | .con (.val (.pointer none)), _ => true | _, .con (.val (.pointer none)) => true | _, _ => false)
  | some (.map _ _) => (match a, b with | .con (.val (.map none)), _ => true | _, .con (.val (.map none)) => true | _, _ => false)
  | some (.slice _) => (match a, b with | .con (.val (.slice none _ _)), _ => true | _, _ => false)
  | some (.func _ _ _) => (match a, b with | .con (.val .nilFunc), _ => true | _, .con (.val .nilFunc) => true | _, _ => false)
  | some (.interface _) => (match a, b with | .con (.val .nilIface), .ifc _ _ => true | .ifc _ _, .con (.val .nilIface) => true | _, _ => false)
  | _ => false
def vbin (P : Program) (m : Md R) (op : BinOp) (t : TypeId) (a b : SV) (K : SV → Option R) : Option R :=
  match a, b with
  | .pv (.int k) x, .pv (.int k') y => if op = .shl ∨ op = .shr then vshift m op k x y K else if k = k' then vint m op k x y K else none
  | .pv .str x, .pv .str y => vstr m op x y K
  | a, b =>
    if op = .eql ∨ op = .neq then
      match toC .bool a, toC .bool b with
      | some x, some y => (match P.underlying t with | some .bool => K (.pv .bool (if op = .eql then oEqB x y else oNot (oEqB x y))) | _ => none)
      | _, _ => match kEq a b with
        | some c => if kEqTy (P.underlying t) a b then K (.kb (if op = .eql then c else !c)) else none
        | none => none
    else none
end

section
variable {R : Type} {m : Md R} {g : FM} {H : List AV}
theorem pvR {t : Ty} (ht : t.ag = false) {v : t.D} {x : AV} (h : SVR g H (.pv t v) x) : RepC g t [x] v := by
  obtain ⟨y, e, hv⟩ := h; cases e; exact hv.c1 ht
theorem pvI {k : IntKind} {n : Int} {x : AV} (h : SVR g H (.pv (.int k) n) x) : x = .int k n := by
  have := pvR rfl h; simpa [RepC] using this
theorem pvB {b : Bool} {x : AV} (h : SVR g H (.pv .bool b) x) : x = .bool b := by
  have := pvR rfl h; simpa [RepC] using this
theorem pvS {l : List UInt8} {x : AV} (h : SVR g H (.pv .str l) x) : x = .str l := by
  have := pvR rfl h; simpa [RepC] using this
theorem int_pv (k : IntKind) (n : Int) : SVR g H (.pv (.int k) n) (.int k n) := ⟨_, rfl, rfl⟩
theorem bool_pv (b : Bool) : SVR g H (.pv .bool b) (.bool b) := ⟨_, rfl, rfl⟩
theorem str_pv (l : List UInt8) : SVR g H (.pv .str l) (.str l) := ⟨_, rfl, rfl⟩

theorem vint_ok (hm : m.real = true) {op : BinOp} {k : IntKind} {x y : Int} {K : SV → Option R} {r : R} (h : vint m op k x y K = some r) : ∃ v s, aint op k x y = some v ∧ SVR g H s v ∧ K s = some r := by
  unfold vint at h
  split at h <;> first | (exact ⟨_, _, rfl, int_pv _ _, h⟩) | (exact ⟨_, _, rfl, bool_pv _, h⟩) | skip
  · obtain ⟨z, hz, hk⟩ := vbind_ok hm h; exact ⟨_, _, quo_int hz, int_pv _ _, hk⟩
  · obtain ⟨z, hz, hk⟩ := vbind_ok hm h; exact ⟨_, _, rem_int hz, int_pv _ _, hk⟩
  · cases h
theorem vshift_ok (hm : m.real = true) {op : BinOp} {k : IntKind} {x y : Int} {K : SV → Option R} {r : R} (h : vshift m op k x y K = some r) : ∃ v s, ashift op k x y = some v ∧ SVR g H s v ∧ K s = some r := by
  unfold vshift at h
  split at h
  · obtain ⟨z, hz, hk⟩ := vbind_ok hm h; exact ⟨_, _, shl_int hz, int_pv _ _, hk⟩
  · obtain ⟨z, hz, hk⟩ := vbind_ok hm h; exact ⟨_, _, shr_int hz, int_pv _ _, hk⟩
  · cases h
theorem vstr_ok (hm : m.real = true) {op : BinOp} {x y : List UInt8} {K : SV → Option R} {r : R} (h : vstr m op x y K = some r) : ∃ v s, astrop op x y = some v ∧ SVR g H s v ∧ K s = some r := by
  unfold vstr at h
  split at h <;> first | (exact ⟨_, _, rfl, bool_pv _, h⟩) | skip
  · obtain ⟨z, hz, hk⟩ := vbind_ok hm h; exact ⟨_, _, cat_str hz, str_pv _, hk⟩
  · cases h

theorem toC_bool {s : SV} {b : Bool} (h : toC .bool s = some b) {x : AV} (hr : SVR g H s x) : x = .bool b := by
  have := toC_ok h hr
  have := RepV.c1 rfl this
  simpa [RepC] using this

theorem conR {c x : AV} (h : SVR g H (.con c) x) : x = c := by cases h; rfl
theorem ptrR {k o : Nat} {x : AV} (h : SVR g H (.ptr k o) x) : ∃ id, x = .ptr id o := by obtain ⟨id, _, e⟩ := h; cases e; exact ⟨id, rfl⟩
theorem mpR {k : Nat} {x : AV} (h : SVR g H (.mp k) x) : ∃ id, x = .map id := by obtain ⟨id, _, e⟩ := h; cases e; exact ⟨id, rfl⟩
theorem fnR {f : FuncId} {a b : SV} {x : AV} (h : SVR g H (.fn f a b) x) : ∃ xs ys, x = .func (.func f) xs ys := by obtain ⟨xs, ys, e, _⟩ := h; cases e; exact ⟨xs, ys, rfl⟩
theorem ifcR {t : TypeId} {a : SV} {x : AV} (h : SVR g H (.ifc t a) x) : ∃ y, x = .iface t y := by obtain ⟨y, e, _⟩ := h; cases e; exact ⟨y, rfl⟩
theorem kEq_ok {P : Program} {t : TypeId} {a b : SV} {c : Bool} (h : kEq a b = some c) (ht : kEqTy (P.underlying t) a b = true) {x y : AV} (ha : SVR g H a x) (hb : SVR g H b y) {op : BinOp} (ho : op = .eql ∨ op = .neq) (xc yc : Bool) :
    abin P op t xc yc x y = some (.bool (if op = .eql then c else !c)) := by
  have key : ∀ {x y : AV}, (∀ k n k' n', ¬ (x = .int k n ∧ y = .int k' n')) → (∀ k n, ¬ (x = .str k ∧ y = .str n)) → abin P op t xc yc x y = aeqOp P op t xc yc x y := fun {x y} h1 h2 => by
    unfold abin
    split
    · rename_i k n k' n'; exact absurd ⟨rfl, rfl⟩ (h1 k n k' n')
    · rename_i k n; exact absurd ⟨rfl, rfl⟩ (h2 k n)
    · rfl
  have fin : ∀ {x y : AV} {c : Bool}, aeqOp P op t xc yc x y = some (.bool (if op = .eql then c else !c)) → (∀ k n k' n', ¬ (x = .int k n ∧ y = .int k' n')) → (∀ k n, ¬ (x = .str k ∧ y = .str n)) → abin P op t xc yc x y = some (.bool (if op = .eql then c else !c)) := fun h h1 h2 => by rw [key h1 h2]; exact h
  unfold kEq at h
  split at h <;> cases h
  · obtain rfl := conR ha; obtain rfl := conR hb
    unfold kEqTy at ht
    split at ht <;> first | (cases ht; done) | skip
    rename_i hu; exact fin (by simp [aeqOp, ho, eqForm, isNilI, isAggV, aeq, hu, aeqCell]) (by intros; simp) (by intros; simp)
  · obtain rfl := conR ha; obtain ⟨id, rfl⟩ := ptrR hb
    unfold kEqTy at ht
    split at ht <;> first | (cases ht; done) | skip
    rename_i hu; exact fin (by simp [aeqOp, ho, eqForm, isNilI, isAggV, aeq, hu, aeqCell]) (by intros; simp) (by intros; simp)
  · obtain rfl := conR hb; obtain ⟨id, rfl⟩ := ptrR ha
    unfold kEqTy at ht
    split at ht <;> first | (cases ht; done) | skip
    rename_i hu; exact fin (by simp [aeqOp, ho, eqForm, isNilI, isAggV, aeq, hu, aeqCell]) (by intros; simp) (by intros; simp)
  · obtain rfl := conR ha; obtain ⟨id, rfl⟩ := mpR hb
    unfold kEqTy at ht
    split at ht <;> first | (cases ht; done) | skip
    rename_i hu; exact fin (by simp [aeqOp, ho, eqForm, isNilI, isAggV, aeq, hu, aeqCell]) (by intros; simp) (by intros; simp)
  · obtain rfl := conR hb; obtain ⟨id, rfl⟩ := mpR ha
    unfold kEqTy at ht
    split at ht <;> first | (cases ht; done) | skip
    rename_i hu; exact fin (by simp [aeqOp, ho, eqForm, isNilI, isAggV, aeq, hu, aeqCell]) (by intros; simp) (by intros; simp)
  · obtain rfl := conR ha; obtain rfl := conR hb
    unfold kEqTy at ht
    split at ht <;> first | (cases ht; done) | skip
    rename_i hu; exact fin (by simp [aeqOp, ho, eqForm, isNilI, isAggV, aeq, hu, aeqCell]) (by intros; simp) (by intros; simp)
  · obtain rfl := conR ha; obtain rfl := conR hb
    unfold kEqTy at ht
    split at ht <;> first | (cases ht; done) | skip
    rename_i hu; exact fin (by simp [aeqOp, ho, eqForm, isNilI, isAggV, aeq, hu, aeqCell]) (by intros; simp) (by intros; simp)
  · obtain rfl := conR ha; obtain ⟨_, _, rfl⟩ := fnR hb
    unfold kEqTy at ht
    split at ht <;> first | (cases ht; done) | skip
    rename_i hu; exact fin (by simp [aeqOp, ho, eqForm, isNilI, isAggV, aeq, hu, aeqCell]) (by intros; simp) (by intros; simp)
  · obtain rfl := conR hb; obtain ⟨_, _, rfl⟩ := fnR ha
    unfold kEqTy at ht
    split at ht <;> first | (cases ht; done) | skip
    rename_i hu; exact fin (by simp [aeqOp, ho, eqForm, isNilI, isAggV, aeq, hu, aeqCell]) (by intros; simp) (by intros; simp)
  · obtain rfl := conR ha; obtain ⟨_, rfl⟩ := ifcR hb
    unfold kEqTy at ht
    split at ht <;> first | (cases ht; done) | skip
    rename_i hu; exact fin (by simp [aeqOp, ho, eqForm, isNilI, isAggV, aeq, hu, aeqCell]) (by intros; simp) (by intros; simp)
  · obtain rfl := conR hb; obtain ⟨_, rfl⟩ := ifcR ha
    unfold kEqTy at ht
    split at ht <;> first | (cases ht; done) | skip
    rename_i hu; exact fin (by simp [aeqOp, ho, eqForm, isNilI, isAggV, aeq, hu, aeqCell]) (by intros; simp) (by intros; simp)

theorem vbin_ok {P : Program} (hm : m.real = true) {op : BinOp} {t : TypeId} {a b : SV} {K : SV → Option R} {r : R} (h : vbin P m op t a b K = some r) {x y : AV} (ha : SVR g H a x) (hb : SVR g H b y) (xc yc : Bool) :
    ∃ v s, abin P op t xc yc x y = some v ∧ SVR g H s v ∧ K s = some r := by
  unfold vbin at h
  split at h
  · rw [pvI ha, pvI hb]
    unfold abin
    split at h
    · rename_i ho; simp only [if_pos ho]; exact vshift_ok hm h
    · rename_i ho
      split at h
      · rename_i e; subst e; simp only [if_neg ho, if_true]; exact vint_ok hm h
      · cases h
  · rw [pvS ha, pvS hb]
    exact vstr_ok hm h
  · split at h
    · rename_i ho
      split at h
      · rename_i u v hu hv
        rw [toC_bool hu ha, toC_bool hv hb]
        split at h
        · rename_i hut
          refine ⟨_, _, ?_, bool_pv _, h⟩
          simp only [abin, aeqOp, if_pos ho, eqForm, isNilI, isAggV, aeq, hut, aeqCell, Bool.and_self, Bool.and_true, Bool.true_and, Bool.not_false, Bool.false_and, Bool.true_or, if_true, Option.map_some]
        · cases h
      · split at h
        · rename_i c hc
          split at h
          · rename_i ht
            exact ⟨_, .kb _, kEq_ok hc ht ha hb ho xc yc, rfl, h⟩
          · cases h
        · cases h
    · cases h
end

end
/-! V4 -/
section
set_option linter.unusedSimpArgs false
set_option linter.unusedVariables false
open Go Go.RowKit

section
variable {R : Type}
/-- A composite, as a plain value where it is one. -/
def normA (P : Program) (t : TypeId) (s : SV) : SV :=
  match tyOf P t with
  | some T => match toT T s with
    | some v => .pv T v
    | none => s
  | none => s

/-- Cells of a list of such. -/
def cellsAt (P : Program) (t : TypeId) (cs : SV) (off : Nat) : Option SV :=
  match isAg P t with
  | some true => match szOf P t with
    | some n => if off + n ≤ cs.len then some (normA P t (.agg ((cs.drp off).tk n))) else none
    | none => none
  | some false => cs.nth off
  | none => none

def partAt (P : Program) (t : TypeId) (T : Ty) (v : T.D) (o : Nat) : Option SV :=
  match tyOf P t with
  | some T' => match partT T v o T' with
    | some w => some (.pv T' w)
    | none => none
  | none => none

def vload (P : Program) (m : Md R) (S : VS) (t : TypeId) (a : SV) (K : SV → Option R) : Option R :=
  match a with
  | .ptr k off => match S.os[k]? with
    | some (some (.obj _ cs)) => match cellsAt P t cs off with
      | some s => K s
      | none => none
    | _ => none
  | .fpt T v o => match partAt P t T v o with
    | some s => K s
    | none => none
  | .ept k i o => match S.os[k]? with
    | some (some (.row _ T l)) => vbind m T.dflt (idxL l i) fun v => match partAt P t T v o with
      | some s => K s
      | none => none
    | some (some (.arr _ _ sz cs)) => match cellsAt P t cs (i.toNat * sz + o) with
      | some s => K s
      | none => none
    | _ => none
  | _ => none

def vfieldAddr (P : Program) (t : TypeId) (a : SV) (f : Nat) : Option SV :=
  match fieldsOf P t with
  | some fs => match fs[f]? with
    | some fd => match szOf P fd.type with
      | some n => if n = 0 then none else match a with
        | .ptr k off => some (.ptr k (off + fd.offset))
        | .fpt T v o => some (.fpt T v (o + fd.offset))
        | .ept k i o => some (.ept k i (o + fd.offset))
        | _ => none
      | none => none
    | none => none
  | none => none

def vfield (P : Program) (t : TypeId) (a : SV) (f : Nat) : Option SV :=
  match fieldsOf P t with
  | some fs => match fs[f]? with
    | some fd => match a with
      | .agg cs => if cs.okL then cellsAt P fd.type cs fd.offset else none
      | .pv T v => if T.ag then partAt P fd.type T v fd.offset else none
      | _ => none
    | none => none
  | none => none

def natLit : Operand → Option Nat
  | .const (.int _ n) => if 0 ≤ n then some n.toNat else none
  | _ => none

def vindexAddr (P : Program) (m : Md R) (S : VS) (t : TypeId) (a i : SV) (lit : Option Nat) (K : SV → Option R) : Option R :=
  match i with
  | .pv (.int _) i => match P.underlying t with
    | some (.slice e) => match a with
      | .row k => match S.os[k]? with
        | some (some (.row _ T l)) => if szOf P e = some T.size then vbind m T.dflt (idxL l i) fun _ => K (.ept k i 0) else none
        | some (some (.arr _ n sz _)) => if szOf P e = some sz ∧ 0 ≤ i ∧ i.toNat < n then K (.ept k i 0) else none
        | _ => none
      | .view k a b => match S.os[k]? with
        | some (some (.row _ T l)) => if szOf P e = some T.size then vbind m () (chkIdx (oMi b a) i) fun _ => K (.ept k (oPl a i) 0) else none
        | _ => none
      | .pv (.lst T) l => if szOf P e = some T.size ∧ T.size ≠ 0 then vbind m T.dflt (idxL l i) fun v => K (.fpt T v 0) else none
      | _ => none
    | some (.array n e) => match a with
      | .gpt _ T l => if szOf P e = some T.size ∧ l.length = n then vbind m T.dflt (idxL l i) fun v => K (.fpt T v 0) else none
      | .ptr k off => match szOf P e with
        | some s => if 0 ≤ i ∧ i.toNat < n then K (.ptr k (off + i.toNat * s)) else none
        | none => none
      | .ept k i0 off => match lit, szOf P e with
        | some j, some s => if j < n ∧ (j : Int) = i then K (.ept k i0 (off + j * s)) else none
        | _, _ => none
      | .fpt T v off => match lit, szOf P e with
        | some j, some s => if j < n ∧ (j : Int) = i then K (.fpt T v (off + j * s)) else none
        | _, _ => none
      | _ => none
    | _ => none
  | _ => none

def vindex (P : Program) (m : Md R) (t : TypeId) (a i : SV) (K : SV → Option R) : Option R :=
  match i with
  | .pv (.int _) i => match P.underlying t, a with
    | some .string, .pv .str l => vbind m (0 : Int) (idxS l i) fun z => K (.pv (.int .u8) z)
    | some (.array n e), .agg cs => match szOf P e with
      | some s => if cs.okL = true ∧ 0 ≤ i ∧ i.toNat < n then (match cellsAt P e cs (i.toNat * s) with
        | some x => K x
        | none => none) else none
      | none => none
    | some (.array n e), .pv T v => match szOf P e with
      | some s => if T.ag = true ∧ 0 ≤ i ∧ i.toNat < n then (match partAt P e T v (i.toNat * s) with
        | some x => K x
        | none => none) else none
      | none => none
    | _, _ => none
  | _ => none
end

section
variable {R : Type} {m : Md R} {P : Program} {g : FM} {H : List AV} {env : List AV} {h : AH}

theorem normA_ok {t : TypeId} {s : SV} {x : AV} (hr : SVR g H s x) : SVR g H (normA P t s) x := by
  unfold normA
  split
  · split
    · exact ⟨x, rfl, toT_ok ‹_› hr⟩
    · exact hr
  · exact hr

theorem cellsAt_ok {t : TypeId} {cs s : SV} {off : Nat} (hs : cellsAt P t cs off = some s) {c : List AV} (ho : cs.okL = true) (hr : SVL g H cs c) : ∃ x, apart P t c off = some x ∧ SVR g H s x := by
  have hL := SV.okL_isL ho
  unfold cellsAt at hs
  unfold apart
  split at hs
  · rename_i ha
    rw [ha]
    split at hs
    · rename_i n hn
      rw [hn]
      split at hs
      · rename_i hle
        cases hs
        refine ⟨.agg ((c.drop off).take n), by simp only [SVL.len hL hr, if_pos hle], normA_ok ⟨_, rfl, ?_⟩⟩
        have h1 := SVL.drp (n := off) hL (by omega) hr
        exact SVL.tk (SV.isL_drp hL) (by rw [SV.len_drp hL]; omega) h1
      · cases hs
    · cases hs
  · rename_i ha
    rw [ha]
    exact SVL.nth hr hs
  · cases hs

theorem partAt_ok {t : TypeId} {T : Ty} {v : T.D} {o : Nat} {s : SV} (hs : partAt P t T v o = some s) {c : List AV} {off : Nat} (hl : off + T.size ≤ c.length) (hr : RepC g T ((c.drop off).take T.size) v) : ∃ x, apart P t c (off + o) = some x ∧ SVR g H s x := by
  unfold partAt at hs
  split at hs
  · rename_i T' hT
    split at hs
    · rename_i w hw
      cases hs
      obtain ⟨h1, h2⟩ := partT_ok hr hw
      have hlen : ((c.drop off).take T.size).length = T.size := by rw [List.length_take, List.length_drop]; omega
      rw [hlen] at h1
      rw [List.drop_take, List.take_take, Nat.min_eq_left (by omega), List.drop_drop] at h2
      obtain ⟨x, h3, h4⟩ := apart_rep hT (c := c) (off := off + o) (by omega) h2
      exact ⟨x, h3, ⟨x, rfl, h4⟩⟩
    · cases hs
  · cases hs

theorem seg_get {c : List AV} {off sz n : Nat} {xs : List (List AV)} (hs : (c.drop off).take (n * sz) = xs.flatten) (hx : ∀ x ∈ xs, x.length = sz) (hb : off + n * sz ≤ c.length) {i : Nat} {x : List AV} (hi : xs[i]? = some x) (hn : i < n) :
    off + i * sz + sz ≤ c.length ∧ (c.drop (off + i * sz)).take sz = x := by
  obtain ⟨f1, f2⟩ := flat_get hx i x hi
  have hm : i * sz + sz ≤ n * sz := by rw [← Nat.succ_mul]; exact Nat.mul_le_mul_right _ hn
  refine ⟨by omega, ?_⟩
  rw [← hs, List.drop_take, List.take_take, Nat.min_eq_left (by omega), List.drop_drop] at f1
  exact f1
theorem all_len {T : Ty} {xs : List (List AV)} {l : List T.D} (ha : All2 (RepC g T) xs l) : ∀ x ∈ xs, x.length = T.size := fun x hx => by
  obtain ⟨i, hi, rfl⟩ := List.mem_iff_getElem.1 hx
  obtain ⟨v, _, hv⟩ := ha.at1 (List.getElem?_eq_getElem hi)
  exact hv.len

theorem idxL_lt {α : Type} {l : List α} {i : Int} {x : α} (h : idxL l i = some x) : 0 ≤ i ∧ i.toNat < l.length ∧ l[i.toNat]? = some x := by
  unfold idxL at h
  split at h
  · exact ⟨by assumption, lt_at h, h⟩
  · cases h

/-- An element of a row, in memory. -/
theorem row_el {e : TypeId} {T : Ty} {l : List T.D} {id off n sz : Nat} (hr : SOR g H h (.row e T l) (.sl id off n sz)) {i : Int} {v : T.D} (hv : idxL l i = some v) :
    n = l.length ∧ sz = T.size ∧ ∃ c, h.get id = some (.cells c true 0 (some (e, false))) ∧ off + i.toNat * T.size + T.size ≤ c.length ∧ RepC g T ((c.drop (off + i.toNat * T.size)).take T.size) v := by
  rcases hr with ⟨e, _⟩ | ⟨id', off', c, xs, e, h1, h2, h3, h4⟩
  · cases e
  · cases e
    obtain ⟨_, k1, k2⟩ := idxL_lt hv
    obtain ⟨x, k3, k4⟩ := h4.at k2
    obtain ⟨k5, k6⟩ := seg_get h3 (all_len h4) h2 k3 k1
    exact ⟨rfl, rfl, c, h1, k5, by rw [k6]; exact k4⟩

theorem vload_ok (hm : m.real = true) {h0 : AH} {X : List Nat} {S : VS} (M : VMem h0 X g H S.os h) {t : TypeId} {a : SV} {K : SV → Option R} {r : R} (hk : vload P m S t a K = some r) {x : AV} (ha : SVR g H a x) :
    ∃ y s, aload P t x h = some y ∧ SVR g H s y ∧ K s = some r := by
  unfold vload at hk
  split at hk
  · rename_i k off
    obtain ⟨id, h1, e⟩ := ha
    cases e
    split at hk
    · rename_i t0 cs hos
      split at hk
      · rename_i s hs
        obtain ⟨id', c, e, h2, h3, h4⟩ := M.so k _ _ hos h1
        cases e
        obtain ⟨y, h5, h6⟩ := cellsAt_ok hs h4 h3
        exact ⟨y, s, by simp only [aload, h2]; exact h5, h6, hk⟩
      · cases hk
    · cases hk
  · rename_i T v o
    split at hk
    · rename_i s hs
      rcases ha with ⟨id, off, c, e, h1, h2, h3⟩ | ⟨id, off, c, e, h1, h2, h3⟩
      · cases e
        obtain ⟨_, _, _, h4⟩ := M.fz.1 _ _ h1
        obtain ⟨y, h5, h6⟩ := partAt_ok hs h2 h3
        exact ⟨y, s, by simp only [aload, h4]; exact h5, h6, hk⟩
      · cases e
        have h4 := M.fz.2 _ _ h1
        obtain ⟨y, h5, h6⟩ := partAt_ok hs h2 h3
        exact ⟨y, s, by simp only [aload, agload, h4, if_true]; exact h5, h6, hk⟩
    · cases hk
  · rename_i k i o
    split at hk
    · rename_i e T l hos
      obtain ⟨v, hv, hk⟩ := vbind_ok hm hk
      split at hk
      · rename_i s hs
        obtain ⟨h0, id, off, n, sz, h1, h2, e'⟩ := ha
        cases e'
        obtain ⟨rfl, rfl, c, h3, h4, h5⟩ := row_el (M.so k _ _ hos h1) hv
        obtain ⟨y, h6, h7⟩ := partAt_ok (off := off + i.toNat * T.size) hs h4 h5
        exact ⟨y, s, by simp only [aload, h3]; exact h6, h7, hk⟩
      · cases hk
    · rename_i e0 n0 sz0 cs hos
      split at hk
      · rename_i s hs
        obtain ⟨h0, id, off, n, sz, h1, h2, e'⟩ := ha
        cases e'
        obtain ⟨id', c, e, h3, h4, h5⟩ := M.so k _ _ hos h1
        cases e
        obtain ⟨y, h6, h7⟩ := cellsAt_ok hs h5 h4
        exact ⟨y, s, by simp only [aload, h3]; rw [Nat.zero_add]; exact h6, h7, hk⟩
      · cases hk
    · cases hk
  · cases hk

theorem vfieldAddr_ok {t : TypeId} {a s : SV} {f : Nat} (hk : vfieldAddr P t a f = some s) {x : AV} (ha : SVR g H a x) : ∃ y, afieldAddr P t x f = some y ∧ SVR g H s y := by
  unfold vfieldAddr at hk
  split at hk
  · rename_i fs hfs
    split at hk
    · rename_i fd hfd
      split at hk
      · rename_i n hn
        split at hk
        · cases hk
        · rename_i hn0
          split at hk
          · rename_i k off
            cases hk
            obtain ⟨id, h1, e⟩ := ha
            cases e
            exact ⟨.ptr id (off + fd.offset), by simp only [afieldAddr, hfs, hfd, hn, if_neg hn0], id, h1, rfl⟩
          · rename_i T v o
            cases hk
            rcases ha with ⟨id, off, c, e, h1⟩ | ⟨id, off, c, e, h1⟩
            · cases e
              exact ⟨.ptr id (off + o + fd.offset), by simp only [afieldAddr, hfs, hfd, hn, if_neg hn0], .inl ⟨id, off, c, by rw [Nat.add_assoc], h1⟩⟩
            · cases e
              exact ⟨.val (.pointer (some ⟨id, off + o + fd.offset, none⟩)), by simp only [afieldAddr, hfs, hfd, hn, if_neg hn0], .inr ⟨id, off, c, by rw [Nat.add_assoc], h1⟩⟩
          · rename_i k i o
            cases hk
            obtain ⟨h0, id, off, n', sz, h1, h2, e⟩ := ha
            cases e
            exact ⟨.ptr id (off + i.toNat * sz + o + fd.offset), by simp only [afieldAddr, hfs, hfd, hn, if_neg hn0], h0, id, off, n', sz, h1, h2, by rw [Nat.add_assoc _ o]⟩
          · cases hk
      · cases hk
    · cases hk
  · cases hk

theorem vfield_ok {t : TypeId} {a s : SV} {f : Nat} (hk : vfield P t a f = some s) {x : AV} (ha : SVR g H a x) : ∃ y, afield P t x f = some y ∧ SVR g H s y := by
  unfold vfield at hk
  split at hk
  · rename_i fs hfs
    split at hk
    · rename_i fd hfd
      split at hk
      · rename_i cs
        split at hk
        · rename_i ho
          obtain ⟨xs, e, hx⟩ := ha
          cases e
          obtain ⟨y, h1, h2⟩ := cellsAt_ok hk ho hx
          exact ⟨y, by simp only [afield, hfs, hfd]; exact h1, h2⟩
        · cases hk
      · rename_i T v
        split at hk
        · rename_i hT
          obtain ⟨z, e, hz⟩ := ha
          cases e
          unfold RepV at hz
          rw [if_pos hT] at hz
          obtain ⟨cs, rfl, hc⟩ := hz
          have hl := hc.len
          obtain ⟨y, h1, h2⟩ := partAt_ok (H := H) (off := 0) (c := cs) hk (by omega) (by rw [List.drop_zero, List.take_of_length_le (by omega)]; exact hc)
          rw [Nat.zero_add] at h1
          exact ⟨y, by simp only [afield, hfs, hfd]; exact h1, h2⟩
        · cases hk
      · cases hk
    · cases hk
  · cases hk

theorem chkIdx_ok {n i : Int} {u : Unit} (h : chkIdx n i = some u) : 0 ≤ i ∧ i < n := ⟨chkIdx_lo h, chkIdx_hi h⟩

theorem vindexAddr_ok (hm : m.real = true) {h0 : AH} {X : List Nat} {S : VS} (M : VMem h0 X g H S.os h) {t : TypeId} {a i : SV} {lit : Option Nat} {K : SV → Option R} {r : R} (hk : vindexAddr P m S t a i lit K = some r) {x y : AV} (ha : SVR g H a x) (hi : SVR g H i y) :
    ∃ z s, aindexAddr P t x y = some z ∧ SVR g H s z ∧ K s = some r := by
  unfold vindexAddr at hk
  split at hk
  rotate_left
  · cases hk
  rename_i kd i
  rw [pvI hi]
  split at hk
  · rename_i e hu
    split at hk
    · rename_i k
      split at hk
      · rename_i e' T l hos
        split at hk
        · rename_i hs
          obtain ⟨v, hv, hk⟩ := vbind_ok hm hk
          obtain ⟨z, h1, e, h2⟩ := ha
          cases e
          obtain ⟨k0, k1, k2⟩ := idxL_lt hv
          have hso := M.so k _ _ hos h1
          rcases h2 with rfl | ⟨id, off, n, sz, rfl⟩
          · rcases hso with ⟨_, rfl⟩ | ⟨_, _, _, _, e, _⟩
            · simp at k1
            · cases e
          · obtain ⟨rfl, rfl, _⟩ := row_el hso hv
            refine ⟨.ptr id (off + i.toNat * T.size), .ept k i 0, ?_, ⟨k0, id, off, _, _, h1, by omega, rfl⟩, hk⟩
            simp only [aindexAddr, hu, hs]
            rw [if_pos ⟨trivial, k0, by omega⟩]
        · cases hk
      · rename_i e0 n0 sz0 cs hos
        split at hk
        · rename_i hs
          obtain ⟨hs, k0, k1⟩ := hs
          obtain ⟨z, h1, e, h2⟩ := ha
          cases e
          obtain ⟨id', c, e, h3, h4, h5⟩ := M.so k _ _ hos h1
          subst e
          refine ⟨.ptr id' (0 + i.toNat * sz0), .ept k i 0, ?_, ⟨k0, id', 0, _, _, h1, by omega, rfl⟩, hk⟩
          simp only [aindexAddr, hu, hs]
          rw [if_pos ⟨trivial, k0, by omega⟩]
        · cases hk
      · cases hk
    · rename_i k a b
      split at hk
      · rename_i e' T l hos
        split at hk
        · rename_i hs
          obtain ⟨v, hv, hk⟩ := vbind_ok hm hk
          obtain ⟨c1, c2⟩ := chkIdx_ok hv
          rw [oMi_eq] at c2
          obtain ⟨p1, p2, ⟨id, off, n, sz, h1, h2, e⟩ | ⟨_, p3, p4, _⟩⟩ := ha
          rotate_left
          · omega
          cases e
          have hso := M.so k _ _ hos h1
          rcases hso with ⟨e, _⟩ | ⟨id', off', c, xs, e, q1, q2, q3, q4⟩
          · cases e
          · cases e
            refine ⟨.ptr id (off + a.toNat * T.size + i.toNat * T.size), .ept k (a + i) 0, ?_, ⟨by omega, id, off, _, _, h1, by omega, ?_⟩, hk⟩
            · simp only [aindexAddr, hu, hs]
              rw [if_pos ⟨trivial, c1, by omega⟩]
            · rw [Int.toNat_add p1 c1, Nat.add_mul]; simp only [Nat.add_assoc, Nat.add_zero]
        · cases hk
      · cases hk
    · rename_i T l
      split at hk
      · rename_i hs
        obtain ⟨v, hv, hk⟩ := vbind_ok hm hk
        obtain ⟨k0, k1, k2⟩ := idxL_lt hv
        have ha := pvR rfl ha
        obtain ⟨z, e, hz⟩ := ha
        cases e
        rcases hz with ⟨rfl, rfl⟩ | ⟨id, off, rfl, rfl | ⟨c, xs, q1, q2, q3, q4⟩⟩
        · simp at k1
        · simp at k1
        · obtain ⟨w, k3, k4⟩ := q4.at k2
          obtain ⟨k5, k6⟩ := seg_get q3 (all_len q4) q2 k3 k1
          refine ⟨.ptr id (off + i.toNat * T.size), .fpt T v 0, ?_, .inl ⟨id, off + i.toNat * T.size, c, rfl, q1, k5, by rw [k6]; exact k4⟩, hk⟩
          simp only [aindexAddr, hu, hs.1]
          rw [if_pos ⟨trivial, k0, by omega⟩]
      · cases hk
    · cases hk
  · rename_i n e hu
    split at hk
    · rename_i gn T l
      split at hk
      · rename_i hs
        obtain ⟨v, hv, hk⟩ := vbind_ok hm hk
        obtain ⟨k0, k1, k2⟩ := idxL_lt hv
        obtain ⟨e', xs, q1, q2⟩ := ha
        cases e'
        obtain ⟨w, k3, k4⟩ := q2.at k2
        have hl := all_len q2
        have hfl := flat_len hl
        have hln := q2.len
        obtain ⟨k5, k6⟩ := seg_get (c := xs.flatten) (off := 0) (n := xs.length) (sz := T.size) (xs := xs) (by rw [List.drop_zero, List.take_of_length_le (by omega)]) hl (by omega) k3 (by omega)
        refine ⟨.val (.pointer (some ⟨gn, 0 + i.toNat * T.size, none⟩)), .fpt T v 0, ?_, .inr ⟨gn, 0 + i.toNat * T.size, xs.flatten, rfl, q1, k5, by rw [k6]; exact k4⟩, hk⟩
        simp only [aindexAddr, hu, hs.1]
        rw [if_pos ⟨k0, by have := hs.2; omega⟩]
      · cases hk
    · rename_i k off
      split at hk
      · rename_i s hs
        split at hk
        · rename_i hj
          obtain ⟨id, h1, e'⟩ := ha
          cases e'
          refine ⟨.ptr id (off + i.toNat * s), .ptr k (off + i.toNat * s), ?_, ⟨id, h1, rfl⟩, hk⟩
          simp only [aindexAddr, hu, hs]
          rw [if_pos ⟨hj.1, by omega⟩]
        · cases hk
      · cases hk
    · rename_i k i0 off
      split at hk
      · rename_i j s hs
        split at hk
        · rename_i hj
          obtain ⟨k0, id, of0, m0, sz, h1, h2, e'⟩ := ha
          cases e'
          obtain ⟨hj1, rfl⟩ := hj
          refine ⟨.ptr id (of0 + i0.toNat * sz + off + j * s), .ept k i0 (off + j * s), ?_, ⟨k0, id, of0, m0, sz, h1, h2, by rw [Nat.add_assoc (of0 + i0.toNat * sz)]⟩, hk⟩
          simp only [aindexAddr, hu, hs]
          rw [if_pos ⟨by omega, by omega⟩]; simp
        · cases hk
      · cases hk
    · rename_i T v off
      split at hk
      · rename_i j s hs
        split at hk
        · rename_i hj
          obtain ⟨hj1, rfl⟩ := hj
          rcases ha with ⟨id, of0, c, e', h2, h3, h4⟩ | ⟨gn, of0, c, e', h2, h3, h4⟩
          · cases e'
            refine ⟨.ptr id (of0 + off + j * s), .fpt T v (off + j * s), ?_, .inl ⟨id, of0, c, by rw [Nat.add_assoc of0], h2, h3, h4⟩, hk⟩
            simp only [aindexAddr, hu, hs]
            rw [if_pos ⟨by omega, by omega⟩]; simp
          · cases e'
            refine ⟨.val (.pointer (some ⟨gn, of0 + off + j * s, none⟩)), .fpt T v (off + j * s), ?_, .inr ⟨gn, of0, c, by rw [Nat.add_assoc of0], h2, h3, h4⟩, hk⟩
            simp only [aindexAddr, hu, hs]
            rw [if_pos ⟨by omega, by omega⟩]; simp
        · cases hk
      · cases hk
    · cases hk
  · cases hk

theorem vindex_ok (hm : m.real = true) {t : TypeId} {a i : SV} {K : SV → Option R} {r : R} (hk : vindex P m t a i K = some r) {x y : AV} (ha : SVR g H a x) (hi : SVR g H i y) :
    ∃ z s, aindex P t x y = some z ∧ SVR g H s z ∧ K s = some r := by
  unfold vindex at hk
  split at hk
  · rename_i kd i
    rw [pvI hi]
    split at hk
    · rename_i hu
      obtain ⟨z, hz, hk⟩ := vbind_ok hm hk
      rw [pvS ha]
      exact ⟨_, _, idx_str hu hz, int_pv _ _, hk⟩
    · rename_i n e cs hu
      split at hk
      · rename_i s hs
        split at hk
        · rename_i hc
          obtain ⟨ho, k0, k1⟩ := hc
          split at hk
          · rename_i z hz
            obtain ⟨xs, e', hx⟩ := ha
            cases e'
            obtain ⟨w, h1, h2⟩ := cellsAt_ok hz ho hx
            refine ⟨w, z, ?_, h2, hk⟩
            simp only [aindex, hu, hs]
            rw [if_pos ⟨k0, by omega⟩]; exact h1
          · cases hk
        · cases hk
      · cases hk
    · rename_i n e T v hu
      split at hk
      · rename_i s hs
        split at hk
        · rename_i hc
          obtain ⟨hT, k0, k1⟩ := hc
          split at hk
          · rename_i z hz
            obtain ⟨w, e', hw⟩ := ha
            cases e'
            unfold RepV at hw
            rw [if_pos hT] at hw
            obtain ⟨cs, rfl, hc⟩ := hw
            have hl := hc.len
            obtain ⟨y, h1, h2⟩ := partAt_ok (H := H) (off := 0) (c := cs) hz (by omega) (by rw [List.drop_zero, List.take_of_length_le (by omega)]; exact hc)
            rw [Nat.zero_add] at h1
            refine ⟨y, z, ?_, h2, hk⟩
            simp only [aindex, hu, hs]
            rw [if_pos ⟨k0, by omega⟩]; exact h1
          · cases hk
        · cases hk
      · cases hk
    · cases hk
  · cases hk
end

end
/-! V5 -/
section
set_option linter.unusedSimpArgs false
set_option linter.unusedVariables false
open Go Go.RowKit

/-! ### Slices -/
def chkSub (n a b : Int) : Option Unit := if 0 ≤ a ∧ a ≤ b ∧ b ≤ n then some () else none
theorem chkSub_ok {n a b : Int} {u : Unit} (h : chkSub n a b = some u) : 0 ≤ a ∧ a ≤ b ∧ b ≤ n := by unfold chkSub at h; split at h <;> simp_all
theorem subL_ok {α : Type} {l r : List α} {a b : Int} (h : subL l a b = some r) : 0 ≤ a ∧ a ≤ b ∧ b ≤ l.length ∧ r = (l.take b.toNat).drop a.toNat := by
  unfold subL at h; split at h
  · rename_i hh; cases h; exact ⟨hh.1, hh.2.1, hh.2.2, rfl⟩
  · cases h

/-- The elements of a slice. -/
def lstOf (S : VS) (T : Ty) : SV → Option (List T.D)
  | .row k => match S.os[k]? with
    | some (some (.row _ T' l)) => asT (.lst T') (.lst T) l
    | _ => none
  | .view k a b => match S.os[k]? with
    | some (some (.row _ T' l)) => asT (.lst T') (.lst T) (oTD l a b)
    | _ => none
  | .pv t v => asT t (.lst T) v
  | .con (.val (.slice none 0 0)) => some []
  | _ => none

def bndS (d : Int) : Option SV → Option Int
  | none => some d
  | some (.pv (.int _) n) => some n
  | _ => none

section
variable {R : Type}
def vslice (P : Program) (m : Md R) (S : VS) (t : TypeId) (a : SV) (lo hi : Option SV) (K : SV → Option R) : Option R :=
  match P.underlying t with
  | some .string => match a with
    | .pv .str l => match bndS 0 lo, bndS (oLen l) hi with
      | some i, some j => vbind m ([] : List UInt8) (subS l i j) fun r => K (.pv .str r)
      | _, _ => none
    | _ => none
  | some (.slice e) => match a with
    | .pv (.lst T) l => match bndS 0 lo, bndS (oLen l) hi with
      | some i, some j => if szOf P e = some T.size then vbind m ([] : List T.D) (subL l i j) fun r => K (.pv (.lst T) r) else none
      | _, _ => none
    | .row k => match S.os[k]? with
      | some (some (.row _ T l)) => match bndS 0 lo, bndS (oLen l) hi with
        | some i, some j => if szOf P e = some T.size then vbind m () (chkSub (oLen l) i j) fun _ => K (.view k i j) else none
        | _, _ => none
      | _ => none
    | .view k a b => match S.os[k]? with
      | some (some (.row _ T l)) => match bndS 0 lo, bndS (oMi b a) hi with
        | some i, some j => if szOf P e = some T.size then vbind m () (chkSub (oMi b a) i j) fun _ => K (.view k (oPl a i) (oPl a j)) else none
        | _, _ => none
      | _ => none
    | .con (.val (.slice none 0 0)) => match bndS 0 lo, bndS 0 hi with
      | some i, some j => match szOf P e with
        | some _ => vbind m () (chkSub 0 i j) fun _ => K (.con nilS)
        | none => none
      | _, _ => none
    | _ => none
  | some (.array n e) => match a, lo, hi with
    | .ptr k off, none, none => match S.os[k]? with
      | some (some (.obj _ cs)) => if szOf P e = some 1 ∧ off + n ≤ cs.len then K (.osl k off n) else none
      | _ => none
    | _, _, _ => none
  | _ => none

def vlen (P : Program) (S : VS) (t : TypeId) (a : SV) : Option SV :=
  match P.underlying t with
  | some .string => match a with
    | .pv .str l => some (.pv (.int .i64) (oLen l))
    | _ => none
  | some (.array n _) => some (.pv (.int .i64) (n : Int))
  | some (.slice _) => match a with
    | .pv (.lst T) l => some (.pv (.int .i64) (oLen l))
    | .row k => match S.os[k]? with
      | some (some (.row _ T l)) => some (.pv (.int .i64) (oLen l))
      | _ => none
    | .view _ a b => some (.pv (.int .i64) (oMi b a))
    | .con (.val (.slice none 0 0)) => some (.pv (.int .i64) (0 : Int))
    | _ => none
  | some (.map _ _) => match a with
    | .mp k => match S.os[k]? with
      | some (some (.map _ _ mm)) => some (.pv (.int .i64) (oLen mm.es))
      | _ => none
    | .con (.val (.map none)) => some (.pv (.int .i64) (0 : Int))
    | _ => none
  | _ => none

def vconv (P : Program) (S : VS) (s d : TypeId) (a : SV) : Option SV :=
  match P.underlying s, P.underlying d with
  | some _, some (.int k) => match a with
    | .pv (.int _) n => some (.pv (.int k) (oWrap k n))
    | _ => none
  | some ds, some .string => match a with
    | .pv (.int _) n => some (.pv .str (oEnc n))
    | .pv .str l => some (.pv .str l)
    | a => match ds with
      | .slice e => match P.underlying e, lstOf S (.int .u8) a with
        | some (.int .u8), some l => some (.pv .str (oByt l))
        | _, _ => none
      | _ => none
  | _, _ => none
end

/-! ### Cells spliced -/
def SV.spl (c : SV) (off : Nat) (xs : SV) : SV := (c.tk off).app (xs.app (c.drp (off + xs.len)))
def partsS (place : Nat → Option (Nat × Nat)) : List (Nat × SV) → Option (List (Nat × Nat × SV))
  | [] => some []
  | (i, x) :: rest => match place i, cellsSV x, partsS place rest with
    | some (off, size), some xs, some r => some ((off, size, xs) :: r)
    | _, _, _ => none
def fillS (c : SV) : List (Nat × Nat × SV) → Option SV
  | [] => some c
  | (off, size, xs) :: rest => if xs.len = size ∧ off + size ≤ c.len then fillS (c.spl off xs) rest else none
def zeroS (P : Program) (t : TypeId) : Option SV := ((P.info? t).bind (·.zero)).bind fun z => cellsSV (litSV z)
def vbuild (P : Program) (t : TypeId) (parts : List (Nat × SV)) : Option SV :=
  match zeroS P t, P.underlying t with
  | some z, some (.struct fs) => match placesOf P fs.toList with
    | some pl => match partsS (fun i => pl[i]?) parts with
      | some ps => (fillS z ps).map fun c => normA P t (.agg c)
      | none => none
    | none => none
  | some z, some (.array _ e) => match szOf P e with
    | some size => match partsS (fun i => some (i * size, size)) parts with
      | some ps => (fillS z ps).map fun c => normA P t (.agg c)
      | none => none
    | none => none
  | _, _ => none

/-! ### Maps -/
def KeyOk (d : Option TypeDesc) (kt : Ty) : Bool :=
  match d, kt with
  | some (.int _), .int _ => true
  | some .string, .str => true
  | some .bool, .bool => true
  | _, _ => false
def idxT : (kt : Ty) → {α : Type} → kt.D → List (kt.D × α × Nat) → Option (Option (Nat × α × Nat))
  | .int _, _, k, es => some (GMap.idx (κ := Int) k es 0)
  | .str, _, k, es => some (GMap.idx (κ := List UInt8) k es 0)
  | .bool, _, k, es => some (GMap.idx (κ := Bool) k es 0)
  | _, _, _, _ => none
def mgetT : (kt : Ty) → {α : Type} → GMap kt.D α → kt.D → Option α
  | .int _, _, m, k => mget (κ := Int) m k
  | .str, _, m, k => mget (κ := List UInt8) m k
  | .bool, _, m, k => mget (κ := Bool) m k
  | _, _, _, _ => none
def msetT : (kt : Ty) → {α : Type} → GMap kt.D α → kt.D → α → GMap kt.D α
  | .int _, _, m, k, v => mset (κ := Int) m k v
  | .str, _, m, k, v => mset (κ := List UInt8) m k v
  | .bool, _, m, k, v => mset (κ := Bool) m k v
  | _, _, m, _, _ => m
/-- The zero of a plain type. -/
def zeroT (P : Program) (t : TypeId) (T : Ty) : Option T.D := ((P.info? t).bind (·.zero)).bind fun z => toT T (litSV z)

def vlookup {R : Type} (P : Program) (S : VS) (t : TypeId) (a k : SV) (ok : Bool) (K : SV → Option R) : Option R :=
  match mapOf P t with
  | some (kt, et) => match a with
    | .mp n => match S.os[n]? with
      | some (some (.map Kt Et mm)) => match toC Kt k, zeroT P et Et with
        | some kv, some z => if KeyOk (P.underlying kt) Kt then
            (if ok then K (.tup (.cn (.pv Et (oGetD (mgetT Kt mm kv) z)) (.cn (.pv .bool (oIsSome (mgetT Kt mm kv))) .nl))) else K (.pv Et (oGetD (mgetT Kt mm kv) z))) else none
        | _, _ => none
      | _ => none
    | _ => none
  | none => none

section
variable {R : Type} {m : Md R} {P : Program} {g : FM} {H : List AV} {env : List AV} {h h0 : AH} {X : List Nat} {S : VS}

theorem seg_sub {c : List AV} {off sz n : Nat} {xs : List (List AV)} (hx : ∀ x ∈ xs, x.length = sz) (hn : xs.length = n) (hs : (c.drop off).take (n * sz) = xs.flatten) {a b : Nat} (hab : a ≤ b) (hb : b ≤ n) :
    (c.drop (off + a * sz)).take ((b - a) * sz) = ((xs.take b).drop a).flatten := by
  rw [drop_flat (fun x hx' => hx x (List.mem_of_mem_take hx')), take_flat hx, ← hs, List.take_take, List.drop_take, List.drop_drop, Nat.sub_mul, Nat.min_eq_left (Nat.mul_le_mul_right _ hb)]

theorem row_ro {e : TypeId} {T : Ty} {l : List T.D} {x : AV} (hr : SOR g H h (.row e T l) x) : ∃ xs, All2 (RepC g T) xs l ∧ RO T.size x h xs := by
  rcases hr with ⟨rfl, rfl⟩ | ⟨id, off, c, xs, rfl, h1, h2, h3, h4⟩
  · exact ⟨[], trivial, fun x hx => (by cases hx), .inl ⟨rfl, rfl⟩⟩
  · have hl := h4.len
    exact ⟨xs, h4, all_len h4, .inr (.inl ⟨id, off, c, _, _, _, by rw [hl], h1, by rw [hl]; exact h2, by rw [hl]; exact h3⟩)⟩

theorem lst_ro (hf : g.ok h) {T : Ty} {x : AV} {l : List T.D} (hr : LR g (RepC g T) T.size x l) : ∃ xs, All2 (RepC g T) xs l ∧ RO T.size x h xs := by
  rcases hr with ⟨rfl, rfl⟩ | ⟨id, off, rfl, rfl | ⟨c, xs, h1, h2, h3, h4⟩⟩
  · exact ⟨[], trivial, fun x hx => (by cases hx), .inl ⟨rfl, rfl⟩⟩
  · exact ⟨[], trivial, fun x hx => (by cases hx), .inr (.inr ⟨rfl, id, off, rfl⟩)⟩
  · have hl := h4.len
    obtain ⟨_, _, _, hg⟩ := hf.1 _ _ h1
    exact ⟨xs, h4, all_len h4, .inr (.inl ⟨id, off, c, _, _, _, by rw [hl], hg, by rw [hl]; exact h2, by rw [hl]; exact h3⟩)⟩

theorem asL_ok {T T' : Ty} {l : List T'.D} {r : List T.D} (h : asT (.lst T') (.lst T) l = some r) : ∃ e : T' = T, r = castD (congrArg Ty.lst e) (l : (Ty.lst T').D) := by
  unfold asT at h
  split at h
  · rename_i e
    cases e
    cases h
    exact ⟨rfl, rfl⟩
  · cases h

theorem lstOf_ro (M : VMem h0 X g H S.os h) {T : Ty} {s : SV} {l : List T.D} (hl : lstOf S T s = some l) {x : AV} (hr : SVR g H s x) : ∃ xs, All2 (RepC g T) xs l ∧ RO T.size x h xs := by
  unfold lstOf at hl
  split at hl
  · rename_i k
    obtain ⟨y, h1, e, _⟩ := hr
    cases e
    split at hl
    · rename_i e T' l' hos
      obtain ⟨rfl, rfl⟩ := asL_ok hl
      exact row_ro (M.so k _ _ hos h1)
    · cases hl
  · rename_i k a b
    obtain ⟨h1, h2, h3⟩ := hr
    split at hl
    · rename_i e T' l' hos
      obtain ⟨rfl, rfl⟩ := asL_ok hl
      show ∃ xs, All2 (RepC g T') xs ((l'.take b.toNat).drop a.toNat) ∧ RO T'.size x h xs
      rcases h3 with ⟨id, off, n, sz, k1, k2, e'⟩ | ⟨k1, rfl, rfl, e'⟩
      · cases e'
        rcases M.so k _ _ hos k1 with ⟨e, _⟩ | ⟨id', off', c, xs, e, q1, q2, q3, q4⟩
        · cases e
        · cases e
          have hln := q4.len
          have hall := all_len q4
          refine ⟨(xs.take b.toNat).drop a.toNat, (q4.take _).drop _, fun y hy => hall y (List.mem_of_mem_take (List.mem_of_mem_drop hy)), .inr (.inl ⟨id, off + a.toNat * T'.size, c, _, _, _, ?_, q1, ?_, ?_⟩)⟩
          · rw [List.length_drop, List.length_take, Nat.min_eq_left (by omega)]
          · rw [List.length_drop, List.length_take, Nat.min_eq_left (by omega), Nat.sub_mul]
            have : b.toNat * T'.size ≤ l'.length * T'.size := Nat.mul_le_mul_right _ (by omega)
            have : a.toNat * T'.size ≤ b.toNat * T'.size := Nat.mul_le_mul_right _ (by omega)
            omega
          · rw [List.length_drop, List.length_take, Nat.min_eq_left (by omega)]
            exact seg_sub hall hln q3 (by omega) (by omega)
      · cases e'
        simp only [Int.toNat_zero, List.take_zero, List.drop_zero]
        exact ⟨[], trivial, fun x hx => (by cases hx), .inl ⟨rfl, rfl⟩⟩
    · cases hl
  · rename_i t v
    unfold asT at hl
    split at hl
    · rename_i e
      subst e
      cases hl
      obtain ⟨y, e, hz⟩ := pvR rfl hr
      cases e
      exact lst_ro M.fz hz
    · cases hl
  · cases hl
    cases hr
    exact ⟨[], trivial, fun x hx => (by cases hx), .inl ⟨rfl, rfl⟩⟩
  · cases hl

def OptR (g : FM) (H : List AV) : Option SV → Option AV → Prop
  | none, none => True
  | some s, some x => SVR g H s x
  | _, _ => False

theorem bndS_ok {d : Nat} {o : Option SV} {n : Int} (hb : bndS d o = some n) {x : Option AV} (hr : OptR g H o x) (hn : 0 ≤ n) : abound d x = some n.toNat := by
  unfold bndS at hb
  split at hb
  · cases hb
    cases x with
    | none => simp [abound]
    | some x => exact hr.elim
  · cases hb
    cases x with
    | none => exact hr.elim
    | some x => rw [pvI hr]; simp [abound, hn]
  · cases hb

theorem bytes_rep {xs : List (List AV)} {l : List Int} (h : All2 (RepC g (.int .u8)) xs l) : xs = l.map (cellI .u8) := by
  induction l generalizing xs with
  | nil => cases xs with
    | nil => rfl
    | cons a as => exact h.elim
  | cons b l ih => cases xs with
    | nil => exact h.elim
    | cons a as =>
      obtain ⟨h1, h2⟩ := h
      rw [List.map_cons, ← ih h2]
      have : a = [.int .u8 b] := h1
      rw [this]; rfl

theorem vslice_ok (hm : m.real = true) (M : VMem h0 X g H S.os h) {t : TypeId} {a : SV} {lo hi : Option SV} {K : SV → Option R} {r : R} (hk : vslice P m S t a lo hi K = some r) {x : AV} {lo' hi' : Option AV} (ha : SVR g H a x) (hlo : OptR g H lo lo') (hhi : OptR g H hi hi') :
    ∃ y s, aslice P t x lo' hi' none h = some y ∧ SVR g H s y ∧ K s = some r := by
  unfold vslice at hk
  split at hk
  · rename_i hu
    split at hk
    · rename_i l
      rw [pvS ha]
      split at hk
      · rename_i i j hi1 hj1
        obtain ⟨z, hz, hq⟩ := vbind_ok hm hk
        have hz0 := hz
        unfold subS at hz
        split at hz
        · rename_i hc
          cases hz
          refine ⟨_, _, ?_, str_pv _, hq⟩
          simp only [aslice, hu, bndS_ok (d := 0) hi1 hlo hc.1, bndS_ok hj1 hhi (by omega)]
          rw [if_pos ⟨by omega, by omega⟩]
        · cases hz
      · cases hk
    · cases hk
  · rename_i e hu
    split at hk
    · rename_i T l
      split at hk
      · rename_i i j hi1 hj1
        split at hk
        · rename_i hs
          obtain ⟨z, hz, hq⟩ := vbind_ok hm hk
          obtain ⟨c1, c2, c3, rfl⟩ := subL_ok hz
          have b1 := bndS_ok (d := 0) hi1 hlo c1
          have b2 := bndS_ok hj1 hhi (by omega)
          obtain ⟨y, e', hy⟩ := pvR rfl ha
          cases e'
          rcases hy with ⟨rfl, rfl⟩ | ⟨id, off, rfl, hy⟩
          · simp only [List.length_nil] at c3 b2
            have e1 : i = 0 := by omega
            have e2 : j = 0 := by omega
            subst e1; subst e2
            refine ⟨nilS, .pv (.lst T) _, ?_, ⟨_, rfl, _, rfl, .inl ⟨rfl, by simp⟩⟩, hq⟩
            simp only [aslice, hu, hs, b1, b2]
            rfl
          · refine ⟨.sl id (off + i.toNat * T.size) (j.toNat - i.toNat) T.size, .pv (.lst T) _, ?_, ⟨_, rfl, _, rfl, .inr ⟨id, off + i.toNat * T.size, ?_, ?_⟩⟩, hq⟩
            · simp only [aslice, hu, hs, b1, b2]
              rw [if_pos ⟨trivial, by omega, by omega⟩]
            · rw [List.length_drop, List.length_take, Nat.min_eq_left (by omega)]
            · rcases hy with rfl | ⟨c, xs, q1, q2, q3, q4⟩
              · left; simp
              · right
                have hln := q4.len
                have hall := all_len q4
                refine ⟨c, (xs.take j.toNat).drop i.toNat, q1, ?_, ?_, (q4.take _).drop _⟩
                · rw [List.length_drop, List.length_take, Nat.min_eq_left (by omega), Nat.sub_mul]
                  have : j.toNat * T.size ≤ l.length * T.size := Nat.mul_le_mul_right _ (by omega)
                  have : i.toNat * T.size ≤ j.toNat * T.size := Nat.mul_le_mul_right _ (by omega)
                  omega
                · rw [List.length_drop, List.length_take, Nat.min_eq_left (by omega)]
                  exact seg_sub hall hln q3 (by omega) (by omega)
        · cases hk
      · cases hk
    · rename_i k
      split at hk
      · rename_i e' T l hos
        split at hk
        · rename_i i j hi1 hj1
          split at hk
          · rename_i hs
            obtain ⟨z, hz, hq⟩ := vbind_ok hm hk
            obtain ⟨c1, c2, c3⟩ := chkSub_ok hz
            rw [oLen_eq] at c3
            have b1 := bndS_ok (d := 0) hi1 hlo c1
            have b2 := bndS_ok hj1 hhi (by omega)
            obtain ⟨y, h1, e', hsh⟩ := ha
            cases e'
            rcases M.so k _ _ hos h1 with ⟨rfl, rfl⟩ | ⟨id, off, c, xs, rfl, q1, q2, q3, q4⟩
            · simp only [List.length_nil] at c3 b2
              have e1 : i = 0 := by omega
              have e2 : j = 0 := by omega
              subst e1; subst e2
              refine ⟨nilS, .view k 0 0, ?_, ⟨by omega, by omega, .inr ⟨h1, rfl, rfl, rfl⟩⟩, hq⟩
              simp only [aslice, hu, hs, b1, b2]
              rfl
            · refine ⟨.sl id (off + i.toNat * T.size) (j.toNat - i.toNat) T.size, .view k i j, ?_, ⟨c1, c2, .inl ⟨id, off, _, _, h1, c3, rfl⟩⟩, hq⟩
              simp only [aslice, hu, hs, b1, b2]
              rw [if_pos ⟨trivial, by omega, by omega⟩]
          · cases hk
        · cases hk
      · cases hk
    · rename_i k a b
      split at hk
      · rename_i e' T l hos
        split at hk
        · rename_i i j hi1 hj1
          split at hk
          · rename_i hs
            obtain ⟨z, hz, hq⟩ := vbind_ok hm hk
            obtain ⟨c1, c2, c3⟩ := chkSub_ok hz
            rw [oMi_eq] at c3
            obtain ⟨p1, p2, ⟨id, off, n, sz, h1, h2, e⟩ | ⟨h1, rfl, rfl, e⟩⟩ := ha
            · cases e
              have hj1' : bndS ((b.toNat - a.toNat : Nat) : Int) hi = some j := by rw [← hj1]; congr 1; rw [oMi_eq]; omega
              have b1 := bndS_ok (d := 0) hi1 hlo c1
              have b2 := bndS_ok hj1' hhi (by omega)
              rcases M.so k _ _ hos h1 with ⟨e, _⟩ | ⟨id', off', c, xs, e, q1, q2, q3, q4⟩
              · cases e
              · cases e
                refine ⟨.sl id (off + a.toNat * T.size + i.toNat * T.size) (j.toNat - i.toNat) T.size, .view k (a + i) (a + j), ?_, ⟨by omega, by omega, .inl ⟨id, off, _, _, h1, by omega, ?_⟩⟩, hq⟩
                · simp only [aslice, hu, hs, b1, b2]
                  rw [if_pos ⟨trivial, by omega, by omega⟩]
                · rw [Int.toNat_add p1 c1, Int.toNat_add p1 (by omega), Nat.add_mul]
                  congr 2
                  · omega
                  · omega
            · cases e
              have e1 : i = 0 := by omega
              have e2 : j = 0 := by omega
              subst e1; subst e2
              have b1 := bndS_ok (d := 0) hi1 hlo (by omega)
              have b2 := bndS_ok (d := 0) hj1 hhi (by omega)
              refine ⟨nilS, .view k (0 + 0) (0 + 0), ?_, ⟨by omega, by omega, .inr ⟨h1, rfl, rfl, rfl⟩⟩, hq⟩
              simp only [aslice, hu, hs, b1, b2]
              rfl
          · cases hk
        · cases hk
      · cases hk
    · split at hk
      · rename_i i j hi1 hj1
        split at hk
        · rename_i s hs
          obtain ⟨z, hz, hq⟩ := vbind_ok hm hk
          obtain ⟨c1, c2, c3⟩ := chkSub_ok hz
          cases ha
          have e1 : i = 0 := by omega
          have e2 : j = 0 := by omega
          subst e1; subst e2
          have b1 := bndS_ok (d := 0) hi1 hlo (by omega)
          have b2 := bndS_ok (d := 0) hj1 hhi (by omega)
          refine ⟨nilS, .con nilS, ?_, rfl, hq⟩
          simp only [aslice, hu, hs, b1, b2]
          rfl
        · cases hk
      · cases hk
    · cases hk
  · rename_i n e hu
    split at hk
    rotate_left
    · cases hk
    rename_i k off
    split at hk
    rotate_left
    · cases hk
    rename_i tt cs hos
    split at hk
    rotate_left
    · cases hk
    rename_i hc
    obtain ⟨id, h1, e'⟩ := ha
    cases e'
    obtain ⟨id', c, e', h2, h3, h4⟩ := M.so k _ _ hos h1
    cases e'
    have hl := SVL.len (SV.okL_isL h4) h3
    cases lo' with
    | some _ => exact hlo.elim
    | none => cases hi' with
      | some _ => exact hhi.elim
      | none =>
        refine ⟨.sl id off n 1, .osl k off n, ?_, ⟨id, h1, rfl⟩, hk⟩
        simp only [aslice, hu, hc.1, abound, h2]
        rw [if_pos ⟨by omega, by omega, by omega, by omega⟩]
        simp
  · cases hk

theorem vlen_ok (M : VMem h0 X g H S.os h) {t : TypeId} {a s : SV} (hk : vlen P S t a = some s) {x : AV} (ha : SVR g H a x) : ∃ y, alenOf P t x h = some y ∧ SVR g H s y := by
  have ro : ∀ {e : TypeId} {T : Ty} {l : List T.D} {xs : List (List AV)}, P.underlying t = some (.slice e) → All2 (RepC g T) xs l → RO T.size x h xs → alenOf P t x h = some (.int .i64 (l.length : Int)) := fun {e T l xs} hu h1 h2 => by
    have hl := h1.len
    rcases h2.2 with ⟨rfl, rfl⟩ | ⟨id, off, c, o, f, ty, rfl, hg, _⟩ | ⟨rfl, id, off, rfl⟩
    · simp [alenOf, hu, ← hl]
    · simp [alenOf, hu, ← hl]
    · simp [alenOf, hu, ← hl]
  unfold vlen at hk
  split at hk
  · rename_i hu
    split at hk
    · cases hk; rw [pvS ha]; exact ⟨_, by simp only [alenOf, hu], int_pv _ _⟩
    · cases hk
  · rename_i n e hu
    cases hk; exact ⟨_, by simp only [alenOf, hu], int_pv _ _⟩
  · rename_i e hu
    split at hk
    · rename_i T l
      cases hk
      obtain ⟨y, e', hy⟩ := pvR rfl ha
      cases e'
      obtain ⟨xs, h1, h2⟩ := lst_ro M.fz hy
      exact ⟨_, ro hu h1 h2, int_pv _ _⟩
    · rename_i k
      split at hk
      · rename_i e' T l hos
        cases hk
        obtain ⟨y, h1, e', hsh⟩ := ha
        cases e'
        obtain ⟨xs, h1, h2⟩ := row_ro (M.so k _ _ hos h1)
        exact ⟨_, ro hu h1 h2, int_pv _ _⟩
      · cases hk
    · rename_i k a b
      cases hk
      obtain ⟨p1, p2, ⟨id, off, n, sz, h1, h2, e⟩ | ⟨h1, rfl, rfl, e⟩⟩ := ha
      · cases e
        exact ⟨.int .i64 (b - a), by simp only [alenOf, hu]; congr 2; omega, int_pv _ _⟩
      · cases e; exact ⟨.int .i64 (0 - 0), by simp [alenOf, hu], int_pv _ _⟩
    · cases hk; cases ha; exact ⟨.int .i64 0, by simp [alenOf, hu], int_pv _ _⟩
    · cases hk
  · rename_i kt et hu
    split at hk
    · rename_i k
      split at hk
      · rename_i Kt Et mm hos
        cases hk
        obtain ⟨id, h1, e⟩ := ha
        cases e
        obtain ⟨id', es, e, h2, h3⟩ := M.so k _ _ hos h1
        cases e
        refine ⟨.int .i64 (mm.es.length : Int), ?_, int_pv _ _⟩
        simp only [alenOf, hu, amaplen, amapGet, h2, Option.map_some, h3.len]
        rfl
      · cases hk
    · cases hk; cases ha; exact ⟨.int .i64 0, by simp [alenOf, hu, amaplen, amapGet], int_pv _ _⟩
    · cases hk
  · cases hk


/-- A slice of three bounds: what is behind the third one is not used again. -/
def vslice3 (P : Program) (m : Md R) (S : VS) (t : TypeId) (a : SV) (lo : Option SV) (hi mx : SV) (K : SV → Option R) : Option R :=
  match P.underlying t, vlen P S t a, hi, mx with
  | some (.slice _), some (.pv (.int .i64) n), .pv (.int _) b, .pv (.int _) c => vbind m () (chkSub n b c) fun _ => vslice P m S t a lo (some hi) K
  | _, _, _, _ => none
theorem aslice3_of {t e : TypeId} (hu : P.underlying t = some (.slice e)) {x y : AV} {lo : Option AV} {k k2 k3 : IntKind} {b c n : Int} (hs : aslice P t x lo (some (.int k b)) none h = some y) (hl : alenOf P t x h = some (.int k3 n)) (h1 : 0 ≤ b) (h2 : b ≤ c) (h3 : c ≤ n) :
    aslice P t x lo (some (.int k b)) (some (.int k2 c)) h = some y := by
  unfold aslice at hs
  unfold alenOf at hl
  simp only [hu] at hs hl
  split at hs
  · rename_i hh; cases hh
  · rename_i e' id off len sz hh
    cases hh
    simp only [Option.some.injEq, AV.int.injEq] at hl
    split at hs
    · rename_i s a b' hsz ha hb
      split at hs
      · rename_i hc
        cases hs
        simp only [abound, if_pos h1] at hb
        cases hb
        have hb2 : abound 0 (some (AV.int k b)) = some b.toNat := by simp only [abound, if_pos h1]
        simp only [aslice, hu, hsz, ha, hb2]
        rw [if_pos ⟨hc.1, hc.2.1, by omega, by omega⟩]
      · cases hs
    · cases hs
  · rename_i e' hh
    cases hh
    simp only [Option.some.injEq, AV.int.injEq] at hl
    split at hs
    · rename_i s hsz ha hb
      cases hs
      simp only [aslice, hu, hsz, ha, hb]
      rw [if_pos (by omega)]
    · cases hs
  · rename_i hh; cases hh
  · cases hs
theorem vslice3_ok (hm : m.real = true) (M : VMem h0 X g H S.os h) {t : TypeId} {a : SV} {lo : Option SV} {hi mx : SV} {K : SV → Option R} {r : R} (hk : vslice3 P m S t a lo hi mx K = some r) {x hi' mx' : AV} {lo' : Option AV} (ha : SVR g H a x) (hlo : OptR g H lo lo') (hhi : SVR g H hi hi') (hmx : SVR g H mx mx') :
    ∃ y s, aslice P t x lo' (some hi') (some mx') h = some y ∧ SVR g H s y ∧ K s = some r := by
  unfold vslice3 at hk
  split at hk
  rotate_left
  · cases hk
  rename_i e n kb b kc c hu hn
  obtain ⟨u, hc, hk⟩ := vbind_ok hm hk
  have hb' : hi' = .int kb b := by
    obtain ⟨y, ey, hy⟩ := hhi
    cases ey
    have := hy.c1 rfl
    simpa [RepC] using this
  have hc' : mx' = .int kc c := by
    obtain ⟨y, ey, hy⟩ := hmx
    cases ey
    have := hy.c1 rfl
    simpa [RepC] using this
  subst hb' hc'
  obtain ⟨y, s, h1, h2, h3⟩ := vslice_ok hm M hk ha hlo (hi' := some (.int kb b)) hhi
  obtain ⟨z, k1, k2⟩ := vlen_ok M hn ha
  have hz : z = .int .i64 n := by
    obtain ⟨y, ey, hy⟩ := k2
    cases ey
    have := hy.c1 rfl
    simpa [RepC] using this
  subst hz
  unfold chkSub at hc
  split at hc
  · rename_i hcc
    exact ⟨y, s, aslice3_of hu h1 k1 hcc.1 hcc.2.1 hcc.2.2, h2, h3⟩
  · cases hc
theorem vconv_ok (M : VMem h0 X g H S.os h) {s d : TypeId} {a b : SV} (hk : vconv P S s d a = some b) {x : AV} (ha : SVR g H a x) : ∃ y, aconv P s d x h = some (y, h) ∧ SVR g H b y := by
  unfold vconv at hk
  split at hk
  · rename_i ds k hs hd
    split at hk
    · cases hk; rw [pvI ha]; exact ⟨_, by simp only [aconv, hs, hd], int_pv _ _⟩
    · cases hk
  · rename_i ds hs hd
    split at hk
    · cases hk; rw [pvI ha]; exact ⟨_, by simp only [aconv, hs, hd], str_pv _⟩
    · cases hk; rw [pvS ha]; exact ⟨_, by simp only [aconv, hs, hd], str_pv _⟩
    · split at hk
      · rename_i e _ _
        split at hk
        · rename_i l he hl
          cases hk
          obtain ⟨xs, h1, h2⟩ := lstOf_ro M hl ha
          obtain rfl := bytes_rep h1
          exact ⟨_, RO.str hs he hd h2, str_pv _⟩
        · cases hk
      · cases hk
  · cases hk
end

end
/-! V6 -/
section
set_option linter.unusedSimpArgs false
set_option linter.unusedVariables false
open Go Go.RowKit

section
variable {R : Type} {m : Md R} {P : Program} {g : FM} {H : List AV} {env : List AV} {h h0 : AH} {X : List Nat} {S : VS}

/-! ### Composites -/
theorem SV.okL_app : ∀ {s s' : SV}, s.okL = true → s'.okL = true → (s.app s').okL = true
  | .nl, _, _, k => k
  | .cn a b, _, h, k => by simp only [SV.okL, Bool.and_eq_true, SV.app] at h ⊢; exact ⟨h.1, SV.okL_app h.2 k⟩
theorem SV.okL_tk : ∀ {n : Nat} {s : SV}, s.okL = true → (s.tk n).okL = true
  | 0, s, h => by cases s <;> rfl
  | n + 1, .cn a b, h => by simp only [SV.okL, Bool.and_eq_true, SV.tk] at h ⊢; exact ⟨h.1, SV.okL_tk h.2⟩
  | n + 1, .nl, h => rfl
theorem SV.okL_drp : ∀ {n : Nat} {s : SV}, s.okL = true → (s.drp n).okL = true
  | 0, s, h => by simpa [SV.drp] using h
  | n + 1, .cn a b, h => by simp only [SV.okL, Bool.and_eq_true, SV.drp] at h ⊢; exact SV.okL_drp h.2
  | n + 1, .nl, h => rfl

theorem spl_ok {c xs : SV} {off : Nat} {l ls : List AV} (hc : c.okL = true) (hx : xs.okL = true) (hl : SVL g H c l) (hs : SVL g H xs ls) (ho : off + xs.len ≤ c.len) : SVL g H (c.spl off xs) (splice l off ls) ∧ (c.spl off xs).okL = true := by
  have h1 := SV.okL_isL hc
  have h2 := SV.okL_isL hx
  refine ⟨?_, SV.okL_app (SV.okL_tk hc) (SV.okL_app hx (SV.okL_drp hc))⟩
  unfold SV.spl splice
  rw [SVL.len h2 hs]
  exact SVL.app SV.isL_tk (SVL.tk h1 (by omega) hl) (SVL.app h2 hs (SVL.drp h1 (by omega) hl))

theorem zeroS_ok {t : TypeId} {z : SV} (hz : zeroS P t = some z) : ∃ x l, zeroOf P t = some x ∧ x.cells = some l ∧ SVL g H z l ∧ z.okL = true := by
  unfold zeroS at hz
  cases hv : (P.info? t).bind (·.zero) with
  | none => rw [hv] at hz; cases hz
  | some v =>
    rw [hv] at hz
    obtain ⟨l, h1, h2, h3, h4⟩ := cellsSV_ok (g := g) (H := H) hz (litSV_ok v)
    exact ⟨_, l, by simp only [zeroOf, hv, Option.map_some], h1, h2, h4⟩

inductive PartsR (g : FM) (H : List AV) : List (Nat × Nat × SV) → List (Nat × Nat × List AV) → Prop
  | nil : PartsR g H [] []
  | cons {o s : Nat} {x : SV} {l : List AV} {r : List (Nat × Nat × SV)} {q : List (Nat × Nat × List AV)} (h : SVL g H x l) (ho : x.okL = true) (hr : PartsR g H r q) : PartsR g H ((o, s, x) :: r) ((o, s, l) :: q)

theorem partsS_ok {place : Nat → Option (Nat × Nat)} {ev : Operand → AV} {sv : Operand → SV} (he : ∀ o, SVR g H (sv o) (ev o)) : ∀ {ps : List (Nat × Operand)} {r : List (Nat × Nat × SV)}, partsS place (ps.map fun p => (p.1, sv p.2)) = some r →
    ∃ q, partsAt place (ps.map fun p => (p.1, ev p.2)) = some q ∧ PartsR g H r q
  | [], r, h => by cases h; exact ⟨[], rfl, .nil⟩
  | p :: ps, r, h => by
    simp only [List.map_cons, partsS] at h
    split at h
    · rename_i off size xs r' h1 h2 h3
      cases h
      obtain ⟨q, h4, h5⟩ := partsS_ok he h3
      obtain ⟨l, k1, k2, k3, k4⟩ := cellsSV_ok h2 (he p.2)
      exact ⟨(off, size, l) :: q, by simp only [List.map_cons, partsAt, h1, k1, h4], .cons k2 k4 h5⟩
    · cases h

theorem fillS_ok : ∀ {r : List (Nat × Nat × SV)} {q : List (Nat × Nat × List AV)} {c c' : SV} {l : List AV}, PartsR g H r q → c.okL = true → SVL g H c l → fillS c r = some c' → ∃ l', afill l q = some l' ∧ SVL g H c' l' ∧ c'.okL = true
  | [], _, c, c', l, .nil, hc, hl, h => by cases h; exact ⟨l, rfl, hl, hc⟩
  | (o, s, x) :: r, _, c, c', l, .cons (l := lx) (q := q) h1 h2 h3, hc, hl, h => by
    unfold fillS at h
    split at h
    · rename_i hh
      obtain ⟨k1, k2⟩ := spl_ok (off := o) hc h2 hl h1 (by omega)
      obtain ⟨l', k3, k4⟩ := fillS_ok h3 k2 k1 h
      refine ⟨l', ?_, k4⟩
      unfold afill
      rw [SVL.len (SV.okL_isL h2) h1, SVL.len (SV.okL_isL hc) hl, if_pos hh]
      exact k3
    · cases h

theorem vbuild_ok {t : TypeId} {s : SV} {ev : Operand → AV} {sv : Operand → SV} (he : ∀ o, SVR g H (sv o) (ev o)) {ps : List (Nat × Operand)} (hk : vbuild P t (ps.map fun p => (p.1, sv p.2)) = some s) :
    ∃ y, abuild P t (ps.map fun p => (p.1, ev p.2)) = some y ∧ SVR g H s y := by
  have fin : ∀ {z : SV} {r : List (Nat × Nat × SV)} {q : List (Nat × Nat × List AV)} {l : List AV}, z.okL = true → SVL g H z l → PartsR g H r q → (fillS z r).map (fun c => normA P t (.agg c)) = some s → ∃ y, (afill l q).map AV.agg = some y ∧ SVR g H s y := fun {z r q l} h1 h2 h3 h4 => by
    obtain ⟨c, h5, rfl⟩ := Option.map_eq_some_iff.1 h4
    obtain ⟨l', k1, k2, k3⟩ := fillS_ok h3 h1 h2 h5
    exact ⟨.agg l', by rw [k1]; rfl, normA_ok ⟨l', rfl, k2⟩⟩
  unfold vbuild at hk
  split at hk
  · rename_i z fs hz hu
    obtain ⟨x, l, z1, z2, z3, z4⟩ := zeroS_ok (g := g) (H := H) hz
    split at hk
    · rename_i pl hpl
      split at hk
      · rename_i r hr
        obtain ⟨q, q1, q2⟩ := partsS_ok he hr
        obtain ⟨y, y1, y2⟩ := fin z4 z3 q2 hk
        exact ⟨y, by simp only [abuild, z1, z2, hu, hpl, q1]; exact y1, y2⟩
      · cases hk
    · cases hk
  · rename_i z n e hz hu
    obtain ⟨x, l, z1, z2, z3, z4⟩ := zeroS_ok (g := g) (H := H) hz
    split at hk
    · rename_i size hsz
      split at hk
      · rename_i r hr
        obtain ⟨q, q1, q2⟩ := partsS_ok he hr
        obtain ⟨y, y1, y2⟩ := fin z4 z3 q2 hk
        exact ⟨y, by simp only [abuild, z1, z2, hu, hsz, q1]; exact y1, y2⟩
      · cases hk
    · cases hk
  · cases hk

/-! ### Maps -/
theorem idx_shift {κ ν : Type} [DecidableEq κ] (k : κ) : ∀ (es : List (κ × ν × Nat)) (i : Nat), GMap.idx k es i = (GMap.idx k es 0).map fun x => (x.1 + i, x.2)
  | [], _ => rfl
  | (k', v, b) :: es, i => by
    unfold GMap.idx
    split
    · simp
    · rw [idx_shift k es (i + 1), idx_shift k es (0 + 1), Option.map_map]
      congr 1
      funext x
      simp [Nat.add_assoc, Nat.add_comm 1 i]

theorem afind_rel {κ ν : Type} [DecidableEq κ] {d : Option TypeDesc} {R1 : AV → κ → Prop} {R2 : AV → ν → Prop} {x : AV} {k : κ} (hk : ∀ y b, R1 y b → akey d x y = some (decide (k = b))) :
    ∀ {es : List (AV × AV × Nat)} {fs : List (κ × ν × Nat)} (i : Nat), All2 (fun a b => R1 a.1 b.1 ∧ R2 a.2.1 b.2.1 ∧ a.2.2 = b.2.2) es fs →
      (GMap.idx k fs i = none ∧ afind d x es i = some none) ∨ ∃ j v b y, GMap.idx k fs i = some (j, v, b) ∧ afind d x es i = some (some (j, y, b)) ∧ R2 y v ∧ i ≤ j ∧ (∃ kx, es[j - i]? = some (kx, y, b))
  | [], [], i, _ => .inl ⟨rfl, rfl⟩
  | (kx, y, b) :: es, (k', v, b') :: fs, i, h => by
    obtain ⟨⟨h1, h2, rfl⟩, h3⟩ := h
    simp only at h1 h2
    simp only [afind, hk _ _ h1, GMap.idx]
    by_cases c : k = k'
    · right
      exact ⟨i, v, b, y, by simp [c], by simp [c], h2, Nat.le_refl _, kx, by simp⟩
    · simp only [c, decide_false, if_false]
      rcases afind_rel hk (i + 1) h3 with h4 | ⟨j, v', b', y', h4, h5, h6, h7, kx', h8⟩
      · exact .inl h4
      · refine .inr ⟨j, v', b', y', h4, h5, h6, by omega, kx', ?_⟩
        rw [show j - i = j - (i + 1) + 1 by omega, List.getElem?_cons_succ]; exact h8
  | [], _ :: _, _, h => h.elim
  | _ :: _, [], _, h => h.elim

theorem repI {k : IntKind} {n : Int} {x : AV} (h : RepV g (.int k) x n) : x = .int k n := by have := h.c1 rfl; simpa [RepC] using this
theorem repS {l : List UInt8} {x : AV} (h : RepV g .str x l) : x = .str l := by have := h.c1 rfl; simpa [RepC] using this
theorem repB {b : Bool} {x : AV} (h : RepV g .bool x b) : x = .bool b := by have := h.c1 rfl; simpa [RepC] using this

/-- What finding in a map says, by the kind of its key. -/
structure FindR (g : FM) (kt et : Ty) (d : Option TypeDesc) (x : AV) (k : kt.D) (m : GMap kt.D et.D) (es : List (AV × AV × Nat)) : Prop where
  ok : akeyOk d x = true
  no : mgetT kt m k = none → afind d x es 0 = some none ∧ ∀ v, msetT kt m k v = ⟨m.es ++ [(k, v, m.clock)], m.clock + 1⟩
  yes : ∀ v, mgetT kt m k = some v → ∃ j b y, afind d x es 0 = some (some (j, y, b)) ∧ RepV g et y v ∧ (∃ kx, es[j]? = some (kx, y, b)) ∧ ∀ w, msetT kt m k w = ⟨m.es.set j (k, w, b), m.clock⟩

theorem find_gen {κ : Type} [DecidableEq κ] {et : Ty} {d : Option TypeDesc} {R1 : AV → κ → Prop} {x : AV} {k : κ} (hk : ∀ y b, R1 y b → akey d x y = some (decide (k = b))) {m : GMap κ et.D} {es : List (AV × AV × Nat)}
    (h : All2 (fun a b => R1 a.1 b.1 ∧ RepV g et a.2.1 b.2.1 ∧ a.2.2 = b.2.2) es m.es) :
    (mget m k = none → afind d x es 0 = some none ∧ ∀ v, mset m k v = ⟨m.es ++ [(k, v, m.clock)], m.clock + 1⟩) ∧
    (∀ v, mget m k = some v → ∃ j b y, afind d x es 0 = some (some (j, y, b)) ∧ RepV g et y v ∧ (∃ kx, es[j]? = some (kx, y, b)) ∧ ∀ w, mset m k w = ⟨m.es.set j (k, w, b), m.clock⟩) := by
  rcases afind_rel (R2 := fun y v => RepV g et y v) hk 0 h with ⟨h1, h2⟩ | ⟨j, v, b, y, h1, h2, h3, h4, kx, h5⟩
  · refine ⟨fun _ => ⟨h2, fun v => by simp [mset, h1]⟩, fun v hv => ?_⟩
    simp [mget, h1] at hv
  · refine ⟨fun hn => by simp [mget, h1] at hn, fun v' hv => ?_⟩
    simp only [mget, h1, Option.map_some, Option.some.injEq] at hv
    subst hv
    rw [Nat.sub_zero] at h5
    refine ⟨j, b, y, h2, h3, ⟨kx, h5⟩, fun w => ?_⟩
    obtain ⟨⟨k2, v2, b2⟩, h6, h7⟩ := h.at1 h5
    simp only at h7
    obtain ⟨_, _, rfl⟩ := h7
    simp [mset, h1, h6]

theorem findR {kt et : Ty} {d : Option TypeDesc} (hk : KeyOk d kt = true) {x : AV} {k : kt.D} (hx : RepV g kt x k) {m : GMap kt.D et.D} {es : List (AV × AV × Nat)} (h : All2 (EntV g kt et) es m.es) : FindR g kt et d x k m es := by
  unfold KeyOk at hk
  split at hk
  · rename_i kk
    obtain rfl := repI hx
    obtain ⟨h1, h2⟩ := find_gen (g := g) (κ := Int) (d := some (.int _)) (x := .int kk (k : Int)) (R1 := fun y b => RepV g (.int kk) y b) (k := (k : Int)) (fun y b hy => by
      obtain rfl := repI hy
      simp only [akey, if_true, Option.some.injEq]; by_cases c : (k : Int) = b <;> simp [c]) h
    exact ⟨rfl, h1, h2⟩
  · obtain rfl := repS hx
    obtain ⟨h1, h2⟩ := find_gen (g := g) (κ := List UInt8) (d := some .string) (x := .str k) (R1 := fun y b => RepV g .str y b) (k := (k : List UInt8)) (fun y b hy => by
      obtain rfl := repS hy
      simp only [akey, Option.some.injEq]; by_cases c : (k : List UInt8) = b <;> simp [c]) h
    exact ⟨rfl, h1, h2⟩
  · obtain rfl := repB hx
    obtain ⟨h1, h2⟩ := find_gen (g := g) (κ := Bool) (d := some .bool) (x := .bool k) (R1 := fun y b => RepV g .bool y b) (k := (k : Bool)) (fun y b hy => by
      obtain rfl := repB hy
      simp only [akey, Option.some.injEq]; by_cases c : (k : Bool) = b <;> simp [c]) h
    exact ⟨rfl, h1, h2⟩
  · cases hk

theorem zeroT_ok {t : TypeId} {T : Ty} {v : T.D} (hz : zeroT P t T = some v) : ∃ x, zeroOf P t = some x ∧ RepV g T x v := by
  unfold zeroT at hz
  cases hv : (P.info? t).bind (·.zero) with
  | none => rw [hv] at hz; cases hz
  | some w =>
    rw [hv] at hz
    exact ⟨_, by simp only [zeroOf, hv, Option.map_some], toT_ok (g := g) (H := []) hz (litSV_ok w)⟩

theorem vlookup_ok (M : VMem h0 X g H S.os h) {t : TypeId} {a k : SV} {ok : Bool} {K : SV → Option R} {r : R} (hk : vlookup P S t a k ok K = some r) {x y : AV} (ha : SVR g H a x) (hy : SVR g H k y) :
    ∃ z s, alookup P t x y ok h = some z ∧ SVR g H s z ∧ K s = some r := by
  unfold vlookup at hk
  split at hk
  · rename_i kt et hm
    split at hk
    · rename_i n
      split at hk
      · rename_i Kt Et mm hos
        split at hk
        · rename_i kv z hkv hz
          split at hk
          · rename_i hko
            obtain ⟨id, h1, e⟩ := ha
            cases e
            obtain ⟨id', es, e, h2, h3⟩ := M.so n _ _ hos h1
            cases e
            have F := findR hko (toC_ok hkv hy) h3
            obtain ⟨zx, z1, z2⟩ := zeroT_ok (g := g) hz
            cases hg : mgetT Kt mm kv with
            | none =>
              rw [hg] at hk
              have f1 := (F.no hg).1
              split at hk
              · rename_i hok
                subst hok
                refine ⟨.tup [zx, .bool false], _, by simp [alookup, hm, amapGet, h2, F.ok, f1, z1], ?_, hk⟩
                exact ⟨_, rfl, _, _, rfl, ⟨_, rfl, z2⟩, _, _, rfl, ⟨_, rfl, rfl⟩, rfl⟩
              · rename_i hok
                refine ⟨zx, _, by simp [alookup, hm, amapGet, h2, F.ok, f1, z1, hok], ?_, hk⟩
                exact ⟨_, rfl, z2⟩
            | some v =>
              rw [hg] at hk
              obtain ⟨j, b, yv, f1, f2, _⟩ := F.yes v hg
              split at hk
              · rename_i hok
                subst hok
                refine ⟨.tup [yv, .bool true], _, by simp [alookup, hm, amapGet, h2, F.ok, f1], ?_, hk⟩
                exact ⟨_, rfl, _, _, rfl, ⟨_, rfl, f2⟩, _, _, rfl, ⟨_, rfl, rfl⟩, rfl⟩
              · rename_i hok
                refine ⟨yv, _, by simp [alookup, hm, amapGet, h2, F.ok, f1, hok], ?_, hk⟩
                exact ⟨_, rfl, f2⟩
          · cases hk
        · cases hk
      · cases hk
    · cases hk
  · cases hk
end

end
/-! V7 -/
section
set_option linter.unusedSimpArgs false
set_option linter.unusedVariables false
open Go Go.RowKit

/-! ### What was one's own slice is a plain value from here on -/
def SV.sub (k : Nat) (T : Ty) (l : List T.D) : SV → SV
  | .row k' => if k' = k then .pv (.lst T) l else .row k'
  | .view k' a b => if k' = k then .pv (.lst T) (oTD l a b) else .view k' a b
  | .fn f a b => .fn f (a.sub k T l) (b.sub k T l)
  | .ifc t s => .ifc t (s.sub k T l)
  | .tup s => .tup (s.sub k T l)
  | .agg s => .agg (s.sub k T l)
  | .cn a b => .cn (a.sub k T l) (b.sub k T l)
  | s => s
def SO.sub (k : Nat) (T : Ty) (l : List T.D) : SO → SO
  | .obj t cs => .obj t (cs.sub k T l)
  | .arr e n sz cs => .arr e n sz (cs.sub k T l)
  | o => o
def frz (S : VS) (k : Nat) : VS :=
  match S.os[k]? with
  | some (some (.row _ T l)) => ⟨S.ts.map (SV.sub k T l), (S.os.map fun o => o.map (SO.sub k T l)).set k none⟩
  | _ => S
/-- The own slices in a value. -/
def SV.rows : SV → List Nat
  | .row k => [k]
  | .view k _ _ => [k]
  | .fn _ a b => a.rows ++ b.rows
  | .ifc _ s => s.rows
  | .tup s => s.rows
  | .agg s => s.rows
  | .cn a b => a.rows ++ b.rows
  | _ => []
def frzL (S : VS) (s : SV) : List Nat → VS × SV
  | [] => (S, s)
  | k :: ks => match S.os[k]? with
    | some (some (.row _ T l)) => frzL (frz S k) (s.sub k T l) ks
    | _ => frzL S s ks
/-- A value of a plain type; own slices in it are frozen. -/
def vpv {R : Type} (S : VS) (T : Ty) (s : SV) (K : VS → T.D → Option R) : Option R :=
  match toT T s with
  | some v => K S v
  | none => match toT T (frzL S s s.rows).2 with
    | some v => K (frzL S s s.rows).1 v
    | none => none

section
variable {R : Type} {m : Md R} {P : Program} {g g' : FM} {H : List AV} {env : List AV} {h h0 h' : AH} {X : List Nat} {S : VS}

theorem SV.okC_sub {k : Nat} {T : Ty} {l : List T.D} {s : SV} : (s.sub k T l).okC = s.okC := by
  cases s <;> simp only [SV.sub] <;> first | rfl | (split <;> rfl)
theorem SV.okL_sub {k : Nat} {T : Ty} {l : List T.D} : ∀ {s : SV}, s.okL = true → (s.sub k T l).okL = true
  | .nl, h => rfl
  | .cn a b, h => by
    simp only [SV.okL, Bool.and_eq_true, SV.sub, SV.okC_sub] at h ⊢
    exact ⟨h.1, SV.okL_sub h.2⟩

/-- What is told of the slot's slice, as plain values. -/
structure RowR (g : FM) (H : List AV) (k : Nat) (T : Ty) (l : List T.D) : Prop where
  row : ∀ x, H[k]? = some x → LR g (RepC g T) T.size x l
  sub : ∀ (a b : Int) (id off n sz : Nat), H[k]? = some (.sl id off n sz) → 0 ≤ a → a ≤ b → b ≤ n → LR g (RepC g T) T.size (.sl id (off + a.toNat * sz) (b.toNat - a.toNat) sz) ((l.take b.toNat).drop a.toNat)

theorem sub_ok {k : Nat} {T : Ty} {l : List T.D} (hg : g.le g') (hR : RowR g' H k T l) : ∀ {s : SV} {c : List AV}, SVL g H s c → SVL g' H (s.sub k T l) c
  | .row k', c, h => by
    unfold SV.sub
    obtain ⟨x, h1, rfl, h2⟩ := h
    split
    · rename_i e; subst e; exact ⟨x, rfl, x, rfl, hR.row x h1⟩
    · exact ⟨x, h1, rfl, h2⟩
  | .view k' a b, c, h => by
    unfold SV.sub
    split
    · rename_i e
      subst e
      obtain ⟨p1, p2, ⟨id, off, n, sz, h1, h2, rfl⟩ | ⟨h1, rfl, rfl, rfl⟩⟩ := h
      · exact ⟨_, rfl, _, rfl, hR.sub a b id off n sz h1 p1 p2 h2⟩
      · exact ⟨_, rfl, _, rfl, .inl ⟨rfl, by simp⟩⟩
    · exact h
  | .fn f a b, c, h => by obtain ⟨xs, ys, rfl, h1, h2⟩ := h; exact ⟨xs, ys, rfl, sub_ok hg hR h1, sub_ok hg hR h2⟩
  | .ifc t s, c, h => by obtain ⟨x, rfl, h1⟩ := h; exact ⟨x, rfl, sub_ok hg hR h1⟩
  | .tup s, c, h => by obtain ⟨x, rfl, h1⟩ := h; exact ⟨x, rfl, sub_ok hg hR h1⟩
  | .agg s, c, h => by obtain ⟨x, rfl, h1⟩ := h; exact ⟨x, rfl, sub_ok hg hR h1⟩
  | .cn a b, c, h => by obtain ⟨x, xs, rfl, h1, h2⟩ := h; exact ⟨x, xs, rfl, sub_ok hg hR h1, sub_ok hg hR h2⟩
  | .dead, c, h => h
  | .un, c, h => h
  | .con _, c, h => h
  | .kb _, c, h => h
  | .pv _ _, c, h => SVL.mono (s := .pv _ _) hg (Hpre.refl H) h
  | .ptr _ _, c, h => h
  | .ept _ _ _, c, h => h
  | .osl _ _ _, c, h => h
  | .fpt _ _ _, c, h => SVL.mono (s := .fpt _ _ _) hg (Hpre.refl H) h
  | .gpt _ _ _, c, h => SVL.mono (s := .gpt _ _ _) hg (Hpre.refl H) h
  | .mp _, c, h => h
  | .nl, c, h => h

theorem frz_ok (M : VMem h0 X g H S.os h) {k : Nat} {e : TypeId} {T : Ty} {l : List T.D} (hk : S.os[k]? = some (some (.row e T l))) :
    ∃ g', g.le g' ∧ RowR g' H k T l ∧ VMem h0 X g' H (frz S k).os h := by
  obtain ⟨x, hx⟩ : ∃ x, H[k]? = some x := ⟨H[k]'(by rw [M.hl]; exact lt_at hk), List.getElem?_eq_getElem _⟩
  have so := M.so k _ _ hk hx
  have hos : (frz S k).os = (S.os.map fun o => o.map (SO.sub k T l)).set k none := by unfold frz; rw [hk]
  have key : ∀ g', g.le g' → g'.ok h → RowR g' H k T l → (∀ id c, g'.c id = some c → g'.b id ∨ id ∈ X ∨ h0.n ≤ id) → (∀ j o y id, j ≠ k → S.os[j]? = some (some o) → H[j]? = some y → hid y = some id → g'.c id = none ∧ g'.v id = none) → VMem h0 X g' H (frz S k).os h := fun g' hg hf hR hgx hn => by
    rw [hos]
    have old : ∀ {j o}, ((S.os.map fun o => o.map (SO.sub k T l)).set k none)[j]? = some (some o) → j ≠ k ∧ ∃ o', S.os[j]? = some (some o') ∧ o = o'.sub k T l := fun {j o} hj => by
      rcases set_at hj with ⟨_, e', _⟩ | ⟨hne, hj⟩
      · cases e'
      · rw [List.getElem?_map] at hj
        obtain ⟨q, h1, h2⟩ := Option.map_eq_some_iff.1 hj
        obtain ⟨o', rfl, rfl⟩ := Option.map_eq_some_iff.1 h2
        exact ⟨hne, o', h1, rfl⟩
    refine ⟨M.n, M.old, hf, by simp [M.hl], fun j o y h1 h2 => ?_, fun j o y i h1 h2 h3 => ?_, hgx, fun j o y j' o' y' i h1 h2 h3 h4 h5 h6 => ?_⟩
    · obtain ⟨hne, o', h1', rfl⟩ := old h1
      have hs := M.so j o' y h1' h2
      cases o' with
      | obj t cs => obtain ⟨id, c, rfl, k1, k2, k3⟩ := hs; exact ⟨id, c, rfl, k1, sub_ok hg hR k2, SV.okL_sub k3⟩
      | arr e n sz cs => obtain ⟨id, c, rfl, k1, k2, k3⟩ := hs; exact ⟨id, c, rfl, k1, sub_ok hg hR k2, SV.okL_sub k3⟩
      | _ => exact hs.mono hg (Hpre.refl H)
    · obtain ⟨hne, o', h1', rfl⟩ := old h1
      exact ⟨(M.own j o' y i h1' h2 h3).1, hn j o' y i hne h1' h2 h3⟩
    · obtain ⟨_, o1, h1', rfl⟩ := old h1
      obtain ⟨_, o2, h3', rfl⟩ := old h3
      exact M.nd j o1 y j' o2 y' i h1' h2 h3' h4 h5 h6
  rcases so with ⟨rfl, rfl⟩ | ⟨id, off, c, xs, rfl, h1, h2, h3, h4⟩
  · refine ⟨g, FM.le.refl g, ?_, ?_⟩
    · refine ⟨fun x hx' => ?_, fun a b id off n sz hx' _ _ _ => ?_⟩
      · rw [hx] at hx'; cases hx'; exact .inl ⟨rfl, rfl⟩
      · rw [hx] at hx'; cases hx'
    · refine key g (FM.le.refl g) M.fz ?_ M.gx (fun j o y id hne a b c => (M.own j o y id a b c).2)
      refine ⟨fun x hx' => ?_, fun a b id off n sz hx' _ _ _ => ?_⟩
      · rw [hx] at hx'; cases hx'; exact .inl ⟨rfl, rfl⟩
      · rw [hx] at hx'; cases hx'
  · obtain ⟨_, n1, n2⟩ := M.own k _ _ id hk hx rfl
    have hg : g.le ⟨fun i => if i = id then some c else g.c i, g.v, g.b⟩ := ⟨fun i y hy => by
      show (if i = id then some c else g.c i) = some y
      rw [if_neg (fun e => by rw [e, n1] at hy; cases hy)]; exact hy, fun i y hy => hy, rfl⟩
    have hself : (⟨fun i => if i = id then some c else g.c i, g.v, g.b⟩ : FM).c id = some c := by simp
    have hR : RowR ⟨fun i => if i = id then some c else g.c i, g.v, g.b⟩ H k T l := by
      have h4' := h4.mono (fun c v => RepC.mono (t := T) (c := c) (v := v) hg)
      have hln := h4.len
      refine ⟨fun x hx' => ?_, fun a b id' off' n sz hx' p1 p2 p3 => ?_⟩
      · rw [hx] at hx'; cases hx'
        exact .inr ⟨id, off, rfl, .inr ⟨c, xs, hself, h2, h3, h4'⟩⟩
      · rw [hx] at hx'; cases hx'
        refine .inr ⟨id, off + a.toNat * T.size, ?_, .inr ⟨c, (xs.take b.toNat).drop a.toNat, hself, ?_, ?_, (h4'.take _).drop _⟩⟩
        · rw [List.length_drop, List.length_take, Nat.min_eq_left (by omega)]
        · rw [List.length_drop, List.length_take, Nat.min_eq_left (by omega), Nat.sub_mul]
          have : b.toNat * T.size ≤ l.length * T.size := Nat.mul_le_mul_right _ (by omega)
          have : a.toNat * T.size ≤ b.toNat * T.size := Nat.mul_le_mul_right _ (by omega)
          omega
        · rw [List.length_drop, List.length_take, Nat.min_eq_left (by omega)]
          exact seg_sub (all_len h4) hln h3 (by omega) (by omega)
    refine ⟨_, hg, hR, key _ hg ⟨fun i y hy => ?_, M.fz.2⟩ hR (fun i y hy => ?_) (fun j o y i hne a b d => ?_)⟩
    · simp only at hy
      split at hy
      · rename_i e'; subst e'; cases hy; exact ⟨_, _, _, h1⟩
      · exact M.fz.1 i y hy
    · simp only at hy
      split at hy
      · rename_i e'; subst e'; exact .inr (M.own k _ _ _ hk hx rfl).1
      · exact M.gx i y hy
    · obtain ⟨_, q1, q2⟩ := M.own j o y i a b d
      refine ⟨?_, q2⟩
      show (if i = id then some c else g.c i) = none
      rw [if_neg (fun e' => by subst e'; exact hne (M.nd j o y k _ _ i a b hk hx d rfl))]; exact q1

theorem frz_ts {k : Nat} {e : TypeId} {T : Ty} {l : List T.D} (hk : S.os[k]? = some (some (.row e T l))) : (frz S k).ts = S.ts.map (SV.sub k T l) := by unfold frz; rw [hk]

theorem frz_env (hg : g.le g') {k : Nat} {T : Ty} {l : List T.D} (hR : RowR g' H k T l) {ts : List SV} (E : EnvR g H ts env) : EnvR g' H (ts.map (SV.sub k T l)) env := by
  refine ⟨by simp [E.len], fun d s x h1 h2 => ?_⟩
  rw [List.getElem?_map] at h1
  obtain ⟨s', h3, rfl⟩ := Option.map_eq_some_iff.1 h1
  exact sub_ok hg hR (E.get d s' x h3 h2)

theorem frzL_ok : ∀ {ks : List Nat} {g : FM} {S : VS} {s : SV} {x : AV}, VMem h0 X g H S.os h → EnvR g H S.ts env → SVR g H s x →
    ∃ g', g.le g' ∧ VMem h0 X g' H (frzL S s ks).1.os h ∧ EnvR g' H (frzL S s ks).1.ts env ∧ SVR g' H (frzL S s ks).2 x
  | [], g, S, s, x, M, E, hr => ⟨g, FM.le.refl g, M, E, hr⟩
  | k :: ks, g, S, s, x, M, E, hr => by
    unfold frzL
    split
    · rename_i e T l hk
      obtain ⟨g1, hg, hR, M1⟩ := frz_ok M hk
      have E1 := frz_env hg hR E
      rw [← frz_ts hk] at E1
      obtain ⟨g2, hg2, q⟩ := frzL_ok (ks := ks) M1 E1 (sub_ok hg hR hr)
      exact ⟨g2, hg.trans hg2, q⟩
    · exact frzL_ok M E hr

theorem vpv_ok (M : VMem h0 X g H S.os h) (E : EnvR g H S.ts env) {T : Ty} {s : SV} {K : VS → T.D → Option R} {r : R} (hk : vpv S T s K = some r) {x : AV} (hr : SVR g H s x) :
    ∃ g' S' v, g.le g' ∧ VMem h0 X g' H S'.os h ∧ EnvR g' H S'.ts env ∧ RepV g' T x v ∧ K S' v = some r := by
  unfold vpv at hk
  split at hk
  · rename_i v hv
    exact ⟨g, S, v, FM.le.refl g, M, E, toT_ok hv hr, hk⟩
  · split at hk
    · rename_i v hv
      obtain ⟨g', h1, h2, h3, h4⟩ := frzL_ok (ks := s.rows) M E hr
      exact ⟨g', _, v, h1, h2, h3, toT_ok hv h4, hk⟩
    · cases hk

/-- What a step of the value machine comes to. -/
def Went (h0 : AH) (X : List Nat) (g : FM) (H : List AV) (env : List AV) (res : Option (AV × AH)) (K : VS → SV → Option R) (r : R) : Prop :=
  ∃ y h' g' H' S' s, res = some (y, h') ∧ g.le g' ∧ Hpre H H' ∧ VMem h0 X g' H' S'.os h' ∧ EnvR g' H' S'.ts env ∧ SVR g' H' s y ∧ K S' s = some r

theorem Went.same (M : VMem h0 X g H S.os h) (E : EnvR g H S.ts env) {res : Option (AV × AH)} {K : VS → SV → Option R} {r : R} {y : AV} {s : SV} (e : res = some (y, h)) (hs : SVR g H s y) (hk : K S s = some r) : Went h0 X g H env res K r :=
  ⟨y, h, g, H, S, s, e, FM.le.refl g, Hpre.refl H, M, E, hs, hk⟩
theorem Went.more {g1 : FM} (hg : g.le g1) {res : Option (AV × AH)} {K : VS → SV → Option R} {r : R} (w : Went h0 X g1 H env res K r) : Went h0 X g H env res K r := by
  obtain ⟨y, h', g', H', S', s, h1, h2, h3⟩ := w
  exact ⟨y, h', g', H', S', s, h1, hg.trans h2, h3⟩
/-- A step that makes a new slot. -/
theorem Went.new (M : VMem h0 X g H S.os h) (E : EnvR g H S.ts env) {res : Option (AV × AH)} {K : VS → SV → Option R} {r : R} {x : AV} {o : SO} {q : AO} {s : SV} (e : res = some (x, h.push q)) (hx : ∀ id, hid x = some id → h.n ≤ id) (ho : SOR g (H ++ [x]) (h.push q) o x)
    (hs : SVR g (H ++ [x]) s x) (hk : K ⟨S.ts, S.os ++ [some o]⟩ s = some r) : Went h0 X g H env res K r :=
  ⟨x, _, g, _, ⟨S.ts, S.os ++ [some o]⟩, s, e, FM.le.refl g, Hpre.add H x, M.add (by rw [AH.push_n]; omega) (fun j p hj => by rw [AH.get_push_ne (by have := AH.get_lt hj; omega)]; exact hj) hx ho, E.mono (FM.le.refl g) (Hpre.add H x), hs, hk⟩

/-! ### New blocks -/
def vbox (S : VS) (t : TypeId) (cs : Option SV) (K : VS → SV → Option R) : Option R :=
  match cs with
  | some cs => K ⟨S.ts, S.os ++ [some (.obj t cs)]⟩ (.ptr S.os.length 0)
  | none => none

theorem at_new {x : AV} (M : VMem h0 X g H S.os h) : (H ++ [x])[S.os.length]? = some x := by
  rw [← M.hl, List.getElem?_append_right (Nat.le_refl _), Nat.sub_self]; rfl

theorem vobj_ok (M : VMem h0 X g H S.os h) (E : EnvR g H S.ts env) {t : TypeId} {cs : SV} {l : List AV} (hl : SVL g H cs l) (ho : cs.okL = true) {K : VS → SV → Option R} {r : R} (hk : K ⟨S.ts, S.os ++ [some (.obj t cs)]⟩ (.ptr S.os.length 0) = some r) :
    Went h0 X g H env (some (anew t l h)) K r := by
  refine Went.new M E (x := .ptr h.n 0) (o := .obj t cs) (s := .ptr S.os.length 0) rfl (fun id hi => by cases hi; exact Nat.le_refl _) ⟨h.n, l, rfl, AH.get_push_new h _, hl.mono (FM.le.refl g) (Hpre.add H _), ho⟩ ⟨h.n, at_new M, rfl⟩ hk

theorem valloc_ok (M : VMem h0 X g H S.os h) (E : EnvR g H S.ts env) {cf : CallF} {t : TypeId} {K : VS → SV → Option R} {r : R} (hk : vbox S t (zeroS P t) K = some r) : Went h0 X g H env (aop P cf env (.alloc t) h) K r := by
  unfold vbox at hk
  split at hk
  · rename_i z hz
    obtain ⟨x, l, h1, h2, h3, h4⟩ := zeroS_ok (g := g) (H := H) hz
    simp only [aop, h1, h2, Option.map_some]
    exact vobj_ok M E h3 h4 hk
  · cases hk
theorem vbox_ok (M : VMem h0 X g H S.os h) (E : EnvR g H S.ts env) {cf : CallF} {t : TypeId} {a : Operand} {s : SV} (hs : SVR g H s (evalOp env a)) {K : VS → SV → Option R} {r : R} (hk : vbox S t (cellsSV s) K = some r) : Went h0 X g H env (aop P cf env (.box t a) h) K r := by
  unfold vbox at hk
  split at hk
  · rename_i z hz
    obtain ⟨l, h1, h2, h3, h4⟩ := cellsSV_ok hz hs
    simp only [aop, h1, Option.map_some]
    exact vobj_ok M E h2 h4 hk
  · cases hk

/-! ### Stores -/
def vstore (P : Program) (m : Md R) (S : VS) (t : TypeId) (a x : SV) (K : VS → SV → Option R) : Option R :=
  match a with
  | .ptr k off => match S.os[k]?, cellsSV x, szOf P t with
    | some (some (.obj T cs)), some xs, some n => if xs.len = n ∧ off + n ≤ cs.len then K ⟨S.ts, S.os.set k (some (.obj T (cs.spl off xs)))⟩ .un else none
    | _, _, _ => none
  | .ept k i o => match tyOf P t with
    | some T' => vpv S T' x fun S1 v => match S1.os[k]? with
      | some (some (.row e T l)) => vbind m T.dflt (idxL l i) fun w => match setT T w o T' v with
        | some w' => K ⟨S1.ts, S1.os.set k (some (.row e T (oSet l i w')))⟩ .un
        | none => none
      | _ => none
    | none => none
  | _ => none

theorem seg_splice {c : List AV} {off sz n : Nat} {xs : List (List AV)} (hx : ∀ x ∈ xs, x.length = sz) (hn : xs.length = n) (hb : off + n * sz ≤ c.length) (hs : (c.drop off).take (n * sz) = xs.flatten) {i o : Nat} {x ys : List AV} (hi : xs[i]? = some x) (ho : o + ys.length ≤ x.length) :
    ((splice c (off + i * sz + o) ys).drop off).take (n * sz) = (xs.set i (splice x o ys)).flatten := by
  have hin : i < xs.length := lt_at hi
  have hxl : x.length = sz := hx x (List.mem_of_getElem? hi)
  have hm : i * sz + sz ≤ n * sz := by rw [← Nat.succ_mul]; exact Nat.mul_le_mul_right _ (by omega)
  obtain ⟨g1, g2⟩ := seg_get hs hx hb hi (by omega)
  have hset : xs.set i (splice x o ys) = xs.take i ++ splice x o ys :: xs.drop (i + 1) := by
    rw [List.set_eq_take_append_cons_drop, if_pos hin]
  have f1 : (xs.take i).flatten = (c.drop off).take (i * sz) := by
    rw [take_flat hx, ← hs, List.take_take, Nat.min_eq_left (by omega)]
  have f2 : (xs.drop (i + 1)).flatten = ((c.drop off).take (n * sz)).drop (i * sz + sz) := by
    rw [drop_flat hx, ← hs, Nat.succ_mul]
  have hc : c = c.take off ++ (c.drop off) := (List.take_append_drop _ _).symm
  rw [hset, List.flatten_append, List.flatten_cons, f1, f2]
  have hsp : (splice c (off + i * sz + o) ys).drop off = (c.drop off).take (i * sz + o) ++ (ys ++ c.drop (off + i * sz + o + ys.length)) := by
    unfold splice
    rw [List.drop_append, List.drop_take]
    rw [show off - (c.take (off + i * sz + o)).length = 0 by rw [List.length_take]; omega, List.drop_zero]
    rw [show off + i * sz + o - off = i * sz + o by omega]
  rw [hsp]
  have hx' : splice x o ys = ((c.drop (off + i * sz)).take o) ++ (ys ++ ((c.drop (off + i * sz)).take sz).drop (o + ys.length)) := by
    unfold splice
    rw [← g2, List.take_take, Nat.min_eq_left (by omega)]
  rw [hx']
  have e1 : (c.drop off).take (i * sz + o) = (c.drop off).take (i * sz) ++ (c.drop (off + i * sz)).take o := by
    rw [List.take_add, List.drop_drop]
  rw [e1, List.append_assoc]
  rw [List.take_append]
  have l1 : ((c.drop off).take (i * sz)).length = i * sz := by rw [List.length_take, List.length_drop]; omega
  rw [List.take_of_length_le (l := (c.drop off).take (i * sz)) (by omega), l1]
  rw [List.take_append]
  have l2 : ((c.drop (off + i * sz)).take o).length = o := by rw [List.length_take, List.length_drop]; omega
  rw [List.take_of_length_le (l := (c.drop (off + i * sz)).take o) (by omega), l2]
  rw [List.take_append, List.take_of_length_le (l := ys) (by omega)]
  simp only [List.append_assoc]
  congr 3
  rw [List.drop_take, List.drop_take, List.drop_drop, List.drop_drop]
  rw [show off + i * sz + (o + ys.length) = off + i * sz + o + ys.length by omega]
  rw [show off + (i * sz + sz) = off + i * sz + o + ys.length + (sz - (o + ys.length)) by omega]
  have e2 : c.drop (off + i * sz + o + ys.length + (sz - (o + ys.length))) = (c.drop (off + i * sz + o + ys.length)).drop (sz - (o + ys.length)) := by rw [List.drop_drop]
  rw [e2]
  generalize c.drop (off + i * sz + o + ys.length) = d
  rw [show n * sz - i * sz - o - ys.length = (sz - (o + ys.length)) + (n * sz - (i * sz + sz)) by omega, List.take_add]

theorem vstore_ok (hm : m.real = true) (M : VMem h0 X g H S.os h) (E : EnvR g H S.ts env) {t : TypeId} {a x : SV} {K : VS → SV → Option R} {r : R} (hk : vstore P m S t a x K = some r) {y z : AV} (ha : SVR g H a y) (hx : SVR g H x z) :
    Went h0 X g H env ((astore P t y z h).map fun h' => (.undef, h')) K r := by
  unfold vstore at hk
  split at hk
  · rename_i k off
    split at hk
    · rename_i T cs xs n hos hxs hsz
      split at hk
      · rename_i hc
        obtain ⟨id, h1, e⟩ := ha
        cases e
        obtain ⟨id', c, e, h2, h3, h4⟩ := M.so k _ _ hos h1
        cases e
        obtain ⟨l, k1, k2, k3, k4⟩ := cellsSV_ok hxs hx
        have l1 := SVL.len (SV.okL_isL k4) k2
        have l2 := SVL.len (SV.okL_isL h4) h3
        obtain ⟨q1, q2⟩ := spl_ok h4 k4 h3 k2 (off := off) (by omega)
        have hst : astore P t (.ptr id off) z h = some (h.set id (.cells (splice c off l) true 0 (some (T, true)))) := by
          simp only [astore, h2, k1, hsz]
          rw [if_pos ⟨by omega, by omega, by omega, k3⟩]
        refine ⟨.undef, h.set id (.cells (splice c off l) true 0 (some (T, true))), g, H, ⟨S.ts, S.os.set k (some (.obj T (cs.spl off xs)))⟩, .un, by rw [hst]; rfl, FM.le.refl g, Hpre.refl H, ?_, E, rfl, hk⟩
        exact M.upd hos h1 rfl (by rw [AH.set_n]; exact Nat.le_refl _) (fun j q hne hq => by rw [AH.get_set_ne hne]; exact hq) ⟨id, _, rfl, AH.get_set_same h2, q1, q2⟩
      · cases hk
    · cases hk
  · rename_i k i o
    split at hk
    · rename_i T' hT
      obtain ⟨g1, S1, v, hg, M1, E1, hv, hk⟩ := vpv_ok M E hk hx
      split at hk
      · rename_i e T l hos
        obtain ⟨w, hw, hk⟩ := vbind_ok hm hk
        split at hk
        · rename_i w' hw'
          obtain ⟨p0, id, off, n, sz, h1, h2, e'⟩ := ha
          cases e'
          obtain ⟨cs, k1, k2⟩ := hv.cells
          obtain ⟨j0, j1, j2⟩ := idxL_lt hw
          rcases M1.so k _ _ hos h1 with ⟨e', _⟩ | ⟨id', off', c, xs, e', q1, q2, q3, q4⟩
          · cases e'
          · cases e'
            obtain ⟨xi, x1, x2⟩ := q4.at j2
            obtain ⟨s1, s2⟩ := setT_ok x2 k2 hw'
            have hall := all_len q4
            have hln := q4.len
            have hxl := hall xi (List.mem_of_getElem? x1)
            obtain ⟨b1, b2⟩ := seg_get q3 hall q2 x1 j1
            have hst : astore P t (.ptr id (off + i.toNat * T.size + o)) z h = some (h.set id (.cells (splice c (off + i.toNat * T.size + o) cs) true 0 (some (e, false)))) := by
              obtain ⟨z1, z2⟩ := tyOf_ok hT
              have := k2.len
              simp only [astore, q1, k1, z1]
              rw [if_pos ⟨by omega, by omega, by omega, k2.ones⟩]
            refine Went.more hg ⟨.undef, h.set id (.cells (splice c (off + i.toNat * T.size + o) cs) true 0 (some (e, false))), g1, H, ⟨S1.ts, S1.os.set k (some (.row e T (l.set i.toNat w')))⟩, .un, by rw [hst]; rfl, FM.le.refl g1, Hpre.refl H, ?_, E1, rfl, hk⟩
            refine M1.upd hos h1 rfl (by rw [AH.set_n]; exact Nat.le_refl _) (fun j q hne hq => by rw [AH.get_set_ne hne]; exact hq) (.inr ⟨id, off, _, xs.set i.toNat (splice xi o cs), by rw [List.length_set], AH.get_set_same q1, ?_, ?_, q4.set _ s2⟩)
            · rw [List.length_set, splice_len (by omega)]; exact q2
            · rw [List.length_set]
              exact seg_splice hall hln q2 q3 x1 s1
        · cases hk
      · cases hk
    · cases hk
  · cases hk
end

end
/-! V8 -/
section
set_option linter.unusedSimpArgs false
set_option linter.unusedVariables false
open Go Go.RowKit

/-! ### Slice types -/
def slOk (P : Program) (t e : TypeId) (sz : Nat) : Bool :=
  (match P.underlying t with
  | some (.slice e') => e' == e
  | _ => false) &&
  decide ((P.info? e).map (fun i => (i.size, decide (i.bytes < 1000), i.zero.map fun z => z.cells.size)) = some (sz, true, some sz)) &&
  decide ((zeroOf P e).bind (fun z => z.cells.map List.length) = some sz) && decide (0 < sz) && decide (sz < 1000)
theorem slOk_ty {P : Program} {t e : TypeId} {sz : Nat} (h : slOk P t e sz = true) : SlTy P t e sz := by
  unfold slOk at h
  simp only [Bool.and_eq_true, decide_eq_true_eq] at h
  obtain ⟨⟨⟨⟨h1, h2⟩, h3⟩, h4⟩, h5⟩ := h
  refine ⟨?_, h2, h3, h4, h5⟩
  split at h1
  · rename_i e' hu; rw [hu]; simp only [beq_iff_eq] at h1; rw [h1]
  · cases h1

section
variable {R : Type}
/-- The elements that are appended. -/
def moreOf (S : VS) (T : Ty) (s : SV) : Option (List T.D) :=
  match s with
  | .pv .str l => asT (.lst (.int .u8)) (.lst T) (oInts l)
  | s => lstOf S T s
/-- What is appended to: its elements, its slot. -/
def baseOf (S : VS) (e : TypeId) (T : Ty) (s : SV) : Option (List T.D × Option Nat) :=
  match s with
  | .con (.val (.slice none 0 0)) => some ([], none)
  | .row k => match S.os[k]? with
    | some (some (.row e' T' l)) => if e' = e then (asT (.lst T') (.lst T) l).map fun l => (l, some k) else none
    | _ => none
  | .view k a b => match S.os[k]? with
    | some (some (.row e' T' l)) => if e' = e then (asT (.lst T') (.lst T) (oTD l a b)).map fun l => (l, some k) else none
    | _ => none
  | _ => none
def rid (S : VS) (k : Option Nat) : List (Option SO) :=
  match k with
  | some k => S.os.set k none
  | none => S.os
/-- So many more elements, all the same. -/
def appN {α : Type} (zs : List α) (n : Int) (z : α) : Option (List α) := if 0 ≤ n ∧ zs.length + n.toNat ≤ capL then some (zs ++ List.replicate n.toNat z) else none
def vappendN (P : Program) (m : Md R) (S : VS) (xt e : TypeId) (T : Ty) (s x : SV) (K : VS → SV → Option R) : Option R :=
  match P.underlying xt, x, baseOf S e T s, zeroT P e T with
  | some (.int .i64), .pv (.int .i64) n, some (zs, k), some z => vbind m ([] : List T.D) (appN zs n z) fun r => K ⟨S.ts, rid S k ++ [some (.row e T r)]⟩ (.row S.os.length)
  | _, _, _, _ => none
def vappend (P : Program) (m : Md R) (S : VS) (st xt : TypeId) (s x : SV) (K : VS → SV → Option R) : Option R :=
  match sliceElem P st with
  | some e => match tyOf P e with
    | some T => if slOk P st e T.size = true then
        if (P.underlying xt).map notInt = some true then
          match baseOf S e T s, moreOf S T x with
          | some (zs, k), some ys => vbind m ([] : List T.D) (app zs ys) fun r => K ⟨S.ts, rid S k ++ [some (.row e T r)]⟩ (.row S.os.length)
          | _, _ => none
        else vappendN P m S xt e T s x K
      else none
    | none => none
  | none => none

def toL (T : Ty) : SV → Option (List T.D)
  | .nl => some []
  | .cn a b => match toT T a, toL T b with
    | some x, some l => some (x :: l)
    | _, _ => none
  | _ => none
def vpvL (S : VS) (T : Ty) (s : SV) (K : VS → List T.D → Option R) : Option R :=
  match toL T s with
  | some v => K S v
  | none => match toL T (frzL S s s.rows).2 with
    | some v => K (frzL S s s.rows).1 v
    | none => none
def vbuildSlice (P : Program) (S : VS) (t : TypeId) (len : Nat) (parts : List (Nat × SV)) (K : VS → SV → Option R) : Option R :=
  match sliceElem P t with
  | some e => match tyOf P e with
    | some T => if slOk P t e T.size = true ∧ parts.map (·.1) = List.range len ∧ len * T.size ≤ 16777216 then
        vpvL S T (SV.ofList (parts.map (·.2))) fun S1 l => K ⟨S1.ts, S1.os ++ [some (.row e T l)]⟩ (.row S1.os.length)
      else none
    | none => if slOk P t e 1 = true ∧ parts.map (·.1) = List.range len ∧ len ≤ 16777216 ∧ 0 < len ∧ (SV.ofList (parts.map (·.2))).okL = true then
        K ⟨S.ts, S.os ++ [some (.arr e len 1 (SV.ofList (parts.map (·.2))))]⟩ (.row S.os.length)
      else none
  | none => none
def vmake (P : Program) (m : Md R) (S : VS) (t : TypeId) (l c : SV) (K : VS → SV → Option R) : Option R :=
  match sliceElem P t, l, c with
  | some e, .pv (.int _) n, .pv (.int _) c => match tyOf P e with
    | some T => if slOk P t e T.size = true then match zeroT P e T with
        | some z => vbind m () (chkSub (oMin c 100000000) n c) fun _ => K ⟨S.ts, S.os ++ [some (.row e T (oRep n z))]⟩ (.row S.os.length)
        | none => none
      else none
    | none => none
  | _, _, _ => none
def vbytes (P : Program) (S : VS) (s d : TypeId) (a : SV) (K : VS → SV → Option R) : Option R :=
  match P.underlying s, P.underlying d, a with
  | some .string, some (.slice e), .pv .str l => match P.underlying e with
    | some (.int .u8) => K ⟨S.ts, S.os ++ [some (.row e (.int .u8) (oInts l))]⟩ (.row S.os.length)
    | _ => none
  | _, _, _ => none
end

section
variable {R : Type} {m : Md R} {P : Program} {g g' : FM} {H : List AV} {env : List AV} {h h0 h' : AH} {X : List Nat} {S : VS}

/-- A step that makes a new slot, of some new blocks. -/
theorem Went.add (M : VMem h0 X g H S.os h) (E : EnvR g H S.ts env) {res : Option (AV × AH)} {K : VS → SV → Option R} {r : R} {x : AV} {o : SO} {s : SV} (e : res = some (x, h')) (hn : h.n ≤ h'.n) (hf : ∀ j q, h.get j = some q → h'.get j = some q) (hx : ∀ id, hid x = some id → h.n ≤ id)
    (ho : SOR g (H ++ [x]) h' o x) (hs : SVR g (H ++ [x]) s x) (hk : K ⟨S.ts, S.os ++ [some o]⟩ s = some r) : Went h0 X g H env res K r :=
  ⟨x, _, g, _, ⟨S.ts, S.os ++ [some o]⟩, s, e, FM.le.refl g, Hpre.add H x, M.add hn hf hx ho, E.mono (FM.le.refl g) (Hpre.add H x), hs, hk⟩

theorem Went.ofSep (M : VMem h0 X g H S.os h) (E : EnvR g H S.ts env) {res : Option (AV × AH)} {K : VS → SV → Option R} {r : R} {u : AV} {e : TypeId} {T : Ty} {xs : List (List AV)} {l : List T.D} (hs : Sep h [] h' [.row u e T.size xs]) (ha : All2 (RepC g T) xs l) (he : res = some (u, h'))
    (hk : K ⟨S.ts, S.os ++ [some (.row e T l)]⟩ (.row S.os.length) = some r) : Went h0 X g H env res K r := by
  obtain ⟨hl, hrow⟩ := hs.ok (.row u e T.size xs) (List.mem_cons_self ..)
  have hln := ha.len
  have hfl := flat_len hl
  refine Went.add M E he hs.n (fun j q hq => hs.old j q (by simp) hq) (fun id hi => ?_) ?_ ?_ hk
  · rcases hs.own (.row u e T.size xs) (List.mem_cons_self ..) id (by
      cases u <;> simp [hid] at hi <;> simp [Ent.ids, idsOf]
      · rcases hrow with ⟨_, e'⟩ | ⟨_, e', _⟩ <;> cases e'
      · exact hi.symm
      · rcases hrow with ⟨_, e'⟩ | ⟨_, e', _⟩ <;> cases e') with h1 | h1
    · simp at h1
    · exact h1
  · rcases hrow with ⟨rfl, rfl⟩ | ⟨id, rfl, hg⟩
    · exact .inl ⟨rfl, List.eq_nil_of_length_eq_zero hln.symm⟩
    · exact .inr ⟨id, 0, _, xs, by rw [hln], hg, by rw [← hln]; omega, by rw [List.drop_zero, ← hln, List.take_of_length_le (by omega)], ha⟩
  · refine ⟨u, at_new M, rfl, ?_⟩
    rcases hrow with ⟨_, rfl⟩ | ⟨id, rfl, _⟩
    · exact .inl rfl
    · exact .inr ⟨id, _, _, _, rfl⟩

/-- A slot that goes on under another name. -/
theorem VMem.mov (M : VMem h0 X g H S.os h) {k : Nat} {o o' : SO} {x x' : AV} (hk : S.os[k]? = some (some o)) (hx : H[k]? = some x) (hi : ∀ id, hid x' = some id → hid x = some id) (ho : SOR g (H ++ [x']) h o' x') : VMem h0 X g (H ++ [x']) (S.os.set k none ++ [some o']) h := by
  have hp := Hpre.add H x'
  have hlk := lt_at hk
  have old : ∀ {j p y}, (S.os.set k none ++ [some o'])[j]? = some (some p) → (H ++ [x'])[j]? = some y → (j = S.os.length ∧ p = o' ∧ y = x') ∨ (j ≠ k ∧ S.os[j]? = some (some p) ∧ H[j]? = some y) := fun {j p y} hj hy => by
    rcases app_at hj with ⟨e, e'⟩ | ⟨hlt, hj⟩
    · cases e'
      rw [List.length_set] at e
      rcases app_at hy with ⟨_, e''⟩ | ⟨hlt, _⟩
      · exact .inl ⟨e, rfl, e''⟩
      · rw [M.hl] at hlt; omega
    · rw [List.length_set] at hlt
      rcases app_at hy with ⟨e, _⟩ | ⟨_, hy⟩
      · rw [M.hl] at e; omega
      · rcases set_at hj with ⟨_, e', _⟩ | ⟨hne, hj⟩
        · cases e'
        · exact .inr ⟨hne, hj, hy⟩
  refine ⟨M.n, M.old, M.fz, by simp [M.hl], fun j p y h1 h2 => ?_, fun j p y i h1 h2 h3 => ?_, M.gx, fun j p y j' p' y' i h1 h2 h3 h4 h5 h6 => ?_⟩
  · rcases old h1 h2 with ⟨rfl, rfl, rfl⟩ | ⟨_, h1, h2⟩
    · exact ho
    · exact (M.so j p y h1 h2).mono (FM.le.refl g) hp
  · rcases old h1 h2 with ⟨rfl, rfl, rfl⟩ | ⟨_, h1, h2⟩
    · exact M.own k o x i hk hx (hi i h3)
    · exact M.own j p y i h1 h2 h3
  · rcases old h1 h2 with ⟨rfl, rfl, rfl⟩ | ⟨q1, h1', h2'⟩
    · rcases old h3 h4 with ⟨rfl, rfl, rfl⟩ | ⟨q2, h3', h4'⟩
      · rfl
      · exact absurd (M.nd k o x j' p' y' i hk hx h3' h4' (hi i h5) h6).symm q2
    · rcases old h3 h4 with ⟨rfl, rfl, rfl⟩ | ⟨q2, h3', h4'⟩
      · exact absurd (M.nd j p y k o x i h1' h2' hk hx h5 (hi i h6)) q1
      · exact M.nd j p y j' p' y' i h1' h2' h3' h4' h5 h6

theorem ints_rep (l : List UInt8) : All2 (RepC g (.int .u8)) ((l.map fun b => (b.toNat : Int)).map (cellI .u8)) (l.map fun b => (b.toNat : Int)) := by
  induction l with
  | nil => trivial
  | cons a l ih => exact ⟨rfl, ih⟩

theorem byte_cells : ∀ l : List UInt8, (l.map fun b => AV.int .u8 (b.toNat : Int)) = (((l.map fun b => (b.toNat : Int)).map (cellI .u8))).flatten
  | [] => rfl
  | a :: l => by simp only [List.map_cons, List.flatten_cons, byte_cells l]; rfl
/-- What is read of that which is appended. -/
structure MoreR (g : FM) (h : AH) (T : Ty) (x : AV) (ys : List T.D) : Prop where
  len : alen x = some ys.length
  cells : ∃ xs, All2 (RepC g T) xs ys ∧ acells x T.size ys.length h = some xs.flatten

theorem moreOf_ok (M : VMem h0 X g H S.os h) {T : Ty} (hp : 0 < T.size) {s : SV} {ys : List T.D} (hy : moreOf S T s = some ys) {x : AV} (hr : SVR g H s x) : MoreR g h T x ys := by
  have ro : lstOf S T s = some ys → MoreR g h T x ys := fun hy => by
    obtain ⟨xs, h1, h2⟩ := lstOf_ro M hy hr
    have hl := h1.len
    exact ⟨by rw [h2.alen, hl], xs, h1, by rw [← hl]; exact h2.cells hp⟩
  unfold moreOf at hy
  split at hy
  · rename_i l
    unfold asT at hy
    split at hy
    · rename_i e
      cases e
      cases hy
      rw [pvS hr]
      have e3 := byte_cells l
      refine ⟨by show some l.length = some (List.length (l.map _)); rw [List.length_map], _, ints_rep l, ?_⟩
      show acells (.str l) 1 (List.length (l.map _)) h = _
      rw [List.length_map]
      simp only [acells, Nat.le_refl, and_self, if_true, List.take_length]
      exact congrArg some e3
    · cases hy
  · exact ro hy

theorem vapp_core (M : VMem h0 X g H S.os h) (E : EnvR g H S.ts env) {e : TypeId} {T : Ty} {st : TypeId} (b : SlTy P st e T.size) {s : SV} {K : VS → SV → Option R} {r : R} {u : AV} (hs : SVR g H s u) {zs ys : List T.D} {k : Option Nat} (hb : baseOf S e T s = some (zs, k))
    (hk : K ⟨S.ts, rid S k ++ [some (.row e T (zs ++ ys))]⟩ (.row S.os.length) = some r) {xs : List (List AV)} (mx : All2 (RepC g T) xs ys) {AP : Option (AV × AH)} (key : ∀ (hal : alen u = some zs.length), AP = aappendAt e T.size ys.length xs.flatten u h) :
    Went h0 X g H env AP K r := by
  -- the base
  have hln := mx.len
  have hall := all_len mx
  -- a slice with a block
  have blk : ∀ {k' : Nat} {l : List T.D} {id off n : Nat} {c : List AV} {xs0 zx : List (List AV)} {x0 : AV}, S.os[k']? = some (some (.row e T l)) → H[k']? = some x0 → hid x0 = some id → k = some k' → u = .sl id off zs.length T.size → h.get id = some (.cells c true 0 (some (e, false))) →
      off + zs.length * T.size ≤ c.length → (c.drop off).take (zs.length * T.size) = zx.flatten → All2 (RepC g T) zx zs → Went h0 X g H env (AP) K r := fun {k' l id off n c xs0 zx x0} hos hH hhid hkk hu hg hle hseg hzs => by
    subst hkk
    subst hu
    rw [key (by rfl)]
    by_cases h0y : ys.length = 0
    · obtain rfl := List.eq_nil_of_length_eq_zero h0y
      have hM := VMem.mov (o' := .row e T (zs ++ [])) (x' := .sl id off zs.length T.size) M hos hH (fun j hj => by cases hj; exact hhid) (.inr ⟨id, off, c, zx, by rw [List.append_nil], hg, by rw [List.append_nil]; exact hle, by rw [List.append_nil]; exact hseg, by rw [List.append_nil]; exact hzs⟩)
      refine ⟨.sl id off zs.length T.size, h, g, _, ⟨S.ts, S.os.set k' none ++ [some (.row e T (zs ++ []))]⟩, .row S.os.length, by simp [aappendAt], FM.le.refl g, Hpre.add H _, hM, E.mono (FM.le.refl g) (Hpre.add H _), ?_, hk⟩
      exact ⟨_, at_new M, rfl, .inr ⟨_, _, _, _, rfl⟩⟩
    · have hones : xs.flatten.all AV.one = true := by
        rw [List.all_flatten, List.all_eq_true]
        intro y hy'
        obtain ⟨j, hj, rfl⟩ := List.mem_iff_getElem.1 hy'
        obtain ⟨v, _, hv⟩ := mx.at1 (List.getElem?_eq_getElem hj)
        exact hv.ones
      have hap : aappendAt e T.size ys.length xs.flatten (.sl id off zs.length T.size) h = some (.sl h.n 0 (zs.length + ys.length) T.size, (h.set id .dead).push (.cells (zx.flatten ++ xs.flatten) true 0 (some (e, false)))) := by
        simp only [aappendAt, if_neg h0y, hg]
        rw [if_pos ⟨trivial, hle, by omega, hones⟩, hseg]
        simp [tyApp]
      have M1 : VMem h0 X g H (S.os.set k' none) (h.set id .dead) := M.chg hos hH hhid (by rw [AH.set_n]; exact Nat.le_refl _) (fun j q hne hq => by rw [AH.get_set_ne hne]; exact hq)
      have hn' : (h.set id .dead).n = h.n := AH.set_n _ _ _
      have hlz := hzs.len
      have hzx := all_len hzs
      have fl1 := flat_len hzx
      have fl2 := flat_len hall
      have M2 := VMem.add (o := .row e T (zs ++ ys)) (x := .sl h.n 0 (zs.length + ys.length) T.size) M1 (h' := (h.set id .dead).push (.cells (zx.flatten ++ xs.flatten) true 0 (some (e, false)))) (by rw [AH.push_n]; omega) (fun j p hj => by rw [AH.get_push_ne (by have := AH.get_lt hj; omega)]; exact hj)
        (fun j hj => by cases hj; omega) (.inr ⟨h.n, 0, zx.flatten ++ xs.flatten, zx ++ xs, by rw [List.length_append], by rw [← hn']; exact AH.get_push_new _ _, by rw [List.length_append, List.length_append, Nat.add_mul]; rw [fl1, fl2, hlz, hln]; omega, by
          rw [List.drop_zero, List.take_of_length_le (by rw [List.length_append, List.length_append, Nat.add_mul, fl1, fl2, hlz, hln]; omega), List.flatten_append], hzs.append mx⟩)
      refine ⟨_, _, g, _, ⟨S.ts, S.os.set k' none ++ [some (.row e T (zs ++ ys))]⟩, .row S.os.length, hap, FM.le.refl g, Hpre.add H _, M2, E.mono (FM.le.refl g) (Hpre.add H _), ?_, hk⟩
      exact ⟨_, at_new M, rfl, .inr ⟨_, _, _, _, rfl⟩⟩
  -- none
  have non : ∀ (hk0 : k = none ∨ ∃ k' o, k = some k' ∧ S.os[k']? = some (some o) ∧ H[k']? = some nilS), u = nilS → zs = [] → Went h0 X g H env (AP) K r := fun hk0 hu hzs => by
    subst hu
    subst hzs
    rw [key (by rfl)]
    have Mk : VMem h0 X g H (rid S k) h := by
      rcases hk0 with rfl | ⟨k', o, rfl, _, _⟩
      · exact M
      · exact M.drop k'
    have hrl : (rid S k).length = S.os.length := by rcases hk0 with rfl | ⟨k', o, rfl, _, _⟩ <;> simp [rid]
    have Ek : EnvR g H (VS.mk S.ts (rid S k)).ts env := E
    by_cases h0y : ys.length = 0
    · obtain rfl := List.eq_nil_of_length_eq_zero h0y
      refine Went.add (S := ⟨S.ts, rid S k⟩) (x := nilS) (o := .row e T ([] ++ [])) (s := .row S.os.length) Mk Ek (h' := h) (by simp [aappendAt]) (Nat.le_refl _) (fun _ _ hq => hq) (fun id hi => by cases hi) (.inl ⟨rfl, rfl⟩) ?_ hk
      refine ⟨nilS, ?_, rfl, .inl rfl⟩
      exact at_new M
    · refine Went.add (S := ⟨S.ts, rid S k⟩) (x := .sl h.n 0 ys.length T.size) (o := .row e T ([] ++ ys)) (s := .row S.os.length) Mk Ek (h' := h.push (.cells xs.flatten true 0 (some (e, false)))) (by simp [aappendAt, h0y]) (by rw [AH.push_n]; omega) (fun j p hj => by rw [AH.get_push_ne (by have := AH.get_lt hj; omega)]; exact hj) (fun id hi => by cases hi; exact Nat.le_refl _) ?_ ?_ hk
      · have fl2 := flat_len hall
        refine .inr ⟨h.n, 0, xs.flatten, xs, by rw [List.nil_append], AH.get_push_new _ _, by rw [List.nil_append, ← hln]; omega, by rw [List.nil_append, List.drop_zero, ← hln, List.take_of_length_le (by omega)], mx⟩
      · exact ⟨_, at_new M, rfl, .inr ⟨_, _, _, _, rfl⟩⟩
  unfold baseOf at hb
  split at hb
  · cases hb
    cases hs
    exact non (.inl rfl) rfl rfl
  · rename_i k'
    split at hb
    · rename_i e' T' l hos
      split at hb
      · rename_i hee
        subst hee
        obtain ⟨l', hl', hq⟩ := Option.map_eq_some_iff.1 hb
        cases hq
        obtain ⟨rfl, rfl⟩ := asL_ok hl'
        obtain ⟨y, h1, e1, _⟩ := hs
        cases e1
        rcases M.so k' _ _ hos h1 with ⟨hu, hl⟩ | ⟨id, off, c, xs0, rfl, q1, q2, q3, q4⟩
        · exact non (.inr ⟨k', _, rfl, hos, by rw [← hu]; exact h1⟩) hu hl
        · exact blk (n := 0) (xs0 := []) hos h1 rfl rfl rfl q1 q2 q3 q4
      · cases hb
    · cases hb
  · rename_i k' a b'
    split at hb
    · rename_i e' T' l hos
      split at hb
      · rename_i hee
        subst hee
        obtain ⟨l', hl', hq⟩ := Option.map_eq_some_iff.1 hb
        cases hq
        obtain ⟨rfl, rfl⟩ := asL_ok hl'
        obtain ⟨p1, p2, ⟨id, off, n, sz, h1, h2, e1⟩ | ⟨h1, rfl, rfl, e1⟩⟩ := hs
        · cases e1
          rcases M.so k' _ _ hos h1 with ⟨hu, hl⟩ | ⟨id', off', c, xs0, e2, q1, q2, q3, q4⟩
          · cases hu
          · cases e2
            have hll : ((l.take b'.toNat).drop a.toNat).length = b'.toNat - a.toNat := by rw [List.length_drop, List.length_take, Nat.min_eq_left (by omega)]
            have m1 : b'.toNat * T'.size ≤ l.length * T'.size := Nat.mul_le_mul_right _ (by omega)
            have m2 : a.toNat * T'.size ≤ b'.toNat * T'.size := Nat.mul_le_mul_right _ (by omega)
            refine blk (n := 0) (xs0 := []) (zx := (xs0.take b'.toNat).drop a.toNat) hos h1 rfl rfl (by show AV.sl id _ _ _ = AV.sl id _ (List.length ((l.take b'.toNat).drop a.toNat)) _; rw [hll]) q1 (by show _ + List.length ((l.take b'.toNat).drop a.toNat) * _ ≤ _; rw [hll, Nat.sub_mul]; omega) ?_ ((q4.take _).drop _)
            show List.take (List.length ((l.take b'.toNat).drop a.toNat) * _) _ = _
            rw [hll]
            exact seg_sub (all_len q4) q4.len q3 (by omega) (by omega)
        · cases e1
          exact non (.inr ⟨k', _, rfl, hos, h1⟩) rfl (by show (l.take (Int.toNat 0)).drop (Int.toNat 0) = []; simp)
      · cases hb
    · cases hb
  · cases hb
theorem vappend_ok (hm : m.real = true) (M : VMem h0 X g H S.os h) (E : EnvR g H S.ts env) {st xt : TypeId} {ats : Array TypeId} (ht0 : ats[0]? = some st) (ht1 : ats[1]? = some xt) {s x : SV} {K : VS → SV → Option R} {r : R} (hk : vappend P m S st xt s x K = some r) {u w : AV} (hs : SVR g H s u) (hx : SVR g H x w) :
    Went h0 X g H env (aappend P ats [u, w] h) K r := by
  unfold vappend at hk
  split at hk
  rotate_left
  · cases hk
  rename_i e he
  split at hk
  rotate_left
  · cases hk
  rename_i T hT
  split at hk
  rotate_left
  · cases hk
  rename_i hc1
  have b := slOk_ty hc1
  obtain ⟨i, hi, hi1, hi2, hroom⟩ := b.room
  split at hk
  · rename_i hc2
    split at hk
    rotate_left
    · cases hk
    rename_i zs k ys hb hy
    obtain ⟨z, hz, hk⟩ := vbind_ok hm hk
    unfold app at hz
    split at hz
    rotate_left
    · cases hz
    rename_i hcap
    cases hz
    obtain ⟨ml, xs, mx, mc⟩ := moreOf_ok M b.pos hy hx
    refine vapp_core M E b hs hb hk mx fun hal => ?_
    unfold aappend
    rw [ht0, ht1]
    simp only [he, hc2, hi, ml, hal, hi1, hroom (zs.length + ys.length) (by unfold capL at *; omega), mc]
  · rename_i hc2
    unfold vappendN at hk
    split at hk
    rotate_left
    · cases hk
    rename_i n zs k z hxt hb hz
    obtain ⟨y, hy, hk⟩ := vbind_ok hm hk
    unfold appN at hy
    split at hy
    rotate_left
    · cases hy
    rename_i hcap
    cases hy
    obtain ⟨zx, z1, z2⟩ := zeroT_ok (g := g) hz
    obtain ⟨cs, z3, z4⟩ := z2.cells
    have hw : w = .int .i64 n := by
      obtain ⟨y, ey, hy⟩ := hx
      cases ey
      have := hy.c1 rfl
      simpa [RepC] using this
    subst hw
    have hrep : All2 (RepC g T) (List.replicate n.toNat cs) (List.replicate n.toNat z) := All2.rep n.toNat z4
    refine vapp_core M E b hs hb hk hrep fun hal => ?_
    unfold aappend
    rw [ht0, ht1]
    have hni : (P.underlying xt).map notInt = some false := by rw [hxt]; rfl
    simp only [he, hni]
    unfold aappendN
    simp only [hxt, hi, hal, z1, hroom (zs.length + n.toNat) (by unfold capL at *; omega), z3, hi1]
    rw [if_pos ⟨hcap.1, z4.len⟩, List.length_replicate, zrow_rep]
end

end
/-! V9 -/
section
set_option linter.unusedSimpArgs false
set_option linter.unusedVariables false
open Go Go.RowKit

/-! ### Maps that are written -/
section
variable {R : Type}
def vmakeMap (P : Program) (S : VS) (t : TypeId) (K : VS → SV → Option R) : Option R :=
  match mapOf P t with
  | some (kt, et) => match tyOf P kt, tyOf P et with
    | some Kt, some Et => K ⟨S.ts, S.os ++ [some (.map Kt Et ⟨[], 0⟩)]⟩ (.mp S.os.length)
    | _, _ => none
  | none => none
def vmapSet (P : Program) (S : VS) (t : TypeId) (a k v : SV) (K : VS → SV → Option R) : Option R :=
  match mapOf P t with
  | some (kt, et) => match a, tyOf P et with
    | .mp n, some Et => vpv S Et v fun S1 vv => match S1.os[n]? with
      | some (some (.map Kt Et' mm)) => match toC Kt k, asT Et Et' vv with
        | some kv, some vv => if KeyOk (P.underlying kt) Kt = true then K ⟨S1.ts, S1.os.set n (some (.map Kt Et' (msetT Kt mm kv vv)))⟩ .un else none
        | _, _ => none
      | _ => none
    | _, _ => none
  | none => none
/-- An entry to be changed: the map with it, what it holds, its number. -/
def mentT (Kt Et : Ty) (mm : GMap Kt.D Et.D) (k : Kt.D) (z : Et.D) : GMap Kt.D Et.D × Et.D := ((match mgetT Kt mm k with | some _ => mm | none => msetT Kt mm k z), (mgetT Kt mm k).getD z)
def bornOf (Kt : Ty) {α : Type} (mm : GMap Kt.D α) (k : Kt.D) : Nat := match idxT Kt k mm.es with | some (some (_, _, b)) => b | _ => mm.clock
end

section
variable {R : Type} {m : Md R} {P : Program} {g g' : FM} {H : List AV} {env : List AV} {h h0 h' : AH} {X : List Nat} {S : VS}

theorem toL_ok {T : Ty} : ∀ {s : SV} {l : List T.D} {xs : List AV}, toL T s = some l → SVL g H s xs → All2 (RepV g T) xs l
  | .nl, l, xs, h, hr => by cases h; cases hr; trivial
  | .cn a b, l, xs, h, hr => by
    unfold toL at h
    split at h
    · rename_i x l' h1 h2
      cases h
      obtain ⟨y, ys, rfl, k1, k2⟩ := hr
      exact ⟨toT_ok h1 k1, toL_ok h2 k2⟩
    · cases h
  | .dead, _, _, h, _ => by cases h
  | .un, _, _, h, _ => by cases h
  | .con _, _, _, h, _ => by cases h
  | .kb _, _, _, h, _ => by cases h
  | .pv _ _, _, _, h, _ => by cases h
  | .ptr _ _, _, _, h, _ => by cases h
  | .row _, _, _, h, _ => by cases h
  | .view _ _ _, _, _, h, _ => by cases h
  | .ept _ _ _, _, _, h, _ => by cases h
  | .osl _ _ _, _, _, h, _ => by cases h
  | .fpt _ _ _, _, _, h, _ => by cases h
  | .gpt _ _ _, _, _, h, _ => by cases h
  | .mp _, _, _, h, _ => by cases h
  | .fn _ _ _, _, _, h, _ => by cases h
  | .ifc _ _, _, _, h, _ => by cases h
  | .tup _, _, _, h, _ => by cases h
  | .agg _, _, _, h, _ => by cases h

theorem frzL_okL : ∀ {ks : List Nat} {g : FM} {S : VS} {s : SV} {xs : List AV}, VMem h0 X g H S.os h → EnvR g H S.ts env → SVL g H s xs →
    ∃ g', g.le g' ∧ VMem h0 X g' H (frzL S s ks).1.os h ∧ EnvR g' H (frzL S s ks).1.ts env ∧ SVL g' H (frzL S s ks).2 xs
  | [], g, S, s, x, M, E, hr => ⟨g, FM.le.refl g, M, E, hr⟩
  | k :: ks, g, S, s, x, M, E, hr => by
    unfold frzL
    split
    · rename_i e T l hk
      obtain ⟨g1, hg, hR, M1⟩ := frz_ok M hk
      have E1 := frz_env hg hR E
      rw [← frz_ts hk] at E1
      obtain ⟨g2, hg2, q⟩ := frzL_okL (ks := ks) M1 E1 (sub_ok hg hR hr)
      exact ⟨g2, hg.trans hg2, q⟩
    · exact frzL_okL M E hr

theorem vpvL_ok (M : VMem h0 X g H S.os h) (E : EnvR g H S.ts env) {T : Ty} {s : SV} {K : VS → List T.D → Option R} {r : R} (hk : vpvL S T s K = some r) {xs : List AV} (hr : SVL g H s xs) :
    ∃ g' S' l, g.le g' ∧ VMem h0 X g' H S'.os h ∧ EnvR g' H S'.ts env ∧ All2 (RepV g' T) xs l ∧ K S' l = some r := by
  unfold vpvL at hk
  split at hk
  · rename_i v hv
    exact ⟨g, S, v, FM.le.refl g, M, E, toL_ok hv hr, hk⟩
  · split at hk
    · rename_i v hv
      obtain ⟨g', h1, h2, h3, h4⟩ := frzL_okL (ks := s.rows) M E hr
      exact ⟨g', _, v, h1, h2, h3, toL_ok hv h4, hk⟩
    · cases hk

theorem cells_all {T : Ty} : ∀ {xs : List AV} {l : List T.D}, All2 (RepV g T) xs l → ∃ cs, xs.map AV.cells = cs.map some ∧ All2 (RepC g T) cs l
  | [], [], _ => ⟨[], rfl, trivial⟩
  | x :: xs, v :: l, h => by
    obtain ⟨c, h1, h2⟩ := h.1.cells
    obtain ⟨cs, h3, h4⟩ := cells_all h.2
    exact ⟨c :: cs, by simp [h1, h3], h2, h4⟩
  | [], _ :: _, h => h.elim
  | _ :: _, [], h => h.elim

theorem idxd_of : ∀ {ps : List (Nat × AV)} {n : Nat}, ps.map (·.1) = List.range' n ps.length → ps = idxd (ps.map (·.2)) n
  | [], _, _ => rfl
  | (i, x) :: ps, n, h => by
    simp only [List.map_cons, List.length_cons, List.range'_succ, List.cons.injEq] at h
    simp only [List.map_cons, idxd]
    rw [← idxd_of h.2, h.1]

theorem cells_one : ∀ {xs : List AV}, xs.all AV.one = true → xs.map AV.cells = (xs.map fun x => [x]).map some
  | [], _ => rfl
  | x :: xs, h => by
    simp only [List.all_cons, Bool.and_eq_true] at h
    have hx : x.cells = some [x] := by
      unfold AV.cells
      split
      · cases h.1
      · rw [if_pos h.1]
    simp only [List.map_cons, hx, cells_one h.2]

theorem vbuildSlice_ok (M : VMem h0 X g H S.os h) (E : EnvR g H S.ts env) {t : TypeId} {len : Nat} {ev : Operand → AV} {sv : Operand → SV} (he : ∀ o, SVR g H (sv o) (ev o)) {ps : List (Nat × Operand)} {K : VS → SV → Option R} {r : R}
    (hk : vbuildSlice P S t len (ps.map fun p => (p.1, sv p.2)) K = some r) : Went h0 X g H env (abuildSlice P t len (ps.map fun p => (p.1, ev p.2)) h) K r := by
  unfold vbuildSlice at hk
  split at hk
  rotate_left
  · cases hk
  rename_i e hse
  split at hk
  rotate_left
  · split at hk
    rotate_left
    · cases hk
    rename_i hc
    obtain ⟨c1, c2, c3, c4, c5⟩ := hc
    have b := slOk_ty c1
    have hS : SVL g H (SV.ofList ((ps.map fun p => (p.1, sv p.2)).map (·.2))) (ps.map fun p => ev p.2) := by
      rw [List.map_map]
      exact SVL.ofList (fun p : Nat × Operand => he p.2) ps
    have hone := SVL.ones c5 hS
    have k1 := cells_one hone
    have hlc : ps.length = len := by have h2 := congrArg List.length c2; simpa using h2
    obtain ⟨u, h1, q1, q2⟩ := Sep.build b (Sep.nil h) (ps.map fun p => ev p.2) ((ps.map fun p => ev p.2).map fun x => [x]) k1 (fun x hx => by obtain ⟨y, _, rfl⟩ := List.mem_map.1 hx; rfl) (by simp; omega)
    obtain ⟨hl, hrow⟩ := q2.ok (.row u e 1 ((ps.map fun p => ev p.2).map fun x => [x])) (by simp)
    have hidx : ps.map (fun p => (p.1, ev p.2)) = idxd (ps.map fun p => ev p.2) 0 := by
      have := idxd_of (ps := ps.map fun p => (p.1, ev p.2)) (n := 0) (by
        rw [List.map_map, List.length_map, hlc, ← List.range_eq_range', ← c2, List.map_map]; rfl)
      rw [this, List.map_map]; rfl
    have hres : abuildSlice P t len (ps.map fun p => (p.1, ev p.2)) h = some (u, h1) := by
      rw [← q1, hidx]; congr 1; simp [hlc]
    rcases hrow with ⟨hnil, rfl⟩ | ⟨id, rfl, hg⟩
    · exfalso
      have h9 := congrArg List.length hnil
      rw [List.length_map, List.length_map, List.length_nil] at h9
      omega
    · have hfl : ((ps.map fun p => ev p.2).map fun x => [x]).flatten = ps.map fun p => ev p.2 := by
        induction (ps.map fun p => ev p.2) with
        | nil => rfl
        | cons a l ih => simpa using ih
      rw [hfl] at hg
      refine Went.add M E hres q2.n (fun j q hq => q2.old j q (by simp) hq) (fun id' hi => ?_) ?_ ?_ hk
      · rcases q2.own (.row (.sl id 0 ((ps.map fun p => ev p.2).map fun x => [x]).length 1) e 1 ((ps.map fun p => ev p.2).map fun x => [x])) (by simp) id' (by cases hi; simp [Ent.ids, idsOf]) with h1 | h1
        · cases h1
        · exact h1
      · exact ⟨id, _, by simp [hlc], hg, hS.mono (FM.le.refl g) (Hpre.add H _), c5⟩
      · exact ⟨_, at_new M, rfl, .inr ⟨id, 0, _, _, rfl⟩⟩
  rename_i T hT
  split at hk
  rotate_left
  · cases hk
  rename_i hc
  obtain ⟨c1, c2, c3⟩ := hc
  have b := slOk_ty c1
  have hS : SVL g H (SV.ofList ((ps.map fun p => (p.1, sv p.2)).map (·.2))) (ps.map fun p => ev p.2) := by
    rw [List.map_map]
    exact SVL.ofList (fun p : Nat × Operand => he p.2) ps
  obtain ⟨g', S', l, hg, M', E', hr, hk⟩ := vpvL_ok M E hk hS
  obtain ⟨cs, k1, k2⟩ := cells_all hr
  have hlc : cs.length = len := by
    have h1 := congrArg List.length k1
    have h2 := congrArg List.length c2
    simp at h1 h2
    omega
  obtain ⟨u, h1, q1, q2⟩ := Sep.build b (Sep.nil h) (ps.map fun p => ev p.2) cs k1 (all_len k2) (by rw [hlc]; exact c3)
  refine Went.more hg (Went.ofSep M' E' (h' := h1) q2 k2 ?_ hk)
  rw [← q1, hlc]
  congr 1
  have hlp : ps.length = len := by have h2 := congrArg List.length c2; simpa using h2
  have := idxd_of (ps := ps.map fun p => (p.1, ev p.2)) (n := 0) (by
    rw [List.map_map, List.length_map, hlp, ← List.range_eq_range', ← c2, List.map_map]; rfl)
  rw [this, List.map_map]
  rfl

theorem cap_ok (c : Int) (b : Nat) (h0 : 0 ≤ c) (hc : c ≤ min c 100000000) (hb : b < 1000) : c * ((b : Int) + 1) ≤ sizeCap := by
  have h1 : c * ((b : Int) + 1) ≤ c * 1000 := Int.mul_le_mul_of_nonneg_left (by omega) h0
  have h2 : (sizeCap : Int) = 1099511627776 := rfl
  rw [h2]
  omega
theorem vmake_ok (hm : m.real = true) (M : VMem h0 X g H S.os h) (E : EnvR g H S.ts env) {t : TypeId} {l c : SV} {K : VS → SV → Option R} {r : R} (hk : vmake P m S t l c K = some r) {x y : AV} (hl : SVR g H l x) (hc : SVR g H c y) : Went h0 X g H env (amakeSlice P t x y h) K r := by
  unfold vmake at hk
  split at hk
  rotate_left
  · cases hk
  rename_i e k1 n k2 c hse
  rw [pvI hl, pvI hc]
  split at hk
  rotate_left
  · cases hk
  rename_i T hT
  split at hk
  rotate_left
  · cases hk
  rename_i hsl
  have b := slOk_ty hsl
  split at hk
  rotate_left
  · cases hk
  rename_i z hz
  obtain ⟨u, hu, hk⟩ := vbind_ok hm hk
  obtain ⟨p1, p2, p3⟩ := chkSub_ok hu
  obtain ⟨zx, z1, z2⟩ := zeroT_ok (g := g) hz
  obtain ⟨cs, z3, z4⟩ := z2.cells
  obtain ⟨i, zv, hi, i1, i2, i3, i4⟩ := b.info
  have hz1 := z4.len
  have hcap := cap_ok c i.bytes (Int.le_trans p1 p2) p3 i2
  have hmk : amakeSlice P t (.int k1 n) (.int k2 c) h = some (.sl h.n 0 n.toNat T.size, h.push (.cells (zrow cs n.toNat) true 0 (some (e, false)))) := by
    have hpos := b.pos
    simp only [amakeSlice, hse, hi, z1, z3, i1, hz1]
    rw [if_pos ⟨by omega, by omega, hcap, trivial, hpos⟩]
  refine Went.add M E (x := .sl h.n 0 n.toNat T.size) (o := .row e T (List.replicate n.toNat z)) (s := .row S.os.length) hmk (by rw [AH.push_n]; omega) (fun j p hj => by rw [AH.get_push_ne (by have := AH.get_lt hj; omega)]; exact hj) (fun id hi => by cases hi; exact Nat.le_refl _) (.inr ⟨h.n, 0, zrow cs n.toNat, List.replicate n.toNat cs, by rw [List.length_replicate], AH.get_push_new _ _, ?_, ?_, All2.rep _ z4⟩) ⟨_, at_new M, rfl, .inr ⟨_, _, _, _, rfl⟩⟩ hk
  · rw [zrow_rep, List.length_replicate]
    have := flat_len (xs := List.replicate n.toNat cs) (sz := T.size) (fun x hx => by rw [List.eq_of_mem_replicate hx]; exact hz1)
    rw [List.length_replicate] at this
    omega
  · rw [zrow_rep, List.length_replicate, List.drop_zero, List.take_of_length_le]
    have := flat_len (xs := List.replicate n.toNat cs) (sz := T.size) (fun x hx => by rw [List.eq_of_mem_replicate hx]; exact hz1)
    rw [List.length_replicate] at this
    omega

theorem vbytes_ok (M : VMem h0 X g H S.os h) (E : EnvR g H S.ts env) {s d : TypeId} {a : SV} {K : VS → SV → Option R} {r : R} (hk : vbytes P S s d a K = some r) {x : AV} (ha : SVR g H a x) : Went h0 X g H env (aconv P s d x h) K r := by
  unfold vbytes at hk
  split at hk
  · rename_i e l hs hd
    split at hk
    · rename_i he
      rw [pvS ha]
      obtain ⟨u, h1, q1, q2⟩ := Sep.bytes (x := .string) hs hd he (Sep.nil h) l
      exact Went.ofSep (T := .int .u8) M E q2 (ints_rep l) q1 hk
    · cases hk
  · cases hk

/-! ### Parts of a row cleared -/
theorem seg_write {c : List AV} {off sz n : Nat} {xs ys : List (List AV)} (hx : ∀ x ∈ xs, x.length = sz) (hy : ∀ x ∈ ys, x.length = sz) (hn : xs.length = n) (hb : off + n * sz ≤ c.length) (hs : (c.drop off).take (n * sz) = xs.flatten) {a : Nat} (ha : a + ys.length ≤ n) :
    ((splice c (off + a * sz) ys.flatten).drop off).take (n * sz) = (xs.take a ++ (ys ++ xs.drop (a + ys.length))).flatten := by
  have hyl := flat_len hy
  have f1 : (xs.take a).flatten = (c.drop off).take (a * sz) := by
    have : a * sz ≤ n * sz := Nat.mul_le_mul_right _ (by omega)
    rw [take_flat hx, ← hs, List.take_take, Nat.min_eq_left (by omega)]
  have f2 : (xs.drop (a + ys.length)).flatten = ((c.drop off).take (n * sz)).drop ((a + ys.length) * sz) := by
    rw [drop_flat hx, ← hs]
  have hm : (a + ys.length) * sz ≤ n * sz := Nat.mul_le_mul_right _ ha
  rw [Nat.add_mul] at hm
  rw [List.flatten_append, List.flatten_append, f1, f2]
  unfold splice
  rw [List.drop_append, List.drop_take, List.length_take, show off - min (off + a * sz) c.length = 0 by omega, List.drop_zero, show off + a * sz - off = a * sz by omega]
  rw [List.take_append, List.take_of_length_le (l := (c.drop off).take (a * sz)) (by rw [List.length_take]; omega), List.length_take, List.length_drop]
  congr 1
  rw [show min (a * sz) (c.length - off) = a * sz by omega]
  rw [List.take_append, List.take_of_length_le (l := ys.flatten) (by omega), hyl]
  congr 1
  rw [List.drop_take, List.drop_drop, Nat.add_mul]
  rw [show off + a * sz + ys.length * sz = off + (a * sz + ys.length * sz) by omega, show n * sz - a * sz - ys.length * sz = n * sz - (a * sz + ys.length * sz) by omega]

/-- The elements of a row from a place to another one, cleared. -/
def vclear (P : Program) (S : VS) (t : TypeId) (x : SV) (K : VS → SV → Option R) : Option R :=
  match sliceElem P t with
  | some e => match x with
    | .con (.val (.slice none 0 0)) => K S .un
    | .row k => match S.os[k]? with
      | some (some (.row e' T l)) => match zeroT P e T with
        | some z => if 0 < T.size then K ⟨S.ts, S.os.set k (some (.row e' T (oRep (oLen l) z)))⟩ .un else none
        | none => none
      | _ => none
    | .view k a b => match S.os[k]? with
      | some (some (.row e' T l)) => match zeroT P e T with
        | some z => if 0 < T.size then K ⟨S.ts, S.os.set k (some (.row e' T (oClr l a b z)))⟩ .un else none
        | none => none
      | _ => none
    | _ => none
  | none => none

theorem clear_row (M : VMem h0 X g H S.os h) (E : EnvR g H S.ts env) {ats : Array TypeId} {t e e' : TypeId} (ht : ats[0]? = some t) (he : sliceElem P t = some e) {k : Nat} {T : Ty} {l : List T.D} (hos : S.os[k]? = some (some (.row e' T l))) {z : T.D} (hz : zeroT P e T = some z) (hp : 0 < T.size)
    {a b : Nat} (hab : a ≤ b) (hb : b ≤ l.length) {id off n sz : Nat} (hH : H[k]? = some (.sl id off n sz)) {K : VS → SV → Option R} {r : R}
    (hk : K ⟨S.ts, S.os.set k (some (.row e' T (l.take a ++ (List.replicate (b - a) z ++ l.drop b))))⟩ .un = some r) : Went h0 X g H env (aclear P ats [.sl id (off + a * sz) (b - a) sz] h) K r := by
  rcases M.so k _ _ hos hH with ⟨e1, _⟩ | ⟨id', off', c, xs, e1, q1, q2, q3, q4⟩
  · cases e1
  cases e1
  obtain ⟨zx, z1, z2⟩ := zeroT_ok (g := g) hz
  obtain ⟨cs, z3, z4⟩ := z2.cells
  have hz1 := z4.len
  have hall := all_len q4
  have hln := q4.len
  have hll : (l.take a ++ (List.replicate (b - a) z ++ l.drop b)).length = l.length := by simp; omega
  by_cases h0' : b - a = 0
  · have hab' : a = b := by omega
    subst hab'
    have e2 : l.take a ++ (List.replicate (a - a) z ++ l.drop a) = l := by simp
    rw [e2] at hk
    have e3 : S.os.set k (some (.row e' T l)) = S.os := by
      apply List.ext_getElem?
      intro j
      by_cases hj : k = j
      · subst hj; rw [List.getElem?_set_self (lt_at hos), hos]
      · rw [List.getElem?_set_ne hj]
    rw [e3] at hk
    exact Went.same M E (y := .undef) (s := .un) (by simp [aclear, ht, he]) rfl hk
  · have hm : (b - a) * T.size + a * T.size ≤ l.length * T.size := by rw [← Nat.add_mul]; exact Nat.mul_le_mul_right _ (by omega)
    have hys : ∀ x ∈ List.replicate (b - a) cs, x.length = T.size := fun x hx => by rw [List.eq_of_mem_replicate hx]; exact hz1
    have hfl := flat_len hys
    rw [List.length_replicate] at hfl
    have hcl : aclear P ats [.sl id (off + a * T.size) (b - a) T.size] h = some (.undef, h.set id (.cells (splice c (off + a * T.size) (zrow cs (b - a))) true 0 (some (e', false)))) := by
      simp only [aclear, ht, he, q1, z1, z3]
      rw [if_neg h0', if_pos ⟨hz1, hp, by rw [zrow_rep]; omega, Nat.zero_le _, by
        rw [zrow_rep, List.all_flatten, List.all_eq_true]
        intro x hx
        rw [List.eq_of_mem_replicate hx]; exact z4.ones⟩]
    refine ⟨.undef, _, g, H, ⟨S.ts, S.os.set k (some (.row e' T (l.take a ++ (List.replicate (b - a) z ++ l.drop b))))⟩, .un, hcl, FM.le.refl g, Hpre.refl H, ?_, E, rfl, hk⟩
    refine M.upd hos hH rfl (by rw [AH.set_n]; exact Nat.le_refl _) (fun j q hne hq => by rw [AH.get_set_ne hne]; exact hq) (.inr ⟨id, off, _, xs.take a ++ (List.replicate (b - a) cs ++ xs.drop b), by rw [hll], AH.get_set_same q1, ?_, ?_, (q4.take _).append ((All2.rep _ z4).append (q4.drop _))⟩)
    · rw [hll, splice_len (by rw [zrow_rep]; omega)]; exact q2
    · rw [hll, zrow_rep]
      have := seg_write (a := a) hall hys hln q2 q3 (by rw [List.length_replicate]; omega)
      rw [List.length_replicate, show a + (b - a) = b by omega] at this
      exact this

theorem vclear_ok (M : VMem h0 X g H S.os h) (E : EnvR g H S.ts env) {ats : Array TypeId} {t : TypeId} (ht : ats[0]? = some t) {x : SV} {K : VS → SV → Option R} {r : R} (hk : vclear P S t x K = some r) {y : AV} (hx : SVR g H x y) : Went h0 X g H env (aclear P ats [y] h) K r := by
  unfold vclear at hk
  split at hk
  rotate_left
  · cases hk
  rename_i e he
  split at hk
  · cases hx
    exact Went.same M E (y := .undef) (s := .un) (by simp [aclear, ht, he]) rfl hk
  · rename_i k
    split at hk
    · rename_i e' T l hos
      split at hk
      · rename_i z hz
        split at hk
        · rename_i hp
          obtain ⟨w, h1, e1, h2⟩ := hx
          cases e1
          rcases h2 with rfl | ⟨id, off, n, sz, rfl⟩
          · rcases M.so k _ _ hos h1 with ⟨_, rfl⟩ | ⟨_, _, _, _, e1, _⟩
            · have e3 : S.os.set k (some (.row e' T (oRep (oLen ([] : List T.D)) z))) = S.os := by
                apply List.ext_getElem?
                intro j
                by_cases hj : k = j
                · subst hj; rw [List.getElem?_set_self (lt_at hos), hos]; simp [oRep, oLen]
                · rw [List.getElem?_set_ne hj]
              rw [e3] at hk
              exact Went.same M E (y := .undef) (s := .un) (by simp [aclear, ht, he]) rfl hk
            · cases e1
          · have hn : n = l.length := by
              rcases M.so k _ _ hos h1 with ⟨e1, _⟩ | ⟨_, _, _, _, e1, _⟩
              · cases e1
              · cases e1; rfl
            have := clear_row M E ht he hos hz hp (a := 0) (b := l.length) (Nat.zero_le _) (Nat.le_refl _) h1 (K := K) (r := r) (by simpa [oRep, oLen] using hk)
            simpa [hn] using this
        · cases hk
      · cases hk
    · cases hk
  · rename_i k a b
    split at hk
    · rename_i e' T l hos
      split at hk
      · rename_i z hz
        split at hk
        · rename_i hp
          obtain ⟨h1, h2, h3⟩ := hx
          rcases h3 with ⟨id, off, n, sz, k1, k2, e1⟩ | ⟨k1, rfl, rfl, e1⟩
          · cases e1
            have hn : n = l.length := by
              rcases M.so k _ _ hos k1 with ⟨e1, _⟩ | ⟨_, _, _, _, e1, _⟩
              · cases e1
              · cases e1; rfl
            exact clear_row M E ht he hos hz hp (by omega) (by omega) k1 hk
          · cases e1
            have e3 : S.os.set k (some (.row e' T (oClr l 0 0 z))) = S.os := by
              apply List.ext_getElem?
              intro j
              by_cases hj : k = j
              · subst hj; rw [List.getElem?_set_self (lt_at hos), hos]; simp [oClr]
              · rw [List.getElem?_set_ne hj]
            rw [e3] at hk
            exact Went.same M E (y := .undef) (s := .un) (by simp [aclear, ht, he]) rfl hk
        · cases hk
      · cases hk
    · cases hk
  · cases hk

/-! ### Maps -/
theorem vmakeMap_ok (M : VMem h0 X g H S.os h) (E : EnvR g H S.ts env) {cf : CallF} {t : TypeId} {K : VS → SV → Option R} {r : R} (hk : vmakeMap P S t K = some r) : Went h0 X g H env (some (.map h.n, h.push (.map [] 0))) K r := by
  unfold vmakeMap at hk
  split at hk
  · split at hk
    · rename_i Kt Et _ _
      exact Went.add M E (x := .map h.n) (o := .map Kt Et ⟨[], 0⟩) (s := .mp S.os.length) rfl (by rw [AH.push_n]; omega) (fun j p hj => by rw [AH.get_push_ne (by have := AH.get_lt hj; omega)]; exact hj) (fun id hi => by cases hi; exact Nat.le_refl _) ⟨h.n, [], rfl, AH.get_push_new _ _, trivial⟩ ⟨h.n, at_new M, rfl⟩ hk
    · cases hk
  · cases hk

theorem EntV.setAt {Kt Et : Ty} {es : List (AV × AV × Nat)} {fs : List (Kt.D × Et.D × Nat)} (h : All2 (EntV g Kt Et) es fs) {j : Nat} {kx y : AV} {b : Nat} {x w : AV} {k : Kt.D} {v : Et.D} (hj : es[j]? = some (kx, y, b)) (hk : RepV g Kt x k) (hv : RepV g Et w v) :
    All2 (EntV g Kt Et) (setEntry es j x w) (fs.set j (k, v, b)) := by
  unfold setEntry
  rw [hj]
  exact h.set j ⟨hk, hv, rfl⟩

theorem mapSet_ok (M : VMem h0 X g H S.os h) {t kt et : TypeId} (hm : mapOf P t = some (kt, et)) {n id : Nat} {Kt Et : Ty} {mm : GMap Kt.D Et.D} (hos : S.os[n]? = some (some (.map Kt Et mm))) (hH : H[n]? = some (.map id)) (hko : KeyOk (P.underlying kt) Kt = true) {x w : AV} {k : Kt.D} {v : Et.D} (hx : RepV g Kt x k) (hv : RepV g Et w v) :
    ∃ h1, amapUpdate P t (.map id) x w h = some h1 ∧ VMem h0 X g H (S.os.set n (some (.map Kt Et (msetT Kt mm k v)))) h1 := by
  obtain ⟨id', es, e, h2, h3⟩ := M.so n _ _ hos hH
  cases e
  have F := findR hko hx h3
  cases hgt : mgetT Kt mm k with
  | none =>
    obtain ⟨f1, f2⟩ := F.no hgt
    refine ⟨h.set id (.map (es ++ [(x, w, mm.clock)]) (mm.clock + 1)), by simp only [amapUpdate, hm, h2, F.ok, f1, if_true], ?_⟩
    exact M.upd hos hH rfl (by rw [AH.set_n]; exact Nat.le_refl _) (fun j q hne hq => by rw [AH.get_set_ne hne]; exact hq) ⟨id, es ++ [(x, w, mm.clock)], rfl, by rw [f2]; exact AH.get_set_same h2, by rw [f2]; exact h3.append ⟨⟨hx, hv, rfl⟩, trivial⟩⟩
  | some u =>
    obtain ⟨j, b, y, f1, f2, ⟨kx, f3⟩, f4⟩ := F.yes u hgt
    refine ⟨h.set id (.map (setEntry es j x w) mm.clock), by simp only [amapUpdate, hm, h2, F.ok, f1, if_true], ?_⟩
    exact M.upd hos hH rfl (by rw [AH.set_n]; exact Nat.le_refl _) (fun j q hne hq => by rw [AH.get_set_ne hne]; exact hq) ⟨id, _, rfl, by rw [f4]; exact AH.get_set_same h2, by rw [f4]; exact EntV.setAt h3 f3 hx hv⟩

theorem vmapSet_ok (M : VMem h0 X g H S.os h) (E : EnvR g H S.ts env) {t : TypeId} {a k v : SV} {K : VS → SV → Option R} {r : R} (hk : vmapSet P S t a k v K = some r) {x y z : AV} (ha : SVR g H a x) (hy : SVR g H k y) (hz : SVR g H v z) :
    Went h0 X g H env ((amapUpdate P t x y z h).map fun h' => (.undef, h')) K r := by
  unfold vmapSet at hk
  split at hk
  rotate_left
  · cases hk
  rename_i kt et hm
  split at hk
  rotate_left
  · cases hk
  rename_i n Et hEt
  obtain ⟨g1, S1, vv, hg, M1, E1, hv, hk⟩ := vpv_ok M E hk hz
  split at hk
  rotate_left
  · cases hk
  rename_i Kt Et' mm hos
  split at hk
  rotate_left
  · cases hk
  rename_i kv vv' hkv hvv
  split at hk
  rotate_left
  · cases hk
  rename_i hko
  obtain ⟨id, h1, e⟩ := ha
  cases e
  obtain ⟨h2, q1, q2⟩ := mapSet_ok M1 hm hos h1 hko (toC_ok hkv (SVR.mono hg (Hpre.refl H) hy)) (asT_ok hvv hv)
  exact Went.more hg ⟨.undef, h2, g1, H, ⟨S1.ts, S1.os.set n (some (.map Kt Et' (msetT Kt mm kv vv')))⟩, .un, by rw [q1]; rfl, FM.le.refl _, Hpre.refl _, q2, E1, rfl, hk⟩

/-! ### Letters of a text -/
def vrange (P : Program) (S : VS) (t : TypeId) (a : SV) (K : VS → SV → Option R) : Option R :=
  match P.underlying t, a with
  | some .string, .pv .str l => K ⟨S.ts, S.os ++ [some (.sit l 0)]⟩ (.ptr S.os.length 0)
  | _, _ => none
def vnext (m : Md R) (S : VS) (it : SV) (str : Bool) (K : VS → SV → Option R) : Option R :=
  match it, str with
  | .ptr k 0, true => match S.os[k]? with
    | some (some (.sit l p)) => vcond m (oLt p (oLen l))
        (K ⟨S.ts, S.os.set k (some (.sit l (oDecN l p)))⟩ (.tup (.cn (.kb true) (.cn (.pv (.int .i64) p) (.cn (.pv (.int .i32) (oDecR l p)) .nl)))))
        (K S (.tup (.cn (.kb false) .nl)))
    | _ => none
  | _, _ => none
theorem vrange_ok (M : VMem h0 X g H S.os h) (E : EnvR g H S.ts env) {t : TypeId} {a : SV} {K : VS → SV → Option R} {r : R} (hk : vrange P S t a K = some r) {x : AV} (ha : SVR g H a x) : Went h0 X g H env (arange P t x h) K r := by
  unfold vrange at hk
  split at hk
  · rename_i l hu
    rw [pvS ha]
    exact Went.add M E (x := .ptr h.n 0) (h' := h.push (.siter l 0)) (o := .sit l 0) (s := .ptr S.os.length 0) (by simp only [arange, hu]) (by rw [AH.push_n]; omega) (fun j p hj => by rw [AH.get_push_ne (by have := AH.get_lt hj; omega)]; exact hj) (fun id hi => by cases hi; exact Nat.le_refl _) ⟨h.n, rfl, by omega, AH.get_push_new _ _⟩ ⟨h.n, at_new M, rfl⟩ hk
  · cases hk
theorem vnext_ok (hm : m.real = true) (M : VMem h0 X g H S.os h) (E : EnvR g H S.ts env) {a : SV} {str : Bool} {K : VS → SV → Option R} {r : R} (hk : vnext m S a str K = some r) {x : AV} (ha : SVR g H a x) : Went h0 X g H env (anext x str h) K r := by
  unfold vnext at hk
  split at hk
  · rename_i k
    split at hk
    · rename_i l p hos
      obtain ⟨id, h1, e⟩ := ha
      cases e
      obtain ⟨id', e, p0, h2⟩ := M.so k _ _ hos h1
      cases e
      rcases vcond_ok hm hk with ⟨hb, hk⟩ | ⟨hb, hk⟩
      · have hlt : p.toNat < l.length := by simp [oLt, oLen] at hb; omega
        refine ⟨.tup [.bool true, .int .i64 p.toNat, .int .i32 (Utf8.decode ⟨⟨l⟩⟩ p.toNat).1], h.set id (.siter l (p.toNat + (Utf8.decode ⟨⟨l⟩⟩ p.toNat).2)), g, H, ⟨S.ts, S.os.set k (some (.sit l (p + (Utf8.decode ⟨⟨l⟩⟩ p.toNat).2)))⟩, _, by simp only [anext, h2, if_pos hlt], FM.le.refl g, Hpre.refl H, ?_, E, ?_, hk⟩
        · exact M.upd hos h1 rfl (by rw [AH.set_n]; exact Nat.le_refl _) (fun j q hne hq => by rw [AH.get_set_ne hne]; exact hq) ⟨id, rfl, by omega, by rw [AH.get_set_same h2, Int.toNat_add p0 (by omega)]; rfl⟩
        · refine ⟨_, rfl, _, _, rfl, rfl, _, _, rfl, ?_, _, _, rfl, int_pv _ _, rfl⟩
          have : (p.toNat : Int) = p := by omega
          rw [this]
          exact int_pv _ _
      · have hlt : ¬ p.toNat < l.length := by simp [oLt, oLen] at hb; omega
        refine ⟨.tup [.bool false], h, g, H, S, _, by simp only [anext, h2, if_neg hlt], FM.le.refl g, Hpre.refl H, M, E, ?_, hk⟩
        exact ⟨_, rfl, _, _, rfl, rfl, rfl⟩
    · cases hk
  · cases hk
end

/-! ### copy into an array of one's own -/
section
variable {R : Type} {m : Md R} {P : Program} {g : FM} {H : List AV} {env : List AV} {h h0 : AH} {X : List Nat} {S : VS}
def copyC (T : Ty) : List T.D → Nat → SV → Option SV
  | _, 0, _ => some .nl
  | l, n + 1, .cn a b => match toT T a, copyC T l.tail n b with
    | some v, some r => some (.cn (.pv T (l.headD v)) r)
    | _, _ => none
  | _, _, _ => none
def chkCp (a n : Nat) : Option Unit := if 0 < a ∧ a ≤ n then some () else none
def vcopy (P : Program) (m : Md R) (S : VS) (t : TypeId) (d s : SV) (K : VS → SV → Option R) : Option R :=
  match d with
  | .osl k off n => match sliceElem P t with
    | some e => match tyOf P e with
      | some T => match S.os[k]? with
        | some (some (.obj tt cs)) => if T.size = 1 ∧ T.ag = false ∧ slOk P t e T.size = true ∧ off + n ≤ cs.len then
            (match lstOf S T s with
            | some l => vbind m () (chkCp l.length n) fun _ => match copyC T l n (cs.drp off) with
              | some r => K ⟨S.ts, S.os.set k (some (.obj tt (cs.spl off r)))⟩ (.pv (.int .i64) (oLen l))
              | none => none
            | none => none) else none
        | _ => none
      | none => none
    | none => none
  | _ => none

theorem copyC_ok {T : Ty} (hT : T.ag = false) : ∀ {n : Nat} {l : List T.D} {cs r : SV} {c : List AV} {xs : List (List AV)}, copyC T l n cs = some r → SVL g H cs c → All2 (RepC g T) xs l → (∀ x ∈ xs, x.length = 1) → l.length ≤ n →
    SVL g H r (xs.flatten ++ (c.take n).drop xs.length) ∧ r.okL = true ∧ r.len = n
  | 0, l, cs, r, c, xs, hk, hc, ha, h1, hl => by
    obtain rfl : l = [] := List.eq_nil_of_length_eq_zero (by omega)
    cases xs with
    | cons x xs => exact ha.elim
    | nil =>
      unfold copyC at hk
      cases hk
      exact ⟨rfl, rfl, rfl⟩
  | n + 1, l, cs, r, c, xs, hk, hc, ha, h1, hl => by
    cases cs <;> simp only [copyC] at hk <;> first | (cases hk; done) | skip
    rename_i a b
    split at hk
    rotate_left
    · cases hk
    rename_i v r' hv hr'
    cases hk
    obtain ⟨x, c', rfl, k1, k2⟩ := hc
    have hx := toT_ok hv k1
    have hok : ∀ w : T.D, (SV.pv T w).okC = true := fun w => by simp [SV.okC, hT]
    cases l with
    | nil =>
      cases xs with
      | cons x xs => exact ha.elim
      | nil =>
        obtain ⟨q1, q2, q3⟩ := copyC_ok hT (l := []) (xs := []) hr' k2 trivial (fun x hx => by cases hx) (by simp)
        exact ⟨⟨x, c'.take n, by simp, ⟨x, rfl, hx⟩, by simpa using q1⟩, by simp [SV.okL, hok, q2], by simp [SV.len, q3]⟩
    | cons y ys =>
      cases xs with
      | nil => exact ha.elim
      | cons z zs =>
        obtain ⟨q1, q2, q3⟩ := copyC_ok hT (l := ys) (xs := zs) hr' k2 ha.2 (fun x hx => h1 x (List.mem_cons_of_mem _ hx)) (by simpa using hl)
        have hz := h1 z (List.mem_cons_self ..)
        obtain ⟨w, rfl⟩ : ∃ w, z = [w] := by
          match z, hz with
          | [w], _ => exact ⟨w, rfl⟩
        have hw : RepV g T w y := by
          unfold RepV
          rw [if_neg (by rw [hT]; exact Bool.false_ne_true)]
          exact ha.1
        exact ⟨⟨w, zs.flatten ++ (c'.take n).drop zs.length, by simp, ⟨w, rfl, hw⟩, q1⟩, by simp [SV.okL, hok, q2], by simp [SV.len, q3]⟩

theorem vcopy_ok (hm : m.real = true) (M : VMem h0 X g H S.os h) (E : EnvR g H S.ts env) {ats : Array TypeId} {t : TypeId} (ht : ats[0]? = some t) {d s : SV} {K : VS → SV → Option R} {r : R} (hk : vcopy P m S t d s K = some r) {x y : AV} (hd : SVR g H d x) (hs : SVR g H s y) :
    Went h0 X g H env (acopy P ats [x, y] h) K r := by
  unfold vcopy at hk
  split at hk
  rotate_left
  · cases hk
  rename_i k off n
  split at hk
  rotate_left
  · cases hk
  rename_i e hse
  split at hk
  rotate_left
  · cases hk
  rename_i T hTy
  split at hk
  rotate_left
  · cases hk
  rename_i tt cs hos
  split at hk
  rotate_left
  · cases hk
  rename_i hc
  obtain ⟨c1, c2, c3, c4⟩ := hc
  split at hk
  rotate_left
  · cases hk
  rename_i l hl
  obtain ⟨u, hu, hk⟩ := vbind_ok hm hk
  have hu : 0 < l.length ∧ l.length ≤ n := by
    unfold chkCp at hu
    split at hu
    · assumption
    · cases hu
  split at hk
  rotate_left
  · cases hk
  rename_i rr hrr
  obtain ⟨id, h1, e'⟩ := hd
  cases e'
  obtain ⟨id', c, e', h2, h3, h4⟩ := M.so k _ _ hos h1
  cases e'
  have b := slOk_ty c3
  obtain ⟨i, zv, hi, i1, i2, i3, i4⟩ := b.info
  obtain ⟨xs, a1, a2⟩ := lstOf_ro M hl hs
  have hall := all_len a1
  rw [c1] at hall a2 i1
  have hxl := a1.len
  have hfl := flat_len hall
  have hcl := SVL.len (SV.okL_isL h4) h3
  have hdr := SVL.drp (n := off) (SV.okL_isL h4) (by omega) h3
  obtain ⟨q1, q2, q3⟩ := copyC_ok c2 hrr hdr a1 hall hu.2
  obtain ⟨p1, p2⟩ := spl_ok (off := off) h4 q2 h3 q1 (by omega)
  have hsp : splice c off (xs.flatten ++ ((c.drop off).take n).drop xs.length) = splice c off xs.flatten := by
    have hdl : (c.drop off).length = c.length - off := List.length_drop ..
    have e1 : (c.drop off).drop xs.length = ((c.drop off).take n).drop xs.length ++ (c.drop off).drop n := by
      conv => lhs; rw [← List.take_append_drop n (c.drop off)]
      rw [List.drop_append_of_le_length (by rw [List.length_take, hdl]; omega)]
    unfold splice
    congr 1
    rw [List.append_assoc]
    congr 1
    rw [List.length_append, List.length_drop, List.length_take, hdl, show off + xs.flatten.length = off + xs.length by omega, ← List.drop_drop (i := xs.length), e1, show off + (xs.flatten.length + (min n (c.length - off) - xs.length)) = off + n by omega, ← List.drop_drop]
  rw [hsp] at p1
  have hones : xs.flatten.all AV.one = true := by
    rw [List.all_eq_true]
    intro w hw
    obtain ⟨z, hz, hw⟩ := List.mem_flatten.1 hw
    obtain ⟨j, hj, rfl⟩ := List.mem_iff_getElem.1 hz
    obtain ⟨v, _, hv⟩ := a1.at1 (List.getElem?_eq_getElem hj)
    exact List.all_eq_true.1 hv.ones w hw
  have hne : xs.flatten ≠ [] := fun e0 => by rw [e0] at hfl; simp at hfl; omega
  have hres : acopy P ats [.sl id off n 1, y] h = some (.int .i64 (min xs.length n : Nat), h.set id (.cells (splice c off xs.flatten) true 0 (some (tt, true)))) := by
    have e1 : alen (.sl id off n 1) = some n := rfl
    have e2 := a2.alen
    have e3 : acells y 1 (min xs.length n) h = some xs.flatten := by rw [Nat.min_eq_left (by omega)]; exact a2.cells (by omega)
    simp only [acopy, ht, hse, hi, e1, e2, i1, e3, if_neg hne, h2]
    rw [if_pos ⟨trivial, by omega, by omega, hones⟩]
  refine ⟨_, _, g, H, ⟨S.ts, S.os.set k (some (.obj tt (cs.spl off rr)))⟩, _, hres, FM.le.refl g, Hpre.refl H, ?_, E, ?_, hk⟩
  · exact M.upd hos h1 rfl (by rw [AH.set_n]; exact Nat.le_refl _) (fun j q hne hq => by rw [AH.get_set_ne hne]; exact hq) ⟨id, _, rfl, AH.get_set_same h2, p1, p2⟩
  · rw [Nat.min_eq_left (by omega), hxl, oLen_eq]
    exact int_pv _ _
end

end
end Go.Proofs.YtobhmahlenjheaaM
