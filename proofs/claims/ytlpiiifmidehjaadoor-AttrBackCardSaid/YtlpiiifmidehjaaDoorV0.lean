/- Plain values by types, and what they are in memory. -/
import Derived.Test.YtlpiiifmidehjaaDoorVO
set_option linter.unusedSimpArgs false
set_option linter.unusedVariables false
namespace Go.Proofs.YtlpiiifmidehjaaDoorM
open Go Go.RowKit

/-! ### Maps -/
structure GMap (κ ν : Type) where
  es : List (κ × ν × Nat)
  clock : Nat
  deriving DecidableEq, Inhabited

section
variable {κ ν : Type} [DecidableEq κ]
def GMap.idx (k : κ) : List (κ × ν × Nat) → Nat → Option (Nat × ν × Nat)
  | [], _ => none
  | (k', v, b) :: es, i => if k = k' then some (i, v, b) else GMap.idx k es (i + 1)
def mget (m : GMap κ ν) (k : κ) : Option ν := (GMap.idx k m.es 0).map fun x => x.2.1
def mset (m : GMap κ ν) (k : κ) (v : ν) : GMap κ ν :=
  match GMap.idx k m.es 0 with
  | some (i, _, _) => ⟨(match m.es[i]? with | some (_, _, b) => m.es.set i (k, v, b) | none => m.es), m.clock⟩
  | none => ⟨m.es ++ [(k, v, m.clock)], m.clock + 1⟩
end
def mnew {κ ν : Type} : GMap κ ν := ⟨[], 0⟩

/-! ### Types -/
inductive Ty where
  | int (k : IntKind) | bool | str | lst (e : Ty) | map (k e : Ty) | nil | cons (a b : Ty)
  deriving DecidableEq, Inhabited

abbrev Ty.D : Ty → Type
  | .int _ => Int
  | .bool => Bool
  | .str => List UInt8
  | .lst e => List e.D
  | .map k e => GMap k.D e.D
  | .nil => Unit
  | .cons a b => a.D × b.D
def Ty.size : Ty → Nat
  | .nil => 0
  | .cons a b => a.size + b.size
  | _ => 1
def Ty.ag : Ty → Bool
  | .nil => true
  | .cons _ _ => true
  | _ => false
def Ty.dflt : (t : Ty) → t.D
  | .int _ => (0 : Int)
  | .bool => false
  | .str => ([] : List UInt8)
  | .lst e => ([] : List e.D)
  | .map k e => (⟨[], 0⟩ : GMap k.D e.D)
  | .nil => ()
  | .cons a b => (a.dflt, b.dflt)
/-- No part of it names memory. -/
def Ty.flat : Ty → Bool
  | .lst _ => false
  | .map _ _ => false
  | .cons a b => a.flat && b.flat
  | _ => true
def castD {t t' : Ty} (h : t = t') (v : t.D) : t'.D := h ▸ v
def asT (t t' : Ty) (v : t.D) : Option t'.D := if h : t = t' then some (castD h v) else none

/-! ### Lists side by side -/
def All2 {α β : Type} (R : α → β → Prop) : List α → List β → Prop
  | [], [] => True
  | a :: as, b :: bs => R a b ∧ All2 R as bs
  | _, _ => False

section
variable {α β γ : Type} {R S : α → β → Prop}
theorem All2.len : ∀ {as : List α} {bs : List β}, All2 R as bs → as.length = bs.length
  | [], [], _ => rfl
  | _ :: _, _ :: _, h => by simp [All2.len h.2]
  | [], _ :: _, h => h.elim
  | _ :: _, [], h => h.elim
theorem All2.mono (hm : ∀ a b, R a b → S a b) : ∀ {as : List α} {bs : List β}, All2 R as bs → All2 S as bs
  | [], [], _ => trivial
  | _ :: _, _ :: _, h => ⟨hm _ _ h.1, All2.mono hm h.2⟩
  | [], _ :: _, h => h.elim
  | _ :: _, [], h => h.elim
theorem All2.at : ∀ {as : List α} {bs : List β} {i : Nat} {b : β}, All2 R as bs → bs[i]? = some b → ∃ a, as[i]? = some a ∧ R a b
  | [], [], _, _, _, hb => by simp at hb
  | a :: as, b :: bs, 0, _, h, hb => by simp at hb; subst hb; exact ⟨a, rfl, h.1⟩
  | a :: as, b :: bs, i + 1, _, h, hb => by simp at hb; obtain ⟨x, h1, h2⟩ := All2.at h.2 hb; exact ⟨x, by simpa using h1, h2⟩
  | [], _ :: _, _, _, h, _ => h.elim
  | _ :: _, [], _, _, h, _ => h.elim
theorem All2.at1 : ∀ {as : List α} {bs : List β} {i : Nat} {a : α}, All2 R as bs → as[i]? = some a → ∃ b, bs[i]? = some b ∧ R a b
  | [], [], _, _, _, hb => by simp at hb
  | a :: as, b :: bs, 0, _, h, hb => by simp at hb; subst hb; exact ⟨b, rfl, h.1⟩
  | a :: as, b :: bs, i + 1, _, h, hb => by simp at hb; obtain ⟨x, h1, h2⟩ := All2.at1 h.2 hb; exact ⟨x, by simpa using h1, h2⟩
  | [], _ :: _, _, _, h, _ => h.elim
  | _ :: _, [], _, _, h, _ => h.elim
theorem All2.set : ∀ {as : List α} {bs : List β} (i : Nat) {a : α} {b : β}, All2 R as bs → R a b → All2 R (as.set i a) (bs.set i b)
  | [], [], _, _, _, _, _ => by simp [All2]
  | a :: as, b :: bs, 0, _, _, h, k => ⟨k, h.2⟩
  | a :: as, b :: bs, i + 1, _, _, h, k => ⟨h.1, All2.set i h.2 k⟩
  | [], _ :: _, _, _, _, h, _ => h.elim
  | _ :: _, [], _, _, _, h, _ => h.elim
theorem All2.append : ∀ {as : List α} {bs : List β} {as' : List α} {bs' : List β}, All2 R as bs → All2 R as' bs' → All2 R (as ++ as') (bs ++ bs')
  | [], [], _, _, _, k => k
  | a :: as, b :: bs, _, _, h, k => ⟨h.1, All2.append h.2 k⟩
  | [], _ :: _, _, _, h, _ => h.elim
  | _ :: _, [], _, _, h, _ => h.elim
theorem All2.take : ∀ {as : List α} {bs : List β} (n : Nat), All2 R as bs → All2 R (as.take n) (bs.take n)
  | _, _, 0, _ => by simp [All2]
  | [], [], n + 1, _ => by simp [All2]
  | a :: as, b :: bs, n + 1, h => ⟨h.1, All2.take n h.2⟩
  | [], _ :: _, _ + 1, h => h.elim
  | _ :: _, [], _ + 1, h => h.elim
theorem All2.drop : ∀ {as : List α} {bs : List β} (n : Nat), All2 R as bs → All2 R (as.drop n) (bs.drop n)
  | _, _, 0, h => by simpa using h
  | [], [], n + 1, _ => by simp [All2]
  | a :: as, b :: bs, n + 1, h => by simpa using All2.drop n h.2
  | [], _ :: _, _ + 1, h => h.elim
  | _ :: _, [], _ + 1, h => h.elim
theorem All2.rep (n : Nat) {a : α} {b : β} (h : R a b) : All2 R (List.replicate n a) (List.replicate n b) := by
  induction n with
  | zero => trivial
  | succ n ih => exact ⟨h, ih⟩
theorem All2.map1 (f : γ → α) (g : γ → β) (h : ∀ x, R (f x) (g x)) : ∀ l : List γ, All2 R (l.map f) (l.map g)
  | [] => trivial
  | x :: l => ⟨h x, All2.map1 f g h l⟩
end

/-! ### Frozen memory -/
structure FM where
  c : Nat → Option (List AV)
  v : Nat → Option (List AV)
  b : Nat → Prop

structure FM.le (g g' : FM) : Prop where
  c : ∀ id x, g.c id = some x → g'.c id = some x
  v : ∀ id x, g.v id = some x → g'.v id = some x
  b : g'.b = g.b
theorem FM.le.refl (g : FM) : g.le g := ⟨fun _ _ h => h, fun _ _ h => h, rfl⟩
theorem FM.le.trans {a b c : FM} (h : a.le b) (k : b.le c) : a.le c := ⟨fun i x hx => k.c i x (h.c i x hx), fun i x hx => k.v i x (h.v i x hx), k.b.trans h.b⟩

abbrev nilS : AV := .val (.slice none 0 0)

def LR {α : Type} (g : FM) (R : List AV → α → Prop) (sz : Nat) (x : AV) (l : List α) : Prop :=
  (x = nilS ∧ l = []) ∨ ∃ id off, x = .sl id off l.length sz ∧ (l = [] ∨ ∃ c xs, g.c id = some c ∧ off + l.length * sz ≤ c.length ∧ (c.drop off).take (l.length * sz) = xs.flatten ∧ All2 R xs l)

/-- Such cells are such a value. -/
def RepC (g : FM) : (t : Ty) → List AV → t.D → Prop
  | .int k, c, n => c = [.int k n]
  | .bool, c, b => c = [.bool b]
  | .str, c, s => c = [.str s]
  | .lst e, c, l => ∃ x, c = [x] ∧ LR g (RepC g e) e.size x l
  | .map _ _, _, _ => False
  | .nil, c, _ => c = []
  | .cons a b, c, v => ∃ c1 c2, c = c1 ++ c2 ∧ RepC g a c1 v.1 ∧ RepC g b c2 v.2

def RepV (g : FM) (t : Ty) (x : AV) (v : t.D) : Prop := if t.ag then ∃ cs, x = .agg cs ∧ RepC g t cs v else RepC g t [x] v

theorem RepC.len {g : FM} : ∀ {t : Ty} {c : List AV} {v : t.D}, RepC g t c v → c.length = t.size
  | .int _, _, _, h => by cases h; rfl
  | .bool, _, _, h => by cases h; rfl
  | .str, _, _, h => by cases h; rfl
  | .lst _, _, _, h => by obtain ⟨x, rfl, _⟩ := h; rfl
  | .map _ _, _, _, h => h.elim
  | .nil, _, _, h => by cases h; rfl
  | .cons a b, _, _, h => by obtain ⟨c1, c2, rfl, h1, h2⟩ := h; simp [RepC.len h1, RepC.len h2, Ty.size]

theorem LR.mono {α : Type} {g g' : FM} (hg : g.le g') {R S : List AV → α → Prop} (hR : ∀ c v, R c v → S c v) {sz : Nat} {x : AV} {l : List α} (h : LR g R sz x l) : LR g' S sz x l := by
  rcases h with h | ⟨id, off, hx, h | ⟨c, xs, h1, h2, h3, h4⟩⟩
  · exact .inl h
  · exact .inr ⟨id, off, hx, .inl h⟩
  · exact .inr ⟨id, off, hx, .inr ⟨c, xs, hg.c _ _ h1, h2, h3, h4.mono hR⟩⟩

theorem RepC.mono {g g' : FM} (hg : g.le g') : ∀ {t : Ty} {c : List AV} {v : t.D}, RepC g t c v → RepC g' t c v
  | .int _, _, _, h => h
  | .bool, _, _, h => h
  | .str, _, _, h => h
  | .lst e, _, _, h => by obtain ⟨x, rfl, h⟩ := h; exact ⟨x, rfl, h.mono hg fun c v => RepC.mono hg⟩
  | .map _ _, _, _, h => h.elim
  | .nil, _, _, h => h
  | .cons a b, _, _, h => by obtain ⟨c1, c2, rfl, h1, h2⟩ := h; exact ⟨c1, c2, rfl, RepC.mono hg h1, RepC.mono hg h2⟩
theorem RepV.mono {g g' : FM} (hg : g.le g') {t : Ty} {x : AV} {v : t.D} (h : RepV g t x v) : RepV g' t x v := by
  unfold RepV at *
  split
  · rename_i ht; rw [if_pos ht] at h; obtain ⟨cs, rfl, h⟩ := h; exact ⟨cs, rfl, h.mono hg⟩
  · rename_i ht; rw [if_neg ht] at h; exact h.mono hg

/-- With another base. -/
theorem RepC.reb {g : FM} {B : Nat → Prop} : ∀ {t : Ty} {c : List AV} {v : t.D}, RepC g t c v → RepC ⟨g.c, g.v, B⟩ t c v
  | .int _, _, _, h => h
  | .bool, _, _, h => h
  | .str, _, _, h => h
  | .lst e, _, _, h => by
    obtain ⟨x, rfl, h⟩ := h
    refine ⟨x, rfl, ?_⟩
    rcases h with h | ⟨id, off, hx, h | ⟨c, xs, h1, h2, h3, h4⟩⟩
    · exact .inl h
    · exact .inr ⟨id, off, hx, .inl h⟩
    · exact .inr ⟨id, off, hx, .inr ⟨c, xs, h1, h2, h3, h4.mono fun _ _ => RepC.reb⟩⟩
  | .map _ _, _, _, h => h.elim
  | .nil, _, _, h => h
  | .cons a b, _, _, h => by obtain ⟨c1, c2, rfl, h1, h2⟩ := h; exact ⟨c1, c2, rfl, RepC.reb h1, RepC.reb h2⟩
theorem RepV.reb {g : FM} {B : Nat → Prop} {t : Ty} {x : AV} {v : t.D} (h : RepV g t x v) : RepV ⟨g.c, g.v, B⟩ t x v := by
  unfold RepV at *
  split
  · rename_i ht; rw [if_pos ht] at h; obtain ⟨cs, rfl, h⟩ := h; exact ⟨cs, rfl, h.reb⟩
  · rename_i ht; rw [if_neg ht] at h; exact h.reb
/-- What names no memory is so anywhere. -/
theorem RepC.free {g g' : FM} : ∀ {t : Ty} {c : List AV} {v : t.D}, t.flat = true → RepC g t c v → RepC g' t c v
  | .int _, _, _, _, h => h
  | .bool, _, _, _, h => h
  | .str, _, _, _, h => h
  | .lst e, _, _, hf, _ => by cases hf
  | .map _ _, _, _, _, h => h.elim
  | .nil, _, _, _, h => h
  | .cons a b, _, _, hf, h => by
    obtain ⟨c1, c2, rfl, h1, h2⟩ := h
    simp only [Ty.flat, Bool.and_eq_true] at hf
    exact ⟨c1, c2, rfl, RepC.free hf.1 h1, RepC.free hf.2 h2⟩

theorem RepC.ones {g : FM} : ∀ {t : Ty} {c : List AV} {v : t.D}, RepC g t c v → c.all AV.one = true
  | .int _, _, _, h => by cases h; rfl
  | .bool, _, _, h => by cases h; rfl
  | .str, _, _, h => by cases h; rfl
  | .lst e, _, _, h => by
    obtain ⟨x, rfl, h⟩ := h
    rcases h with ⟨rfl, _⟩ | ⟨id, off, rfl, _⟩ <;> rfl
  | .map _ _, _, _, h => h.elim
  | .nil, _, _, h => by cases h; rfl
  | .cons a b, _, _, h => by
    obtain ⟨c1, c2, rfl, h1, h2⟩ := h
    rw [List.all_append, RepC.ones h1, RepC.ones h2]; rfl

theorem RepV.cells {g : FM} {t : Ty} {x : AV} {v : t.D} (h : RepV g t x v) : ∃ cs, x.cells = some cs ∧ RepC g t cs v := by
  unfold RepV at h
  split at h
  · obtain ⟨cs, rfl, h⟩ := h; exact ⟨cs, rfl, h⟩
  · refine ⟨[x], ?_, h⟩
    have := RepC.ones h
    simp only [List.all_cons, List.all_nil, Bool.and_true] at this
    unfold AV.cells
    split
    · rename_i h'; cases this
    · rw [if_pos this]
theorem RepV.ofC {g : FM} {t : Ty} {c : List AV} {v : t.D} (h : RepC g t c v) : (t.ag = true → RepV g t (.agg c) v) ∧ (t.ag = false → ∃ x, c = [x] ∧ RepV g t x v) := by
  refine ⟨fun ht => by unfold RepV; rw [if_pos ht]; exact ⟨c, rfl, h⟩, fun ht => ?_⟩
  have hl := h.len
  obtain ⟨x, rfl⟩ : ∃ x, c = [x] := by
    have : c.length = 1 := by rw [hl]; cases t <;> first | rfl | cases ht
    exact List.length_eq_one_iff.1 this
  exact ⟨x, rfl, by unfold RepV; rw [if_neg (by simp [ht])]; exact h⟩

/-! ### Parts of a value -/
/-- The part of type t' that stands behind o cells. -/
def partT : (t : Ty) → t.D → Nat → (t' : Ty) → Option t'.D
  | .cons a b, v, o, t' => if h : o = 0 ∧ Ty.cons a b = t' then some (castD h.2 v) else if o < a.size then partT a v.1 o t' else partT b v.2 (o - a.size) t'
  | t, v, o, t' => if h : o = 0 ∧ t = t' then some (castD h.2 v) else none
/-- With another part there. -/
def setT : (t : Ty) → t.D → Nat → (t' : Ty) → t'.D → Option t.D
  | .cons a b, v, o, t', x => if h : o = 0 ∧ t' = Ty.cons a b then some (castD h.2 x) else if o < a.size then (setT a v.1 o t' x).map fun y => (y, v.2) else (setT b v.2 (o - a.size) t' x).map fun y => (v.1, y)
  | t, v, o, t', x => if h : o = 0 ∧ t' = t then some (castD h.2 x) else none

theorem RepC.cast {g : FM} {t t' : Ty} (h : t = t') {c : List AV} {v : t.D} (hr : RepC g t c v) : RepC g t' c (castD h v) := by subst h; exact hr
theorem RepV.cast {g : FM} {t t' : Ty} (h : t = t') {c : AV} {v : t.D} (hr : RepV g t c v) : RepV g t' c (castD h v) := by subst h; exact hr

theorem part_end {g : FM} {t t' : Ty} {v : t.D} {c : List AV} {o : Nat} {v' : t'.D} (hr : RepC g t c v) (h : (if h : o = 0 ∧ t = t' then some (castD h.2 v) else none) = some v') :
    o + t'.size ≤ c.length ∧ RepC g t' ((c.drop o).take t'.size) v' := by
  split at h
  · rename_i hh
    obtain ⟨rfl, rfl⟩ := hh
    cases h
    have hl := hr.len
    refine ⟨by omega, ?_⟩
    rw [List.drop_zero, List.take_of_length_le (by omega)]
    exact hr
  · cases h

theorem partT_ok {g : FM} : ∀ {t : Ty} {v : t.D} {c : List AV} {o : Nat} {t' : Ty} {v' : t'.D}, RepC g t c v → partT t v o t' = some v' → o + t'.size ≤ c.length ∧ RepC g t' ((c.drop o).take t'.size) v'
  | .cons a b, v, c, o, t', v', hr, h => by
    unfold partT at h
    split at h
    · rename_i hh
      exact part_end hr (by rw [dif_pos hh]; exact h)
    · obtain ⟨c1, c2, rfl, h1, h2⟩ := hr
      have l1 := h1.len
      split at h
      · rename_i ho
        obtain ⟨k1, k2⟩ := partT_ok h1 h
        refine ⟨by simp; omega, ?_⟩
        rw [List.drop_append, List.take_append_of_le_length (by simp; omega)]
        exact k2
      · rename_i ho
        obtain ⟨k1, k2⟩ := partT_ok h2 h
        refine ⟨by simp; omega, ?_⟩
        rw [List.drop_append, List.drop_of_length_le (by omega), List.nil_append, l1]
        exact k2
  | .int _, v, c, o, t', v', hr, h => part_end hr (by unfold partT at h; exact h)
  | .bool, v, c, o, t', v', hr, h => part_end hr (by unfold partT at h; exact h)
  | .str, v, c, o, t', v', hr, h => part_end hr (by unfold partT at h; exact h)
  | .lst _, v, c, o, t', v', hr, h => part_end hr (by unfold partT at h; exact h)
  | .map _ _, v, c, o, t', v', hr, h => hr.elim
  | .nil, v, c, o, t', v', hr, h => part_end hr (by unfold partT at h; exact h)

theorem splice_len {c : List AV} {o : Nat} {xs : List AV} (h : o + xs.length ≤ c.length) : (splice c o xs).length = c.length := by
  unfold splice; simp; omega

theorem set_end {g : FM} {t t' : Ty} {v v' : t.D} {c xs : List AV} {o : Nat} {x : t'.D} (hr : RepC g t c v) (hx : RepC g t' xs x) (h : (if h : o = 0 ∧ t' = t then some (castD h.2 x) else none) = some v') :
    o + xs.length ≤ c.length ∧ RepC g t (splice c o xs) v' := by
  split at h
  · rename_i hh
    obtain ⟨rfl, rfl⟩ := hh
    cases h
    have hl := hr.len
    have hl' := hx.len
    refine ⟨by omega, ?_⟩
    unfold splice
    rw [List.take_zero, List.nil_append, List.drop_of_length_le (by omega), List.append_nil]
    exact hx
  · cases h

theorem setT_ok {g : FM} : ∀ {t : Ty} {v : t.D} {c xs : List AV} {o : Nat} {t' : Ty} {x : t'.D} {v' : t.D}, RepC g t c v → RepC g t' xs x → setT t v o t' x = some v' → o + xs.length ≤ c.length ∧ RepC g t (splice c o xs) v'
  | .cons a b, v, c, xs, o, t', x, v', hr, hx, h => by
    unfold setT at h
    split at h
    · rename_i hh
      exact set_end hr hx (by rw [dif_pos hh]; exact h)
    · obtain ⟨c1, c2, rfl, h1, h2⟩ := hr
      have l1 := h1.len
      split at h
      · rename_i ho
        obtain ⟨y, hy, rfl⟩ := Option.map_eq_some_iff.1 h
        obtain ⟨k1, k2⟩ := setT_ok h1 hx hy
        refine ⟨by simp; omega, splice c1 o xs, c2, ?_, k2, h2⟩
        unfold splice
        rw [List.take_append_of_le_length (by omega), List.drop_append, show o + xs.length - c1.length = 0 by omega, List.drop_zero]
        simp [List.append_assoc]
      · rename_i ho
        obtain ⟨y, hy, rfl⟩ := Option.map_eq_some_iff.1 h
        obtain ⟨k1, k2⟩ := setT_ok h2 hx hy
        refine ⟨by simp; omega, c1, splice c2 (o - a.size) xs, ?_, h1, k2⟩
        unfold splice
        rw [List.take_append, List.take_of_length_le (by omega), List.drop_append, List.drop_of_length_le (l := c1) (by omega), l1]
        simp only [List.nil_append, List.append_assoc]
        rw [show o + xs.length - a.size = o - a.size + xs.length by omega]
  | .int _, v, c, xs, o, t', x, v', hr, hx, h => set_end hr hx (by unfold setT at h; exact h)
  | .bool, v, c, xs, o, t', x, v', hr, hx, h => set_end hr hx (by unfold setT at h; exact h)
  | .str, v, c, xs, o, t', x, v', hr, hx, h => set_end hr hx (by unfold setT at h; exact h)
  | .lst _, v, c, xs, o, t', x, v', hr, hx, h => set_end hr hx (by unfold setT at h; exact h)
  | .map _ _, v, c, xs, o, t', x, v', hr, hx, h => hr.elim
  | .nil, v, c, xs, o, t', x, v', hr, hx, h => set_end hr hx (by unfold setT at h; exact h)

/-! ### Types of the program -/
def tyFs (f : TypeId → Option Ty) : List Field → Option Ty
  | [] => some .nil
  | x :: xs => match f x.type, tyFs f xs with
    | some a, some b => some (.cons a b)
    | _, _ => none
def tyRep (e : Ty) : Nat → Ty
  | 0 => .nil
  | n + 1 => .cons e (tyRep e n)
def tyOfN (P : Program) : Nat → TypeId → Option Ty
  | 0, _ => none
  | n + 1, t => match P.underlying t with
    | some (.int k) => some (.int k)
    | some .bool => some .bool
    | some .string => some .str
    | some (.slice e) => (tyOfN P n e).map .lst
    | some (.struct fs) => tyFs (tyOfN P n) fs.toList
    | some (.array m e) => if m ≤ 16 then (tyOfN P n e).map fun t => tyRep t m else none
    | _ => none
/-- A type written out (Lean's kernel computes it once). -/
def fTy : Ty → {R : Type} → (Ty → R) → R
  | .lst e, _, K => fTy e fun e' => K (.lst e')
  | .map a b, _, K => fTy a fun a' => fTy b fun b' => K (.map a' b')
  | .cons a b, _, K => fTy a fun a' => fTy b fun b' => K (.cons a' b')
  | .int k, _, K => K (.int k)
  | .bool, _, K => K .bool
  | .str, _, K => K .str
  | .nil, _, K => K .nil
theorem fTy_eq : ∀ (t : Ty) {R : Type} (K : Ty → R), fTy t K = K t
  | .lst e, _, K => by unfold fTy; rw [fTy_eq]
  | .map a b, _, K => by unfold fTy; rw [fTy_eq, fTy_eq]
  | .cons a b, _, K => by unfold fTy; rw [fTy_eq, fTy_eq]
  | .int k, _, K => rfl
  | .bool, _, K => rfl
  | .str, _, K => rfl
  | .nil, _, K => rfl
/-- The plain type of a type: as many cells, one value or several. -/
def tyOf (P : Program) (t : TypeId) : Option Ty :=
  match tyOfN P 8 t with
  | some T => fTy T fun T => if szOf P t = some T.size ∧ isAg P t = some T.ag then some T else none
  | none => none
theorem tyOf_ok {P : Program} {t : TypeId} {T : Ty} (h : tyOf P t = some T) : szOf P t = some T.size ∧ isAg P t = some T.ag := by
  unfold tyOf at h
  split at h
  · rw [fTy_eq] at h
    split at h
    · rename_i hh; cases h; exact hh
    · cases h
  · cases h

theorem apart_rep {P : Program} {g : FM} {t : TypeId} {T : Ty} (ht : tyOf P t = some T) {c : List AV} {off : Nat} {v : T.D} (hl : off + T.size ≤ c.length) (hr : RepC g T ((c.drop off).take T.size) v) : ∃ x, apart P t c off = some x ∧ RepV g T x v := by
  obtain ⟨h1, h2⟩ := tyOf_ok ht
  obtain ⟨k1, k2⟩ := RepV.ofC hr
  unfold apart
  rw [h1, h2]
  cases ha : T.ag with
  | true => exact ⟨_, by simp only [if_pos hl], k1 ha⟩
  | false =>
    obtain ⟨x, hx, hv⟩ := k2 ha
    refine ⟨x, ?_, hv⟩
    have hs : T.size = 1 := by cases T <;> first | rfl | cases ha
    have := congrArg (fun l => l[0]?) hx
    simp only [hs] at this
    rw [List.getElem?_take, if_pos (by omega), List.getElem?_drop] at this
    simpa using this
end Go.Proofs.YtlpiiifmidehjaaDoorM
