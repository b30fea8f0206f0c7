/- How the abstract machine's values and heap stand to the model's: the relation, and what keeps it. -/
import Derived.Test.YtobhmahlenjheaaM0
namespace Go.Proofs.YtobhmahlenjheaaM
open Go Go.RowKit

/-- Where an abstract block lies: the model's block, the place of its first cell, the block's size. -/
structure Loc where
  b : Nat
  o : Nat
  n : Nat

inductive VR (N : Nat → Prop) (φ : Nat → Loc) : AV → Value → Prop
  | int (k : IntKind) (m : Int) : VR N φ (.int k m) (.int k m)
  | bool (b : Bool) : VR N φ (.bool b) (.bool b)
  | str (l : List UInt8) : VR N φ (.str l) (.string ⟨⟨l⟩⟩)
  | val (v : Value) : VR N φ (.val v) v
  | ptr (id off : Nat) (h : N id) : VR N φ (.ptr id off) (.pointer (some ⟨(φ id).b, (φ id).o + off, none⟩))
  | sl (id off len esz : Nat) (a : Addr) (cap : Nat) (h : N id) (hl : len ≤ cap) (ha : cap = 0 ∨ (a = ⟨(φ id).b, (φ id).o + off, none⟩ ∧ (φ id).o + off + cap * esz ≤ (φ id).n)) :
      VR N φ (.sl id off len esz) (.slice (some a) len cap)
  | map (id : Nat) (h : N id) : VR N φ (.map id) (.map (some (φ id).b))
  | iface (t : TypeId) (x : AV) (v : Value) (h : VR N φ x v) : VR N φ (.iface t x) (.iface t v)
  | agg (xs : List AV) (vs : Array Value) (hl : xs.length = vs.size) (h : ∀ (i : Nat) (x : AV) (v : Value), xs[i]? = some x → vs[i]? = some v → VR N φ x v) : VR N φ (.agg xs) (.agg vs)
  | tup (xs : List AV) (vs : Array Value) (hl : xs.length = vs.size) (h : ∀ (i : Nat) (x : AV) (v : Value), xs[i]? = some x → vs[i]? = some v → VR N φ x v) : VR N φ (.tup xs) (.tuple vs)
  | func (fn : Fn) (xs ys : List AV) (us vs : Array Value) (hl : xs.length = us.size) (hl' : ys.length = vs.size)
      (h : ∀ (i : Nat) (x : AV) (v : Value), xs[i]? = some x → us[i]? = some v → VR N φ x v)
      (h' : ∀ (i : Nat) (x : AV) (v : Value), ys[i]? = some x → vs[i]? = some v → VR N φ x v) : VR N φ (.func fn xs ys) (.func fn us vs)
  | any (v : Value) : VR N φ .any v

theorem VR.mono {N N' : Nat → Prop} {φ φ' : Nat → Loc} (hN : ∀ id, N id → N' id) (he : ∀ id, N id → φ' id = φ id) {x : AV} {v : Value} (h : VR N φ x v) : VR N' φ' x v := by
  induction h with
  | int k m => exact .int k m
  | bool b => exact .bool b
  | str l => exact .str l
  | val v => exact .val v
  | ptr id off h => rw [← he id h]; exact .ptr id off (hN id h)
  | sl id off len esz a cap h hl ha => exact .sl id off len esz a cap (hN id h) hl (by rw [he id h]; exact ha)
  | map id h => rw [← he id h]; exact .map id (hN id h)
  | iface t x v _ ih => exact .iface t x v ih
  | agg xs vs hl _ ih => exact .agg xs vs hl ih
  | tup xs vs hl _ ih => exact .tup xs vs hl ih
  | func fn xs ys us vs hl hl' _ _ ih ih' => exact .func fn xs ys us vs hl hl' ih ih'
  | any v => exact .any v

/-- Lists, element by element. -/
def VRs (N : Nat → Prop) (φ : Nat → Loc) (xs : List AV) (vs : List Value) : Prop :=
  xs.length = vs.length ∧ ∀ (i : Nat) (x : AV) (v : Value), xs[i]? = some x → vs[i]? = some v → VR N φ x v

theorem VRs.mono {N N' : Nat → Prop} {φ φ' : Nat → Loc} (hN : ∀ id, N id → N' id) (he : ∀ id, N id → φ' id = φ id) {xs : List AV} {vs : List Value} (h : VRs N φ xs vs) : VRs N' φ' xs vs :=
  ⟨h.1, fun i x v hx hv => (h.2 i x v hx hv).mono hN he⟩

theorem VRs.nil (N : Nat → Prop) (φ : Nat → Loc) : VRs N φ [] [] := ⟨rfl, fun i x v hx _ => by simp at hx⟩
theorem VRs.cons {N : Nat → Prop} {φ : Nat → Loc} {x : AV} {v : Value} {xs : List AV} {vs : List Value} (h : VR N φ x v) (hs : VRs N φ xs vs) : VRs N φ (x :: xs) (v :: vs) :=
  ⟨by simp [hs.1], fun i y u hy hu => by
    cases i with
    | zero => simp at hy hu; subst hy; subst hu; exact h
    | succ i => simp at hy hu; exact hs.2 i y u hy hu⟩
theorem VRs.head {N : Nat → Prop} {φ : Nat → Loc} {x : AV} {v : Value} {xs : List AV} {vs : List Value} (h : VRs N φ (x :: xs) (v :: vs)) : VR N φ x v := h.2 0 x v rfl rfl
theorem VRs.tail {N : Nat → Prop} {φ : Nat → Loc} {x : AV} {v : Value} {xs : List AV} {vs : List Value} (h : VRs N φ (x :: xs) (v :: vs)) : VRs N φ xs vs :=
  ⟨by have := h.1; simpa using this, fun i y u hy hu => h.2 (i + 1) y u (by simpa using hy) (by simpa using hu)⟩
theorem VRs.append {N : Nat → Prop} {φ : Nat → Loc} {xs ys : List AV} {us vs : List Value} (h : VRs N φ xs us) (k : VRs N φ ys vs) : VRs N φ (xs ++ ys) (us ++ vs) := by
  refine ⟨by simp [h.1, k.1], fun i x v hx hv => ?_⟩
  by_cases hi : i < xs.length
  · rw [List.getElem?_append_left hi] at hx
    rw [List.getElem?_append_left (h.1 ▸ hi)] at hv
    exact h.2 i x v hx hv
  · rw [List.getElem?_append_right (by omega)] at hx
    rw [List.getElem?_append_right (by have := h.1; omega)] at hv
    rw [h.1] at hx
    exact k.2 _ x v hx hv
theorem VRs.take {N : Nat → Prop} {φ : Nat → Loc} {xs : List AV} {vs : List Value} (h : VRs N φ xs vs) (n : Nat) : VRs N φ (xs.take n) (vs.take n) := by
  refine ⟨by simp [h.1], fun i x v hx hv => ?_⟩
  rw [List.getElem?_take] at hx hv
  split at hx
  · rename_i hi; rw [if_pos hi] at hv; exact h.2 i x v hx hv
  · cases hx
theorem VRs.drop {N : Nat → Prop} {φ : Nat → Loc} {xs : List AV} {vs : List Value} (h : VRs N φ xs vs) (n : Nat) : VRs N φ (xs.drop n) (vs.drop n) := by
  refine ⟨by simp [h.1], fun i x v hx hv => ?_⟩
  rw [List.getElem?_drop] at hx hv
  exact h.2 _ x v hx hv
theorem VRs.set {N : Nat → Prop} {φ : Nat → Loc} {xs : List AV} {vs : List Value} (h : VRs N φ xs vs) (n : Nat) {y : AV} {u : Value} (k : VR N φ y u) : VRs N φ (xs.set n y) (vs.set n u) := by
  refine ⟨by simp [h.1], fun i x v hx hv => ?_⟩
  rw [List.getElem?_set] at hx hv
  have := h.1
  by_cases hn : n = i
  · subst hn
    simp only [if_true] at hx hv
    split at hx
    · rename_i hlt; rw [if_pos (by omega)] at hv; cases hx; cases hv; exact k
    · cases hx
  · rw [if_neg hn] at hx hv; exact h.2 i x v hx hv
/-- What stands at a place has a partner there. -/
theorem VRs.at {N : Nat → Prop} {φ : Nat → Loc} {xs : List AV} {vs : List Value} (h : VRs N φ xs vs) {i : Nat} {x : AV} (hx : xs[i]? = some x) : ∃ v, vs[i]? = some v ∧ VR N φ x v := by
  have hi : i < xs.length := by
    rcases Nat.lt_or_ge i xs.length with h' | h'
    · exact h'
    · rw [List.getElem?_eq_none h'] at hx; cases hx
  have hi' : i < vs.length := h.1 ▸ hi
  exact ⟨vs[i], List.getElem?_eq_getElem hi', h.2 i x _ hx (List.getElem?_eq_getElem hi')⟩
theorem VRs.map {N : Nat → Prop} {φ : Nat → Loc} {α : Type} (f : α → AV) (g : α → Value) (h : ∀ a, VR N φ (f a) (g a)) : ∀ l : List α, VRs N φ (l.map f) (l.map g)
  | [] => VRs.nil _ _
  | a :: l => VRs.cons (h a) (VRs.map f g h l)

theorem VR.ofCell (N : Nat → Prop) (φ : Nat → Loc) (v : Value) : VR N φ (ofCell v) v := by
  cases v with
  | int k n => exact .int k n
  | bool b => exact .bool b
  | string s => obtain ⟨⟨l⟩⟩ := s; exact .str l
  | _ => exact .val _



theorem VR.ofValue (N : Nat → Prop) (φ : Nat → Loc) (v : Value) : VR N φ (ofValue v) v := by
  have h0 := VR.ofCell N φ v
  cases v with
  | agg cs =>
    refine .agg _ _ (by simp) fun i x u hx hu => ?_
    have := VRs.map (N := N) (φ := φ) Go.Proofs.YtobhmahlenjheaaM.ofCell id (VR.ofCell N φ) cs.toList
    exact this.2 i x u hx (by simpa using hu)
  | tuple cs =>
    refine .tup _ _ (by simp) fun i x u hx hu => ?_
    have := VRs.map (N := N) (φ := φ) Go.Proofs.YtobhmahlenjheaaM.ofCell id (VR.ofCell N φ) cs.toList
    exact this.2 i x u hx (by simpa using hu)
  | _ => exact h0

theorem VR.undef (N : Nat → Prop) (φ : Nat → Loc) : VR N φ .undef Go.undef := .tup [] #[] rfl fun i x v hx _ => by simp at hx

theorem VR.aggs {N : Nat → Prop} {φ : Nat → Loc} {xs : List AV} {vs : List Value} (h : VRs N φ xs vs) : VR N φ (.agg xs) (.agg vs.toArray) :=
  .agg _ _ (by simpa using h.1) fun i x v hx hv => h.2 i x v hx (by simpa using hv)
theorem VR.tups {N : Nat → Prop} {φ : Nat → Loc} {xs : List AV} {vs : List Value} (h : VRs N φ xs vs) : VR N φ (.tup xs) (.tuple vs.toArray) :=
  .tup _ _ (by simpa using h.1) fun i x v hx hv => h.2 i x v hx (by simpa using hv)

theorem VR.one {N : Nat → Prop} {φ : Nat → Loc} {x : AV} {v : Value} (h : VR N φ x v) (hx : x.one = true) : v.oneCell' = true := by
  cases h <;> first | rfl | (simp [AV.one] at hx; done) | skip
  cases v <;> first | rfl | (simp [AV.one] at hx)

/-- A value's cells, and the model's. -/
theorem VR.cells {N : Nat → Prop} {φ : Nat → Loc} {x : AV} {v : Value} (h : VR N φ x v) {cs : List AV} (hc : x.cells = some cs) : VRs N φ cs v.cells.toList := by
  have one : ∀ {y : AV} {u : Value}, VR N φ y u → y.one = true → u.cells = #[u] := fun {y u} hy ho => by
    have := hy.one ho
    cases u <;> first | rfl | (simp [Value.oneCell'] at this)
  cases h with
  | agg xs vs hl h =>
    simp [AV.cells] at hc
    subst hc
    exact ⟨by simpa [Value.cells] using hl, fun i x v hx hv => h i x v hx (by simpa [Value.cells] using hv)⟩
  | _ =>
    simp only [AV.cells] at hc
    split at hc
    · rename_i ho
      cases hc
      rw [one (by first | exact .int _ _ | exact .bool _ | exact .str _ | exact .val _ | exact .ptr _ _ (by assumption) | exact .sl _ _ _ _ _ _ (by assumption) (by assumption) (by assumption) | exact .map _ (by assumption) | exact .iface _ _ _ (by assumption) | exact .tup _ _ (by assumption) (by assumption) | exact .func _ _ _ _ _ (by assumption) (by assumption) (by assumption) (by assumption) | exact .any _) ho]
      exact VRs.cons (by first | exact .int _ _ | exact .bool _ | exact .str _ | exact .val _ | exact .ptr _ _ (by assumption) | exact .sl _ _ _ _ _ _ (by assumption) (by assumption) (by assumption) | exact .map _ (by assumption) | exact .iface _ _ _ (by assumption) | exact .tup _ _ (by assumption) (by assumption) | exact .func _ _ _ _ _ (by assumption) (by assumption) (by assumption) (by assumption) | exact .any _) (VRs.nil _ _)
    · cases hc

/-! ### The heap -/
def AH.ok (h : AH) (id : Nat) : Prop := ∃ o, h.get id = some o

theorem AH.get_lt {h : AH} {id : Nat} {o : AO} (hg : h.get id = some o) : id < h.n := by
  unfold AH.get at hg; split at hg
  · assumption
  · cases hg
theorem AH.get_push_new (h : AH) (o : AO) : (h.push o).get h.n = some o := by simp [AH.get, AH.push]
theorem AH.get_push_old {h : AH} {o : AO} {id : Nat} (hi : id < h.n) : (h.push o).get id = h.get id := by
  have e : h.n + 1 - 1 - id = (h.n - 1 - id) + 1 := by omega
  simp only [AH.get, AH.push, if_pos hi, e, List.getElem?_cons_succ]
  rw [if_pos (by omega)]
theorem AH.get_push_ne {h : AH} {o : AO} {id : Nat} (hi : id ≠ h.n) : (h.push o).get id = h.get id := by
  rcases Nat.lt_or_ge id h.n with h' | h'
  · exact AH.get_push_old h'
  · have h1 : ¬ id < h.n := by omega
    have h2 : ¬ id < (h.push o).n := by rw [show (h.push o).n = h.n + 1 from rfl]; omega
    simp only [AH.get, if_neg h1, if_neg h2]
theorem AH.set_n (h : AH) (id : Nat) (o : AO) : (h.set id o).n = h.n := by unfold AH.set; split <;> rfl
theorem AH.push_n (h : AH) (o : AO) : (h.push o).n = h.n + 1 := rfl
theorem AH.get_set_same {h : AH} {id : Nat} {o p : AO} (hg : h.get id = some p) : (h.set id o).get id = some o := by
  have hlt := AH.get_lt hg
  have hl : h.n - 1 - id < h.l.length := by
    simp only [AH.get, if_pos hlt] at hg
    rcases Nat.lt_or_ge (h.n - 1 - id) h.l.length with h' | h'
    · exact h'
    · rw [List.getElem?_eq_none h'] at hg; cases hg
  simp [AH.get, AH.set, hlt, hl]
theorem AH.get_set_ne {h : AH} {id k : Nat} {o : AO} (hk : k ≠ id) : (h.set id o).get k = h.get k := by
  unfold AH.set
  split
  · rename_i hlt
    simp only [AH.get]
    split
    · rename_i hk'
      rw [List.getElem?_set_ne (by omega)]
    · rfl
  · rfl

theorem AH.ok_lt {h : AH} {id : Nat} (hk : h.ok id) : id < h.n := let ⟨_, hg⟩ := hk; AH.get_lt hg
theorem AH.ok_new (h : AH) (o : AO) : (h.push o).ok h.n := ⟨o, AH.get_push_new h o⟩
theorem AH.ok_push {h : AH} {o : AO} {id : Nat} (hk : h.ok id) : (h.push o).ok id := let ⟨p, hg⟩ := hk; ⟨p, by rw [AH.get_push_old (AH.get_lt hg)]; exact hg⟩
theorem AH.ok_set {h : AH} {id k : Nat} {o p : AO} (hg : h.get id = some p) : (h.set id o).ok k ↔ h.ok k := by
  by_cases e : k = id
  · subst e; exact ⟨fun _ => ⟨p, hg⟩, fun _ => ⟨o, AH.get_set_same hg⟩⟩
  · unfold AH.ok; rw [AH.get_set_ne e]

def AO.owned : AO → Bool
  | .cells _ own _ _ => own
  | .map _ _ => true
  | .siter _ _ => true
  | .dead => false
  | .gvar _ _ => false
def AO.live : AO → Bool
  | .dead => false
  | _ => true
theorem AO.owned_live {o : AO} (h : o.owned = true) : o.live = true := by cases o <;> first | rfl | cases h

def EntR (N : Nat → Prop) (φ : Nat → Loc) (a : AV × AV × Nat) (e : MapEntry) : Prop := VR N φ a.1 e.key ∧ VR N φ a.2.1 e.val ∧ a.2.2 = e.born

def ObjR (N : Nat → Prop) (φ : Nat → Loc) (loc : Loc) : AO → Option Obj → Prop
  | .cells c own fz ty, o => ∃ (C : Array Value) (e : TypeId) (lo hi : Nat), o = some (.cells C e (lo, hi)) ∧ C.size = loc.n ∧ loc.o + c.length ≤ C.size ∧
      (∀ (i : Nat) (x : AV), c[i]? = some x → ∃ v, C[loc.o + i]? = some v ∧ VR N φ x v) ∧ (own = true → ∀ i, loc.o + fz ≤ i → i < C.size → ¬ (lo ≤ i ∧ i < hi)) ∧ (∀ t b, ty = some (t, b) → e = t ∧ (b = true → loc.o = 0 ∧ loc.n = c.length))
  | .map es clock, o => ∃ es' : Array MapEntry, o = some (.map es' clock) ∧ es.length = es'.size ∧ ∀ (i : Nat) (a : AV × AV × Nat) (e : MapEntry), es[i]? = some a → es'[i]? = some e → EntR N φ a e
  | .siter s pos, o => loc.o = 0 ∧ o = some (.stringIter ⟨⟨s⟩⟩ pos)
  | .dead, _ => True
  | .gvar g c, o => loc.b = g ∧ ∃ (C : Array Value) (e : TypeId) (lo hi : Nat), o = some (.cells C e (lo, hi)) ∧ c.length ≤ C.size ∧ ∀ (i : Nat) (x : AV), c[i]? = some x → ∃ v, C[i]? = some v ∧ VR N φ x v

theorem ObjR.mono {N N' : Nat → Prop} {φ φ' : Nat → Loc} (hN : ∀ id, N id → N' id) (he : ∀ id, N id → φ' id = φ id) {loc : Loc} {o : AO} {r : Option Obj} (h : ObjR N φ loc o r) : ObjR N' φ' loc o r := by
  cases o with
  | cells c own fz ty =>
    obtain ⟨C, e, lo, hi, h1, h2, h3, h4, h5⟩ := h
    exact ⟨C, e, lo, hi, h1, h2, h3, fun i x hx => let ⟨v, hv, hr⟩ := h4 i x hx; ⟨v, hv, hr.mono hN he⟩, h5⟩
  | map es clock =>
    obtain ⟨es', h1, h2, h3⟩ := h
    exact ⟨es', h1, h2, fun i a e ha he' => let ⟨k1, k2, k3⟩ := h3 i a e ha he'; ⟨k1.mono hN he, k2.mono hN he, k3⟩⟩
  | siter s pos => exact h
  | dead => trivial
  | gvar g c =>
    obtain ⟨h0, C, e, lo, hi, h1, h2, h3⟩ := h
    exact ⟨h0, C, e, lo, hi, h1, h2, fun i x hx => let ⟨v, hv, hr⟩ := h3 i x hx; ⟨v, hv, hr.mono hN he⟩⟩

theorem ObjR.there {N : Nat → Prop} {φ : Nat → Loc} {loc : Loc} {o : AO} {r : Option Obj} (h : ObjR N φ loc o r) (hl : o.live = true) : ∃ x, r = some x := by
  cases o with
  | cells c own fz ty => obtain ⟨C, e, lo, hi, h1, _⟩ := h; exact ⟨_, h1⟩
  | map es clock => obtain ⟨es', h1, _⟩ := h; exact ⟨_, h1⟩
  | siter s pos => exact ⟨_, h.2⟩
  | dead => cases hl
  | gvar g c => obtain ⟨h0, C, e, lo, hi, h1, _⟩ := h; exact ⟨_, h1⟩

structure Rel (B : Nat) (φ : Nat → Loc) (h : AH) (w : World) : Prop where
  obj : ∀ id o, h.get id = some o → ObjR h.ok φ (φ id) o w.heap[(φ id).b]?
  base : ∀ id o, h.get id = some o → o.owned = true → B ≤ (φ id).b
  sep : ∀ i j o p, h.get i = some o → h.get j = some p → o.owned = true → p.live = true → (φ i).b = (φ j).b → i = j
  bs : B ≤ w.heap.size

theorem Rel.lt {B : Nat} {φ : Nat → Loc} {h : AH} {w : World} (r : Rel B φ h w) {id : Nat} {o : AO} (hg : h.get id = some o) (hl : o.live = true) : (φ id).b < w.heap.size := by
  obtain ⟨x, hx⟩ := (r.obj id o hg).there hl
  rcases Nat.lt_or_ge (φ id).b w.heap.size with h' | h'
  · exact h'
  · rw [Array.getElem?_eq_none h'] at hx; cases hx

/-- What a step of the machine does to the world. -/
structure Step (φ : Nat → Loc) (h : AH) (w : World) (φ' : Nat → Loc) (h' : AH) (w' : World) : Prop where
  os : w'.os = w.os
  tape : w'.tape = w.tape
  output : w'.output = w.output
  size : w.heap.size ≤ w'.heap.size
  n : h.n ≤ h'.n
  okm : ∀ id, h.ok id → h'.ok id
  ext : ∀ id, id < h.n → φ' id = φ id
  frame : ∀ k, k < w.heap.size → (∀ id o, h.get id = some o → o.owned = true → (φ id).b ≠ k) → w'.heap[k]? = w.heap[k]?
  own : ∀ id o, h'.get id = some o → o.owned = true → w.heap.size ≤ (φ' id).b ∨ ∃ j p, h.get j = some p ∧ p.owned = true ∧ (φ j).b = (φ' id).b

theorem Step.refl (φ : Nat → Loc) (h : AH) (w : World) : Step φ h w φ h w :=
  ⟨rfl, rfl, rfl, Nat.le_refl _, Nat.le_refl _, fun _ hk => hk, fun _ _ => rfl, fun _ _ _ => rfl, fun id o hg ho => .inr ⟨id, o, hg, ho, rfl⟩⟩

theorem Step.trans {φ φ' φ'' : Nat → Loc} {h h' h'' : AH} {w w' w'' : World} (a : Step φ h w φ' h' w') (b : Step φ' h' w' φ'' h'' w'') : Step φ h w φ'' h'' w'' := by
  refine ⟨b.os.trans a.os, b.tape.trans a.tape, b.output.trans a.output, Nat.le_trans a.size b.size, Nat.le_trans a.n b.n, fun id hk => b.okm id (a.okm id hk), fun id hi => ?_, fun k hk hn => ?_, fun id o hg ho => ?_⟩
  · rw [b.ext id (Nat.lt_of_lt_of_le hi a.n), a.ext id hi]
  · rw [b.frame k (Nat.lt_of_lt_of_le hk a.size) fun id o hg ho => ?_, a.frame k hk hn]
    rcases a.own id o hg ho with h1 | ⟨j, p, hj, hp, he⟩
    · omega
    · rw [← he]; exact hn j p hj hp
  · rcases b.own id o hg ho with h1 | ⟨j, p, hj, hp, he⟩
    · exact .inl (Nat.le_trans a.size h1)
    · rw [← he]
      exact a.own j p hj hp

/-- A draw. -/
theorem Rel.drew {B : Nat} {φ : Nat → Loc} {h : AH} {w : World} (r : Rel B φ h w) (n : Nat) : Rel B φ h { w with drawn := n } := ⟨r.obj, r.base, r.sep, r.bs⟩
theorem Step.drew (φ : Nat → Loc) (h : AH) (w : World) (n : Nat) : Step φ h w φ h { w with drawn := n } :=
  ⟨rfl, rfl, rfl, Nat.le_refl _, Nat.le_refl _, fun _ hk => hk, fun _ _ => rfl, fun _ _ _ => rfl, fun id o hg ho => .inr ⟨id, o, hg, ho, rfl⟩⟩

def ext1 (φ : Nat → Loc) (n : Nat) (l : Loc) : Nat → Loc := fun id => if id = n then l else φ id
theorem ext1_new (φ : Nat → Loc) (n : Nat) (l : Loc) : ext1 φ n l n = l := by simp [ext1]
theorem ext1_old {φ : Nat → Loc} {n : Nat} {l : Loc} {id : Nat} (h : id < n) : ext1 φ n l id = φ id := by simp [ext1, Nat.ne_of_lt h]

theorem alloc_size (w : World) (x : Obj) : (w.alloc x).heap.size = w.heap.size + 1 := by
  show (w.heap.push x).size = _
  simp
theorem alloc_new (w : World) (x : Obj) : (w.alloc x).heap[w.heap.size]? = some x := by
  show (w.heap.push x)[w.heap.size]? = _
  simp

/-- A new block. -/
theorem Rel.push {B : Nat} {φ : Nat → Loc} {h : AH} {w : World} (r : Rel B φ h w) (o : AO) (x : Obj) (l : Loc) (hb : l.b = w.heap.size)
    (ho : ObjR (h.push o).ok (ext1 φ h.n l) l o (some x)) : Rel B (ext1 φ h.n l) (h.push o) (w.alloc x) ∧ Step φ h w (ext1 φ h.n l) (h.push o) (w.alloc x) := by
  have old : ∀ {id : Nat} {p : AO}, (h.push o).get id = some p → id ≠ h.n → h.get id = some p ∧ id < h.n := fun {id p} hg hne => by
    rw [AH.get_push_ne hne] at hg; exact ⟨hg, AH.get_lt hg⟩
  have heap : ∀ k, k < w.heap.size → (w.alloc x).heap[k]? = w.heap[k]? := fun k hk => Below.heap_alloc w x k hk
  refine ⟨⟨fun id p hg => ?_, fun id p hg hp => ?_, fun i j p q hi hj hp hq he => ?_, ?_⟩, ⟨rfl, rfl, rfl, by rw [alloc_size]; omega, by simp [AH.push_n], fun id hk => AH.ok_push hk, fun id hi => ext1_old hi, fun k hk _ => heap k hk, fun id p hg hp => ?_⟩⟩
  · by_cases hid : id = h.n
    · subst hid
      rw [AH.get_push_new] at hg
      cases hg
      rw [ext1_new, hb]
      rw [alloc_new]
      exact ho
    · obtain ⟨hg', hlt⟩ := old hg hid
      rw [ext1_old hlt]
      cases hl : p.live with
      | false => cases p <;> first | trivial | cases hl
      | true =>
        rw [heap _ (r.lt hg' hl)]
        exact (r.obj id p hg').mono (fun k hk => AH.ok_push hk) fun k hk => ext1_old (AH.ok_lt hk)
  · by_cases hid : id = h.n
    · subst hid; rw [ext1_new, hb]; exact r.bs
    · obtain ⟨hg', hlt⟩ := old hg hid
      rw [ext1_old hlt]; exact r.base id p hg' hp
  · by_cases hii : i = h.n
    · subst hii
      by_cases hjj : j = h.n
      · exact hjj.symm
      · obtain ⟨hg', hlt⟩ := old hj hjj
        rw [ext1_new, ext1_old hlt, hb] at he
        have := r.lt hg' hq
        omega
    · obtain ⟨hg', hlt⟩ := old hi hii
      by_cases hjj : j = h.n
      · subst hjj
        rw [ext1_new, ext1_old hlt, hb] at he
        have := r.lt hg' (AO.owned_live hp)
        omega
      · obtain ⟨hg'', hlt'⟩ := old hj hjj
        rw [ext1_old hlt, ext1_old hlt'] at he
        exact r.sep i j p q hg' hg'' hp hq he
  · have := r.bs; rw [alloc_size]; omega
  · by_cases hid : id = h.n
    · subst hid; rw [ext1_new, hb]; exact .inl (Nat.le_refl _)
    · obtain ⟨hg', hlt⟩ := old hg hid
      exact .inr ⟨id, p, hg', hp, by rw [ext1_old hlt]⟩

/-- A world that differs in one block of the machine's own. -/
structure Turned (w w' : World) (b : Nat) : Prop where
  os : w'.os = w.os
  tape : w'.tape = w.tape
  output : w'.output = w.output
  size : w'.heap.size = w.heap.size
  other : ∀ k, k ≠ b → w'.heap[k]? = w.heap[k]?

theorem Rel.update {B : Nat} {φ : Nat → Loc} {h : AH} {w w' : World} (r : Rel B φ h w) {id : Nat} {o : AO} (hg : h.get id = some o) (ho : o.owned = true) (t : Turned w w' (φ id).b)
    (o' : AO) (ho' : ObjR h.ok φ (φ id) o' w'.heap[(φ id).b]?) : Rel B φ (h.set id o') w' ∧ Step φ h w φ (h.set id o') w' := by
  refine ⟨⟨fun k p hk => ?_, fun k p hk hp => ?_, fun i j p q hi hj hp hq he => ?_, by rw [t.size]; exact r.bs⟩, ⟨t.os, t.tape, t.output, by rw [t.size]; exact Nat.le_refl _, by rw [AH.set_n]; exact Nat.le_refl _, fun k hk => (AH.ok_set hg).2 hk, fun _ _ => rfl, fun k hk hn => t.other k fun e => hn id o hg ho e.symm, fun k p hk hp => ?_⟩⟩
  · have hK : ∀ j, h.ok j → (h.set id o').ok j := fun j hj => (AH.ok_set hg).2 hj
    by_cases e : k = id
    · subst e; rw [AH.get_set_same hg] at hk; cases hk; exact ho'.mono hK fun _ _ => rfl
    · rw [AH.get_set_ne e] at hk
      cases hl : p.live with
      | false => cases p <;> first | trivial | cases hl
      | true =>
        rw [t.other _ fun e' => e (r.sep id k o p hg hk ho hl e'.symm).symm]
        exact (r.obj k p hk).mono hK fun _ _ => rfl
  · by_cases e : k = id
    · subst e; exact r.base k o hg ho
    · rw [AH.get_set_ne e] at hk; exact r.base k p hk hp
  · by_cases ei : i = id
    · by_cases ej : j = id
      · rw [ei, ej]
      · rw [AH.get_set_ne ej] at hj
        subst ei
        exact r.sep i j o q hg hj ho hq he
    · rw [AH.get_set_ne ei] at hi
      by_cases ej : j = id
      · subst ej
        exact r.sep i j p o hi hg hp (AO.owned_live ho) he
      · rw [AH.get_set_ne ej] at hj
        exact r.sep i j p q hi hj hp hq he
  · by_cases e : k = id
    · subst e; exact .inr ⟨k, o, hg, ho, rfl⟩
    · rw [AH.get_set_ne e] at hk; exact .inr ⟨k, p, hk, hp, rfl⟩

/-- A block that is no more to be asked for. -/
theorem Rel.kill {B : Nat} {φ : Nat → Loc} {h : AH} {w : World} (r : Rel B φ h w) {id : Nat} {o : AO} (hg : h.get id = some o) (ho : o.owned = true) :
    Rel B φ (h.set id .dead) w ∧ Step φ h w φ (h.set id .dead) w :=
  r.update hg ho ⟨rfl, rfl, rfl, rfl, fun _ _ => rfl⟩ .dead trivial

/-- A block that goes on under another name, in its place. -/
theorem Rel.move {B : Nat} {φ : Nat → Loc} {h : AH} {w w' : World} (r : Rel B φ h w) {id : Nat} {o : AO} (hg : h.get id = some o) (ho : o.owned = true) (t : Turned w w' (φ id).b)
    (l : Loc) (hl : l.b = (φ id).b) (o' : AO) (ho' : ObjR ((h.set id .dead).push o').ok (ext1 φ h.n l) l o' w'.heap[l.b]?) :
    Rel B (ext1 φ h.n l) ((h.set id .dead).push o') w' ∧ Step φ h w (ext1 φ h.n l) ((h.set id .dead).push o') w' := by
  obtain ⟨r1, _⟩ := r.kill hg ho
  have hn : (h.set id .dead).n = h.n := AH.set_n _ _ _
  have old : ∀ {k : Nat} {p : AO}, ((h.set id .dead).push o').get k = some p → k ≠ h.n → p.live = true → h.get k = some p ∧ k < h.n ∧ k ≠ id := fun {k p} hk hne hp => by
    rw [AH.get_push_ne (by rw [hn]; exact hne)] at hk
    have hlt := AH.get_lt hk
    rw [hn] at hlt
    by_cases e : k = id
    · subst e; rw [AH.get_set_same hg] at hk; cases hk; cases hp
    · rw [AH.get_set_ne e] at hk; exact ⟨hk, hlt, e⟩
  have new : ∀ {p : AO}, ((h.set id .dead).push o').get h.n = some p → p = o' := fun {p} hk => by
    rw [← hn, AH.get_push_new] at hk; exact (Option.some.inj hk).symm
  refine ⟨⟨fun k p hk => ?_, fun k p hk hp => ?_, fun i j p q hi hj hp hq he => ?_, by rw [t.size]; exact r.bs⟩, ⟨t.os, t.tape, t.output, by rw [t.size]; exact Nat.le_refl _, by rw [AH.push_n, hn]; omega, fun k hk => AH.ok_push ((AH.ok_set hg).2 hk), fun k hk => ext1_old hk, fun k hk hne => t.other k fun e => hne id o hg ho e.symm, fun k p hk hp => ?_⟩⟩
  · by_cases e : k = h.n
    · subst e; rw [new hk, ext1_new]; rw [new hk] at *; exact ho'
    · cases hp : p.live with
      | false => cases p <;> first | trivial | cases hp
      | true =>
        obtain ⟨hk', hlt, hne⟩ := old hk e hp
        rw [ext1_old hlt, t.other _ fun e' => hne (r.sep id k o p hg hk' ho hp e'.symm).symm]
        exact (r.obj k p hk').mono (fun j hj => AH.ok_push ((AH.ok_set hg).2 hj)) fun _ hk => ext1_old (AH.ok_lt hk)
  · by_cases e : k = h.n
    · subst e; rw [ext1_new, hl]; exact r.base id o hg ho
    · obtain ⟨hk', hlt, _⟩ := old hk e (AO.owned_live hp)
      rw [ext1_old hlt]; exact r.base k p hk' hp
  · by_cases ei : i = h.n
    · by_cases ej : j = h.n
      · rw [ei, ej]
      · obtain ⟨hj', hlt, hne⟩ := old hj ej hq
        subst ei
        rw [ext1_new, ext1_old hlt, hl] at he
        exact absurd (r.sep id j o q hg hj' ho hq he).symm hne
    · obtain ⟨hi', hlt, hne⟩ := old hi ei (AO.owned_live hp)
      by_cases ej : j = h.n
      · subst ej
        rw [ext1_new, ext1_old hlt, hl] at he
        exact absurd (r.sep i id p o hi' hg hp (AO.owned_live ho) he) hne
      · obtain ⟨hj', hlt', _⟩ := old hj ej hq
        rw [ext1_old hlt, ext1_old hlt'] at he
        exact r.sep i j p q hi' hj' hp hq he
  · by_cases e : k = h.n
    · subst e; rw [ext1_new, hl]; exact .inr ⟨id, o, hg, ho, rfl⟩
    · obtain ⟨hk', hlt, _⟩ := old hk e (AO.owned_live hp)
      exact .inr ⟨k, p, hk', hp, by rw [ext1_old hlt]⟩

end Go.Proofs.YtobhmahlenjheaaM
