/- Plain operations, and rules to go through code. -/
import Derived.Test.YtobhmahlenjheaaMB
import Derived.KernelRfl
namespace Go.Proofs.YtobhmahlenjheaaM
/-! S1 -/
section
set_option linter.unusedSimpArgs false
set_option linter.unusedVariables false
open Go Go.RowKit

variable {P : Program} {h h' h0 : AH}

/-! ### Plain operations -/
def capL : Nat := 100000000
def idxS (s : List UInt8) (i : Int) : Option Int := if 0 ≤ i ∧ i < s.length then some ((s.getD i.toNat 0).toNat : Int) else none
def subS (s : List UInt8) (a b : Int) : Option (List UInt8) := if 0 ≤ a ∧ a ≤ b ∧ b ≤ s.length then some ((s.take b.toNat).drop a.toNat) else none
def cat (a b : List UInt8) : Option (List UInt8) := if a.length + b.length ≤ sizeCap then some (a ++ b) else none
def idxL {α : Type} (l : List α) (i : Int) : Option α := if 0 ≤ i then l[i.toNat]? else none
def subL {α : Type} (l : List α) (a b : Int) : Option (List α) := if 0 ≤ a ∧ a ≤ b ∧ b ≤ l.length then some ((l.take b.toNat).drop a.toNat) else none
def app {α : Type} (a b : List α) : Option (List α) := if a.length + b.length ≤ capL then some (a ++ b) else none
def mkL {α : Type} (z : α) (n : Int) : Option (List α) := if 0 ≤ n ∧ n ≤ capL then some (List.replicate n.toNat z) else none
def setL {α : Type} (l : List α) (i : Int) (x : α) : Option (List α) := if 0 ≤ i ∧ i < l.length then some (l.set i.toNat x) else none
def quoI (k : IntKind) (a b : Int) : Option Int := if b = 0 then none else some (k.wrap (a.tdiv b))
def remI (a b : Int) : Option Int := if b = 0 then none else some (a.tmod b)
def byt (z : Int) : UInt8 := UInt8.ofNat z.toNat

/-- Rounds of a loop, n at most. -/
def iter {σ ρ : Type} (step : σ → Option (σ ⊕ ρ)) : Nat → σ → Option ρ
  | 0, _ => none
  | n + 1, s => match step s with
    | some (.inl s') => iter step n s'
    | some (.inr r) => some r
    | none => none

/-- So many rounds are enough for whatever is asked. -/
def NF : Nat := 1000000

theorem obind {α β : Type} {x : Option α} {f : α → Option β} {r : β} (h : x.bind f = some r) : ∃ y, x = some y ∧ f y = some r := by
  cases x with
  | none => cases h
  | some y => exact ⟨y, rfl, h⟩

/-! ### Blocks of one's own -/
inductive Ent where
  | row (u : AV) (e : TypeId) (sz : Nat) (xs : List (List AV))
  | blk (id : Nat) (c : List AV) (t : TypeId)
  | bld (id : Nat) (p v : AV) (bt be : TypeId) (bs : List UInt8)
  | mp (id : Nat) (es : List (AV × AV × Nat)) (clock : Nat)
  | buf (id o : Nat) (p v : AV) (be : TypeId) (bs : List UInt8)

def idsOf : AV → List Nat
  | .sl id _ _ _ => [id]
  | _ => []

def Ent.ids : Ent → List Nat
  | .row u _ _ _ => idsOf u
  | .blk id _ _ => [id]
  | .bld id _ v _ _ _ => id :: idsOf v
  | .mp id _ _ => [id]
  | .buf _ _ _ v _ _ => idsOf v

/-- A slice of one's own that holds such elements. -/
def Row (e : TypeId) (sz : Nat) (u : AV) (h : AH) (xs : List (List AV)) : Prop :=
  (xs = [] ∧ u = .val (.slice none 0 0)) ∨ ∃ id, u = .sl id 0 xs.length sz ∧ h.get id = some (.cells xs.flatten true 0 (some (e, false)))

def Ent.ok (h : AH) : Ent → Prop
  | .row u e sz xs => (∀ x ∈ xs, x.length = sz) ∧ Row e sz u h xs
  | .blk id c t => h.get id = some (.cells c true 0 (some (t, true)))
  | .bld id p v bt be bs => h.get id = some (.cells [p, v] true 0 (some (bt, true))) ∧ (p = .val (.pointer none) ∨ p = .ptr id 0) ∧ BS be v h bs
  | .mp id es clock => h.get id = some (.map es clock)
  | .buf id o p v be bs => (p = .val (.pointer none) ∨ p = .ptr id o) ∧ BS be v h bs

theorem Ent.ok_keep {e : Ent} (ho : e.ok h) (hf : ∀ k ∈ e.ids, ∀ o, h.get k = some o → h'.get k = some o) : e.ok h' := by
  cases e with
  | row u e sz xs =>
    refine ⟨ho.1, ?_⟩
    rcases ho.2 with hh | ⟨id, rfl, hg⟩
    · exact .inl hh
    · exact .inr ⟨id, rfl, hf id (by simp [Ent.ids, idsOf]) _ hg⟩
  | blk id c t => exact hf id (by simp [Ent.ids]) _ ho
  | bld id p v bt be bs =>
    obtain ⟨h1, h2, h3⟩ := ho
    refine ⟨hf id (by simp [Ent.ids]) _ h1, h2, ?_⟩
    rcases h3 with hh | ⟨k, a, rfl, hg⟩
    · exact .inl hh
    · exact .inr ⟨k, a, rfl, hf k (by simp [Ent.ids, idsOf]) _ hg⟩
  | mp id es c => exact hf id (by simp [Ent.ids]) _ ho
  | buf id o p v be bs =>
    refine ⟨ho.1, ?_⟩
    rcases ho.2 with hh | ⟨k, a, rfl, hg⟩
    · exact .inl hh
    · exact .inr ⟨k, a, rfl, hf k (by simp [Ent.ids, idsOf]) _ hg⟩

theorem Ent.ok_lt {e : Ent} (ho : e.ok h) : ∀ k ∈ e.ids, k < h.n := by
  intro k hk
  cases e with
  | row u e sz xs =>
    rcases ho.2 with ⟨_, rfl⟩ | ⟨id, rfl, hg⟩
    · simp [Ent.ids, idsOf] at hk
    · simp [Ent.ids, idsOf] at hk; subst hk; exact AH.get_lt hg
  | blk id c t => simp [Ent.ids] at hk; subst hk; exact AH.get_lt ho
  | bld id p v bt be bs =>
    obtain ⟨h1, h2, h3⟩ := ho
    simp [Ent.ids] at hk
    rcases hk with rfl | hk
    · exact AH.get_lt h1
    · rcases h3 with ⟨_, rfl⟩ | ⟨j, a, rfl, hg⟩
      · simp [idsOf] at hk
      · simp [idsOf] at hk; subst hk; exact AH.get_lt hg
  | mp id es c => simp [Ent.ids] at hk; subst hk; exact AH.get_lt ho
  | buf id o p v be bs =>
    rcases ho.2 with ⟨_, rfl⟩ | ⟨j, a, rfl, hg⟩
    · simp [Ent.ids, idsOf] at hk
    · simp [Ent.ids, idsOf] at hk; subst hk; exact AH.get_lt hg

structure Sep (h0 : AH) (X : List Nat) (h : AH) (L : List Ent) : Prop where
  n : h0.n ≤ h.n
  old : ∀ k o, k ∉ X → h0.get k = some o → h.get k = some o
  ok : ∀ e ∈ L, e.ok h
  own : ∀ e ∈ L, ∀ i ∈ e.ids, i ∈ X ∨ h0.n ≤ i
  nd : (L.flatMap Ent.ids).Nodup

variable {X : List Nat} {L : List Ent}

theorem Sep.nil (h : AH) : Sep h [] h [] := ⟨Nat.le_refl _, fun _ _ _ hk => hk, fun e he => (by cases he), fun e he => (by cases he), by simp⟩

theorem nodup_set {e e' : Ent} {m : Nat} : ∀ {L : List Ent} {i : Nat}, (L.flatMap Ent.ids).Nodup → L[i]? = some e → (∀ x ∈ L, ∀ k ∈ x.ids, k < m) → (∀ k ∈ e'.ids, k ∈ e.ids ∨ m ≤ k) → e'.ids.Nodup → ((L.set i e').flatMap Ent.ids).Nodup
  | [], i, h, hi, hm, hk, hn => by simp at hi
  | x :: L, 0, h, hi, hm, hk, hn => by
    simp at hi; subst hi
    simp only [List.set_cons_zero, List.flatMap_cons, List.nodup_append] at h ⊢
    refine ⟨hn, h.2.1, fun a ha b hb hab => ?_⟩
    subst hab
    rcases hk a ha with h1 | h1
    · exact h.2.2 a h1 a hb rfl
    · obtain ⟨y, hy, hay⟩ := List.mem_flatMap.1 hb
      have := hm y (List.mem_cons_of_mem _ hy) a hay
      omega
  | x :: L, i + 1, h, hi, hm, hk, hn => by
    simp only [List.set_cons_succ, List.flatMap_cons, List.nodup_append] at h ⊢
    have hi' : L[i]? = some e := by simpa using hi
    refine ⟨h.1, nodup_set (m := m) h.2.1 hi' (fun y hy => hm y (List.mem_cons_of_mem _ hy)) hk hn, fun a ha b hb hab => ?_⟩
    subst hab
    obtain ⟨y, hy, hay⟩ := List.mem_flatMap.1 hb
    rcases List.mem_or_eq_of_mem_set hy with h1 | rfl
    · exact h.2.2 a ha a (List.mem_flatMap.2 ⟨y, h1, hay⟩) rfl
    · rcases hk a hay with h1 | h1
      · exact h.2.2 a ha a (List.mem_flatMap.2 ⟨e, List.mem_of_getElem? hi', h1⟩) rfl
      · have := hm x (List.mem_cons_self ..) a ha
        omega

theorem nodup_other {L : List Ent} {i : Nat} {e : Ent} (h : (L.flatMap Ent.ids).Nodup) (hi : L[i]? = some e) : ∀ j x, L[j]? = some x → j ≠ i → ∀ k ∈ x.ids, k ∉ e.ids := by
  induction L generalizing i with
  | nil => simp at hi
  | cons y L ih =>
    simp only [List.flatMap_cons, List.nodup_append] at h
    intro j x hj hne k hk hke
    cases i with
    | zero =>
      simp at hi; subst hi
      cases j with
      | zero => exact hne rfl
      | succ j => exact h.2.2 k hke k (List.mem_flatMap.2 ⟨x, List.mem_of_getElem? (by simpa using hj), hk⟩) rfl
    | succ i =>
      cases j with
      | zero =>
        simp at hj; subst hj
        exact h.2.2 k hk k (List.mem_flatMap.2 ⟨e, List.mem_of_getElem? (by simpa using hi), hke⟩) rfl
      | succ j => exact ih h.2.1 (by simpa using hi) j x (by simpa using hj) (by omega) k hk hke

/-- One of them is another one now. -/
theorem Sep.upd (S : Sep h0 X h L) (i : Nat) {e : Ent} (hi : L[i]? = some e) (e' : Ent) (hn : h.n ≤ h'.n) (hfr : ∀ k o, k ∉ e.ids → h.get k = some o → h'.get k = some o)
    (hok : e'.ok h') (hids : ∀ k ∈ e'.ids, k ∈ e.ids ∨ h.n ≤ k) (hnd : e'.ids.Nodup) : Sep h0 X h' (L.set i e') := by
  have he := List.mem_of_getElem? hi
  refine ⟨Nat.le_trans S.n hn, fun k o hk hg => hfr k o (fun hke => ?_) (S.old k o hk hg), fun x hx => ?_, fun x hx k hk => ?_, nodup_set (m := h.n) (i := i) S.nd hi (fun x hx => (Ent.ok_lt (S.ok x hx))) hids hnd⟩
  · rcases S.own e he k hke with h1 | h1
    · exact hk h1
    · have := AH.get_lt hg; omega
  · obtain ⟨j, hj, hjx⟩ := List.mem_iff_getElem.1 hx
    rw [List.getElem_set] at hjx
    split at hjx
    · subst hjx; exact hok
    · rename_i hne
      have hj' : j < L.length := by simpa using hj
      have hm : L[j]? = some x := by rw [List.getElem?_eq_getElem hj', hjx]
      exact Ent.ok_keep (S.ok x (List.mem_of_getElem? hm)) fun k hk o hg => hfr k o (nodup_other S.nd hi j x hm (fun hh => hne hh.symm) k hk) hg
  · rcases List.mem_or_eq_of_mem_set hx with h1 | rfl
    · exact S.own x h1 k hk
    · rcases hids k hk with h1 | h1
      · exact S.own e he k h1
      · exact .inr (Nat.le_trans S.n h1)

/-- One more. -/
theorem Sep.add (S : Sep h0 X h L) (e : Ent) (hn : h.n ≤ h'.n) (hfr : ∀ k o, h.get k = some o → h'.get k = some o) (hok : e.ok h') (hids : ∀ k ∈ e.ids, h.n ≤ k) (hnd : e.ids.Nodup) : Sep h0 X h' (L ++ [e]) := by
  refine ⟨Nat.le_trans S.n hn, fun k o hk hg => hfr k o (S.old k o hk hg), fun x hx => ?_, fun x hx k hk => ?_, ?_⟩
  · rcases List.mem_append.1 hx with h1 | h1
    · exact Ent.ok_keep (S.ok x h1) fun k _ o hg => hfr k o hg
    · rw [List.mem_singleton.1 h1]; exact hok
  · rcases List.mem_append.1 hx with h1 | h1
    · exact S.own x h1 k hk
    · rw [List.mem_singleton.1 h1] at hk; exact .inr (Nat.le_trans S.n (hids k hk))
  · simp only [List.flatMap_append, List.flatMap_cons, List.flatMap_nil, List.append_nil, List.nodup_append]
    refine ⟨S.nd, hnd, fun a ha b hb hab => ?_⟩
    subst hab
    obtain ⟨y, hy, hay⟩ := List.mem_flatMap.1 ha
    have := (Ent.ok_lt (S.ok y hy)) a hay
    have := hids a hb
    omega

/-- Some are forgotten. -/
theorem Sep.sub {L' : List Ent} (S : Sep h0 X h L) (hs : L'.Sublist L) : Sep h0 X h L' :=
  ⟨S.n, S.old, fun e he => S.ok e (hs.subset he), fun e he => S.own e (hs.subset he), S.nd.sublist (by
    clear S
    induction hs with
    | slnil => exact .slnil
    | cons a _ ih => rw [List.flatMap_cons]; exact ih.trans (List.sublist_append_right _ _)
    | cons_cons a _ ih => rw [List.flatMap_cons, List.flatMap_cons]; exact (List.Sublist.refl _).append ih)⟩

/-- In another order. -/
theorem Sep.perm {L' : List Ent} (S : Sep h0 X h L) (hp : L'.Perm L) : Sep h0 X h L' :=
  ⟨S.n, S.old, fun e he => S.ok e (hp.subset he), fun e he => S.own e (hp.subset he), ((hp.flatMap_right Ent.ids).nodup_iff).2 S.nd⟩

/-- A call that leaves all as it was, and makes some. -/
theorem Sep.call0 {L' : List Ent} (S : Sep h0 X h L) (S' : Sep h [] h' L') : Sep h0 X h' (L ++ L') := by
  refine ⟨Nat.le_trans S.n S'.n, fun k o hk hg => S'.old k o (by simp) (S.old k o hk hg), fun x hx => ?_, fun x hx k hk => ?_, ?_⟩
  · rcases List.mem_append.1 hx with h1 | h1
    · exact Ent.ok_keep (S.ok x h1) fun k _ o hg => S'.old k o (by simp) hg
    · exact S'.ok x h1
  · rcases List.mem_append.1 hx with h1 | h1
    · exact S.own x h1 k hk
    · rcases S'.own x h1 k hk with h2 | h2
      · simp at h2
      · exact .inr (Nat.le_trans S.n h2)
  · simp only [List.flatMap_append, List.nodup_append]
    refine ⟨S.nd, S'.nd, fun a ha b hb hab => ?_⟩
    subst hab
    obtain ⟨y, hy, hay⟩ := List.mem_flatMap.1 ha
    obtain ⟨z, hz, haz⟩ := List.mem_flatMap.1 hb
    have := (Ent.ok_lt (S.ok y hy)) a hay
    rcases S'.own z hz a haz with h2 | h2
    · simp at h2
    · omega

/-- A call that is lent one of them. -/
theorem Sep.call1 {L' : List Ent} {X' : List Nat} (S : Sep h0 X h L) (i : Nat) {e : Ent} (hi : L[i]? = some e) (hX : ∀ k ∈ X', k ∈ e.ids) (S' : Sep h X' h' L') : Sep h0 X h' (L.eraseIdx i ++ L') := by
  have he := List.mem_of_getElem? hi
  have hoth : ∀ x ∈ L.eraseIdx i, (∃ j, L[j]? = some x ∧ j ≠ i) := fun x hx => by
    obtain ⟨j, hj⟩ := List.mem_iff_getElem?.1 hx
    rw [List.getElem?_eraseIdx] at hj
    split at hj
    · exact ⟨j, hj, by omega⟩
    · exact ⟨j + 1, hj, by omega⟩
  have hap : ∀ x ∈ L.eraseIdx i, ∀ k ∈ x.ids, k ∉ X' := fun x hx k hk hkX => by
    obtain ⟨j, hj, hne⟩ := hoth x hx
    exact nodup_other S.nd hi j x hj hne k hk (hX k hkX)
  have hmem : ∀ x ∈ L.eraseIdx i, x ∈ L := fun x hx => (List.eraseIdx_sublist ..).subset hx
  refine ⟨Nat.le_trans S.n S'.n, fun k o hk hg => S'.old k o (fun hkX => ?_) (S.old k o hk hg), fun x hx => ?_, fun x hx k hk => ?_, ?_⟩
  · rcases S.own e he k (hX k hkX) with h1 | h1
    · exact hk h1
    · have := AH.get_lt hg; omega
  · rcases List.mem_append.1 hx with h1 | h1
    · exact Ent.ok_keep (S.ok x (hmem x h1)) fun k hk o hg => S'.old k o (hap x h1 k hk) hg
    · exact S'.ok x h1
  · rcases List.mem_append.1 hx with h1 | h1
    · exact S.own x (hmem x h1) k hk
    · rcases S'.own x h1 k hk with h2 | h2
      · exact S.own e he k (hX k h2)
      · exact .inr (Nat.le_trans S.n h2)
  · have S2 := S.sub (List.eraseIdx_sublist (l := L) i)
    simp only [List.flatMap_append, List.nodup_append]
    refine ⟨S2.nd, S'.nd, fun a ha b hb hab => ?_⟩
    subst hab
    obtain ⟨y, hy, hay⟩ := List.mem_flatMap.1 ha
    obtain ⟨z, hz, haz⟩ := List.mem_flatMap.1 hb
    have := (Ent.ok_lt (S2.ok y hy)) a hay
    rcases S'.own z hz a haz with h2 | h2
    · exact hap y hy a hay h2
    · omega

/-! ### Slices to be read -/
def RO (sz : Nat) (u : AV) (h : AH) (xs : List (List AV)) : Prop :=
  (∀ x ∈ xs, x.length = sz) ∧ ((xs = [] ∧ u = .val (.slice none 0 0)) ∨ (∃ id off c own fz ty, u = .sl id off xs.length sz ∧ h.get id = some (.cells c own fz ty) ∧ off + xs.length * sz ≤ c.length ∧ (c.drop off).take (xs.length * sz) = xs.flatten) ∨ (xs = [] ∧ ∃ id off, u = .sl id off 0 sz))

theorem flat_len {xs : List (List AV)} {sz : Nat} (hx : ∀ x ∈ xs, x.length = sz) : xs.flatten.length = xs.length * sz := by
  induction xs with
  | nil => simp
  | cons x xs ih =>
    rw [List.flatten_cons, List.length_append, hx x (List.mem_cons_self ..), ih (fun y hy => hx y (List.mem_cons_of_mem _ hy)), List.length_cons, Nat.add_mul]
    omega

theorem RO.keep {sz : Nat} {u : AV} {xs : List (List AV)} (hs : RO sz u h xs) (hf : ∀ k o, k ∈ idsOf u → h.get k = some o → h'.get k = some o) : RO sz u h' xs := by
  refine ⟨hs.1, ?_⟩
  rcases hs.2 with hh | ⟨id, off, c, o, f, t, rfl, hg, h1, h2⟩ | hh
  · exact .inl hh
  · exact .inr (.inl ⟨id, off, c, o, f, t, rfl, hf _ _ (by simp [idsOf]) hg, h1, h2⟩)
  · exact .inr (.inr hh)

/-- What was there ahead is there. -/
theorem Sep.ro {sz : Nat} {u : AV} {xs : List (List AV)} (S : Sep h0 [] h L) (hs : RO sz u h0 xs) : RO sz u h xs := hs.keep fun k o _ hg => S.old k o (by simp) hg
theorem Sep.roX {sz : Nat} {u : AV} {xs : List (List AV)} (S : Sep h0 X h L) (hX : ∀ k ∈ idsOf u, k ∉ X) (hs : RO sz u h0 xs) : RO sz u h xs := hs.keep fun k o hk hg => S.old k o (hX k hk) hg

theorem Sep.row_ro {i : Nat} {u : AV} {e : TypeId} {sz : Nat} {xs : List (List AV)} (S : Sep h0 X h L) (hi : L[i]? = some (.row u e sz xs)) : RO sz u h xs := by
  have := S.ok _ (List.mem_of_getElem? hi)
  refine ⟨this.1, ?_⟩
  rcases this.2 with hh | ⟨id, rfl, hg⟩
  · exact .inl hh
  · have hl := flat_len this.1
    exact .inr (.inl ⟨id, 0, _, _, _, _, rfl, hg, by omega, by rw [List.drop_zero, List.take_of_length_le (by omega)]⟩)

/-- A slice type t of elements e, each of sz cells. -/
structure SlTy (P : Program) (t e : TypeId) (sz : Nat) : Prop where
  ht : P.underlying t = some (.slice e)
  hi : (P.info? e).map (fun i => (i.size, decide (i.bytes < 1000), i.zero.map fun z => z.cells.size)) = some (sz, true, some sz)
  hz : (zeroOf P e).bind (fun z => z.cells.map List.length) = some sz
  pos : 0 < sz
  sm : sz < 1000

theorem SlTy.info {t e : TypeId} {sz : Nat} (b : SlTy P t e sz) : ∃ i z, P.info? e = some i ∧ i.size = sz ∧ i.bytes < 1000 ∧ i.zero = some z ∧ z.cells.size = sz := by
  have := b.hi
  cases hi : P.info? e with
  | none => rw [hi] at this; cases this
  | some i =>
    rw [hi] at this
    simp only [Option.map_some, Option.some.injEq, Prod.mk.injEq, decide_eq_true_eq] at this
    obtain ⟨h1, h2, h3⟩ := this
    cases hz : i.zero with
    | none => rw [hz] at h3; cases h3
    | some z =>
      rw [hz] at h3
      simp only [Option.map_some, Option.some.injEq] at h3
      exact ⟨i, z, rfl, h1, h2, hz, h3⟩

theorem SlTy.sz {t e : TypeId} {sz : Nat} (b : SlTy P t e sz) : szOf P e = some sz := by
  obtain ⟨i, z, hi, h1, h2, hz, hz1⟩ := b.info
  simp [szOf, hi, h1]
theorem SlTy.elem {t e : TypeId} {sz : Nat} (b : SlTy P t e sz) : sliceElem P t = some e := by simp [sliceElem, b.ht]
theorem SlTy.room {t e : TypeId} {sz : Nat} (b : SlTy P t e sz) : ∃ i, P.info? e = some i ∧ i.size = sz ∧ i.bytes < 1000 ∧ ∀ k, k ≤ capL → aroom i k = true := by
  obtain ⟨i, z, hi, h1, h2, hz, hz1⟩ := b.info
  refine ⟨i, hi, h1, h2, fun k hk => ?_⟩
  have : k * (i.bytes + 1) ≤ 100000000 * 1000 := Nat.mul_le_mul hk (by omega)
  have hp := b.pos
  simp only [aroom, h1, hz, hz1, Option.map_some, Bool.and_eq_true, decide_eq_true_eq, beq_self_eq_true, sizeCap]
  refine ⟨⟨decide_eq_true (Nat.le_trans this (by decide : (100000000 * 1000 : Nat) ≤ 1099511627776)), ?_⟩, ?_⟩
  · simpa using hp
  · simp

theorem RO.len {t e : TypeId} {sz : Nat} (b : SlTy P t e sz) {u : AV} {xs : List (List AV)} (hs : RO sz u h xs) : alenOf P t u h = some (.int .i64 xs.length) := by
  rcases hs.2 with ⟨rfl, rfl⟩ | ⟨id, off, c, o, f, ty, rfl, hg, h1, h2⟩ | ⟨rfl, id, off, rfl⟩
  · simp [alenOf, b.ht]
  · simp [alenOf, b.ht]
  · simp [alenOf, b.ht]
theorem RO.alen {sz : Nat} {u : AV} {xs : List (List AV)} (hs : RO sz u h xs) : alen u = some xs.length := by
  rcases hs.2 with ⟨rfl, rfl⟩ | ⟨id, off, c, o, f, ty, rfl, hg, h1, h2⟩ | ⟨rfl, id, off, rfl⟩ <;> simp [Go.Proofs.YtobhmahlenjheaaM.alen]
theorem RO.cells {sz : Nat} {u : AV} {xs : List (List AV)} (hp : 0 < sz) (hs : RO sz u h xs) : acells u sz xs.length h = some xs.flatten := by
  rcases hs.2 with ⟨rfl, rfl⟩ | ⟨id, off, c, o, f, ty, rfl, hg, h1, h2⟩ | ⟨rfl, id, off, rfl⟩
  · simp [acells]
  · by_cases h0 : xs.length = 0
    · obtain rfl := List.eq_nil_of_length_eq_zero h0
      simp [acells]
    · simp only [acells, Nat.le_refl, and_self, if_true, if_neg h0, hg, h1, h2]
  · simp [acells]

/-- The place of an element of a slice. -/
def PtrTo (u : AV) (sz : Nat) (i : Int) (id off : Nat) : Prop := ∃ o n, u = .sl id o n sz ∧ off = o + i.toNat * sz

theorem RO.addr {t e : TypeId} {sz : Nat} (b : SlTy P t e sz) {α : Type} {f : α → List AV} {zs : List α} {u : AV} (hs : RO sz u h (zs.map f)) {i : Int} {x : α} (hx : idxL zs i = some x) :
    ∃ id off, (∀ k : IntKind, aindexAddr P t u (.int k i) = some (.ptr id off)) ∧ PtrTo u sz i id off := by
  unfold idxL at hx
  split at hx
  rotate_left
  · cases hx
  rename_i h0
  have hlt : i.toNat < zs.length := by
    rcases Nat.lt_or_ge i.toNat zs.length with hh | hh
    · exact hh
    · rw [List.getElem?_eq_none hh] at hx; cases hx
  rcases hs.2 with ⟨he, rfl⟩ | ⟨id, off, c, ow, f', ty, rfl, hg, h1, h2⟩ | ⟨he, _⟩
  · rw [List.map_eq_nil_iff] at he; subst he; simp at hlt
  rotate_left
  · rw [List.map_eq_nil_iff] at he; subst he; simp at hlt
  · refine ⟨id, off + i.toNat * sz, fun k => ?_, _, _, rfl, rfl⟩
    simp only [aindexAddr, b.ht, b.sz]
    rw [if_pos ⟨trivial, h0, by rw [List.length_map]; omega⟩]

theorem RO.ld {sz : Nat} {α : Type} {f : α → List AV} {zs : List α} {u : AV} (hs : RO sz u h (zs.map f)) {i : Int} {x : α} {id off : Nat} (hp : PtrTo u sz i id off) (hx : idxL zs i = some x) {t : TypeId} {o : Nat} {v : AV}
    (ho : o < sz) (hap : apart P t (f x) o = some v) : aload P t (.ptr id (off + o)) h = some v := by
  unfold idxL at hx
  split at hx
  rotate_left
  · cases hx
  rename_i h0
  have hlt : i.toNat < zs.length := by
    rcases Nat.lt_or_ge i.toNat zs.length with hh | hh
    · exact hh
    · rw [List.getElem?_eq_none hh] at hx; cases hx
  obtain ⟨o1, n1, rfl, rfl⟩ := hp
  have hx' : (zs.map f)[i.toNat]? = some (f x) := by rw [List.getElem?_map, hx]; rfl
  rcases hs.2 with ⟨he, hh⟩ | ⟨id', off, c, ow, f', ty, hu, hg, h1, h2⟩ | ⟨he, _⟩
  · cases hh
  rotate_left
  · rw [List.map_eq_nil_iff] at he; subst he; simp at hlt
  · cases hu
    obtain ⟨f1, f2⟩ := flat_get hs.1 i.toNat (f x) hx'
    rw [Nat.add_mul, Nat.one_mul] at f2
    have hfl := flat_len hs.1
    simp only [aload, hg]
    have hcd : ∀ j, j < sz → c[o1 + i.toNat * sz + j]? = (f x)[j]? := fun j hj => by
      rw [← f1, ← h2]
      simp only [List.getElem?_take, List.getElem?_drop]
      rw [if_pos hj, if_pos (by omega)]
      congr 1
      omega
    unfold apart at hap ⊢
    have hxl : (f x).length = sz := hs.1 _ (List.mem_of_getElem? hx')
    split at hap
    · split at hap
      · rename_i n hn
        split at hap
        · rename_i hle
          rw [if_pos (by omega), ← hap]
          congr 2
          apply List.ext_getElem?
          intro j
          simp only [List.getElem?_take, List.getElem?_drop]
          split
          · rw [Nat.add_assoc, hcd _ (by omega)]
          · rfl
        · cases hap
      · cases hap
    · rw [hcd o ho]; exact hap
    · cases hap

theorem take_flat {xs : List (List AV)} {sz : Nat} (hx : ∀ x ∈ xs, x.length = sz) : ∀ n, (xs.take n).flatten = xs.flatten.take (n * sz) := by
  induction xs with
  | nil => simp
  | cons z zs ih =>
    intro n
    cases n with
    | zero => simp
    | succ n =>
      have hz := hx z (List.mem_cons_self ..)
      have hm : (n + 1) * sz = sz + n * sz := by rw [Nat.add_mul, Nat.one_mul, Nat.add_comm]
      rw [List.take_succ_cons, List.flatten_cons, List.flatten_cons, ih (fun x hx' => hx x (List.mem_cons_of_mem _ hx')), List.take_append, hz, List.take_of_length_le (l := z) (by omega)]
      congr 2
      omega
theorem drop_flat {xs : List (List AV)} {sz : Nat} (hx : ∀ x ∈ xs, x.length = sz) : ∀ n, (xs.drop n).flatten = xs.flatten.drop (n * sz) := by
  induction xs with
  | nil => simp
  | cons z zs ih =>
    intro n
    cases n with
    | zero => simp
    | succ n =>
      have hz := hx z (List.mem_cons_self ..)
      have hm : (n + 1) * sz = sz + n * sz := by rw [Nat.add_mul, Nat.one_mul, Nat.add_comm]
      rw [List.drop_succ_cons, List.flatten_cons, ih (fun x hx' => hx x (List.mem_cons_of_mem _ hx')), List.drop_append, hz, List.drop_of_length_le (l := z) (by omega)]
      simp only [List.nil_append]
      congr 1
      omega

/-- A piece of a slice. -/
theorem RO.sub {t e : TypeId} {sz : Nat} (b : SlTy P t e sz) {α : Type} {f : α → List AV} {zs ys : List α} {u : AV} (hs : RO sz u h0 (zs.map f)) {a c : Int} (hy : subL zs a c = some ys) {lo hi : Option AV}
    (hlo : abound 0 lo = some a.toNat ∧ (lo = none → a = 0)) (hhi : abound zs.length hi = some c.toNat) :
    ∃ u', (∀ g, aslice P t u lo hi none g = some u') ∧ (∀ g, RO sz u g (zs.map f) → RO sz u' g (ys.map f)) ∧ ∀ k ∈ idsOf u', k ∈ idsOf u := by
  unfold subL at hy
  split at hy
  rotate_left
  · cases hy
  rename_i hc
  obtain ⟨c1, c2, c3⟩ := hc
  cases hy
  rcases hs.2 with ⟨he, rfl⟩ | ⟨id, off, cs, ow, f', ty, rfl, hg, h1, h2⟩ | ⟨he, id, off, rfl⟩
  rotate_left 2
  · rw [List.map_eq_nil_iff] at he; subst he
    simp at c3
    have hc0 : c = 0 := by omega
    have ha0 : a = 0 := by omega
    subst hc0; subst ha0
    refine ⟨.sl id (off + 0 * sz) (0 - 0) sz, fun g => ?_, fun g hg => ?_, fun k hk => hk⟩
    · simp only [List.length_nil, Int.toNat_zero] at hhi hlo
      simp only [aslice, b.ht, b.sz, hlo.1, hhi]
      rw [if_pos ⟨trivial, by omega, by omega⟩]
    · exact ⟨fun x hx => (by simp at hx), .inr (.inr ⟨by simp, id, off + 0 * sz, rfl⟩)⟩
  · rw [List.map_eq_nil_iff] at he; subst he
    simp at c3
    have hc0 : c = 0 := by omega
    have ha0 : a = 0 := by omega
    subst hc0; subst ha0
    refine ⟨.val (.slice none 0 0), fun g => ?_, fun g hg => ?_, fun k hk => hk⟩
    · simp only [List.length_nil, Int.toNat_zero] at hhi hlo
      simp only [aslice, b.ht, b.sz, hlo.1, hhi]
    · exact ⟨fun x hx => (by simp at hx), .inl ⟨by simp, rfl⟩⟩
  · refine ⟨.sl id (off + a.toNat * sz) (c.toNat - a.toNat) sz, fun g => ?_, fun g hg => ?_, fun k hk => hk⟩
    · rw [List.length_map] at *
      simp only [aslice, b.ht, b.sz, hlo.1, hhi]
      rw [if_pos ⟨trivial, by omega, by omega⟩]
    · refine ⟨fun x hx => hg.1 x ?_, .inr ?_⟩
      · obtain ⟨y, hy, rfl⟩ := List.mem_map.1 hx
        exact List.mem_map.2 ⟨y, List.mem_of_mem_take (List.mem_of_mem_drop hy), rfl⟩
      · rcases hg.2 with ⟨_, hh⟩ | ⟨id', off', cs', ow', f'', ty', hu, hg', h1', h2'⟩ | ⟨he, _⟩
        · cases hh
        rotate_left
        · right
          rw [List.map_eq_nil_iff] at he; subst he
          simp at c3
          exact ⟨by simp, id, off + a.toNat * sz, by rw [show c.toNat - a.toNat = 0 by omega]⟩
        · left
          cases hu
          have hl : ((zs.take c.toNat).drop a.toNat).length = c.toNat - a.toNat := by
            rw [List.length_drop, List.length_take, Nat.min_eq_left (by omega)]
          have hm : (c.toNat - a.toNat) * sz = c.toNat * sz - a.toNat * sz := Nat.sub_mul ..
          have hac : a.toNat * sz ≤ c.toNat * sz := Nat.mul_le_mul_right _ (by omega)
          have hcz : c.toNat * sz ≤ zs.length * sz := Nat.mul_le_mul_right _ (by omega)
          rw [List.length_map] at h1' h2'
          refine ⟨id, off + a.toNat * sz, cs', ow', f'', ty', by rw [List.length_map, hl], hg', by rw [List.length_map, hl]; omega, ?_⟩
          rw [List.length_map, hl]
          have hfl := flat_len hg.1
          rw [List.length_map] at hfl
          have e1 := take_flat hg.1 c.toNat
          have e2 := fun ws hw n => drop_flat (sz := sz) (xs := ws) hw n
          rw [List.map_drop, List.map_take, e2 _ (fun x hx => hg.1 x (List.mem_of_mem_take hx)), e1, ← h2', List.take_take, Nat.min_eq_left hcz, List.drop_take, List.drop_drop, hm]

end
/-! S2 -/
section
set_option linter.unusedSimpArgs false
set_option linter.unusedVariables false
open Go Go.RowKit

variable {P : Program} {h h0 : AH} {X : List Nat} {L : List Ent}

theorem Sep.alloc (S : Sep h0 X h L) (t : TypeId) (c : List AV) : ∃ i h1, anew t c h = (.ptr i 0, h1) ∧ Sep h0 X h1 (L ++ [.blk i c t]) := by
  refine ⟨h.n, h.push (.cells c true 0 (some (t, true))), rfl, S.add (.blk h.n c t) (by rw [AH.push_n]; omega) (fun k o hg => by rw [AH.get_push_ne (by have := AH.get_lt hg; omega)]; exact hg) (AH.get_push_new _ _) (fun k hk => ?_) (by simp [Ent.ids])⟩
  simp [Ent.ids] at hk; omega

theorem Sep.blk {i id : Nat} {c : List AV} {T : TypeId} (S : Sep h0 X h L) (hi : L[i]? = some (.blk id c T)) : h.get id = some (.cells c true 0 (some (T, true))) := S.ok _ (List.mem_of_getElem? hi)

theorem Sep.load (S : Sep h0 X h L) (i : Nat) {id : Nat} {c : List AV} {T : TypeId} (hi : L[i]? = some (.blk id c T)) {t : TypeId} {off : Nat} {v : AV} (ha : apart P t c off = some v) : aload P t (.ptr id off) h = some v := by
  simp only [aload, S.blk hi, ha]

theorem Sep.store (S : Sep h0 X h L) (i : Nat) {id : Nat} {c : List AV} {T : TypeId} (hi : L[i]? = some (.blk id c T)) {t : TypeId} {off : Nat} {v : AV} {xs c' : List AV} (hv : v.cells = some xs) (hs : szOf P t = some xs.length)
    (ho : xs.all AV.one = true) (hle : off + xs.length ≤ c.length) (hc : splice c off xs = c') : ∃ h1, astore P t (.ptr id off) v h = some h1 ∧ Sep h0 X h1 (L.set i (.blk id c' T)) := by
  subst hc
  have hg := S.blk hi
  refine ⟨h.set id (.cells (splice c off xs) true 0 (some (T, true))), ?_, S.upd i hi (.blk id _ T) (by rw [AH.set_n]; omega) (fun k o hk hg => by rw [AH.get_set_ne (by simpa [Ent.ids] using hk)]; exact hg) (AH.get_set_same hg) (fun k hk => .inl hk) (by simp [Ent.ids])⟩
  simp only [astore, hg, hv, hs]
  rw [if_pos ⟨trivial, by omega, hle, ho⟩]

/-- Elements with their places. -/
def idxd : List AV → Nat → List (Nat × AV)
  | [], _ => []
  | v :: vs, i => (i, v) :: idxd vs (i + 1)

theorem partsAt_idxd (sz : Nat) : ∀ (vs : List AV) (xs : List (List AV)) (i : Nat), vs.map AV.cells = xs.map some → partsAt (fun i => some (i * sz, sz)) (idxd vs i) = some ((xs.zipIdx i).map fun p => (p.2 * sz, sz, p.1))
  | [], [], i, h => rfl
  | v :: vs, x :: xs, i, h => by
    simp only [List.map_cons, List.cons.injEq] at h
    simp only [idxd, partsAt, h.1, partsAt_idxd sz vs xs (i + 1) h.2, List.zipIdx_cons, List.map_cons]
  | [], x :: xs, i, h => by simp at h
  | v :: vs, [], i, h => by simp at h

theorem afill_all (sz : Nat) (zs : List AV) (hz : zs.length = sz) : ∀ (xs : List (List AV)) (pre : List AV) (i : Nat), (∀ x ∈ xs, x.length = sz) → pre.length = i * sz →
    afill (pre ++ zrow zs xs.length) ((xs.zipIdx i).map fun p => (p.2 * sz, sz, p.1)) = some (pre ++ xs.flatten)
  | [], pre, i, hx, hp => by simp [afill, zrow]
  | x :: xs, pre, i, hx, hp => by
    have h1 := hx x (List.mem_cons_self ..)
    simp only [List.zipIdx_cons, List.map_cons, afill, List.length_cons, zrow]
    rw [if_pos ⟨h1, by simp [hp, hz]⟩]
    have e : splice (pre ++ (zs ++ zrow zs xs.length)) (i * sz) x = (pre ++ x) ++ zrow zs xs.length := by
      unfold splice
      rw [← hp, h1, List.take_left', ← List.append_assoc, ← List.append_assoc, List.append_assoc pre zs]
      · congr 1
        rw [← hz, ← List.append_assoc, ← List.length_append, List.drop_left]
      · rfl
    rw [e, afill_all sz zs hz xs (pre ++ x) (i + 1) (fun y hy => hx y (List.mem_cons_of_mem _ hy)) (by rw [List.length_append, hp, h1, Nat.add_mul, Nat.one_mul])]
    simp

theorem Sep.build {t e : TypeId} {sz : Nat} (b : SlTy P t e sz) (S : Sep h0 X h L) (vs : List AV) (xs : List (List AV)) (hv : vs.map AV.cells = xs.map some) (hl : ∀ x ∈ xs, x.length = sz) (hn : xs.length * sz ≤ 16777216) :
    ∃ u h1, abuildSlice P t xs.length (idxd vs 0) h = some (u, h1) ∧ Sep h0 X h1 (L ++ [.row u e sz xs]) := by
  have hp := b.pos
  have e3 := b.hz
  refine ⟨.sl h.n 0 xs.length sz, h.push (.cells xs.flatten true 0 (some (e, false))), ?_, S.add (.row _ e sz xs) (by rw [AH.push_n]; omega) (fun k o hg => by rw [AH.get_push_ne (by have := AH.get_lt hg; omega)]; exact hg) ⟨hl, .inr ⟨h.n, rfl, AH.get_push_new _ _⟩⟩ (fun k hk => ?_) (by simp [Ent.ids, idsOf])⟩
  rotate_left
  · simp [Ent.ids, idsOf] at hk; omega
  have hp1 := partsAt_idxd sz vs xs 0 hv
  simp only [abuildSlice, b.elem, b.sz]
  rw [if_neg (by omega)]
  cases hz0 : zeroOf P e with
  | none => rw [hz0] at e3; cases e3
  | some z0 =>
    rw [hz0] at e3
    simp only [Option.bind_some] at e3
    cases hc0 : z0.cells with
    | none => rw [hc0] at e3; cases e3
    | some zs =>
      rw [hc0] at e3
      simp only [Option.map_some, Option.some.injEq] at e3
      by_cases h00 : xs.length = 0
      · obtain rfl : xs = [] := List.eq_nil_of_length_eq_zero h00
        simp only [List.length_nil, if_true, AV.cells, hp1]
        simp [zrow, afill]
      · rw [if_neg h00]
        simp only [hc0, hp1]
        rw [if_neg (fun hh => hh.2 e3)]
        have := afill_all sz zs e3 xs [] 0 hl (by simp)
        simp only [List.nil_append] at this
        rw [this]

theorem Sep.append {t t' e : TypeId} {sz : Nat} (b : SlTy P t e sz) (b' : (P.underlying t').map notInt = some true) (S : Sep h0 X h L) (i : Nat) {α : Type} {f : α → List AV} {zs ys r : List α} {u w : AV} (hi : L[i]? = some (.row u e sz (zs.map f)))
    (hw : RO sz w h (ys.map f)) (hone : ∀ y, (f y).all AV.one = true) (hr : app zs ys = some r) :
    ∃ u' h1, aappend P #[t, t'] [u, w] h = some (u', h1) ∧ Sep h0 X h1 (L.set i (.row u' e sz (r.map f))) := by
  unfold app at hr
  split at hr
  rotate_left
  · cases hr
  rename_i hlen
  cases hr
  obtain ⟨inf, hin, h1, h2, room⟩ := b.room
  have hp := b.pos
  have a0 : alen (.val (.slice none 0 0)) = some 0 := rfl
  have a1 : ∀ id o n s, alen (.sl id o n s) = some n := fun _ _ _ _ => rfl
  have ok := S.ok _ (List.mem_of_getElem? hi)
  have e5 := hw.cells hp
  rw [List.length_map] at e5
  have e6 := hw.alen
  rw [List.length_map] at e6
  have hyl := flat_len hw.1
  rw [List.length_map] at hyl
  have hone' : (ys.map f).flatten.all AV.one = true := by
    simp only [List.all_flatten, List.all_map, List.all_eq_true]
    intro y _
    exact hone y
  have hx' : ∀ x ∈ (zs ++ ys).map f, x.length = sz := fun x hx => by
    rw [List.map_append] at hx
    rcases List.mem_append.1 hx with hh | hh
    · exact ok.1 x hh
    · exact hw.1 x hh
  have same : ∀ u, ys = [] → Row e sz u h (zs.map f) → Row e sz u h ((zs ++ ys).map f) := fun u hy hu => by subst hy; simpa using hu
  rcases ok.2 with ⟨he, rfl⟩ | ⟨id, rfl, hg⟩
  · rw [List.map_eq_nil_iff] at he; subst he
    by_cases hy : ys.length = 0
    · obtain rfl : ys = [] := List.eq_nil_of_length_eq_zero hy
      refine ⟨.val (.slice none 0 0), h, ?_, S.upd i hi (.row _ e sz _) (Nat.le_refl _) (fun k o _ hg => hg) ⟨hx', .inl ⟨by simp, rfl⟩⟩ (fun k hk => .inl hk) (by simp [Ent.ids, idsOf])⟩
      simp only [aappend, List.getElem?_toArray, List.getElem?_cons_zero, List.getElem?_cons_succ, b.elem, b', hin, e6, a0, a1, h1, room _ hlen, e5, aappendAt]
      simp [room 0 (Nat.zero_le _)]
    · refine ⟨.sl h.n 0 ys.length sz, h.push (.cells (ys.map f).flatten true 0 (some (e, false))), ?_, S.upd i hi (.row _ e sz _) (by rw [AH.push_n]; omega) (fun k o _ hg => by rw [AH.get_push_ne (by have := AH.get_lt hg; omega)]; exact hg) ⟨hx', .inr ⟨h.n, by simp, by simpa using AH.get_push_new h _⟩⟩ (fun k hk => .inr ?_) (by simp [Ent.ids, idsOf])⟩
      · have := room (0 + ys.length) (by simpa using hlen)
        simp only [aappend, List.getElem?_toArray, List.getElem?_cons_zero, List.getElem?_cons_succ, b.elem, b', hin, e6, a0, a1, h1, this, e5, aappendAt, if_neg hy]
      · simp [Ent.ids, idsOf] at hk; omega
  · have hzl := flat_len ok.1
    rw [List.length_map] at hzl
    have rm := room _ hlen
    by_cases hy : ys.length = 0
    · obtain rfl : ys = [] := List.eq_nil_of_length_eq_zero hy
      refine ⟨.sl id 0 zs.length sz, h, ?_, S.upd i hi (.row _ e sz _) (Nat.le_refl _) (fun k o _ hg => hg) ⟨hx', .inr ⟨id, by simp, by simpa using hg⟩⟩ (fun k hk => .inl (by simpa [Ent.ids, idsOf] using hk)) (by simp [Ent.ids, idsOf])⟩
      simp only [aappend, List.getElem?_toArray, List.getElem?_cons_zero, List.getElem?_cons_succ, b.elem, b', hin, e6, a0, a1, List.length_map, h1, rm, e5, aappendAt, if_true]
      simp only [List.length_nil] at rm e5 ⊢
      simp only [rm, e5, if_true]
    · refine ⟨.sl h.n 0 (zs.length + ys.length) sz, (h.set id .dead).push (.cells (((zs.map f).flatten.drop 0).take (zs.length * sz) ++ (ys.map f).flatten) true (0 - 0) (tyApp e (some (e, false)))), ?_, S.upd i hi (.row _ e sz _) (by rw [AH.push_n, AH.set_n]; omega) (fun k o hk hg' => ?_) ⟨hx', .inr ⟨h.n, by simp, ?_⟩⟩ (fun k hk => .inr ?_) (by simp [Ent.ids, idsOf])⟩
      · simp only [aappend, List.getElem?_toArray, List.getElem?_cons_zero, List.getElem?_cons_succ, b.elem, b', hin, e6, a0, a1, List.length_map, h1, rm, e5, aappendAt, if_neg hy, hg]
        rw [if_pos ⟨trivial, by omega, by omega, hone'⟩]
      · have hlt := AH.get_lt hg'
        simp only [Ent.ids, idsOf, List.mem_singleton] at hk
        rw [AH.get_push_ne (by rw [AH.set_n]; omega), AH.get_set_ne hk]
        exact hg'
      · have := AH.get_push_new (h.set id .dead) (.cells (((zs.map f).flatten.drop 0).take (zs.length * sz) ++ (ys.map f).flatten) true (0 - 0) (tyApp e (some (e, false))))
        rw [AH.set_n] at this
        rw [this]
        simp only [List.drop_zero, tyApp, if_true, List.map_append, List.flatten_append]
        rw [List.take_of_length_le (by omega)]
      · simp [Ent.ids, idsOf] at hk; omega

/-- A slice that is none, as one's own. -/
theorem Sep.nilrow (S : Sep h0 X h L) (e : TypeId) (sz : Nat) : Sep h0 X h (L ++ [.row (.val (.slice none 0 0)) e sz []]) :=
  S.add _ (Nat.le_refl _) (fun _ _ hg => hg) ⟨fun x hx => (by cases hx), .inl ⟨rfl, rfl⟩⟩ (fun k hk => (by simp [Ent.ids, idsOf] at hk)) (by simp [Ent.ids, idsOf])

theorem zrow_rep (zs : List AV) : ∀ n, zrow zs n = (List.replicate n zs).flatten
  | 0 => rfl
  | n + 1 => by rw [zrow, zrow_rep zs n, List.replicate_succ, List.flatten_cons]

theorem Sep.make {t e : TypeId} {sz : Nat} (b : SlTy P t e sz) {α : Type} {f : α → List AV} {z : α} {r : List α} (hz : (zeroOf P e).bind AV.cells = some (f z)) (S : Sep h0 X h L) {n : Int} (hr : mkL z n = some r) (k k' : IntKind) :
    ∃ u h1, amakeSlice P t (.int k n) (.int k' n) h = some (u, h1) ∧ Sep h0 X h1 (L ++ [.row u e sz (r.map f)]) := by
  unfold mkL at hr
  split at hr
  rotate_left
  · cases hr
  rename_i hn
  cases hr
  obtain ⟨inf, hin, h1, h2, room⟩ := b.room
  have hp := b.pos
  cases hz0 : zeroOf P e with
  | none => rw [hz0] at hz; cases hz
  | some z0 =>
    rw [hz0] at hz
    simp only [Option.bind_some] at hz
    have e3 := b.hz
    rw [hz0] at e3
    simp only [Option.bind_some, hz, Option.map_some, Option.some.injEq] at e3
    have hb : n * ((inf.bytes : Int) + 1) ≤ sizeCap := by
      have h3 : n * ((inf.bytes : Int) + 1) ≤ 100000000 * 1000 := Int.mul_le_mul hn.2 (by omega) (by omega) (by decide)
      have : (100000000 * 1000 : Int) ≤ sizeCap := by decide
      omega
    refine ⟨.sl h.n 0 n.toNat sz, h.push (.cells (zrow (f z) n.toNat) true 0 (some (e, false))), ?_, S.add (.row _ e sz _) (by rw [AH.push_n]; omega) (fun k o hg => by rw [AH.get_push_ne (by have := AH.get_lt hg; omega)]; exact hg) ⟨fun x hx => ?_, .inr ⟨h.n, by simp, ?_⟩⟩ (fun k hk => ?_) (by simp [Ent.ids, idsOf])⟩
    · simp only [amakeSlice, b.elem, hin, hz0, hz]
      rw [if_pos ⟨hn.1, Int.le_refl _, hb, by rw [h1]; exact e3, by rw [h1]; exact hp⟩, h1]
    · obtain ⟨y, hy, rfl⟩ := List.mem_map.1 hx
      rw [List.eq_of_mem_replicate hy]; exact e3
    · rw [zrow_rep, List.map_replicate]; exact AH.get_push_new _ _
    · simp [Ent.ids, idsOf] at hk; omega

/-- A store into an element of one's own slice. -/
theorem Sep.rstore (S : Sep h0 X h L) (i : Nat) {α : Type} {f : α → List AV} {zs r : List α} {u : AV} {e : TypeId} {sz : Nat} (hi : L[i]? = some (.row u e sz (zs.map f))) {k : Int} {id off : Nat} (hp : PtrTo u sz k id off) {x z : α} (hx : idxL zs k = some x)
    {t : TypeId} {o : Nat} {v : AV} {xs : List AV} (hv : v.cells = some xs) (hs : szOf P t = some xs.length) (ho : xs.all AV.one = true) (hle : o + xs.length ≤ sz) (hsp : splice (f x) o xs = f z) (hr : setL zs k z = some r) :
    ∃ h1, astore P t (.ptr id (off + o)) v h = some h1 ∧ Sep h0 X h1 (L.set i (.row u e sz (r.map f))) := by
  unfold setL at hr
  split at hr
  rotate_left
  · cases hr
  rename_i hk
  cases hr
  unfold idxL at hx
  rw [if_pos hk.1] at hx
  obtain ⟨o1, n1, rfl, rfl⟩ := hp
  have ok := S.ok _ (List.mem_of_getElem? hi)
  rcases ok.2 with ⟨he, hh⟩ | ⟨id1, hu, hg⟩
  · cases hh
  · cases hu
    have hfl := flat_len ok.1
    rw [List.length_map] at hfl
    have hx' : (zs.map f)[k.toNat]? = some (f x) := by rw [List.getElem?_map, hx]; rfl
    have hxl : (f x).length = sz := ok.1 _ (List.mem_of_getElem? hx')
    have hzl : (f z).length = sz := by rw [← hsp]; simp [splice]; omega
    have hkz : k.toNat * sz + sz ≤ zs.length * sz := by
      have : (k.toNat + 1) * sz ≤ zs.length * sz := Nat.mul_le_mul_right _ (by omega)
      rwa [Nat.add_mul, Nat.one_mul] at this
    have key : splice (zs.map f).flatten (0 + k.toNat * sz + o) xs = ((zs.set k.toNat z).map f).flatten := by
      have hlt : k.toNat < (zs.map f).length := by rw [List.length_map]; omega
      have e1 : (zs.set k.toNat z).map f = (zs.map f).take k.toNat ++ f z :: (zs.map f).drop (k.toNat + 1) := by
        rw [List.map_set, List.set_eq_take_append_cons_drop, if_pos hlt]
      have e2 : (zs.map f).flatten = ((zs.map f).take k.toNat).flatten ++ (f x ++ ((zs.map f).drop (k.toNat + 1)).flatten) := by
        conv => lhs; rw [← List.take_append_drop k.toNat (zs.map f)]
        rw [List.flatten_append, List.drop_eq_getElem_cons hlt, List.flatten_cons]
        congr 2
        rw [List.getElem?_eq_getElem hlt] at hx'
        rw [Option.some.inj hx']
      have hA : ((zs.map f).take k.toNat).flatten.length = k.toNat * sz := by
        rw [take_flat ok.1, List.length_take, hfl]
        omega
      rw [e1, List.flatten_append, List.flatten_cons, ← hsp]
      rw [e2]
      generalize ((zs.map f).take k.toNat).flatten = A at *
      generalize ((zs.map f).drop (k.toNat + 1)).flatten = B at *
      unfold splice
      rw [show 0 + k.toNat * sz + o = A.length + o by omega, List.take_length_add_append, Nat.add_assoc, List.drop_length_add_append, List.take_append_of_le_length (by omega), List.drop_append_of_le_length (by omega)]
      simp
    refine ⟨h.set id (.cells (splice (zs.map f).flatten (0 + k.toNat * sz + o) xs) true 0 (some (e, false))), ?_, S.upd i hi (.row _ e sz _) (by rw [AH.set_n]; omega) (fun j o hj hg => by rw [AH.get_set_ne (by simpa [Ent.ids, idsOf] using hj)]; exact hg) ⟨fun y hy => ?_, .inr ⟨id, by simp, ?_⟩⟩ (fun j hj => .inl hj) (by simp [Ent.ids, idsOf])⟩
    · simp only [astore, hg, hv, hs]
      rw [if_pos ⟨trivial, by omega, by omega, ho⟩]
    · obtain ⟨w, hw, rfl⟩ := List.mem_map.1 hy
      rcases List.mem_or_eq_of_mem_set hw with hh | rfl
      · exact ok.1 _ (List.mem_map.2 ⟨w, hh, rfl⟩)
      · exact hzl
    · rw [AH.get_set_same hg, key]

/-! ### Texts and bytes -/
def cellI (k : IntKind) (z : Int) : List AV := [.int k z]
def cellS (s : List UInt8) : List AV := [.str s]
def cellB' (b : Bool) : List AV := [.bool b]

theorem abytes_ints (zs : List Int) : abytes (zs.map (cellI .u8)).flatten = some (zs.map byt) := by
  induction zs with
  | nil => rfl
  | cons z zs ih => simp only [List.map_cons, List.flatten_cons, cellI, List.cons_append, List.nil_append, abytes] at *; rw [ih]; rfl

theorem RO.str {s d : TypeId} {e : TypeId} (hs : P.underlying s = some (.slice e)) (he : P.underlying e = some (.int .u8)) (hd : P.underlying d = some .string) {u : AV} {zs : List Int} (hu : RO 1 u h (zs.map (cellI .u8))) :
    aconv P s d u h = some (.str (zs.map byt), h) := by
  have e1 := hu.cells (by omega)
  have e2 := hu.alen
  rw [List.length_map] at e1 e2
  rcases hu.2 with ⟨hh, rfl⟩ | ⟨id, off, c, o, f, ty, rfl, _⟩ | ⟨hh, id, off, rfl⟩
  · rw [List.map_eq_nil_iff] at hh; subst hh
    simp [aconv, hs, hd, he, Go.Proofs.YtobhmahlenjheaaM.alen, acells, abytes]
  · simp only [aconv, hs, hd, he, e2, e1, abytes_ints, Option.map_some]
  · simp only [aconv, hs, hd, he, e2, e1, abytes_ints, Option.map_some]

theorem Sep.bytes {s d e : TypeId} {x : TypeDesc} (hs : P.underlying s = some .string) (hd : P.underlying d = some (.slice e)) (he : P.underlying e = some (.int .u8)) (S : Sep h0 X h L) (l : List UInt8) :
    ∃ u h1, aconv P s d (.str l) h = some (u, h1) ∧ Sep h0 X h1 (L ++ [.row u e 1 ((l.map fun b => (b.toNat : Int)).map (cellI .u8))]) := by
  refine ⟨.sl h.n 0 l.length 1, h.push (.cells (l.map fun b => .int .u8 b.toNat) true 0 (some (e, false))), by simp only [aconv, hs, hd, he], S.add (.row _ e 1 _) (by rw [AH.push_n]; omega) (fun k o hg => by rw [AH.get_push_ne (by have := AH.get_lt hg; omega)]; exact hg) ⟨fun x hx => ?_, .inr ⟨h.n, by simp, ?_⟩⟩ (fun k hk => ?_) (by simp [Ent.ids, idsOf])⟩
  · obtain ⟨y, _, rfl⟩ := List.mem_map.1 hx; rfl
  · rw [AH.get_push_new]
    congr 2
    simp only [List.map_map]
    induction l with
    | nil => rfl
    | cons a l ih => simp only [List.map_cons, List.flatten_cons, ← ih]; rfl
  · simp [Ent.ids, idsOf] at hk; omega

theorem idx_str {t : TypeId} (ht : P.underlying t = some .string) {l : List UInt8} {k : IntKind} {i r : Int} (hr : idxS l i = some r) : aindex P t (.str l) (.int k i) = some (.int .u8 r) := by
  unfold idxS at hr
  split at hr
  · rename_i hc; cases hr; exact aindex_str ht hc.1 hc.2
  · cases hr
theorem sub_str {t : TypeId} (ht : P.underlying t = some .string) {l r : List UInt8} {k k' : IntKind} {a b : Int} (hr : subS l a b = some r) : aslice P t (.str l) (some (.int k a)) (some (.int k' b)) none h = some (.str r) := by
  unfold subS at hr
  split at hr
  · rename_i hc; cases hr; exact aslice_str ht hc.1 hc.2.1 hc.2.2
  · cases hr
theorem sub_strF {t : TypeId} (ht : P.underlying t = some .string) {l r : List UInt8} {k : IntKind} {a : Int} (hr : subS l a l.length = some r) : aslice P t (.str l) (some (.int k a)) none none h = some (.str r) := by
  unfold subS at hr
  split at hr
  · rename_i hc; cases hr
    rw [aslice_strF ht hc.1 hc.2.1, Int.toNat_natCast, List.take_length]
  · cases hr
theorem sub_strT {t : TypeId} (ht : P.underlying t = some .string) {l r : List UInt8} {k : IntKind} {b : Int} (hr : subS l 0 b = some r) : aslice P t (.str l) none (some (.int k b)) none h = some (.str r) := by
  unfold subS at hr
  split at hr
  · rename_i hc; cases hr
    rw [aslice_strT ht hc.2.1 hc.2.2]; rfl
  · cases hr
theorem cat_str {l m r : List UInt8} (hr : cat l m = some r) : astrop .add l m = some (.str r) := by
  unfold cat at hr
  split at hr
  · rename_i hc; cases hr; simp only [astrop, if_pos hc]
  · cases hr
theorem quo_int {k : IntKind} {a b r : Int} (hr : quoI k a b = some r) : aint .quo k a b = some (.int k r) := by
  unfold quoI at hr
  split at hr
  · cases hr
  · rename_i hc; cases hr; simp only [aint, if_neg hc]
theorem rem_int {k : IntKind} {a b r : Int} (hr : remI a b = some r) : aint .rem k a b = some (.int k r) := by
  unfold remI at hr
  split at hr
  · cases hr
  · rename_i hc; cases hr; simp only [aint, if_neg hc]

/-! ### Loops and calls -/
/-- What a round of a loop must leave behind. -/
def QL {σ ρ : Type} (I : σ → List AV → AH → Prop) (J : ρ → AX → List AV → AH → Prop) (o : σ ⊕ ρ) : AX → List AV → AH → Prop
  | .normal, e, h => ∃ s', o = .inl s' ∧ I s' e h
  | x, e, h => ∃ r, o = .inr r ∧ J r x e h
theorem QL_normal {σ ρ : Type} {I : σ → List AV → AH → Prop} {J : ρ → AX → List AV → AH → Prop} {o : σ ⊕ ρ} {e : List AV} : QL I J o .normal e h = ∃ s', o = .inl s' ∧ I s' e h := rfl
theorem QL_exit {σ ρ : Type} {I : σ → List AV → AH → Prop} {J : ρ → AX → List AV → AH → Prop} {o : σ ⊕ ρ} {e : List AV} {i : Nat} : QL I J o (.exit i) e h = ∃ r, o = .inr r ∧ J r (.exit i) e h := rfl
theorem QL_ret {σ ρ : Type} {I : σ → List AV → AH → Prop} {J : ρ → AX → List AV → AH → Prop} {o : σ ⊕ ρ} {e : List AV} : QL I J o .ret e h = ∃ r, o = .inr r ∧ J r .ret e h := rfl

theorem AW_lift {σ ρ : Type} {c : Code} {cf : CallF} {D : Array Oper → List AV → AH → Option (List AV × AH)} {fuel : Nat} {K : AX → List AV → AH → Prop} (step : σ → Option (σ ⊕ ρ)) (I : σ → List AV → AH → Prop) (J : ρ → AX → List AV → AH → Prop)
    {n fuel' : Nat} {s : σ} {env : List AV} {r : ρ} (hr : iter step n s = some r) (hn : n ≤ fuel')
    (hs : ∀ s env h o, I s env h → step s = some o → AW (acode P cf D fuel c env h) (KP P cf D fuel [] (QL I J o)))
    (hi : I s env h) (hk : ∀ x e h', J r x e h' → K x e h') : AW (aloop (acode P cf D fuel c) fuel' env h) K := by
  induction n generalizing fuel' s env h with
  | zero => cases hr
  | succ n ih =>
    obtain ⟨m, rfl⟩ : ∃ m, fuel' = m + 1 := ⟨fuel' - 1, by omega⟩
    simp only [iter] at hr
    cases hst : step s with
    | none => rw [hst] at hr; cases hr
    | some o =>
      have := hs s env h o hi hst
      obtain ⟨x, e, h', h1, h2⟩ := this.out
      rw [KP_nil] at h2
      simp only [aloop, h1]
      rw [hst] at hr
      cases x with
      | normal =>
        obtain ⟨s', rfl, h3⟩ := h2
        exact ih hr (by omega) h3
      | exit i => obtain ⟨r', rfl, h3⟩ := h2; cases hr; exact hk _ _ _ h3
      | ret => obtain ⟨r', rfl, h3⟩ := h2; cases hr; exact hk _ _ _ h3

/-- Functions that look at no memory, by number. -/
abbrev PureK := FuncId → Option (List AV → Option AV)
def hooksOf (K : PureK) : Hooks := fun f => (K f).map fun k args h => (k args).map fun v => (v, h)
def tabOf (K : PureK) : PTab := fun f => (K f).map PK.pure
def KOK (P : Program) (B : Nat) (K : PureK) : Prop := ∀ f k, K f = some k → HookOK P B f (fun args h => (k args).map fun v => (v, h))
theorem KOK.hooks {B : Nat} {K : PureK} (h : KOK P B K) : HooksOK P B (hooksOf K) := by
  intro f g hg f' args h0 v h1 hr φ w args' r ha
  simp only [hooksOf] at hg
  simp only at hr
  split at hr
  · rename_i e
    subst e
    cases hk : K f' with
    | none => rw [hk] at hg; cases hg
    | some k => rw [hk] at hg; cases hg; exact h f' k hk args h0 v h1 hr φ w args' r ha
  · cases hr
theorem tab_mono {K : PureK} : PTabMono (tabOf K) := by
  intro f k hk
  simp only [tabOf] at hk
  cases h : K f with
  | none => rw [h] at hk; cases hk
  | some p => rw [h] at hk; cases hk
theorem KOK.tab {B : Nat} {K : PureK} (h : KOK P B K) : PTabOK P B (tabOf K) := by
  intro f p hp
  simp only [tabOf] at hp
  cases hk : K f with
  | none => rw [hk] at hp; cases hp
  | some k => rw [hk] at hp; cases hp; exact h f k hk

theorem hooksOf_none {K : PureK} {f : FuncId} (h : K f = none) : hooksOf K f = none := by simp [hooksOf, h]
theorem call_hook {K : PureK} {D : Drawn} {f : FuncId} {k : List AV → Option AV} (hk : K f = some k) (n : Nat) {args : List AV} {v : AV} (hv : k args = some v) (h : AH) : acall P (hooksOf K) D n f args h = some (v, h) := by
  rw [acall_hook (g := fun args h => (k args).map fun v => (v, h)) (by simp [hooksOf, hk]), hv]; rfl
theorem tab_hook {K : PureK} {cf : CallF} {f : FuncId} {k : List AV → Option AV} (hk : K f = some k) {args : List AV} {v : AV} (hv : k args = some v) (h : AH) : withTab (tabOf K) cf f args h = some (v, h) := by
  simp [withTab, tabOf, hk, PK.run, hv]
theorem tab_none {K : PureK} {cf : CallF} {f : FuncId} (hk : K f = none) {args : List AV} {h : AH} : withTab (tabOf K) cf f args h = cf f args h := by
  simp [withTab, tabOf, hk]

theorem CondK_dec {p : Prop} [Decidable p] {cf : CallF} {D : Array Oper → List AV → AH → Option (List AV × AH)} {fuel : Nat} {a b : Code} {env : List AV} {K : AX → List AV → AH → Prop} (h1 : p → AW (acode P cf D fuel a env h) K) (h2 : ¬ p → AW (acode P cf D fuel b env h) K) :
    CondK P cf D fuel (.bool (decide p)) a b env h K := by
  by_cases hp : p
  · rw [decide_eq_true hp]; exact h1 hp
  · rw [decide_eq_false hp]; exact h2 hp
theorem CondK_boo {v : Bool} {cf : CallF} {D : Array Oper → List AV → AH → Option (List AV × AH)} {fuel : Nat} {a b : Code} {env : List AV} {K : AX → List AV → AH → Prop} (h1 : v = true → AW (acode P cf D fuel a env h) K) (h2 : v = false → AW (acode P cf D fuel b env h) K) :
    CondK P cf D fuel (.bool v) a b env h K := by
  cases v
  · exact h2 rfl
  · exact h1 rfl

/-- Both ways of a fork lead to one place. -/
def KJ (J : List AV → AH → Prop) (K : AX → List AV → AH → Prop) : AX → List AV → AH → Prop
  | .normal, e, h => J e h
  | x, e, h => K x e h
theorem KJ_normal {J : List AV → AH → Prop} {K : AX → List AV → AH → Prop} {e : List AV} : KJ J K .normal e h = J e h := rfl
theorem KJ_exit {J : List AV → AH → Prop} {K : AX → List AV → AH → Prop} {e : List AV} {i : Nat} : KJ J K (.exit i) e h = K (.exit i) e h := rfl
theorem KJ_ret {J : List AV → AH → Prop} {K : AX → List AV → AH → Prop} {e : List AV} : KJ J K .ret e h = K .ret e h := rfl
theorem CondK_join {cf : CallF} {D : Array Oper → List AV → AH → Option (List AV × AH)} {fuel : Nat} {v : AV} {a b : Code} {env : List AV} {ks : List Fr} {Q : AX → List AV → AH → Prop} (J : List AV → AH → Prop)
    (h1 : CondK P cf D fuel v a b env h (KP P cf D fuel [] (KJ J (KP P cf D fuel ks Q)))) (h2 : ∀ e h', J e h' → KP P cf D fuel ks Q .normal e h') : CondK P cf D fuel v a b env h (KP P cf D fuel ks Q) := by
  have key : ∀ r : ARes, AW r (KP P cf D fuel [] (KJ J (KP P cf D fuel ks Q))) → AW r (KP P cf D fuel ks Q) := fun r hr => hr.mono fun x e h' hx => by
    rw [KP_nil] at hx
    cases x with
    | normal => exact h2 e h' hx
    | exit i => exact hx
    | ret => exact hx
  unfold CondK at h1 ⊢
  split at h1
  · exact key _ h1
  · exact key _ h1
  · exact h1.elim
theorem GuardW_dec {p : Prop} [Decidable p] {want : Bool} {cf : CallF} {op : Op} {d : Option Tmp} {ops : Array Oper} {l : List Oper} {env : List AV} {K : List AV → AH → Prop} (h1 : p → GuardW P cf (.bool true) want op d ops l env h K) (h2 : ¬ p → GuardW P cf (.bool false) want op d ops l env h K) :
    GuardW P cf (.bool (decide p)) want op d ops l env h K := by
  by_cases hp : p
  · rw [decide_eq_true hp]; exact h1 hp
  · rw [decide_eq_false hp]; exact h2 hp
theorem GuardW_boo {v want : Bool} {cf : CallF} {op : Op} {d : Option Tmp} {ops : Array Oper} {l : List Oper} {env : List AV} {K : List AV → AH → Prop} (h1 : v = true → GuardW P cf (.bool true) want op d ops l env h K) (h2 : v = false → GuardW P cf (.bool false) want op d ops l env h K) :
    GuardW P cf (.bool v) want op d ops l env h K := by
  cases v
  · exact h2 rfl
  · exact h1 rfl
theorem AE_join {cf : CallF} {ops : Array Oper} {l : List Oper} {env : List AV} {K : List AV → AH → Prop} (J : List AV → AH → Prop) (h1 : AE (aops P cf ops l env h) J) (h2 : ∀ e h', J e h' → K e h') : AE (aops P cf ops l env h) K := by
  unfold AE at *
  split
  · rename_i t ht; rw [ht] at h1; exact h2 _ _ h1
  · rename_i ht; rw [ht] at h1; exact h1

end
/-! S3 -/
section
set_option linter.unusedSimpArgs false
set_option linter.unusedVariables false
open Go Go.RowKit

variable {P : Program}

def Ksub (K0 K : PureK) : Prop := ∀ f, (K0 f).isSome = true → (K f).isSome = true

/-- A table that knows as much of these functions, and maybe of more. -/
def Tsub (T0 T : PTab) : Prop := ∀ f, T0 f = none ∨ (∃ k k', T0 f = some (.pure k) ∧ T f = some (.pure k')) ∨ ∃ k k', T0 f = some (.read k) ∧ T f = some (.read k')
theorem Ksub.tsub {K0 K : PureK} (hs : Ksub K0 K) : Tsub (tabOf K0) (tabOf K) := fun f => by
  unfold tabOf
  cases h0 : K0 f with
  | none => exact .inl rfl
  | some k =>
    have := hs f (by rw [h0]; rfl)
    cases h1 : K f with
    | none => rw [h1] at this; cases this
    | some k' => exact .inr (.inl ⟨k, k', rfl, rfl⟩)

theorem kindCall_sub {T0 T : PTab} (hs : Tsub T0 T) (c : Call) : kindCall P T c = kindCall P T0 c ∨ kindCall P T0 c = .write := by
  unfold kindCall
  cases hc : c.callee with
  | builtin b => left; cases b <;> rfl
  | invoke a b => left; rfl
  | value v =>
    cases v with
    | func f =>
      rcases hs f with h | ⟨k, k', h, h'⟩ | ⟨k, k', h, h'⟩
      · right; simp only [h]
      · left; simp only [h, h']
      · left; simp only [h, h']
    | _ => left; rfl

theorem kindOf_sub {T0 T : PTab} (hs : Tsub T0 T) (o : Op) : kindOf P T o = kindOf P T0 o ∨ kindOf P T0 o = .write := by
  cases o with
  | call c => exact kindCall_sub hs c
  | _ => left; rfl

theorem apart_sub {T0 T : PTab} (hs : Tsub T0 T) {x y : Oper} (h : kindsApart P T0 x y = true) : kindsApart P T x y = true := by
  unfold kindsApart at *
  rcases kindOf_sub (P := P) hs x.op with h1 | h1 <;> rcases kindOf_sub (P := P) hs y.op with h2 | h2
  · rw [h1, h2]; exact h
  · rw [h1]
    rw [h2] at h
    cases e : kindOf P T0 x.op <;> rw [e] at h <;> first | rfl | cases h
  · rw [h2]
    rw [h1] at h
    cases e : kindOf P T0 y.op <;> rw [e] at h <;> cases e2 : kindOf P T x.op <;> first | rfl | cases h
  · rw [h1, h2] at h; cases h

theorem wr_sub {T0 T : PTab} (hs : Tsub T0 T) {o : Op} {b : Prop} (h : (kindOf P T0 o == .write) = false ∨ b) : (kindOf P T o == .write) = false ∨ b := by
  rcases kindOf_sub (P := P) hs o with h1 | h1
  · rw [h1]; exact h
  · rw [h1] at h
    rcases h with h | h
    · cases h
    · exact .inr h
theorem allNew_sub {T0 T : PTab} (hs : Tsub T0 T) {ops : Array Oper} (h : allNew P T0 ops = true) : allNew P T ops = true := by
  unfold allNew at *
  rw [List.all_eq_true] at *
  intro j hj
  have h1 := h j hj
  split at h1
  · simp only [Bool.or_eq_true, Bool.not_eq_true'] at h1 ⊢
    exact wr_sub hs h1
  · rfl

theorem allKeep_sub {T0 T : PTab} (hs : Tsub T0 T) {bs : List Nat} {ops : Array Oper} (h : allKeep P T0 bs ops = true) : allKeep P T bs ops = true := by
  unfold allKeep at *
  rw [List.all_eq_true] at *
  intro j hj
  have h1 := h j hj
  split at h1
  · simp only [Bool.or_eq_true, Bool.not_eq_true', or_assoc] at h1 ⊢
    exact wr_sub hs h1
  · rfl
theorem readC_sub {T0 T : PTab} (hs : Tsub T0 T) {o : Op} (h : readC T0 o = true) : readC T o = true := by
  obtain ⟨c, f, k, rfl, hc, hT⟩ := readC_ok h
  rcases hs f with h1 | ⟨k1, k2, h1, _⟩ | ⟨k1, k2, h1, h2⟩
  · rw [h1] at hT; cases hT
  · rw [h1] at hT; cases hT
  · simp only [readC, hc, h2]
theorem side_sub {T0 T : PTab} (hs : Tsub T0 T) {s : Option (List Nat × List Nat)} {ops : Array Oper} {i j : Nat} {x y : Op} (h : sideOK P T0 s ops i x j y = true) : sideOK P T s ops i x j y = true := by
  cases s <;> simp only [sideOK, Bool.and_eq_true, Bool.or_eq_true] at h ⊢
  · exact ⟨allNew_sub hs h.1, h.2⟩
  · exact ⟨allKeep_sub hs h.1, h.2.imp (fun h => h.imp id fun h => ⟨h.1, readC_sub hs h.2⟩) fun h => h.imp id fun h => ⟨h.1, readC_sub hs h.2⟩⟩

theorem loadNew_sub {T0 T : PTab} (hs : Tsub T0 T) {x y : Oper} (h : loadNew T0 x y = true) : loadNew T x y = true := by
  unfold loadNew at *
  rw [Bool.and_eq_true, Bool.or_eq_true] at *
  exact ⟨h.1.imp id fun h => readC_sub hs h, h.2⟩
theorem dOKt_sub {T0 T : PTab} (hs : Tsub T0 T) {s : Option (List Nat × List Nat)} {ops : Array Oper} (h : dOKx P T0 s ops = true) : dOKx P T s ops = true := by
  unfold dOKx at *
  simp only [List.all_eq_true, List.mem_range, Bool.and_eq_true] at *
  intro j hj
  refine ⟨(h j hj).1, fun i hi => ?_⟩
  have := (h j hj).2 i hi
  unfold pairOK at *
  split
  · rename_i x y hx hy
    rw [hx, hy] at this
    simp only [Bool.and_eq_true, Bool.or_eq_true] at this ⊢
    refine ⟨this.1, this.2.imp id fun h2 => ⟨h2.1, h2.2.imp (fun h4 => h4.imp (fun h5 => loadNew_sub hs h5) fun h3 => ⟨apart_sub hs h3.1, apart_sub hs h3.2⟩) fun h3 => side_sub hs h3⟩⟩
  · rename_i hx
    split at this
    · rename_i x y hx' hy'; exact absurd hy' (hx x y hx')
    · cases this
theorem dOKx_sub {K0 K : PureK} (hs : Ksub K0 K) {s : Option (List Nat × List Nat)} {ops : Array Oper} (h : dOKx P (tabOf K0) s ops = true) : dOKx P (tabOf K) s ops = true := dOKt_sub hs.tsub h
theorem dOK_sub {K0 K : PureK} (hs : Ksub K0 K) {ops : Array Oper} (h : dOK P (tabOf K0) ops = true) : dOK P (tabOf K) ops = true := dOKx_sub hs h

theorem ordL_sub {T0 T : PTab} (hs : Tsub T0 T) {b : Array Nat} {L : List Nat} {sq : Array Oper} {j : Nat} {o : Op} (h : ordL P T0 b L sq j o = true) : ordL P T b L sq j o = true := by
  unfold ordL at *
  rw [Bool.and_eq_true, List.all_eq_true] at *
  refine ⟨h.1, fun p hp => ?_⟩
  have h1 := h.2 p hp
  split at h1
  · simp only [Bool.or_eq_true, Bool.not_eq_true', or_assoc] at h1 ⊢
    exact wr_sub hs h1
  · cases h1
theorem opK_sub {T0 T : PTab} (hs : Tsub T0 T) {as : List Nat} {b : Array Nat} {L : List Nat} {sq : Array Oper} {q j : Nat} {o : Oper} (h : opK P T0 as b L sq q j o = true) : opK P T as b L sq q j o = true := by
  unfold opK at *
  rcases kindOf_sub (P := P) hs o.op with e | e
  · rw [e]
    cases hk : kindOf P T0 o.op with
    | free => rfl
    | read =>
      rw [hk] at h
      simp only [Bool.or_eq_true] at h ⊢
      exact h.imp (fun h => h.imp id fun h => readC_sub hs h) fun h => ordL_sub hs h
    | write => rw [hk] at h; exact h
  · rw [e] at h
    simp only [Bool.or_eq_true] at h
    cases hk : kindOf P T o.op with
    | free => rfl
    | write => simp only [Bool.or_eq_true]; exact h
    | read =>
      rcases h with h | h
      · unfold mkW at h
        split at h <;> first | (cases h; done) | (rename_i e2; rw [e2] at hk; cases hk)
      · unfold callFn at h
        split at h
        · rename_i c e2
          split at h
          · rename_i f hc
            rw [e2] at hk ⊢
            simp only [kindOf, kindCall, hc] at hk
            cases hT : T f with
            | none => rw [hT] at hk; cases hk
            | some k =>
              cases k with
              | pure k => rw [hT] at hk; cases hk
              | read k => simp only [readC, hc, hT, Bool.or_true, Bool.true_or]
          · cases h
        · cases h
theorem pairK_sub {T0 T : PTab} (hs : Tsub T0 T) {ops : Array Oper} {b : Array Nat} {i j : Nat} {x y : Oper} (h : pairK P T0 ops b i j x y = true) : pairK P T ops b i j x y = true := by
  unfold pairK at *
  simp only [Bool.and_eq_true, Bool.or_eq_true, Bool.not_eq_true'] at h ⊢
  refine ⟨h.1, h.2.imp id fun h => ⟨h.1, ?_⟩⟩
  have h2 := h.2
  rw [or_assoc] at h2 ⊢
  exact wr_sub hs (h2.imp id fun h => wr_sub hs h)
theorem dKx_sub {T0 T : PTab} (hs : Tsub T0 T) {as : List Nat} {ops : Array Oper} (h : dKx P T0 as ops = true) : dKx P T as ops = true := by
  unfold dKx at *
  simp only [Bool.and_eq_true, List.all_eq_true, List.mem_range] at *
  refine ⟨h.1, fun q hq => ?_⟩
  have h1 := h.2 q hq
  split at h1
  · rename_i j y hj hy
    simp only [Bool.and_eq_true, List.all_eq_true, List.mem_range] at h1 ⊢
    refine ⟨⟨opK_sub hs h1.1.1, h1.1.2⟩, fun p hp => ?_⟩
    have h2 := h1.2 p hp
    split at h2
    · exact pairK_sub hs h2
    · cases h2
  · cases h1

theorem aop_keep {T : PTab} {cf : CallF} {env : List AV} {o : Op} {h : AH} {r : AV × AH} (e : aop P (withTab T (keepF cf)) env o h = some r) : aop P (withTab T cf) env o h = some r := by
  cases o with
  | call c =>
    simp only [aop, acall1] at e ⊢
    split at e
    · exact e
    · split at e
      · unfold withTab at e ⊢
        split at e
        · exact e
        · exact (keepF_some e).1
      · cases e
    · cases e
  | makeMap t r0 => cases r0 <;> exact e
  | _ => exact e
theorem aops_keep {T : PTab} {cf : CallF} {ops : Array Oper} : ∀ {l : List Oper} {env : List AV} {h : AH} {r : List AV × AH}, aops P (withTab T (keepF cf)) ops l env h = some r → aops P (withTab T cf) ops l env h = some r
  | [], _, _, _, e => e
  | o :: l, env, h, r, e => by
    simp only [aops] at e ⊢
    have st : ∀ q, astep P (withTab T (keepF cf)) ops o env h = some q → astep P (withTab T cf) ops o env h = some q := fun q hq => by
      unfold astep at hq ⊢
      split at hq
      · cases ho : aop P (withTab T (keepF cf)) env o.op h with
        | none => rw [ho] at hq; cases hq
        | some v => rw [ho] at hq; rw [aop_keep ho]; exact hq
      · exact hq
      · cases hq
    cases hq : astep P (withTab T (keepF cf)) ops o env h with
    | none => rw [hq] at e; cases e
    | some q =>
      rw [hq] at e
      rw [st q hq]
      exact aops_keep e

/-- A drawn region whose loads stand beside calls. -/
theorem AE_drawnS {K0 K : PureK} (hs : Ksub K0 K) {cf : CallF} {env : List AV} {h : AH} {KE : List AV → AH → Prop} {l : List Oper} {a0 : Nat} (hlt : late P l.toArray = false) (hd : dOKx P (tabOf K0) (some ([a0], [])) l.toArray = true) (hp : ∃ id off, env.getD a0 .undef = .ptr id off)
    (h1 : AE (aops P (withTab (tabOf K) (keepF cf)) l.toArray l env h) KE) : AE (drawnOf P (tabOf K) cf l.toArray env h) KE := by
  unfold drawnOf
  rw [if_neg (by rw [hlt]; exact Bool.false_ne_true)]
  split
  · cases e : aops P (withTab (tabOf K) (keepF cf)) l.toArray l env h with
    | none => rw [e] at h1; exact h1.elim
    | some r => rw [e] at h1; simp only [aops_keep e]; exact h1
  · rw [if_pos ⟨[a0], [], dOKx_sub hs hd, fun a ha => by obtain rfl := List.mem_singleton.1 ha; obtain ⟨id, off, e⟩ := hp; exact ⟨id, .inr (.inr (.inl ⟨off, e⟩)), fun b hb => by cases hb⟩⟩]
    exact h1

theorem AE_drawnK {K0 K : PureK} (hs : Ksub K0 K) {cf : CallF} {env : List AV} {h : AH} {KE : List AV → AH → Prop} {l : List Oper} (hlt : late P l.toArray = false) (hd : dOK P (tabOf K0) l.toArray = true) :
    AE (drawnOf P (tabOf K) cf l.toArray env h) KE = AE (aops P (withTab (tabOf K) cf) l.toArray l env h) KE := AE_drawn hlt (dOK_sub hs hd)

/-- Some of them, by number. -/
def Kof : List FuncId → PureK
  | [] => fun _ => none
  | f :: l => fun g => if g = f then some (fun _ => none) else Kof l g
theorem Ksub.nil {K : PureK} : Ksub (Kof []) K := fun f h => (by cases h)
theorem Ksub.cons {K : PureK} {f : FuncId} {l : List FuncId} {k : List AV → Option AV} (hk : K f = some k) (h : Ksub (Kof l) K) : Ksub (Kof (f :: l)) K := fun g hg => by
  simp only [Kof] at hg
  split at hg
  · rename_i e; subst e; rw [hk]; rfl
  · exact h g hg
def addK (K : PureK) (f : FuncId) (k : List AV → Option AV) : PureK := fun g => if g = f then some k else K g
theorem KOK.none {B : Nat} : KOK P B (fun _ => none) := fun f k h => (by cases h)
theorem KOK.add {B : Nat} {K : PureK} (hK : KOK P B K) {f : FuncId} {k : List AV → Option AV} (hk : HookOK P B f (fun args h => (k args).map fun v => (v, h))) : KOK P B (addK K f k) := by
  intro g k' hg
  simp only [addK] at hg
  split at hg
  · rename_i e; subst e; cases hg; exact hk
  · exact hK g k' hg

end
/-! S4 -/
section
set_option linter.unusedSimpArgs false
set_option linter.unusedVariables false
open Go Go.RowKit

variable {P : Program} {h h0 : AH} {X : List Nat} {L : List Ent}

def andI (k : IntKind) (a b : Int) : Int := k.wrap (BitVec.ofInt k.bits a &&& BitVec.ofInt k.bits b).toNat
def orI (k : IntKind) (a b : Int) : Int := k.wrap (BitVec.ofInt k.bits a ||| BitVec.ofInt k.bits b).toNat
def xorI (k : IntKind) (a b : Int) : Int := k.wrap (BitVec.ofInt k.bits a ^^^ BitVec.ofInt k.bits b).toNat
def andNotI (k : IntKind) (a b : Int) : Int := k.wrap (BitVec.ofInt k.bits a &&& ~~~BitVec.ofInt k.bits b).toNat
def shlI (k : IntKind) (a b : Int) : Option Int := if b < 0 then none else some (k.wrap (a * 2 ^ min b.toNat k.bits))
def shrI (a : Int) (k : IntKind) (b : Int) : Option Int := if b < 0 then none else some (a.fdiv (2 ^ min b.toNat k.bits))
def maxI (a b : Int) : Int := if b > a then b else a
def minI (a b : Int) : Int := if b < a then b else a
def chkLen (l : List Int) (n : Nat) : Option Unit := if l.length = n then some () else none
def chkIdx (n : Int) (i : Int) : Option Unit := if 0 ≤ i ∧ i < n then some () else none
def idxA (n : Int) (l : List Int) (i : Int) : Option Int := if 0 ≤ i ∧ i < n then l[i.toNat]? else none
def setA (n : Int) (l : List Int) (i v : Int) : Option (List Int) := if 0 ≤ i ∧ i < n ∧ i < l.length then some (l.set i.toNat v) else none
def lit3 : List Int → Option (Int × Int × Int)
  | [a, b, c] => some (a, b, c)
  | _ => none
theorem lit3_eq {l : List Int} {p : Int × Int × Int} (h : lit3 l = some p) : l = [p.1, p.2.1, p.2.2] := by
  unfold lit3 at h
  split at h
  · cases h; rfl
  · cases h
def sumK {α β γ : Type} (x : α ⊕ β) (f : α → Option γ) (g : β → Option γ) : Option γ :=
  match x with
  | .inl a => f a
  | .inr b => g b
theorem sumK_inl {α β γ : Type} {a : α} {f : α → Option γ} {g : β → Option γ} : sumK (.inl a) f g = f a := rfl
theorem sumK_inr {α β γ : Type} {b : β} {f : α → Option γ} {g : β → Option γ} : sumK (.inr b) f g = g b := rfl
theorem nf {b : Bool} (h : b = false) : ¬ b = true := by rw [h]; exact Bool.false_ne_true

theorem ai_add (k : IntKind) (a b : Int) : aint .add k a b = some (.int k (k.wrap (a + b))) := rfl
theorem ai_sub (k : IntKind) (a b : Int) : aint .sub k a b = some (.int k (k.wrap (a - b))) := rfl
theorem ai_mul (k : IntKind) (a b : Int) : aint .mul k a b = some (.int k (k.wrap (a * b))) := rfl
theorem ai_eql (k : IntKind) (a b : Int) : aint .eql k a b = some (.bool (a == b)) := rfl
theorem ai_neq (k : IntKind) (a b : Int) : aint .neq k a b = some (.bool (a != b)) := rfl
theorem ai_lss (k : IntKind) (a b : Int) : aint .lss k a b = some (.bool (decide (a < b))) := rfl
theorem ai_leq (k : IntKind) (a b : Int) : aint .leq k a b = some (.bool (decide (a ≤ b))) := rfl
theorem ai_gtr (k : IntKind) (a b : Int) : aint .gtr k a b = some (.bool (decide (a > b))) := rfl
theorem ai_geq (k : IntKind) (a b : Int) : aint .geq k a b = some (.bool (decide (a ≥ b))) := rfl
theorem ai_and (k : IntKind) (a b : Int) : aint .and k a b = some (.int k (andI k a b)) := rfl
theorem ai_or (k : IntKind) (a b : Int) : aint .or k a b = some (.int k (orI k a b)) := rfl
theorem ai_xor (k : IntKind) (a b : Int) : aint .xor k a b = some (.int k (xorI k a b)) := rfl
theorem ai_andNot (k : IntKind) (a b : Int) : aint .andNot k a b = some (.int k (andNotI k a b)) := rfl
theorem as_eql (a b : List UInt8) : astrop .eql a b = some (.bool (a == b)) := rfl
theorem as_neq (a b : List UInt8) : astrop .neq a b = some (.bool (!(a == b))) := rfl
theorem as_lss (a b : List UInt8) : astrop .lss a b = some (.bool (Op.bytesLess a b)) := rfl
theorem as_leq (a b : List UInt8) : astrop .leq a b = some (.bool (Op.bytesLess a b || a == b)) := rfl
theorem as_gtr (a b : List UInt8) : astrop .gtr a b = some (.bool (!(Op.bytesLess a b || a == b))) := rfl
theorem as_geq (a b : List UInt8) : astrop .geq a b = some (.bool (!Op.bytesLess a b)) := rfl
theorem am_max (k k' : IntKind) (a b : Int) : amaxmin true [.int k a, .int k' b] = some (.int k (maxI a b)) := rfl
theorem am_min (k k' : IntKind) (a b : Int) : amaxmin false [.int k a, .int k' b] = some (.int k (minI a b)) := rfl
theorem am_max3 (k k' k'' : IntKind) (a b c : Int) : amaxmin true [.int k a, .int k' b, .int k'' c] = some (.int k (maxI (maxI a b) c)) := rfl
theorem am_min3 (k k' k'' : IntKind) (a b c : Int) : amaxmin false [.int k a, .int k' b, .int k'' c] = some (.int k (minI (minI a b) c)) := rfl
theorem shl_int {k : IntKind} {a b r : Int} (hr : shlI k a b = some r) : ashift .shl k a b = some (.int k r) := by
  unfold shlI at hr
  split at hr
  · cases hr
  · rename_i hc; cases hr; simp only [ashift, if_neg hc]
theorem shr_int {k : IntKind} {a b r : Int} (hr : shrI a k b = some r) : ashift .shr k a b = some (.int k r) := by
  unfold shrI at hr
  split at hr
  · cases hr
  · rename_i hc; cases hr; simp only [ashift, if_neg hc]
theorem alen_str {t : TypeId} {l : List UInt8} (ht : P.underlying t = some .string) : alenOf P t (.str l) h = some (.int .i64 l.length) := by simp only [alenOf, ht]
theorem chkIdx_lo {n i : Int} {u : Unit} (hc : chkIdx n i = some u) : 0 ≤ i := by unfold chkIdx at hc; split at hc <;> simp_all
theorem chkIdx_hi {n i : Int} {u : Unit} (hc : chkIdx n i = some u) : i < n := by unfold chkIdx at hc; split at hc <;> simp_all
def chkCap (l : List UInt8) : Option Unit := if l.length ≤ capL then some () else none
theorem chkCap_le {l : List UInt8} {u : Unit} (hc : chkCap l = some u) : l.length ≤ capL := by unfold chkCap at hc; split at hc <;> simp_all
theorem chkLen_eq {l : List Int} {n : Nat} {u : Unit} (hc : chkLen l n = some u) : l.length = n := by unfold chkLen at hc; split at hc <;> simp_all
theorem subL_lo {α : Type} {l r : List α} {a b : Int} (hr : subL l a b = some r) : 0 ≤ a := by unfold subL at hr; split at hr <;> simp_all
theorem subL_hi {α : Type} {l r : List α} {a b : Int} (hr : subL l a b = some r) : 0 ≤ b := by
  unfold subL at hr
  split at hr
  · rename_i hc; omega
  · cases hr
theorem apart_all {t : TypeId} {n : Nat} {l : List Int} {k : IntKind} {u : Unit} (ha : isAg P t = some true) (hs : szOf P t = some n) (hc : chkLen l n = some u) : apart P t (l.map (AV.int k)) 0 = some (.agg (l.map (AV.int k))) := by
  have := chkLen_eq hc
  simp only [apart, ha, hs]
  rw [if_pos (by simp; omega), List.drop_zero, List.take_of_length_le (by simp; omega)]
theorem apart_idxA {t : TypeId} {l : List Int} {k : IntKind} {n i x : Int} (ha : isAg P t = some false) (hx : idxA n l i = some x) : apart P t (l.map (AV.int k)) (i.toNat * 1) = some (.int k x) := by
  unfold idxA at hx
  split at hx
  · simp only [apart, ha]
    rw [Nat.mul_one, List.getElem?_map, hx]; rfl
  · cases hx

theorem Sep.storeAll (S : Sep h0 X h L) (i : Nat) {id : Nat} {l l' : List Int} {k : IntKind} {T : TypeId} (hi : L[i]? = some (.blk id (l.map (AV.int k)) T)) {t : TypeId} {n : Nat} (hs : szOf P t = some n) {u u' : Unit} (h1 : chkLen l n = some u) (h2 : chkLen l' n = some u') :
    ∃ h1, astore P t (.ptr id 0) (.agg (l'.map (AV.int k))) h = some h1 ∧ Sep h0 X h1 (L.set i (.blk id (l'.map (AV.int k)) T)) := by
  have e1 := chkLen_eq h1
  have e2 := chkLen_eq h2
  refine S.store i hi (xs := l'.map (AV.int k)) rfl (by rw [List.length_map, e2]; exact hs) (by simp [AV.one]) (by simp; omega) ?_
  unfold splice
  rw [List.take_zero, List.nil_append, List.drop_of_length_le (by simp; omega), List.append_nil]
theorem Sep.storeA (S : Sep h0 X h L) (i : Nat) {id : Nat} {l l' : List Int} {k : IntKind} {T : TypeId} (hi : L[i]? = some (.blk id (l.map (AV.int k)) T)) {t : TypeId} (hs : szOf P t = some 1) {n j v : Int} (hx : setA n l j v = some l') :
    ∃ h1, astore P t (.ptr id (j.toNat * 1)) (.int k v) h = some h1 ∧ Sep h0 X h1 (L.set i (.blk id (l'.map (AV.int k)) T)) := by
  unfold setA at hx
  split at hx
  rotate_left
  · cases hx
  rename_i hc
  cases hx
  have hl : j.toNat < l.length := by omega
  refine S.store i hi (xs := [.int k v]) rfl hs rfl (by simp; omega) ?_
  unfold splice
  rw [Nat.mul_one, List.map_set, List.set_eq_take_append_cons_drop, if_pos (by simpa using hl)]
  rfl

theorem Sep.lend {id : Nat} {c : List AV} {T : TypeId} (hg : h.get id = some (.cells c true 0 (some (T, true)))) : Sep h [id] h [.blk id c T] :=
  ⟨Nat.le_refl _, fun _ _ _ hk => hk, fun e he => by rw [List.mem_singleton.1 he]; exact hg, fun e he k hk => by rw [List.mem_singleton.1 he] at hk; simp [Ent.ids] at hk; left; simp [hk], by simp [Ent.ids]⟩

theorem pick_nd {L L' : List Ent} (hn : (L.flatMap Ent.ids).Nodup) : ∀ (idx : List Nat) (L' : List Ent), idx.Nodup → idx.map (fun i => L[i]?) = L'.map some → (L'.flatMap Ent.ids).Nodup
  | [], [], _, _ => by simp
  | i :: idx, e :: L', hd, he => by
    simp only [List.map_cons, List.cons.injEq] at he
    rw [List.nodup_cons] at hd
    simp only [List.flatMap_cons, List.nodup_append]
    have h1 : e.ids.Nodup := by
      have := List.mem_of_getElem? he.1
      have hs : e.ids.Sublist (L.flatMap Ent.ids) := by
        obtain ⟨a, b, rfl⟩ := List.append_of_mem this
        simp only [List.flatMap_append, List.flatMap_cons]
        exact (List.sublist_append_left _ _).trans (List.sublist_append_right _ _)
      exact hn.sublist hs
    refine ⟨h1, pick_nd (L' := L') hn idx L' hd.2 he.2, fun a ha b hb hab => ?_⟩
    subst hab
    obtain ⟨x, hx, hax⟩ := List.mem_flatMap.1 hb
    obtain ⟨j, hj⟩ := List.mem_iff_getElem?.1 hx
    have h2 : (idx.map fun i => L[i]?)[j]? = some (some x) := by rw [he.2, List.getElem?_map, hj]; rfl
    rw [List.getElem?_map] at h2
    cases hq : idx[j]? with
    | none => rw [hq] at h2; cases h2
    | some q =>
      rw [hq] at h2
      have hq2 : L[q]? = some x := by simpa using h2
      have hne : q ≠ i := fun hh => hd.1 (by subst hh; exact List.mem_of_getElem? hq)
      exact nodup_other hn he.1 q x hq2 hne a hax ha
  | [], e :: L', _, he => by simp at he
  | i :: idx, [], _, he => by simp at he

/-- Some of them, in any order. -/
theorem Sep.pick {L' : List Ent} (S : Sep h0 X h L) (idx : List Nat) (hd : idx.Nodup) (he : idx.map (fun i => L[i]?) = L'.map some) : Sep h0 X h L' := by
  have hm : ∀ e ∈ L', e ∈ L := fun e h1 => by
    obtain ⟨j, hj⟩ := List.mem_iff_getElem?.1 h1
    have h2 : (idx.map fun i => L[i]?)[j]? = some (some e) := by rw [he, List.getElem?_map, hj]; rfl
    rw [List.getElem?_map] at h2
    cases hq : idx[j]? with
    | none => rw [hq] at h2; cases h2
    | some q => rw [hq] at h2; exact List.mem_of_getElem? (by simpa using h2)
  exact ⟨S.n, S.old, fun e h1 => S.ok e (hm e h1), fun e h1 => S.own e (hm e h1), pick_nd (L' := L') S.nd idx L' hd he⟩

abbrev KR (J : List AV → AH → Prop) (e : List AV) (h : AH) : Prop := J e h
theorem AE_joinR {cf : CallF} {ops : Array Oper} {l : List Oper} {env : List AV} {K : List AV → AH → Prop} (J : List AV → AH → Prop) (h1 : AE (aops P cf ops l env h) (KR J)) (h2 : ∀ e h', J e h' → K e h') : AE (aops P cf ops l env h) K := AE_join J h1 h2

theorem KP_ret {cf : CallF} {D : Array Oper → List AV → AH → Option (List AV × AH)} {fuel : Nat} {env : List AV} {rs : List ResultVar} {vs : List AV} {Q : AV → AH → Prop} (hr : aresults P env h rs = some vs) (hq : Q (packed vs) h) : KP P cf D fuel [] (Qfun P rs Q) .ret env h := by
  rw [KP_nil, Qfun_ret, hr, AVM_some]; exact hq
theorem KP_end {cf : CallF} {D : Array Oper → List AV → AH → Option (List AV × AH)} {fuel : Nat} {env : List AV} {rs : List ResultVar} {vs : List AV} {Q : AV → AH → Prop} (hr : aresults P env h rs = some vs) (hq : Q (packed vs) h) : KP P cf D fuel [] (Qfun P rs Q) .normal env h := by
  rw [KP_nil, Qfun_normal, hr, AVM_some]; exact hq

/-! ### Rules, by the handful -/
theorem WD : (type_of% @KP_seq) ∧ (type_of% @KP_seqE) ∧ (type_of% @KP_seqR) ∧ (type_of% @KP_block) ∧ (type_of% @KP_blockE) ∧ (type_of% @KP_blockR) ∧ (type_of% @AW_skip) ∧ (type_of% @AW_seq) ∧ (type_of% @AW_cond) ∧ (type_of% @AW_block) ∧ (type_of% @AW_exit) ∧ (type_of% @AW_scope) ∧ (type_of% @AW_label) ∧ (type_of% @AW_ret) ∧ (type_of% @AW_loop) :=
  ⟨@KP_seq, @KP_seqE, @KP_seqR, @KP_block, @KP_blockE, @KP_blockR, @AW_skip, @AW_seq, @AW_cond, @AW_block, @AW_exit, @AW_scope, @AW_label, @AW_ret, @AW_loop⟩
theorem WE : (type_of% @AE_nil) ∧ (type_of% @AE_step) ∧ (type_of% @AE_guard) ∧ (type_of% @KA_some) ∧ (type_of% @KA_none) ∧ (type_of% @GuardK_some) ∧ (type_of% @GuardW_yes) ∧ (type_of% @GuardW_tf) ∧ (type_of% @GuardW_ft) ∧ (type_of% @GuardW_undef) ∧ (type_of% @dstAt_zero) ∧ (type_of% @dstAt_succ) ∧ (type_of% @AR_some) ∧ (type_of% @AR_none) ∧ (type_of% @AVK_some) ∧ (type_of% @AVM_some) ∧ (type_of% @AHK_some) :=
  ⟨@AE_nil, @AE_step, @AE_guard, @KA_some, @KA_none, @GuardK_some, @GuardW_yes, @GuardW_tf, @GuardW_ft, @GuardW_undef, @dstAt_zero, @dstAt_succ, @AR_some, @AR_none, @AVK_some, @AVM_some, @AHK_some⟩
theorem WA : (type_of% @AR_map) ∧ (type_of% @AR_mapH) ∧ (type_of% @AVK_none) ∧ (type_of% @AVK_map) ∧ (type_of% @AVM_none) ∧ (type_of% @AHK_none) ∧ (type_of% @ai_add) ∧ (type_of% @ai_sub) ∧ (type_of% @ai_mul) ∧ (type_of% @ai_eql) ∧ (type_of% @ai_neq) ∧ (type_of% @ai_lss) ∧ (type_of% @ai_leq) ∧ (type_of% @ai_gtr) ∧ (type_of% @ai_geq) ∧ (type_of% @ai_and) ∧ (type_of% @ai_or) ∧ (type_of% @ai_xor) ∧ (type_of% @ai_andNot) ∧ (type_of% @as_eql) ∧ (type_of% @as_neq) ∧ (type_of% @as_lss) ∧ (type_of% @as_leq) ∧ (type_of% @as_gtr) ∧ (type_of% @as_geq) ∧ (type_of% @am_max) ∧ (type_of% @am_min) ∧ (type_of% @am_max3) ∧ (type_of% @am_min3) :=
  ⟨@AR_map, @AR_mapH, @AVK_none, @AVK_map, @AVM_none, @AHK_none, @ai_add, @ai_sub, @ai_mul, @ai_eql, @ai_neq, @ai_lss, @ai_leq, @ai_gtr, @ai_geq, @ai_and, @ai_or, @ai_xor, @ai_andNot, @as_eql, @as_neq, @as_lss, @as_leq, @as_gtr, @as_geq, @am_max, @am_min, @am_max3, @am_min3⟩
theorem WL : (type_of% @List.nil_append.{0}) ∧ (type_of% @List.append_nil.{0}) ∧ (type_of% @List.map_cons.{0,0}) ∧ (type_of% @List.map_nil.{0,0}) ∧ (type_of% @List.getElem?_toArray.{0}) ∧ (type_of% @List.getElem?_cons_zero.{0}) ∧ (type_of% @List.getElem?_cons_succ.{0}) ∧ (type_of% @Option.bind_some.{0,0}) ∧ (type_of% @Option.map_some.{0,0}) ∧ (type_of% @Option.map_none.{0,0}) ∧ (type_of% @List.length_cons.{0}) ∧ (type_of% @List.length_nil.{0}) ∧ (type_of% @Nat.zero_add) ∧ (type_of% @Nat.add_zero) ∧ (type_of% @or_self) ∧ (type_of% @or_false) ∧ (type_of% @false_or) ∧ (type_of% @or_true) ∧ (type_of% @true_or) ∧ (type_of% @true_and) ∧ (type_of% @and_true) ∧ (type_of% @Bool.not_true) ∧ (type_of% @Bool.not_false) :=
  ⟨@List.nil_append.{0}, @List.append_nil.{0}, @List.map_cons.{0,0}, @List.map_nil.{0,0}, @List.getElem?_toArray.{0}, @List.getElem?_cons_zero.{0}, @List.getElem?_cons_succ.{0}, @Option.bind_some.{0,0}, @Option.map_some.{0,0}, @Option.map_none.{0,0}, @List.length_cons.{0}, @List.length_nil.{0}, @Nat.zero_add, @Nat.add_zero, @or_self, @or_false, @false_or, @or_true, @true_or, @true_and, @and_true, @Bool.not_true, @Bool.not_false⟩
theorem W0 : (type_of% @CondK_true) ∧ (type_of% @CondK_false) ∧ (type_of% @gs) ∧ (type_of% (@List.length_set AV)) ∧ (type_of% @Bool.false_eq_true) ∧ (type_of% @Bool.true_eq_false) :=
  ⟨@CondK_true, @CondK_false, @gs, (@List.length_set AV), @Bool.false_eq_true, @Bool.true_eq_false⟩

end
end Go.Proofs.YtobhmahlenjheaaM
