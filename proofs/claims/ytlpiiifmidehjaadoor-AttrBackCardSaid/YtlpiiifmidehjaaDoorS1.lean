/- What a function may rely on of memory while it runs: the blocks that it has made, each with what it holds; all that was there ahead of it stays. -/
import Derived.Test.YtlpiiifmidehjaaDoorMB
set_option linter.unusedSimpArgs false
set_option linter.unusedVariables false
namespace Go.Proofs.YtlpiiifmidehjaaDoorM
open Go Go.RowKit

variable {P : Program} {h h' h0 : AH}

/-! ### Plain operations -/
def capL : Nat := 100000000
def idxS (s : List UInt8) (i : Int) : Option Int := if 0 ≤ i ∧ i < s.length then some ((s.getD i.toNat 0).toNat : Int) else none
def subS (s : List UInt8) (a b : Int) : Option (List UInt8) := if 0 ≤ a ∧ a ≤ b ∧ b ≤ s.length then some ((s.take b.toNat).drop a.toNat) else none
def cat (a b : List UInt8) : Option (List UInt8) := if a.length + b.length ≤ sizeCap then some (a ++ b) else none
def idxL {α : Type} (l : List α) (i : Int) : Option α := if 0 ≤ i then l[i.toNat]? else none
def subL {α : Type} (l : List α) (a b : Int) : Option (List α) := if 0 ≤ a ∧ a ≤ b ∧ b ≤ l.length then some ((l.take b.toNat).drop a.toNat) else none
def app {α : Type} (a b : List α) : Option (List α) := if a.length + b.length ≤ capL then some (a ++ b) else none
def mkL {α : Type} (z : α) (n : Int) : Option (List α) := if 0 ≤ n ∧ n ≤ capL then some (List.replicate n.toNat z) else none
def setL {α : Type} (l : List α) (i : Int) (x : α) : Option (List α) := if 0 ≤ i ∧ i < l.length then some (l.set i.toNat x) else none
def quoI (k : IntKind) (a b : Int) : Option Int := if b = 0 then none else some (k.wrap (a.tdiv b))
def remI (a b : Int) : Option Int := if b = 0 then none else some (a.tmod b)
def byt (z : Int) : UInt8 := UInt8.ofNat z.toNat

/-- Rounds of a loop, n at most. -/
def iter {σ ρ : Type} (step : σ → Option (σ ⊕ ρ)) : Nat → σ → Option ρ
  | 0, _ => none
  | n + 1, s => match step s with
    | some (.inl s') => iter step n s'
    | some (.inr r) => some r
    | none => none

/-- So many rounds are enough for whatever is asked. -/
def NF : Nat := 1000000

theorem obind {α β : Type} {x : Option α} {f : α → Option β} {r : β} (h : x.bind f = some r) : ∃ y, x = some y ∧ f y = some r := by
  cases x with
  | none => cases h
  | some y => exact ⟨y, rfl, h⟩

/-! ### Blocks of one's own -/
inductive Ent where
  | row (u : AV) (e : TypeId) (sz : Nat) (xs : List (List AV))
  | blk (id : Nat) (c : List AV) (t : TypeId)
  | bld (id : Nat) (p v : AV) (bt be : TypeId) (bs : List UInt8)
  | mp (id : Nat) (es : List (AV × AV × Nat)) (clock : Nat)
  | buf (id o : Nat) (p v : AV) (be : TypeId) (bs : List UInt8)

def idsOf : AV → List Nat
  | .sl id _ _ _ => [id]
  | _ => []

def Ent.ids : Ent → List Nat
  | .row u _ _ _ => idsOf u
  | .blk id _ _ => [id]
  | .bld id _ v _ _ _ => id :: idsOf v
  | .mp id _ _ => [id]
  | .buf _ _ _ v _ _ => idsOf v

/-- A slice of one's own that holds such elements. -/
def Row (e : TypeId) (sz : Nat) (u : AV) (h : AH) (xs : List (List AV)) : Prop :=
  (xs = [] ∧ u = .val (.slice none 0 0)) ∨ ∃ id, u = .sl id 0 xs.length sz ∧ h.get id = some (.cells xs.flatten true 0 (some (e, false)))

def Ent.ok (h : AH) : Ent → Prop
  | .row u e sz xs => (∀ x ∈ xs, x.length = sz) ∧ Row e sz u h xs
  | .blk id c t => h.get id = some (.cells c true 0 (some (t, true)))
  | .bld id p v bt be bs => h.get id = some (.cells [p, v] true 0 (some (bt, true))) ∧ (p = .val (.pointer none) ∨ p = .ptr id 0) ∧ BS be v h bs
  | .mp id es clock => h.get id = some (.map es clock)
  | .buf id o p v be bs => (p = .val (.pointer none) ∨ p = .ptr id o) ∧ BS be v h bs

theorem Ent.ok_keep {e : Ent} (ho : e.ok h) (hf : ∀ k ∈ e.ids, ∀ o, h.get k = some o → h'.get k = some o) : e.ok h' := by
  cases e with
  | row u e sz xs =>
    refine ⟨ho.1, ?_⟩
    rcases ho.2 with hh | ⟨id, rfl, hg⟩
    · exact .inl hh
    · exact .inr ⟨id, rfl, hf id (by simp [Ent.ids, idsOf]) _ hg⟩
  | blk id c t => exact hf id (by simp [Ent.ids]) _ ho
  | bld id p v bt be bs =>
    obtain ⟨h1, h2, h3⟩ := ho
    refine ⟨hf id (by simp [Ent.ids]) _ h1, h2, ?_⟩
    rcases h3 with hh | ⟨k, a, rfl, hg⟩
    · exact .inl hh
    · exact .inr ⟨k, a, rfl, hf k (by simp [Ent.ids, idsOf]) _ hg⟩
  | mp id es c => exact hf id (by simp [Ent.ids]) _ ho
  | buf id o p v be bs =>
    refine ⟨ho.1, ?_⟩
    rcases ho.2 with hh | ⟨k, a, rfl, hg⟩
    · exact .inl hh
    · exact .inr ⟨k, a, rfl, hf k (by simp [Ent.ids, idsOf]) _ hg⟩

theorem Ent.ok_lt {e : Ent} (ho : e.ok h) : ∀ k ∈ e.ids, k < h.n := by
  intro k hk
  cases e with
  | row u e sz xs =>
    rcases ho.2 with ⟨_, rfl⟩ | ⟨id, rfl, hg⟩
    · simp [Ent.ids, idsOf] at hk
    · simp [Ent.ids, idsOf] at hk; subst hk; exact AH.get_lt hg
  | blk id c t => simp [Ent.ids] at hk; subst hk; exact AH.get_lt ho
  | bld id p v bt be bs =>
    obtain ⟨h1, h2, h3⟩ := ho
    simp [Ent.ids] at hk
    rcases hk with rfl | hk
    · exact AH.get_lt h1
    · rcases h3 with ⟨_, rfl⟩ | ⟨j, a, rfl, hg⟩
      · simp [idsOf] at hk
      · simp [idsOf] at hk; subst hk; exact AH.get_lt hg
  | mp id es c => simp [Ent.ids] at hk; subst hk; exact AH.get_lt ho
  | buf id o p v be bs =>
    rcases ho.2 with ⟨_, rfl⟩ | ⟨j, a, rfl, hg⟩
    · simp [Ent.ids, idsOf] at hk
    · simp [Ent.ids, idsOf] at hk; subst hk; exact AH.get_lt hg

structure Sep (h0 : AH) (X : List Nat) (h : AH) (L : List Ent) : Prop where
  n : h0.n ≤ h.n
  old : ∀ k o, k ∉ X → h0.get k = some o → h.get k = some o
  ok : ∀ e ∈ L, e.ok h
  own : ∀ e ∈ L, ∀ i ∈ e.ids, i ∈ X ∨ h0.n ≤ i
  nd : (L.flatMap Ent.ids).Nodup

variable {X : List Nat} {L : List Ent}

theorem Sep.nil (h : AH) : Sep h [] h [] := ⟨Nat.le_refl _, fun _ _ _ hk => hk, fun e he => (by cases he), fun e he => (by cases he), by simp⟩

theorem nodup_set {e e' : Ent} {m : Nat} : ∀ {L : List Ent} {i : Nat}, (L.flatMap Ent.ids).Nodup → L[i]? = some e → (∀ x ∈ L, ∀ k ∈ x.ids, k < m) → (∀ k ∈ e'.ids, k ∈ e.ids ∨ m ≤ k) → e'.ids.Nodup → ((L.set i e').flatMap Ent.ids).Nodup
  | [], i, h, hi, hm, hk, hn => by simp at hi
  | x :: L, 0, h, hi, hm, hk, hn => by
    simp at hi; subst hi
    simp only [List.set_cons_zero, List.flatMap_cons, List.nodup_append] at h ⊢
    refine ⟨hn, h.2.1, fun a ha b hb hab => ?_⟩
    subst hab
    rcases hk a ha with h1 | h1
    · exact h.2.2 a h1 a hb rfl
    · obtain ⟨y, hy, hay⟩ := List.mem_flatMap.1 hb
      have := hm y (List.mem_cons_of_mem _ hy) a hay
      omega
  | x :: L, i + 1, h, hi, hm, hk, hn => by
    simp only [List.set_cons_succ, List.flatMap_cons, List.nodup_append] at h ⊢
    have hi' : L[i]? = some e := by simpa using hi
    refine ⟨h.1, nodup_set (m := m) h.2.1 hi' (fun y hy => hm y (List.mem_cons_of_mem _ hy)) hk hn, fun a ha b hb hab => ?_⟩
    subst hab
    obtain ⟨y, hy, hay⟩ := List.mem_flatMap.1 hb
    rcases List.mem_or_eq_of_mem_set hy with h1 | rfl
    · exact h.2.2 a ha a (List.mem_flatMap.2 ⟨y, h1, hay⟩) rfl
    · rcases hk a hay with h1 | h1
      · exact h.2.2 a ha a (List.mem_flatMap.2 ⟨e, List.mem_of_getElem? hi', h1⟩) rfl
      · have := hm x (List.mem_cons_self ..) a ha
        omega

theorem nodup_other {L : List Ent} {i : Nat} {e : Ent} (h : (L.flatMap Ent.ids).Nodup) (hi : L[i]? = some e) : ∀ j x, L[j]? = some x → j ≠ i → ∀ k ∈ x.ids, k ∉ e.ids := by
  induction L generalizing i with
  | nil => simp at hi
  | cons y L ih =>
    simp only [List.flatMap_cons, List.nodup_append] at h
    intro j x hj hne k hk hke
    cases i with
    | zero =>
      simp at hi; subst hi
      cases j with
      | zero => exact hne rfl
      | succ j => exact h.2.2 k hke k (List.mem_flatMap.2 ⟨x, List.mem_of_getElem? (by simpa using hj), hk⟩) rfl
    | succ i =>
      cases j with
      | zero =>
        simp at hj; subst hj
        exact h.2.2 k hk k (List.mem_flatMap.2 ⟨e, List.mem_of_getElem? (by simpa using hi), hke⟩) rfl
      | succ j => exact ih h.2.1 (by simpa using hi) j x (by simpa using hj) (by omega) k hk hke

/-- One of them is another one now. -/
theorem Sep.upd (S : Sep h0 X h L) (i : Nat) {e : Ent} (hi : L[i]? = some e) (e' : Ent) (hn : h.n ≤ h'.n) (hfr : ∀ k o, k ∉ e.ids → h.get k = some o → h'.get k = some o)
    (hok : e'.ok h') (hids : ∀ k ∈ e'.ids, k ∈ e.ids ∨ h.n ≤ k) (hnd : e'.ids.Nodup) : Sep h0 X h' (L.set i e') := by
  have he := List.mem_of_getElem? hi
  refine ⟨Nat.le_trans S.n hn, fun k o hk hg => hfr k o (fun hke => ?_) (S.old k o hk hg), fun x hx => ?_, fun x hx k hk => ?_, nodup_set (m := h.n) (i := i) S.nd hi (fun x hx => (Ent.ok_lt (S.ok x hx))) hids hnd⟩
  · rcases S.own e he k hke with h1 | h1
    · exact hk h1
    · have := AH.get_lt hg; omega
  · obtain ⟨j, hj, hjx⟩ := List.mem_iff_getElem.1 hx
    rw [List.getElem_set] at hjx
    split at hjx
    · subst hjx; exact hok
    · rename_i hne
      have hj' : j < L.length := by simpa using hj
      have hm : L[j]? = some x := by rw [List.getElem?_eq_getElem hj', hjx]
      exact Ent.ok_keep (S.ok x (List.mem_of_getElem? hm)) fun k hk o hg => hfr k o (nodup_other S.nd hi j x hm (fun hh => hne hh.symm) k hk) hg
  · rcases List.mem_or_eq_of_mem_set hx with h1 | rfl
    · exact S.own x h1 k hk
    · rcases hids k hk with h1 | h1
      · exact S.own e he k h1
      · exact .inr (Nat.le_trans S.n h1)

/-- One more. -/
theorem Sep.add (S : Sep h0 X h L) (e : Ent) (hn : h.n ≤ h'.n) (hfr : ∀ k o, h.get k = some o → h'.get k = some o) (hok : e.ok h') (hids : ∀ k ∈ e.ids, h.n ≤ k) (hnd : e.ids.Nodup) : Sep h0 X h' (L ++ [e]) := by
  refine ⟨Nat.le_trans S.n hn, fun k o hk hg => hfr k o (S.old k o hk hg), fun x hx => ?_, fun x hx k hk => ?_, ?_⟩
  · rcases List.mem_append.1 hx with h1 | h1
    · exact Ent.ok_keep (S.ok x h1) fun k _ o hg => hfr k o hg
    · rw [List.mem_singleton.1 h1]; exact hok
  · rcases List.mem_append.1 hx with h1 | h1
    · exact S.own x h1 k hk
    · rw [List.mem_singleton.1 h1] at hk; exact .inr (Nat.le_trans S.n (hids k hk))
  · simp only [List.flatMap_append, List.flatMap_cons, List.flatMap_nil, List.append_nil, List.nodup_append]
    refine ⟨S.nd, hnd, fun a ha b hb hab => ?_⟩
    subst hab
    obtain ⟨y, hy, hay⟩ := List.mem_flatMap.1 ha
    have := (Ent.ok_lt (S.ok y hy)) a hay
    have := hids a hb
    omega

/-- Some are forgotten. -/
theorem Sep.sub {L' : List Ent} (S : Sep h0 X h L) (hs : L'.Sublist L) : Sep h0 X h L' :=
  ⟨S.n, S.old, fun e he => S.ok e (hs.subset he), fun e he => S.own e (hs.subset he), S.nd.sublist (by
    clear S
    induction hs with
    | slnil => exact .slnil
    | cons a _ ih => rw [List.flatMap_cons]; exact ih.trans (List.sublist_append_right _ _)
    | cons_cons a _ ih => rw [List.flatMap_cons, List.flatMap_cons]; exact (List.Sublist.refl _).append ih)⟩

/-- In another order. -/
theorem Sep.perm {L' : List Ent} (S : Sep h0 X h L) (hp : L'.Perm L) : Sep h0 X h L' :=
  ⟨S.n, S.old, fun e he => S.ok e (hp.subset he), fun e he => S.own e (hp.subset he), ((hp.flatMap_right Ent.ids).nodup_iff).2 S.nd⟩

/-- A call that leaves all as it was, and makes some. -/
theorem Sep.call0 {L' : List Ent} (S : Sep h0 X h L) (S' : Sep h [] h' L') : Sep h0 X h' (L ++ L') := by
  refine ⟨Nat.le_trans S.n S'.n, fun k o hk hg => S'.old k o (by simp) (S.old k o hk hg), fun x hx => ?_, fun x hx k hk => ?_, ?_⟩
  · rcases List.mem_append.1 hx with h1 | h1
    · exact Ent.ok_keep (S.ok x h1) fun k _ o hg => S'.old k o (by simp) hg
    · exact S'.ok x h1
  · rcases List.mem_append.1 hx with h1 | h1
    · exact S.own x h1 k hk
    · rcases S'.own x h1 k hk with h2 | h2
      · simp at h2
      · exact .inr (Nat.le_trans S.n h2)
  · simp only [List.flatMap_append, List.nodup_append]
    refine ⟨S.nd, S'.nd, fun a ha b hb hab => ?_⟩
    subst hab
    obtain ⟨y, hy, hay⟩ := List.mem_flatMap.1 ha
    obtain ⟨z, hz, haz⟩ := List.mem_flatMap.1 hb
    have := (Ent.ok_lt (S.ok y hy)) a hay
    rcases S'.own z hz a haz with h2 | h2
    · simp at h2
    · omega

/-- A call that is lent one of them. -/
theorem Sep.call1 {L' : List Ent} {X' : List Nat} (S : Sep h0 X h L) (i : Nat) {e : Ent} (hi : L[i]? = some e) (hX : ∀ k ∈ X', k ∈ e.ids) (S' : Sep h X' h' L') : Sep h0 X h' (L.eraseIdx i ++ L') := by
  have he := List.mem_of_getElem? hi
  have hoth : ∀ x ∈ L.eraseIdx i, (∃ j, L[j]? = some x ∧ j ≠ i) := fun x hx => by
    obtain ⟨j, hj⟩ := List.mem_iff_getElem?.1 hx
    rw [List.getElem?_eraseIdx] at hj
    split at hj
    · exact ⟨j, hj, by omega⟩
    · exact ⟨j + 1, hj, by omega⟩
  have hap : ∀ x ∈ L.eraseIdx i, ∀ k ∈ x.ids, k ∉ X' := fun x hx k hk hkX => by
    obtain ⟨j, hj, hne⟩ := hoth x hx
    exact nodup_other S.nd hi j x hj hne k hk (hX k hkX)
  have hmem : ∀ x ∈ L.eraseIdx i, x ∈ L := fun x hx => (List.eraseIdx_sublist ..).subset hx
  refine ⟨Nat.le_trans S.n S'.n, fun k o hk hg => S'.old k o (fun hkX => ?_) (S.old k o hk hg), fun x hx => ?_, fun x hx k hk => ?_, ?_⟩
  · rcases S.own e he k (hX k hkX) with h1 | h1
    · exact hk h1
    · have := AH.get_lt hg; omega
  · rcases List.mem_append.1 hx with h1 | h1
    · exact Ent.ok_keep (S.ok x (hmem x h1)) fun k hk o hg => S'.old k o (hap x h1 k hk) hg
    · exact S'.ok x h1
  · rcases List.mem_append.1 hx with h1 | h1
    · exact S.own x (hmem x h1) k hk
    · rcases S'.own x h1 k hk with h2 | h2
      · exact S.own e he k (hX k h2)
      · exact .inr (Nat.le_trans S.n h2)
  · have S2 := S.sub (List.eraseIdx_sublist (l := L) i)
    simp only [List.flatMap_append, List.nodup_append]
    refine ⟨S2.nd, S'.nd, fun a ha b hb hab => ?_⟩
    subst hab
    obtain ⟨y, hy, hay⟩ := List.mem_flatMap.1 ha
    obtain ⟨z, hz, haz⟩ := List.mem_flatMap.1 hb
    have := (Ent.ok_lt (S2.ok y hy)) a hay
    rcases S'.own z hz a haz with h2 | h2
    · exact hap y hy a hay h2
    · omega

/-! ### Slices to be read -/
def RO (sz : Nat) (u : AV) (h : AH) (xs : List (List AV)) : Prop :=
  (∀ x ∈ xs, x.length = sz) ∧ ((xs = [] ∧ u = .val (.slice none 0 0)) ∨ (∃ id off c own fz ty, u = .sl id off xs.length sz ∧ h.get id = some (.cells c own fz ty) ∧ off + xs.length * sz ≤ c.length ∧ (c.drop off).take (xs.length * sz) = xs.flatten) ∨ (xs = [] ∧ ∃ id off, u = .sl id off 0 sz))

theorem flat_len {xs : List (List AV)} {sz : Nat} (hx : ∀ x ∈ xs, x.length = sz) : xs.flatten.length = xs.length * sz := by
  induction xs with
  | nil => simp
  | cons x xs ih =>
    rw [List.flatten_cons, List.length_append, hx x (List.mem_cons_self ..), ih (fun y hy => hx y (List.mem_cons_of_mem _ hy)), List.length_cons, Nat.add_mul]
    omega

theorem RO.keep {sz : Nat} {u : AV} {xs : List (List AV)} (hs : RO sz u h xs) (hf : ∀ k o, k ∈ idsOf u → h.get k = some o → h'.get k = some o) : RO sz u h' xs := by
  refine ⟨hs.1, ?_⟩
  rcases hs.2 with hh | ⟨id, off, c, o, f, t, rfl, hg, h1, h2⟩ | hh
  · exact .inl hh
  · exact .inr (.inl ⟨id, off, c, o, f, t, rfl, hf _ _ (by simp [idsOf]) hg, h1, h2⟩)
  · exact .inr (.inr hh)

/-- What was there ahead is there. -/
theorem Sep.ro {sz : Nat} {u : AV} {xs : List (List AV)} (S : Sep h0 [] h L) (hs : RO sz u h0 xs) : RO sz u h xs := hs.keep fun k o _ hg => S.old k o (by simp) hg
theorem Sep.roX {sz : Nat} {u : AV} {xs : List (List AV)} (S : Sep h0 X h L) (hX : ∀ k ∈ idsOf u, k ∉ X) (hs : RO sz u h0 xs) : RO sz u h xs := hs.keep fun k o hk hg => S.old k o (hX k hk) hg

theorem Sep.row_ro {i : Nat} {u : AV} {e : TypeId} {sz : Nat} {xs : List (List AV)} (S : Sep h0 X h L) (hi : L[i]? = some (.row u e sz xs)) : RO sz u h xs := by
  have := S.ok _ (List.mem_of_getElem? hi)
  refine ⟨this.1, ?_⟩
  rcases this.2 with hh | ⟨id, rfl, hg⟩
  · exact .inl hh
  · have hl := flat_len this.1
    exact .inr (.inl ⟨id, 0, _, _, _, _, rfl, hg, by omega, by rw [List.drop_zero, List.take_of_length_le (by omega)]⟩)

/-- A slice type t of elements e, each of sz cells. -/
structure SlTy (P : Program) (t e : TypeId) (sz : Nat) : Prop where
  ht : P.underlying t = some (.slice e)
  hi : (P.info? e).map (fun i => (i.size, decide (i.bytes < 1000), i.zero.map fun z => z.cells.size)) = some (sz, true, some sz)
  hz : (zeroOf P e).bind (fun z => z.cells.map List.length) = some sz
  pos : 0 < sz
  sm : sz < 1000

theorem SlTy.info {t e : TypeId} {sz : Nat} (b : SlTy P t e sz) : ∃ i z, P.info? e = some i ∧ i.size = sz ∧ i.bytes < 1000 ∧ i.zero = some z ∧ z.cells.size = sz := by
  have := b.hi
  cases hi : P.info? e with
  | none => rw [hi] at this; cases this
  | some i =>
    rw [hi] at this
    simp only [Option.map_some, Option.some.injEq, Prod.mk.injEq, decide_eq_true_eq] at this
    obtain ⟨h1, h2, h3⟩ := this
    cases hz : i.zero with
    | none => rw [hz] at h3; cases h3
    | some z =>
      rw [hz] at h3
      simp only [Option.map_some, Option.some.injEq] at h3
      exact ⟨i, z, rfl, h1, h2, hz, h3⟩

theorem SlTy.sz {t e : TypeId} {sz : Nat} (b : SlTy P t e sz) : szOf P e = some sz := by
  obtain ⟨i, z, hi, h1, h2, hz, hz1⟩ := b.info
  simp [szOf, hi, h1]
theorem SlTy.elem {t e : TypeId} {sz : Nat} (b : SlTy P t e sz) : sliceElem P t = some e := by simp [sliceElem, b.ht]
theorem SlTy.room {t e : TypeId} {sz : Nat} (b : SlTy P t e sz) : ∃ i, P.info? e = some i ∧ i.size = sz ∧ i.bytes < 1000 ∧ ∀ k, k ≤ capL → aroom i k = true := by
  obtain ⟨i, z, hi, h1, h2, hz, hz1⟩ := b.info
  refine ⟨i, hi, h1, h2, fun k hk => ?_⟩
  have : k * (i.bytes + 1) ≤ 100000000 * 1000 := Nat.mul_le_mul hk (by omega)
  have hp := b.pos
  simp only [aroom, h1, hz, hz1, Option.map_some, Bool.and_eq_true, decide_eq_true_eq, beq_self_eq_true, sizeCap]
  refine ⟨⟨decide_eq_true (Nat.le_trans this (by decide : (100000000 * 1000 : Nat) ≤ 1099511627776)), ?_⟩, ?_⟩
  · simpa using hp
  · simp

theorem RO.len {t e : TypeId} {sz : Nat} (b : SlTy P t e sz) {u : AV} {xs : List (List AV)} (hs : RO sz u h xs) : alenOf P t u h = some (.int .i64 xs.length) := by
  rcases hs.2 with ⟨rfl, rfl⟩ | ⟨id, off, c, o, f, ty, rfl, hg, h1, h2⟩ | ⟨rfl, id, off, rfl⟩
  · simp [alenOf, b.ht]
  · simp [alenOf, b.ht]
  · simp [alenOf, b.ht]
theorem RO.alen {sz : Nat} {u : AV} {xs : List (List AV)} (hs : RO sz u h xs) : alen u = some xs.length := by
  rcases hs.2 with ⟨rfl, rfl⟩ | ⟨id, off, c, o, f, ty, rfl, hg, h1, h2⟩ | ⟨rfl, id, off, rfl⟩ <;> simp [Go.Proofs.YtlpiiifmidehjaaDoorM.alen]
theorem RO.cells {sz : Nat} {u : AV} {xs : List (List AV)} (hp : 0 < sz) (hs : RO sz u h xs) : acells u sz xs.length h = some xs.flatten := by
  rcases hs.2 with ⟨rfl, rfl⟩ | ⟨id, off, c, o, f, ty, rfl, hg, h1, h2⟩ | ⟨rfl, id, off, rfl⟩
  · simp [acells]
  · by_cases h0 : xs.length = 0
    · obtain rfl := List.eq_nil_of_length_eq_zero h0
      simp [acells]
    · simp only [acells, Nat.le_refl, and_self, if_true, if_neg h0, hg, h1, h2]
  · simp [acells]

/-- The place of an element of a slice. -/
def PtrTo (u : AV) (sz : Nat) (i : Int) (id off : Nat) : Prop := ∃ o n, u = .sl id o n sz ∧ off = o + i.toNat * sz

theorem RO.addr {t e : TypeId} {sz : Nat} (b : SlTy P t e sz) {α : Type} {f : α → List AV} {zs : List α} {u : AV} (hs : RO sz u h (zs.map f)) {i : Int} {x : α} (hx : idxL zs i = some x) :
    ∃ id off, (∀ k : IntKind, aindexAddr P t u (.int k i) = some (.ptr id off)) ∧ PtrTo u sz i id off := by
  unfold idxL at hx
  split at hx
  rotate_left
  · cases hx
  rename_i h0
  have hlt : i.toNat < zs.length := by
    rcases Nat.lt_or_ge i.toNat zs.length with hh | hh
    · exact hh
    · rw [List.getElem?_eq_none hh] at hx; cases hx
  rcases hs.2 with ⟨he, rfl⟩ | ⟨id, off, c, ow, f', ty, rfl, hg, h1, h2⟩ | ⟨he, _⟩
  · rw [List.map_eq_nil_iff] at he; subst he; simp at hlt
  rotate_left
  · rw [List.map_eq_nil_iff] at he; subst he; simp at hlt
  · refine ⟨id, off + i.toNat * sz, fun k => ?_, _, _, rfl, rfl⟩
    simp only [aindexAddr, b.ht, b.sz]
    rw [if_pos ⟨trivial, h0, by rw [List.length_map]; omega⟩]

theorem RO.ld {sz : Nat} {α : Type} {f : α → List AV} {zs : List α} {u : AV} (hs : RO sz u h (zs.map f)) {i : Int} {x : α} {id off : Nat} (hp : PtrTo u sz i id off) (hx : idxL zs i = some x) {t : TypeId} {o : Nat} {v : AV}
    (ho : o < sz) (hap : apart P t (f x) o = some v) : aload P t (.ptr id (off + o)) h = some v := by
  unfold idxL at hx
  split at hx
  rotate_left
  · cases hx
  rename_i h0
  have hlt : i.toNat < zs.length := by
    rcases Nat.lt_or_ge i.toNat zs.length with hh | hh
    · exact hh
    · rw [List.getElem?_eq_none hh] at hx; cases hx
  obtain ⟨o1, n1, rfl, rfl⟩ := hp
  have hx' : (zs.map f)[i.toNat]? = some (f x) := by rw [List.getElem?_map, hx]; rfl
  rcases hs.2 with ⟨he, hh⟩ | ⟨id', off, c, ow, f', ty, hu, hg, h1, h2⟩ | ⟨he, _⟩
  · cases hh
  rotate_left
  · rw [List.map_eq_nil_iff] at he; subst he; simp at hlt
  · cases hu
    obtain ⟨f1, f2⟩ := flat_get hs.1 i.toNat (f x) hx'
    rw [Nat.add_mul, Nat.one_mul] at f2
    have hfl := flat_len hs.1
    simp only [aload, hg]
    have hcd : ∀ j, j < sz → c[o1 + i.toNat * sz + j]? = (f x)[j]? := fun j hj => by
      rw [← f1, ← h2]
      simp only [List.getElem?_take, List.getElem?_drop]
      rw [if_pos hj, if_pos (by omega)]
      congr 1
      omega
    unfold apart at hap ⊢
    have hxl : (f x).length = sz := hs.1 _ (List.mem_of_getElem? hx')
    split at hap
    · split at hap
      · rename_i n hn
        split at hap
        · rename_i hle
          rw [if_pos (by omega), ← hap]
          congr 2
          apply List.ext_getElem?
          intro j
          simp only [List.getElem?_take, List.getElem?_drop]
          split
          · rw [Nat.add_assoc, hcd _ (by omega)]
          · rfl
        · cases hap
      · cases hap
    · rw [hcd o ho]; exact hap
    · cases hap

theorem take_flat {xs : List (List AV)} {sz : Nat} (hx : ∀ x ∈ xs, x.length = sz) : ∀ n, (xs.take n).flatten = xs.flatten.take (n * sz) := by
  induction xs with
  | nil => simp
  | cons z zs ih =>
    intro n
    cases n with
    | zero => simp
    | succ n =>
      have hz := hx z (List.mem_cons_self ..)
      have hm : (n + 1) * sz = sz + n * sz := by rw [Nat.add_mul, Nat.one_mul, Nat.add_comm]
      rw [List.take_succ_cons, List.flatten_cons, List.flatten_cons, ih (fun x hx' => hx x (List.mem_cons_of_mem _ hx')), List.take_append, hz, List.take_of_length_le (l := z) (by omega)]
      congr 2
      omega
theorem drop_flat {xs : List (List AV)} {sz : Nat} (hx : ∀ x ∈ xs, x.length = sz) : ∀ n, (xs.drop n).flatten = xs.flatten.drop (n * sz) := by
  induction xs with
  | nil => simp
  | cons z zs ih =>
    intro n
    cases n with
    | zero => simp
    | succ n =>
      have hz := hx z (List.mem_cons_self ..)
      have hm : (n + 1) * sz = sz + n * sz := by rw [Nat.add_mul, Nat.one_mul, Nat.add_comm]
      rw [List.drop_succ_cons, List.flatten_cons, ih (fun x hx' => hx x (List.mem_cons_of_mem _ hx')), List.drop_append, hz, List.drop_of_length_le (l := z) (by omega)]
      simp only [List.nil_append]
      congr 1
      omega

/-- A piece of a slice. -/
theorem RO.sub {t e : TypeId} {sz : Nat} (b : SlTy P t e sz) {α : Type} {f : α → List AV} {zs ys : List α} {u : AV} (hs : RO sz u h0 (zs.map f)) {a c : Int} (hy : subL zs a c = some ys) {lo hi : Option AV}
    (hlo : abound 0 lo = some a.toNat ∧ (lo = none → a = 0)) (hhi : abound zs.length hi = some c.toNat) :
    ∃ u', (∀ g, aslice P t u lo hi none g = some u') ∧ (∀ g, RO sz u g (zs.map f) → RO sz u' g (ys.map f)) ∧ ∀ k ∈ idsOf u', k ∈ idsOf u := by
  unfold subL at hy
  split at hy
  rotate_left
  · cases hy
  rename_i hc
  obtain ⟨c1, c2, c3⟩ := hc
  cases hy
  rcases hs.2 with ⟨he, rfl⟩ | ⟨id, off, cs, ow, f', ty, rfl, hg, h1, h2⟩ | ⟨he, id, off, rfl⟩
  rotate_left 2
  · rw [List.map_eq_nil_iff] at he; subst he
    simp at c3
    have hc0 : c = 0 := by omega
    have ha0 : a = 0 := by omega
    subst hc0; subst ha0
    refine ⟨.sl id (off + 0 * sz) (0 - 0) sz, fun g => ?_, fun g hg => ?_, fun k hk => hk⟩
    · simp only [List.length_nil, Int.toNat_zero] at hhi hlo
      simp only [aslice, b.ht, b.sz, hlo.1, hhi]
      rw [if_pos ⟨trivial, by omega, by omega⟩]
    · exact ⟨fun x hx => (by simp at hx), .inr (.inr ⟨by simp, id, off + 0 * sz, rfl⟩)⟩
  · rw [List.map_eq_nil_iff] at he; subst he
    simp at c3
    have hc0 : c = 0 := by omega
    have ha0 : a = 0 := by omega
    subst hc0; subst ha0
    refine ⟨.val (.slice none 0 0), fun g => ?_, fun g hg => ?_, fun k hk => hk⟩
    · simp only [List.length_nil, Int.toNat_zero] at hhi hlo
      simp only [aslice, b.ht, b.sz, hlo.1, hhi]
    · exact ⟨fun x hx => (by simp at hx), .inl ⟨by simp, rfl⟩⟩
  · refine ⟨.sl id (off + a.toNat * sz) (c.toNat - a.toNat) sz, fun g => ?_, fun g hg => ?_, fun k hk => hk⟩
    · rw [List.length_map] at *
      simp only [aslice, b.ht, b.sz, hlo.1, hhi]
      rw [if_pos ⟨trivial, by omega, by omega⟩]
    · refine ⟨fun x hx => hg.1 x ?_, .inr ?_⟩
      · obtain ⟨y, hy, rfl⟩ := List.mem_map.1 hx
        exact List.mem_map.2 ⟨y, List.mem_of_mem_take (List.mem_of_mem_drop hy), rfl⟩
      · rcases hg.2 with ⟨_, hh⟩ | ⟨id', off', cs', ow', f'', ty', hu, hg', h1', h2'⟩ | ⟨he, _⟩
        · cases hh
        rotate_left
        · right
          rw [List.map_eq_nil_iff] at he; subst he
          simp at c3
          exact ⟨by simp, id, off + a.toNat * sz, by rw [show c.toNat - a.toNat = 0 by omega]⟩
        · left
          cases hu
          have hl : ((zs.take c.toNat).drop a.toNat).length = c.toNat - a.toNat := by
            rw [List.length_drop, List.length_take, Nat.min_eq_left (by omega)]
          have hm : (c.toNat - a.toNat) * sz = c.toNat * sz - a.toNat * sz := Nat.sub_mul ..
          have hac : a.toNat * sz ≤ c.toNat * sz := Nat.mul_le_mul_right _ (by omega)
          have hcz : c.toNat * sz ≤ zs.length * sz := Nat.mul_le_mul_right _ (by omega)
          rw [List.length_map] at h1' h2'
          refine ⟨id, off + a.toNat * sz, cs', ow', f'', ty', by rw [List.length_map, hl], hg', by rw [List.length_map, hl]; omega, ?_⟩
          rw [List.length_map, hl]
          have hfl := flat_len hg.1
          rw [List.length_map] at hfl
          have e1 := take_flat hg.1 c.toNat
          have e2 := fun ws hw n => drop_flat (sz := sz) (xs := ws) hw n
          rw [List.map_drop, List.map_take, e2 _ (fun x hx => hg.1 x (List.mem_of_mem_take hx)), e1, ← h2', List.take_take, Nat.min_eq_left hcz, List.drop_take, List.drop_drop, hm]
end Go.Proofs.YtlpiiifmidehjaaDoorM
