/- Several blocks lent at once; maps. -/
import Derived.Test.YtobhmahlenjheaaBL
set_option linter.unusedSimpArgs false
set_option linter.unusedVariables false
namespace Go.Proofs.YtobhmahlenjheaaM
open Go Go.RowKit
variable {P : Program} {h h' h0 : AH} {X : List Nat} {L : List Ent}

/-! ### Several blocks lent -/
theorem Sep.lendN {A : List Ent} (hok : ∀ e ∈ A, e.ok h) (hnd : (A.flatMap Ent.ids).Nodup) : Sep h (A.flatMap Ent.ids) h A :=
  ⟨Nat.le_refl _, fun _ _ _ hk => hk, hok, fun e he i hi => .inl (List.mem_flatMap.2 ⟨e, he, hi⟩), hnd⟩
theorem Sep.okA {R A : List Ent} (S : Sep h0 X h (R ++ A)) : ∀ e ∈ A, e.ok h := fun e he => S.ok e (List.mem_append.2 (.inr he))
theorem Sep.ndA {R A : List Ent} (S : Sep h0 X h (R ++ A)) : (A.flatMap Ent.ids).Nodup := by
  have := S.nd
  rw [List.flatMap_append, List.nodup_append] at this
  exact this.2.1
theorem Sep.callN {R A L' : List Ent} (S : Sep h0 X h (R ++ A)) (S' : Sep h (A.flatMap Ent.ids) h' L') : Sep h0 X h' (R ++ L') := by
  have hnd := S.nd
  rw [List.flatMap_append, List.nodup_append] at hnd
  have hR : ∀ x ∈ R, ∀ k ∈ x.ids, k ∉ A.flatMap Ent.ids := fun x hx k hk hA => hnd.2.2 k (List.mem_flatMap.2 ⟨x, hx, hk⟩) k hA rfl
  refine ⟨Nat.le_trans S.n S'.n, fun k o hk hg => S'.old k o (fun hA => ?_) (S.old k o hk hg), fun x hx => ?_, fun x hx k hk => ?_, ?_⟩
  · obtain ⟨a, ha, hka⟩ := List.mem_flatMap.1 hA
    rcases S.own a (List.mem_append.2 (.inr ha)) k hka with h1 | h1
    · exact hk h1
    · have := AH.get_lt hg; omega
  · rcases List.mem_append.1 hx with h1 | h1
    · exact Ent.ok_keep (S.ok x (List.mem_append.2 (.inl h1))) fun k hk o hg => S'.old k o (hR x h1 k hk) hg
    · exact S'.ok x h1
  · rcases List.mem_append.1 hx with h1 | h1
    · exact S.own x (List.mem_append.2 (.inl h1)) k hk
    · rcases S'.own x h1 k hk with h2 | h2
      · obtain ⟨a, ha, hka⟩ := List.mem_flatMap.1 h2
        exact S.own a (List.mem_append.2 (.inr ha)) k hka
      · exact .inr (Nat.le_trans S.n h2)
  · rw [List.flatMap_append, List.nodup_append]
    refine ⟨hnd.1, S'.nd, fun a ha b hb hab => ?_⟩
    subst hab
    obtain ⟨x, hx, hax⟩ := List.mem_flatMap.1 ha
    obtain ⟨y, hy, hay⟩ := List.mem_flatMap.1 hb
    rcases S'.own y hy a hay with h2 | h2
    · exact hR x hx a hax h2
    · have := Ent.ok_lt (S.ok x (List.mem_append.2 (.inl hx))) a hax
      omega

/-! ### Maps -/
structure GMap (κ ν : Type) where
  es : List (κ × ν × Nat)
  clock : Nat
  deriving DecidableEq, Inhabited

section
variable {κ ν : Type} [DecidableEq κ]
def GMap.idx (k : κ) : List (κ × ν × Nat) → Nat → Option (Nat × ν × Nat)
  | [], _ => none
  | (k', v, b) :: es, i => if k = k' then some (i, v, b) else GMap.idx k es (i + 1)
def mnew : GMap κ ν := ⟨[], 0⟩
def mget (m : GMap κ ν) (k : κ) : Option ν := (GMap.idx k m.es 0).map fun x => x.2.1
def mset (m : GMap κ ν) (k : κ) (v : ν) : GMap κ ν :=
  match GMap.idx k m.es 0 with
  | some (i, _, _) => ⟨(match m.es[i]? with | some (_, _, b) => m.es.set i (k, v, b) | none => m.es), m.clock⟩
  | none => ⟨m.es ++ [(k, v, m.clock)], m.clock + 1⟩
end
def GMap.cells {κ ν : Type} (fk : κ → AV) (fv : ν → AV) (m : GMap κ ν) : List (AV × AV × Nat) := m.es.map fun x => (fk x.1, fv x.2.1, x.2.2)

/-- Keys of such a type are told apart as the plain ones are. -/
def KeyTy {κ : Type} [DecidableEq κ] (d : Option TypeDesc) (fk : κ → AV) : Prop := ∀ a b, akeyOk d (fk a) = true ∧ akey d (fk a) (fk b) = some (decide (a = b))
theorem KeyTy.str : KeyTy (some .string) AV.str := fun a b => ⟨rfl, by simp only [akey, Option.some.injEq]; by_cases c : a = b <;> simp [c]⟩
theorem KeyTy.int (k k' : IntKind) : KeyTy (some (.int k')) (AV.int k) := fun a b => ⟨rfl, by simp only [akey, if_true, Option.some.injEq]; by_cases c : a = b <;> simp [c]⟩

section
variable {κ ν : Type} [DecidableEq κ] {fk : κ → AV} {fv : ν → AV} {d : Option TypeDesc}
theorem afind_eq (hk : KeyTy d fk) (k : κ) : ∀ (es : List (κ × ν × Nat)) (i : Nat), afind d (fk k) (es.map fun x => (fk x.1, fv x.2.1, x.2.2)) i = some ((GMap.idx k es i).map fun x => (x.1, fv x.2.1, x.2.2))
  | [], i => rfl
  | (k', v, b) :: es, i => by
    simp only [List.map_cons, afind, (hk k k').2, GMap.idx]
    by_cases c : k = k'
    · simp [c]
    · simp only [c, decide_false, if_false]
      exact afind_eq hk k es (i + 1)

theorem Sep.mget (S : Sep h0 X h L) (i : Nat) {id : Nat} {es : List (AV × AV × Nat)} {c : Nat} (hi : L[i]? = some (.mp id es c)) : h.get id = some (.map es c) := S.ok _ (List.mem_of_getElem? hi)

theorem Sep.mlookup {t kt et : TypeId} (hm : mapOf P t = some (kt, et)) (hk : KeyTy (P.underlying kt) fk) {z : ν} (hz : zeroOf P et = some (fv z)) (S : Sep h0 X h L) (i : Nat) {id : Nat} {m : GMap κ ν}
    (hi : L[i]? = some (.mp id (m.cells fk fv) m.clock)) (k : κ) :
    alookup P t (.map id) (fk k) true h = some (.tup [fv ((Go.Proofs.YtobhmahlenjheaaM.mget m k).getD z), .bool (Go.Proofs.YtobhmahlenjheaaM.mget m k).isSome]) ∧ alookup P t (.map id) (fk k) false h = some (fv ((Go.Proofs.YtobhmahlenjheaaM.mget m k).getD z)) := by
  have hg := S.mget i hi
  have hf := afind_eq (fv := fv) hk k m.es 0
  unfold GMap.cells at hg
  unfold alookup amapGet Go.Proofs.YtobhmahlenjheaaM.mget
  simp only [hm, hg, (hk k k).1, hf, if_true]
  cases GMap.idx k m.es 0 with
  | none => simp [hz]
  | some x => simp

theorem Sep.mupdate {t kt et : TypeId} (hm : mapOf P t = some (kt, et)) (hk : KeyTy (P.underlying kt) fk) (S : Sep h0 X h L) (i : Nat) {id : Nat} {m : GMap κ ν}
    (hi : L[i]? = some (.mp id (m.cells fk fv) m.clock)) (k : κ) (v : ν) :
    ∃ h1, amapUpdate P t (.map id) (fk k) (fv v) h = some h1 ∧ Sep h0 X h1 (L.set i (.mp id ((mset m k v).cells fk fv) (mset m k v).clock)) := by
  have hg := S.mget i hi
  have hf := afind_eq (fv := fv) hk k m.es 0
  have key : amapUpdate P t (.map id) (fk k) (fv v) h = some (h.set id (.map ((mset m k v).cells fk fv) (mset m k v).clock)) := by
    unfold GMap.cells at hg
    unfold amapUpdate
    simp only [hm, hg, (hk k k).1, hf, if_true]
    unfold mset GMap.cells
    cases hx : GMap.idx k m.es 0 with
    | none => simp
    | some x =>
      simp only [Option.map_some, setEntry, List.getElem?_map]
      cases hq : m.es[x.1]? with
      | none => simp
      | some y => simp [List.map_set]
  refine ⟨_, key, S.upd i hi (.mp id _ _) (by rw [AH.set_n]; exact Nat.le_refl _) (fun k' o hk' hgk => ?_) ?_ (fun k' hk' => .inl hk') (by simp [Ent.ids])⟩
  · rw [AH.get_set_ne (fun hh => hk' (by subst hh; simp [Ent.ids]))]; exact hgk
  · exact AH.get_set_same hg

omit [DecidableEq κ] in
theorem Sep.mmake (S : Sep h0 X h L) : ∃ i h1, h.n = i ∧ h.push (.map [] 0) = h1 ∧ Sep h0 X h1 (L ++ [.mp i ((mnew : GMap κ ν).cells fk fv) (mnew : GMap κ ν).clock]) := by
  refine ⟨_, _, rfl, rfl, S.add (.mp h.n _ _) (by rw [AH.push_n]; omega) (fun k o hg => by rw [AH.get_push_ne (by have := AH.get_lt hg; omega)]; exact hg) (AH.get_push_new _ _) (fun k hk => ?_) (by simp [Ent.ids])⟩
  simp [Ent.ids] at hk; omega

omit [DecidableEq κ] in
theorem Sep.mlen {t : TypeId} {kt et : TypeId} (ht : P.underlying t = some (.map kt et)) (S : Sep h0 X h L) (i : Nat) {id : Nat} {m : GMap κ ν} (hi : L[i]? = some (.mp id (m.cells fk fv) m.clock)) :
    alenOf P t (.map id) h = some (.int .i64 (m.es.length : Int)) := by
  have hg := S.mget i hi
  unfold alenOf amaplen amapGet
  simp only [ht, hg]
  simp [GMap.cells]
end
end Go.Proofs.YtobhmahlenjheaaM
