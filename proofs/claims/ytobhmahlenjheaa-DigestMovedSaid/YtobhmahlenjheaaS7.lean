/- Package variables that are told. -/
import Derived.Test.YtobhmahlenjheaaS6
set_option linter.unusedSimpArgs false
set_option linter.unusedVariables false
namespace Go.Proofs.YtobhmahlenjheaaM
open Go Go.RowKit
variable {P : Program} {h h0 : AH} {X : List Nat} {L : List Ent}

/-- A package variable stands there, with such contents. -/
def GV (h : AH) (g : Nat) (c : List AV) : Prop := h.get g = some (.gvar g c)
theorem GV.keep {g : Nat} {c : List AV} (S : Sep h0 X h L) (hg : GV h0 g c) (hx : g ∉ X) : GV h g c := S.old g _ hx hg
/-- What is lent is no package variable. -/
theorem GV.lent {g : Nat} {c : List AV} {A : List Ent} (hg : GV h g c) (hok : ∀ e ∈ A, e.ok h) : g ∉ A.flatMap Ent.ids := by
  intro hm
  obtain ⟨e, he, hk⟩ := List.mem_flatMap.1 hm
  have ho := hok e he
  unfold GV at hg
  cases e with
  | row u e' sz xs =>
    rcases ho.2 with ⟨_, rfl⟩ | ⟨id, rfl, h1⟩
    · simp [Ent.ids, idsOf] at hk
    · simp [Ent.ids, idsOf] at hk; subst hk; rw [hg] at h1; cases h1
  | blk id c' t => simp [Ent.ids] at hk; subst hk; have h1 : h.get g = _ := ho; rw [hg] at h1; cases h1
  | bld id p v bt be bs =>
    obtain ⟨h1, h2, h3⟩ := ho
    simp [Ent.ids] at hk
    rcases hk with rfl | hk
    · rw [hg] at h1; cases h1
    · rcases h3 with ⟨_, rfl⟩ | ⟨j, a, rfl, h4⟩
      · simp [idsOf] at hk
      · simp [idsOf] at hk; subst hk; rw [hg] at h4; cases h4
  | mp id es c' => simp [Ent.ids] at hk; subst hk; have h1 : h.get g = _ := ho; rw [hg] at h1; cases h1
  | buf id o p v be bs =>
    rcases ho.2 with ⟨_, rfl⟩ | ⟨j, a, rfl, h4⟩
    · simp [Ent.ids, idsOf] at hk
    · simp [Ent.ids, idsOf] at hk; subst hk; rw [hg] at h4; cases h4

theorem GV.addr {t e : TypeId} {len s : Nat} (g : Nat) (ht : P.underlying t = some (.array len e)) (hs : szOf P e = some s) {α : Type} {zs : List α} (hl : zs.length = len) {i : Int} {x : α} (hx : idxL zs i = some x) (k : IntKind) :
    aindexAddr P t (.val (.pointer (some ⟨g, 0, none⟩))) (.int k i) = some (.val (.pointer (some ⟨g, i.toNat * s, none⟩))) := by
  unfold idxL at hx
  split at hx
  rotate_left
  · cases hx
  rename_i h0
  have hlt : i.toNat < zs.length := by
    rcases Nat.lt_or_ge i.toNat zs.length with hh | hh
    · exact hh
    · rw [List.getElem?_eq_none hh] at hx; cases hx
  simp only [aindexAddr, ht, hs]
  rw [if_pos (by omega), Nat.zero_add]

theorem GV.ld {g s : Nat} {α : Type} {f : α → List AV} {zs : List α} (hg : GV h g ((zs.map f).flatten)) (hf : ∀ z, (f z).length = s) {i : Int} {x : α} (hx : idxL zs i = some x) {t : TypeId} {o : Nat} {v : AV}
    (ho : o < s) (hap : apart P t (f x) o = some v) : aload P t (.val (.pointer (some ⟨g, i.toNat * s + o, none⟩))) h = some v := by
  unfold idxL at hx
  split at hx
  rotate_left
  · cases hx
  rename_i h0
  have hlt : i.toNat < zs.length := by
    rcases Nat.lt_or_ge i.toNat zs.length with hh | hh
    · exact hh
    · rw [List.getElem?_eq_none hh] at hx; cases hx
  have hall : ∀ y ∈ zs.map f, y.length = s := fun y hy => by obtain ⟨z, _, rfl⟩ := List.mem_map.1 hy; exact hf z
  have hx' : (zs.map f)[i.toNat]? = some (f x) := by rw [List.getElem?_map, hx]; rfl
  obtain ⟨f1, f2⟩ := flat_get hall i.toNat (f x) hx'
  rw [Nat.add_mul, Nat.one_mul] at f2
  have hfl := flat_len hall
  unfold GV at hg
  simp only [aload, agload, hg, if_true]
  have hcd : ∀ j, j < s → ((zs.map f).flatten)[i.toNat * s + j]? = (f x)[j]? := fun j hj => by
    rw [← f1]
    simp only [List.getElem?_take, List.getElem?_drop]
    rw [if_pos hj]
  unfold apart at hap ⊢
  have hxl : (f x).length = s := hf x
  split at hap
  · split at hap
    · rename_i n hn
      split at hap
      · rename_i hle
        rw [if_pos (by omega), ← hap]
        congr 2
        apply List.ext_getElem?
        intro j
        simp only [List.getElem?_take, List.getElem?_drop]
        split
        · rw [Nat.add_assoc, hcd _ (by omega)]
        · rfl
      · cases hap
    · cases hap
  · rw [hcd o ho]; exact hap
  · cases hap
end Go.Proofs.YtobhmahlenjheaaM
