/- Usage: maps, in plain terms. -/
import Derived.Test.YtglcbikbmobdpaaDoorRW
set_option linter.unusedSimpArgs false
set_option linter.unusedVariables false
namespace Go.Proofs.YtglcbikbmobdpaaDoorM
open Go Go.RowKit

section
variable {κ ν : Type} [DecidableEq κ]
theorem idx_ge (k : κ) : ∀ (es : List (κ × ν × Nat)) (i j : Nat) (w : ν) (b : Nat), GMap.idx k es i = some (j, w, b) → i ≤ j
  | [], _, _, _, _, h => by cases h
  | (k', v', b') :: es, i, j, w, b, h => by
    unfold GMap.idx at h
    split at h
    · cases h; exact Nat.le_refl _
    · exact Nat.le_of_succ_le (idx_ge k es (i + 1) j w b h)
theorem idx_at (k : κ) : ∀ (es : List (κ × ν × Nat)) (i j : Nat) (w : ν) (b : Nat), GMap.idx k es i = some (j, w, b) → es[j - i]? = some (k, w, b)
  | [], _, _, _, _, h => by cases h
  | (k', v', b') :: es, i, j, w, b, h => by
    unfold GMap.idx at h
    split at h
    · rename_i e; cases h; subst e; rw [Nat.sub_self]; rfl
    · have hge := idx_ge k es (i + 1) j w b h
      have ih := idx_at k es (i + 1) j w b h
      rw [show j - i = (j - (i + 1)) + 1 by omega, List.getElem?_cons_succ]; exact ih
theorem idx_set (k : κ) (v : ν) : ∀ (es : List (κ × ν × Nat)) (i j : Nat) (w : ν) (b : Nat), GMap.idx k es i = some (j, w, b) → ∀ k', GMap.idx k' (es.set (j - i) (k, v, b)) i = if k' = k then some (j, v, b) else GMap.idx k' es i
  | [], _, _, _, _, h, _ => by cases h
  | (k0, v0, b0) :: es, i, j, w, b, h, k' => by
    unfold GMap.idx at h
    split at h
    · rename_i e
      cases h
      subst e
      rw [Nat.sub_self, List.set_cons_zero]
      unfold GMap.idx
      by_cases e2 : k' = k
      · rw [if_pos e2, if_pos e2]
      · rw [if_neg e2, if_neg e2, if_neg e2]
    · rename_i hne
      have hge := idx_ge k es (i + 1) j w b h
      have ih := idx_set k v es (i + 1) j w b h k'
      rw [show j - i = (j - (i + 1)) + 1 by omega, List.set_cons_succ]
      unfold GMap.idx
      by_cases e2 : k' = k0
      · rw [if_pos e2, if_pos e2, if_neg (fun e : k' = k => hne (e.symm.trans e2))]
      · rw [if_neg e2, if_neg e2, ih]
theorem idx_end (k : κ) (v : ν) (b : Nat) : ∀ (es : List (κ × ν × Nat)) (i : Nat), GMap.idx k es i = none → ∀ k', GMap.idx k' (es ++ [(k, v, b)]) i = if k' = k then some (i + es.length, v, b) else GMap.idx k' es i
  | [], i, _, k' => by
    show GMap.idx k' [(k, v, b)] i = _
    unfold GMap.idx
    by_cases e : k' = k
    · rw [if_pos e, if_pos e]; rfl
    · rw [if_neg e, if_neg e]; rfl
  | (k0, v0, b0) :: es, i, h, k' => by
    unfold GMap.idx at h
    split at h
    · cases h
    · rename_i hne
      have ih := idx_end k v b es (i + 1) h k'
      rw [List.cons_append]
      unfold GMap.idx
      by_cases e2 : k' = k0
      · rw [if_pos e2, if_pos e2, if_neg (fun e : k' = k => hne (e.symm.trans e2))]
      · rw [if_neg e2, if_neg e2, ih]
        split
        · congr 2; simp; omega
        · rfl
theorem mget_mset (m : GMap κ ν) (k k' : κ) (v : ν) : mget (mset m k v) k' = if k' = k then some v else mget m k' := by
  unfold mget mset
  split
  · rename_i i w b h
    have := idx_set k v m.es 0 i w b h k'
    have hat := idx_at k m.es 0 i w b h
    rw [Nat.sub_zero] at this hat
    simp only [hat, this]
    by_cases e : k' = k
    · rw [if_pos e, if_pos e]; rfl
    · rw [if_neg e, if_neg e]
  · rename_i h
    have := idx_end k v m.clock m.es 0 h k'
    simp only [this]
    by_cases e : k' = k
    · rw [if_pos e, if_pos e]; rfl
    · rw [if_neg e, if_neg e]
end
end Go.Proofs.YtglcbikbmobdpaaDoorM
