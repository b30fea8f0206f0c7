/- Usage: what is counted. -/
import Derived.Test.YtglcbikbmobdpaaDoorP45a
set_option linter.unusedSimpArgs false
set_option linter.unusedVariables false
namespace Go.Proofs.YtglcbikbmobdpaaDoorM
open Go Go.RowKit

abbrev Nd : Type := Txt × Bool × Txt × Int × Int × Unit
abbrev Us : Type := Txt × Int × Int × Int × Unit
def zU : Us := ([], 0, 0, 0, ())
/-- One node more: files, directories, bytes. -/
def bump (u : Int × Int × Int × Unit) (n : Nd) : Int × Int × Int × Unit :=
  (bif n.2.1 then u.1 else IntKind.i64.wrap (u.1 + 1), bif n.2.1 then IntKind.i64.wrap (u.2.1 + 1) else u.2.1, IntKind.i64.wrap (u.2.2.1 + (n.2.2.1.length : Int)), ())
theorem add_eq (p : Txt) (n : Nd) (m : GMap Txt Us) : F_usage_counter_add p n m = some (mset m p (p, bump ((mget m p).getD zU).2 n), ()) := by
  obtain ⟨path, dir, data, mode, time, u⟩ := n
  unfold F_usage_counter_add
  cases dir <;> rfl
theorem at_eq (p : Txt) (m : GMap Txt Us) : F_usage_counter_at p m = some ((p, ((mget m p).getD zU).2), m, ()) := rfl
/-- What a map says of a path. -/
def says (m : GMap Txt Us) (p : Txt) : Int × Int × Int × Unit := ((mget m p).getD zU).2
theorem says_set (m : GMap Txt Us) (p q : Txt) (u : Int × Int × Int × Unit) : says (mset m p (p, u)) q = if q = p then u else says m q := by
  unfold says
  rw [mget_mset]
  by_cases e : q = p
  · rw [if_pos e, if_pos e]; rfl
  · rw [if_neg e, if_neg e]

theorem und_pre {s q : Txt} (hq : q ≠ []) : und s q = true ↔ ∃ r, s = q ++ 47 :: r := by
  unfold und
  rw [if_neg hq, List.isPrefixOf_iff_prefix]
  constructor
  · rintro ⟨r, h⟩; exact ⟨r, by rw [← h]; simp⟩
  · rintro ⟨r, h⟩; exact ⟨r, by rw [h]; simp⟩
/-- Between a path and its parent lies nothing. -/
theorem par_next {p q r : Txt} (h : p = q ++ 47 :: r) : ∃ d, par p = some d ∧ q.length ≤ d.length := by
  cases hp : par p with
  | none => exact absurd (par_none hp).1 (by rw [h]; simp)
  | some d =>
    refine ⟨d, rfl, ?_⟩
    obtain ⟨h1, h2⟩ := par_some hp
    rcases Nat.lt_or_ge d.length q.length with hl | hl
    · exfalso
      apply h2
      have : p[q.length]? = some 47 := by rw [h]; simp
      rw [h1, List.getElem?_append_right (by omega), show q.length - d.length = (q.length - d.length - 1) + 1 by omega, List.getElem?_cons_succ] at this
      exact List.mem_of_getElem? this
    · exact hl
end Go.Proofs.YtglcbikbmobdpaaDoorM
