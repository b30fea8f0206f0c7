/- Paths: what is under what; the laws of parts and of order. -/
import Derived.Test.YtglcbikbmobdpaaDoorP13b
import Derived.KernelRfl
import Derived.Lib.Join
set_option linter.unusedSimpArgs false
set_option linter.unusedVariables false
-- 83
namespace Go.Proofs.YtglcbikbmobdpaaDoorM
open Go Go.RowKit

def jn (l : List Txt) : Txt := Lib.join l [47]
theorem jn_nil : jn [] = [] := rfl
theorem jn_one (x : Txt) : jn [x] = x := Lib.join_one x _
theorem jn_two (x y : Txt) (r : List Txt) : jn (x :: y :: r) = x ++ 47 :: jn (y :: r) := by
  unfold jn; rw [Lib.join_cons, Lib.join_cons]; simp [Lib.joinTail]
theorem jn_byte (c : UInt8) (h : Txt) (t : List Txt) : jn ((c :: h) :: t) = c :: jn (h :: t) := by
  cases t with
  | nil => rw [jn_one, jn_one]
  | cons y r => rw [jn_two, jn_two]; rfl
theorem jn_sp : ∀ s : Txt, jn (sp s) = s
  | [] => rfl
  | c :: r => by
    have ih := jn_sp r
    obtain ⟨h, t, e⟩ := sp_cons r
    rw [e] at ih
    unfold sp
    by_cases hc : c = 47
    · subst hc
      rw [if_pos rfl, e, jn_two, ih]; rfl
    · rw [if_neg hc, e]
      simp only
      rw [jn_byte, ih]
theorem jn_app : ∀ (x y : List Txt), x ≠ [] → y ≠ [] → jn (x ++ y) = jn x ++ 47 :: jn y
  | [], _, h, _ => absurd rfl h
  | [a], y, _, h => by
    cases y with
    | nil => exact absurd rfl h
    | cons b r => rw [List.singleton_append, jn_two, jn_one]
  | a :: b :: x, y, _, h => by
    rw [List.cons_append, List.cons_append, jn_two, jn_two, ← List.cons_append, jn_app (b :: x) y (by simp) h]
    simp
theorem pts_inj {a b : Txt} (h : pts a = pts b) : a = b := by
  unfold pts at h
  split at h <;> split at h
  · rename_i h1 h2; rw [h1, h2]
  · exact absurd h.symm (sp_ne _)
  · exact absurd h (sp_ne _)
  · have := congrArg jn h; rwa [jn_sp, jn_sp] at this
theorem pts_nil {a : Txt} : pts a = [] ↔ a = [] := by
  unfold pts; split
  · simp_all
  · simp [sp_ne, *]
theorem cP_ord : OrdC cP := by
  have h := cB_ord.lex
  refine ⟨fun a b => h.val _ _, fun a b => ?_, fun a b => h.anti _ _, fun a b d => h.trans _ _ _⟩
  unfold cP; rw [h.eq]
  exact ⟨pts_inj, fun e => by rw [e]⟩

theorem hasPrefix_eq (a b : Txt) (ha : a.length ≤ 1000000) (hb : b.length ≤ 1000000) : F_strings_HasPrefix a b = some (b.isPrefixOf a, ()) := by
  unfold F_strings_HasPrefix F_internal_stringslite_HasPrefix
  by_cases h : b.length ≤ a.length
  · have c1 : decide ((a.length : Int) ≥ (b.length : Int)) = true := decide_eq_true (by omega)
    have h3 : subS a 0 (b.length : Int) = some (a.take b.length) := by rw [show (0 : Int) = ((0 : Nat) : Int) from rfl, subS_nat (Nat.zero_le _) (by omega)]; rfl
    simp only [c1, cond_true, h3, Option.bind_some]
    congr 2
    rw [Bool.eq_iff_iff]
    simp only [beq_iff_eq, List.isPrefixOf_iff_prefix]
    rw [List.prefix_iff_eq_take]
    exact ⟨fun e => e.symm, fun e => e.symm⟩
  · have c1 : decide ((a.length : Int) ≥ (b.length : Int)) = false := decide_eq_false (by omega)
    simp only [c1, cond_false, Option.bind_some]
    congr 2
    symm
    rw [Bool.eq_false_iff]
    intro e
    have := (List.isPrefixOf_iff_prefix.1 e).length_le
    omega
def und (p d : Txt) : Bool := if d = [] then !(p == []) else (d ++ [47]).isPrefixOf p
theorem und_iff (p d : Txt) : und p d = true ↔ ∃ t, t ≠ [] ∧ pts p = pts d ++ t := by
  unfold und
  split
  · rename_i h
    subst h
    have e0 : pts [] = [] := rfl
    rw [e0]
    simp only [List.nil_append]
    constructor
    · intro h
      exact ⟨pts p, fun e => by rw [pts_nil] at e; simp [e] at h, rfl⟩
    · rintro ⟨t, h1, h2⟩
      have : p ≠ [] := fun e => h1 (by rw [← h2, e]; rfl)
      simpa using this
  · rename_i h
    rw [List.isPrefixOf_iff_prefix]
    have ed : pts d = sp d := by unfold pts; rw [if_neg h]
    constructor
    · rintro ⟨r, rfl⟩
      have ep : pts (d ++ [47] ++ r) = sp (d ++ 47 :: r) := by
        unfold pts; rw [if_neg (by simp)]; simp
      rw [ep, ed, sp_join]
      exact ⟨sp r, sp_ne r, rfl⟩
    · rintro ⟨t, h1, h2⟩
      rw [ed] at h2
      have hp : p ≠ [] := fun e => by rw [e] at h2; exact sp_ne d (List.append_eq_nil_iff.1 h2.symm).1
      have ep : pts p = sp p := by unfold pts; rw [if_neg hp]
      rw [ep] at h2
      have := congrArg jn h2
      rw [jn_sp, jn_app _ _ (sp_ne d) h1, jn_sp] at this
      exact ⟨jn t, by rw [this]; simp⟩
theorem under_eq (p d : Txt) (hp : p.length ≤ 100000) (hd : d.length ≤ 100000) : F_route_Under p d = some (und p d, ()) := by
  unfold F_route_Under und
  by_cases h : d = []
  · subst h; rfl
  · have e : (d == ([] : List UInt8)) = false := by simpa using h
    rw [e, if_neg h]
    simp only [cond_false]
    rw [cat_eq d [47] (by simp; omega)]
    simp only [Option.bind_some]
    rw [hasPrefix_eq _ _ (by omega) (by simp; omega)]; rfl
theorem refUnder_eq (p d : Txt) (hp : p.length ≤ 100000) (hd : d.length ≤ 100000) : F_ref13_Under p d = some (und p d, ()) := by
  have la := pts_len p
  have lb := pts_len d
  have hu := und_iff p d
  unfold F_ref13_Under
  rw [refParts_eq p hp, refParts_eq d hd]
  simp only [Option.bind_some]
  generalize pts p = x at *
  generalize pts d = y at *
  by_cases hl : x.length ≤ y.length
  · have c1 : decide ((x.length : Int) ≤ (y.length : Int)) = true := decide_eq_true (by omega)
    simp only [c1, cond_true]
    congr 2
    symm
    rw [Bool.eq_false_iff]
    intro e
    obtain ⟨t, h1, rfl⟩ := hu.1 e
    rw [List.length_append] at hl
    exact h1 (List.eq_nil_of_length_eq_zero (by omega))
  · have c1 : decide ((x.length : Int) ≤ (y.length : Int)) = false := decide_eq_false (by omega)
    simp only [c1, cond_false]
    have key := iter_inv (step := fun v2 : Int × List Txt × List Txt × Unit => bif decide (v2.1 < (v2.2.2.1.length : Int)) then ((idxL v2.2.1 v2.1).bind fun v3 => (idxL v2.2.1 v2.1).bind fun v4 => (idxL v2.2.2.1 v2.1).bind fun v5 => (idxL v2.2.2.1 v2.1).bind fun v6 => bif !(v4 == v6) then (some (Sum.inr (Sum.inl ()))) else (some (.inl (IntKind.i64.wrap (v2.1 + 1), v2.2)))) else (some (.inr (.inr ()))))
      (fun st : Int × List Txt × List Txt × Unit => st.2 = (x, y, ()) ∧ ∃ i : Nat, st.1 = i ∧ i ≤ y.length ∧ x.take i = y.take i) (fun st => y.length - st.1.toNat)
      (fun r : Unit ⊕ Unit => (r = .inl () ∧ ¬ ∃ t, x = y ++ t) ∨ (r = .inr () ∧ x.take y.length = y)) (by
      rintro ⟨z, w⟩ ⟨h0, i, h1, h2, h3⟩
      simp only at h0 h1
      subst h0; subst h1
      by_cases hi : i < y.length
      · have c1 : decide ((i : Int) < (y.length : Int)) = true := decide_eq_true (by omega)
        have hx : i < x.length := by omega
        simp only [c1, cond_true, idxL_nat hi, idxL_nat hx, Option.bind_some]
        by_cases he : x[i] = y[i]
        · left
          have c2 : (!(x[i] == y[i])) = false := by simp [he]
          simp only [c2, cond_false]
          refine ⟨_, rfl, ⟨rfl, i + 1, by simp only; rw [w64 (by omega) (by omega)]; rfl, by omega, ?_⟩, ?_⟩
          · rw [List.take_add_one, List.take_add_one, h3, List.getElem?_eq_getElem hi, List.getElem?_eq_getElem hx, he]
          · simp only
            rw [w64 (by omega) (by omega)]; omega
        · right
          have c2 : (!(x[i] == y[i])) = true := by simp [he]
          simp only [c2, cond_true]
          refine ⟨_, rfl, .inl ⟨rfl, ?_⟩⟩
          rintro ⟨t, rfl⟩
          apply he
          rw [List.getElem_append_left hi]
      · right
        have c1 : decide ((i : Int) < (y.length : Int)) = false := decide_eq_false (by omega)
        simp only [c1, cond_false]
        refine ⟨_, rfl, .inr ⟨rfl, ?_⟩⟩
        have : i = y.length := by omega
        rw [this, List.take_length] at h3; exact h3) NF (0, x, y, ()) ⟨rfl, 0, rfl, Nat.zero_le _, by simp⟩ (by rw [NF_eq]; simp; omega)
    obtain ⟨r, h1, h2⟩ := key
    rw [h1]
    rcases h2 with ⟨rfl, h2⟩ | ⟨rfl, h2⟩
    · simp only [Option.bind_some, sumK]
      congr 2
      symm
      rw [Bool.eq_false_iff]
      intro e
      obtain ⟨t, _, h3⟩ := hu.1 e
      exact h2 ⟨t, h3⟩
    · simp only [Option.bind_some, sumK]
      congr 2
      symm
      refine hu.2 ⟨x.drop y.length, ?_, ?_⟩
      · intro e
        have := congrArg List.length e
        simp at this; omega
      · conv => lhs; rw [← List.take_append_drop y.length x, h2]

/-- What lies, in order, between a beginning and a text that begins so, begins so. -/
theorem lex_between {α : Type} {c : α → α → Int} (h : OrdC c) : ∀ (a b t : List α), lexC c a b = -1 → lexC c b (a ++ t) = -1 → ∃ r, r ≠ [] ∧ b = a ++ r
  | [], [], _, h1, _ => by cases h1
  | [], y :: b, _, _, _ => ⟨y :: b, by simp, rfl⟩
  | _ :: _, [], _, h1, _ => by cases h1
  | x :: a, y :: b, t, h1, h2 => by
    rw [List.cons_append] at h2
    unfold lexC at h1 h2
    have hv := h.val x y
    have ha := h.anti x y
    by_cases e : c x y = 0
    · have := (h.eq x y).1 e
      subst this
      rw [if_pos e] at h1 h2
      obtain ⟨r, r1, rfl⟩ := lex_between h a b t h1 h2
      exact ⟨r, r1, rfl⟩
    · rw [if_neg e] at h1
      rw [if_neg (by omega)] at h2
      omega
end Go.Proofs.YtglcbikbmobdpaaDoorM
