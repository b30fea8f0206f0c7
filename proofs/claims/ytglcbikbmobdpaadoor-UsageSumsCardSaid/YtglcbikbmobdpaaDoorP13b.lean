/- Paths: parents, names, what is under what, and their order, in plain terms. -/
import Derived.Test.YtglcbikbmobdpaaDoorP13a
set_option linter.unusedSimpArgs false
set_option linter.unusedVariables false
-- 83
namespace Go.Proofs.YtglcbikbmobdpaaDoorM
open Go Go.RowKit

/-! ### The last / -/
def li (s : Txt) : Nat → Int
  | 0 => -1
  | n + 1 => if s[n]? = some 47 then n else li s n
def lastI (s : Txt) : Int := li s s.length
def par (s : Txt) : Option Txt := if lastI s < 0 then none else some (s.take (lastI s).toNat)
def bas (s : Txt) : Txt := s.drop (lastI s + 1).toNat
theorem li_spec (s : Txt) : ∀ n, n ≤ s.length → (li s n = -1 ∧ 47 ∉ s.take n) ∨ ∃ m : Nat, li s n = m ∧ m < n ∧ s[m]? = some 47 ∧ 47 ∉ (s.take n).drop (m + 1)
  | 0, _ => .inl ⟨rfl, by simp⟩
  | n + 1, hn => by
    have hlt : n < s.length := by omega
    have ht : s.take (n + 1) = s.take n ++ [s[n]] := by rw [List.take_add_one, List.getElem?_eq_getElem hlt]; rfl
    unfold li
    by_cases h : s[n]? = some 47
    · rw [if_pos h]
      exact .inr ⟨n, rfl, by omega, h, by rw [List.drop_of_length_le (by simp; omega)]; simp⟩
    · rw [if_neg h]
      have h' : s[n] ≠ 47 := fun e => h (by rw [List.getElem?_eq_getElem hlt, e])
      rcases li_spec s n (by omega) with ⟨h1, h2⟩ | ⟨m, h1, h2, h3, h4⟩
      · left
        refine ⟨h1, ?_⟩
        rw [ht]
        simp only [List.mem_append, List.mem_singleton, not_or]
        exact ⟨h2, fun e => h' e.symm⟩
      · right
        refine ⟨m, h1, by omega, h3, ?_⟩
        rw [ht, List.drop_append_of_le_length (by simp; omega)]
        simp only [List.mem_append, List.mem_singleton, not_or]
        exact ⟨h4, fun e => h' e.symm⟩
theorem lastI_spec (s : Txt) : (lastI s = -1 ∧ 47 ∉ s) ∨ ∃ m : Nat, lastI s = m ∧ m < s.length ∧ s = s.take m ++ 47 :: s.drop (m + 1) ∧ 47 ∉ s.drop (m + 1) := by
  rcases li_spec s s.length (Nat.le_refl _) with ⟨h1, h2⟩ | ⟨m, h1, h2, h3, h4⟩
  · exact .inl ⟨h1, by rwa [List.take_length] at h2⟩
  · refine .inr ⟨m, h1, h2, ?_, by rwa [List.take_length] at h4⟩
    have : s.drop m = 47 :: s.drop (m + 1) := by
      rw [List.drop_eq_getElem_cons h2]
      rw [List.getElem?_eq_getElem h2] at h3
      rw [Option.some.inj h3]
    rw [← this, List.take_append_drop]
theorem lastI_ge (s : Txt) : -1 ≤ lastI s := by
  rcases lastI_spec s with ⟨h, _⟩ | ⟨m, h, _⟩ <;> omega
theorem par_none {s : Txt} (h : par s = none) : 47 ∉ s ∧ bas s = s := by
  unfold par at h
  rcases lastI_spec s with ⟨h1, h2⟩ | ⟨m, h1, _⟩
  · exact ⟨h2, by unfold bas; rw [h1]; rfl⟩
  · rw [if_neg (by omega)] at h; cases h
theorem par_some {s d : Txt} (h : par s = some d) : s = d ++ 47 :: bas s ∧ 47 ∉ bas s := by
  unfold par at h
  rcases lastI_spec s with ⟨h1, h2⟩ | ⟨m, h1, h2, h3, h4⟩
  · rw [if_pos (by omega)] at h; cases h
  · rw [if_neg (by omega)] at h
    cases h
    have : bas s = s.drop (m + 1) := by unfold bas; rw [h1]; rfl
    rw [this, h1]
    exact ⟨h3, h4⟩
theorem par_len {s d : Txt} (h : par s = some d) : d.length < s.length := by
  have := congrArg List.length (par_some h).1
  simp at this; omega

/-- A loop that goes back to the last /. -/
theorem back_loop {ρ : Type} (s : Txt) (hs : s.length ≤ 100000) {step : Int × Unit → Option ((Int × Unit) ⊕ ρ)} (R : Int → ρ)
    (h1 : ∀ i : Nat, i < s.length → s[i]? = some 47 → step ((i : Int), ()) = some (.inr (R i))) (h2 : ∀ i : Nat, i < s.length → s[i]? ≠ some 47 → step ((i : Int), ()) = some (.inl ((i : Int) - 1, ()))) (h3 : step (-1, ()) = some (.inr (R (-1)))) :
    iter step NF (IntKind.i64.wrap ((s.length : Int) - 1), ()) = some (R (lastI s)) := by
  rw [w64 (by omega) (by omega)]
  have key := iter_eq (step := step) (fun st : Int × Unit => ∃ n : Nat, st.1 = (n : Int) - 1 ∧ n ≤ s.length) (fun st => (st.1 + 1).toNat) (fun st => R (li s (st.1 + 1).toNat)) (by
    rintro ⟨z, u⟩ ⟨n, hz, hn⟩
    simp only at hz
    subst hz
    cases n with
    | zero => exact .inr (by simpa [li] using h3)
    | succ n =>
      have e : (((n + 1 : Nat) : Int) - 1) = (n : Int) := by omega
      rw [e]
      have e2 : ((n : Int) + 1).toNat = n + 1 := by omega
      by_cases hc : s[n]? = some 47
      · right
        simp only [e2, li, hc, if_true]
        exact h1 n (by omega) hc
      · left
        refine ⟨_, h2 n (by omega) hc, ⟨n, rfl, by omega⟩, by simp only []; omega, ?_⟩
        have e3 : ((n : Int) - 1 + 1).toNat = n := by omega
        simp only [e2, e3, li, hc, if_false]) NF ((s.length : Int) - 1, ()) ⟨s.length, rfl, Nat.le_refl _⟩ (by show ((s.length : Int) - 1 + 1).toNat < NF; rw [NF_eq]; omega)
  rw [key]
  simp [lastI, show ((s.length : Int) - 1 + 1).toNat = s.length by omega]
theorem sl_at {s : Txt} {i : Nat} (hi : i < s.length) : ((s[i].toNat : Int) == 47) = decide (s[i]? = some 47) := by
  refine (show ((s[i].toNat : Int) == 47) = (s[i] == 47) from byte_eq (n := 47) (by omega)).trans ?_
  rw [List.getElem?_eq_getElem hi]
  rw [Bool.eq_iff_iff]; simp
theorem lastIndex_eq (s : Txt) (hs : s.length ≤ 100000) : F_strings_LastIndex s [47] = some (lastI s, ()) := by
  unfold F_strings_LastIndex F_internal_bytealg_LastIndexByteString
  have e0 : ((([47] : List UInt8).length : Int) == 0) = false := rfl
  have e1 : ((([47] : List UInt8).length : Int) == 1) = true := rfl
  have e2 : idxS [47] 0 = some 47 := rfl
  simp only [e0, e1, e2, cond_false, cond_true, Option.bind_some]
  rw [back_loop s hs (fun z => if z < 0 then Sum.inr () else Sum.inl (z, ()))]
  · rcases lastI_spec s with ⟨h1, _⟩ | ⟨m, h1, _⟩
    · rw [h1]; rfl
    · rw [h1, if_neg (by omega)]; rfl
  · intro i hi hc
    have c1 : decide ((i : Int) ≥ 0) = true := decide_eq_true (by omega)
    simp only [c1, cond_true, idxS_nat hi, Option.bind_some, sl_at hi, hc, decide_true]
    rw [if_neg (by omega)]
  · intro i hi hc
    have c1 : decide ((i : Int) ≥ 0) = true := decide_eq_true (by omega)
    simp only [c1, cond_true, idxS_nat hi, Option.bind_some, sl_at hi, hc, decide_false, cond_false]
    rw [w64 (by omega) (by omega)]
  · rfl
theorem parent_eq (s : Txt) (hs : s.length ≤ 100000) : F_route_Parent s = some ((par s).getD [], (par s).isSome, ()) := by
  unfold F_route_Parent par
  rw [lastIndex_eq s hs]
  simp only [Option.bind_some]
  rcases lastI_spec s with ⟨h1, _⟩ | ⟨m, h1, h2, _⟩
  · rw [h1]; rfl
  · have c1 : decide ((m : Int) < 0) = false := decide_eq_false (by omega)
    rw [h1, if_neg (by omega)]
    simp only [c1, cond_false]
    rw [show (0 : Int) = ((0 : Nat) : Int) from rfl, subS_nat (Nat.zero_le _) (by omega)]
    rfl
theorem refParent_eq (s : Txt) (hs : s.length ≤ 100000) : F_ref13_Parent s = some ((par s).getD [], (par s).isSome, ()) := by
  unfold F_ref13_Parent par
  rw [back_loop s hs (fun z => if z < 0 then Sum.inr () else Sum.inl (s.take z.toNat, ()))]
  · rcases lastI_spec s with ⟨h1, _⟩ | ⟨m, h1, _⟩
    · rw [h1]; rfl
    · rw [h1, if_neg (by omega), if_neg (by omega)]; rfl
  · intro i hi hc
    have c1 : decide ((i : Int) ≥ 0) = true := decide_eq_true (by omega)
    have h3 : subS s 0 (i : Int) = some (s.take i) := by rw [show (0 : Int) = ((0 : Nat) : Int) from rfl, subS_nat (Nat.zero_le _) (by omega)]; rfl
    simp only [c1, cond_true, idxS_nat hi, Option.bind_some, sl_at hi, hc, decide_true, h3]
    rw [if_neg (by omega)]; rfl
  · intro i hi hc
    have c1 : decide ((i : Int) ≥ 0) = true := decide_eq_true (by omega)
    simp only [c1, cond_true, idxS_nat hi, Option.bind_some, sl_at hi, hc, decide_false, cond_false]
    rw [w64 (by omega) (by omega)]
  · rfl
/-! ### Joined -/
def jo (d n : Txt) : Txt := if d = [] then n else d ++ 47 :: n
theorem jo_len (d n : Txt) : (jo d n).length ≤ d.length + n.length + 1 := by
  unfold jo
  split
  · omega
  · rw [List.length_append, List.length_cons]; omega

/-! ### In order -/
theorem cmpStr_eq (x y : Txt) : F_cmp_Compare_string x y = some (cB x y, ()) := by
  unfold F_cmp_Compare_string F_cmp_isNaN_string
  have e1 : (!(x == x)) = false := by simp
  have e2 : (!(y == y)) = false := by simp
  simp only [e1, e2, Option.bind_some, cond_false, bless_eq]
  have v := cB_ord.val x y
  have e := cB_ord.eq x y
  rcases v with v | v | v
  · simp [v]
  · have := e.1 v
    subst this
    simp [v]
  · have : x ≠ y := fun h => by have := e.2 h; omega
    have e3 : (x == y) = false := by simpa using this
    simp [v, e3]
def cP (a b : Txt) : Int := lexC cB (pts a) (pts b)
theorem lex_drop {α : Type} {c : α → α → Int} (h : OrdC c) {x y : List α} {i : Nat} (hx : i < x.length) (hy : i < y.length) : lexC c (x.drop i) (y.drop i) = if c x[i] y[i] = 0 then lexC c (x.drop (i + 1)) (y.drop (i + 1)) else c x[i] y[i] := by
  rw [List.drop_eq_getElem_cons hx, List.drop_eq_getElem_cons hy]; rfl
theorem lex_nilL {α : Type} {c : α → α → Int} {x y : List α} {i : Nat} (hx : x.length ≤ i) (hy : i < y.length) : lexC c (x.drop i) (y.drop i) = -1 := by
  rw [List.drop_of_length_le hx, List.drop_eq_getElem_cons hy]; rfl
theorem lex_nilR {α : Type} {c : α → α → Int} {x y : List α} {i : Nat} (hx : i < x.length) (hy : y.length ≤ i) : lexC c (x.drop i) (y.drop i) = 1 := by
  rw [List.drop_of_length_le hy, List.drop_eq_getElem_cons hx]; rfl
theorem lex_nil2 {α : Type} {c : α → α → Int} {x y : List α} {i : Nat} (hx : x.length ≤ i) (hy : y.length ≤ i) : lexC c (x.drop i) (y.drop i) = 0 := by
  rw [List.drop_of_length_le hy, List.drop_of_length_le hx]; rfl
theorem compL_eq (x y : List Txt) (hx : x.length ≤ 900000) (hy : y.length ≤ 900000) : F_slices_Compare_string_string x y = some (lexC cB x y, ()) := by
  unfold F_slices_Compare_string_string
  have key := iter_inv (step := fun v0 : Int × Unit => bif decide (v0.1 < (x.length : Int)) then ((idxL x v0.1).bind fun v1 => bif decide (v0.1 ≥ (y.length : Int)) then (some (Sum.inr (Sum.inl ((1 : Int), ())))) else ((idxL y v0.1).bind fun v2 => (F_cmp_Compare_string v1 v2).bind fun v3 => bif v3.1 != 0 then (some (.inr (.inl v3))) else (some (.inl (IntKind.i64.wrap (v0.1 + 1), ()))))) else (some (.inr (.inr ()))))
    (fun st : Int × Unit => ∃ i : Nat, st.1 = i ∧ i ≤ x.length ∧ i ≤ y.length ∧ lexC cB (x.drop i) (y.drop i) = lexC cB x y) (fun st => x.length - st.1.toNat)
    (fun r : (Int × Unit) ⊕ Unit => r = .inl (lexC cB x y, ()) ∨ (r = .inr () ∧ (if x.length < y.length then (-1 : Int) else 0) = lexC cB x y)) (by
    rintro ⟨z, u⟩ ⟨i, h1, h2, h3, h4⟩
    simp only at h1
    subst h1
    by_cases hi : i < x.length
    · have c1 : decide ((i : Int) < (x.length : Int)) = true := decide_eq_true (by omega)
      simp only [c1, cond_true, idxL_nat hi, Option.bind_some]
      by_cases hj : i < y.length
      · have c2 : decide ((i : Int) ≥ (y.length : Int)) = false := decide_eq_false (by omega)
        simp only [c2, cond_false, idxL_nat hj, Option.bind_some, cmpStr_eq]
        rw [lex_drop cB_ord hi hj] at h4
        by_cases h0 : cB x[i] y[i] = 0
        · left
          have c3 : (cB x[i] y[i] != 0) = false := by simp [h0]
          rw [if_pos h0] at h4
          simp only [c3, cond_false]
          refine ⟨_, rfl, ⟨i + 1, by simp only; rw [w64 (by omega) (by omega)]; rfl, by omega, by omega, h4⟩, ?_⟩
          simp only
          rw [w64 (by omega) (by omega)]; omega
        · right
          have c3 : (cB x[i] y[i] != 0) = true := by simp [h0]
          rw [if_neg h0] at h4
          simp only [c3, cond_true]
          exact ⟨_, rfl, .inl (by rw [h4])⟩
      · right
        have c2 : decide ((i : Int) ≥ (y.length : Int)) = true := decide_eq_true (by omega)
        simp only [c2, cond_true]
        rw [lex_nilR hi (by omega)] at h4
        exact ⟨_, rfl, .inl (by rw [h4])⟩
    · right
      have c1 : decide ((i : Int) < (x.length : Int)) = false := decide_eq_false (by omega)
      simp only [c1, cond_false]
      refine ⟨_, rfl, .inr ⟨rfl, ?_⟩⟩
      rw [← h4]
      split
      · rw [lex_nilL (by omega) (by omega)]
      · rw [lex_nil2 (by omega) (by omega)]) NF (0, ()) ⟨0, rfl, Nat.zero_le _, Nat.zero_le _, rfl⟩ (by rw [NF_eq]; simp; omega)
  obtain ⟨r, h1, h2⟩ := key
  rw [h1]
  rcases h2 with rfl | ⟨rfl, h2⟩
  · rfl
  · simp only [Option.bind_some, sumK]
    by_cases hl : x.length < y.length
    · have c1 : decide ((x.length : Int) < (y.length : Int)) = true := decide_eq_true (by omega)
      rw [if_pos hl] at h2
      rw [c1, ← h2]; rfl
    · have c1 : decide ((x.length : Int) < (y.length : Int)) = false := decide_eq_false (by omega)
      rw [if_neg hl] at h2
      rw [c1, ← h2]; rfl
theorem compare_eq (a b : Txt) (ha : a.length ≤ 100000) (hb : b.length ≤ 100000) : F_route_Compare a b = some (cP a b, ()) := by
  have la := pts_len a
  have lb := pts_len b
  unfold F_route_Compare
  rw [parts_eq a ha, parts_eq b hb]
  simp only [Option.bind_some]
  rw [compL_eq _ _ (by omega) (by omega)]; rfl
theorem refCompare_eq (a b : Txt) (ha : a.length ≤ 100000) (hb : b.length ≤ 100000) : F_ref13_Compare a b = some (cP a b, ()) := by
  have la := pts_len a
  have lb := pts_len b
  unfold F_ref13_Compare cP
  rw [refParts_eq a ha, refParts_eq b hb]
  simp only [Option.bind_some]
  generalize pts a = x at *
  generalize pts b = y at *
  have key := iter_inv (step := fun v2 : Int × List Txt × List Txt × Unit => bif decide (v2.1 < (v2.2.1.length : Int)) then (bif decide (v2.1 < (v2.2.2.1.length : Int)) then ((idxL v2.2.1 v2.1).bind fun v3 => (idxL v2.2.1 v2.1).bind fun v4 => (idxL v2.2.2.1 v2.1).bind fun v5 => (idxL v2.2.2.1 v2.1).bind fun v6 => bif Op.bytesLess v4 v6 then (some (Sum.inr (Sum.inl (((-1) : Int), ())))) else ((idxL v2.2.1 v2.1).bind fun v7 => (idxL v2.2.1 v2.1).bind fun v8 => (idxL v2.2.2.1 v2.1).bind fun v9 => (idxL v2.2.2.1 v2.1).bind fun v10 => bif !((Op.bytesLess v8 v10) || (v8 == v10)) then (some (.inr (.inl ((1 : Int), ())))) else (some (.inl (IntKind.i64.wrap (v2.1 + 1), v2.2))))) else (some (.inr (.inr v2.2)))) else (some (.inr (.inr v2.2))))
    (fun st : Int × List Txt × List Txt × Unit => st.2 = (x, y, ()) ∧ ∃ i : Nat, st.1 = i ∧ i ≤ x.length ∧ i ≤ y.length ∧ lexC cB (x.drop i) (y.drop i) = lexC cB x y) (fun st => x.length - st.1.toNat)
    (fun r : (Int × Unit) ⊕ (List Txt × List Txt × Unit) => r = .inl (lexC cB x y, ()) ∨ (r = .inr (x, y, ()) ∧ (if x.length < y.length then (-1 : Int) else if x.length > y.length then 1 else 0) = lexC cB x y)) (by
    rintro ⟨z, w⟩ ⟨h0, i, h1, h2, h3, h4⟩
    simp only at h0 h1
    subst h0; subst h1
    by_cases hi : i < x.length
    · have c1 : decide ((i : Int) < (x.length : Int)) = true := decide_eq_true (by omega)
      simp only [c1, cond_true]
      by_cases hj : i < y.length
      · have c2 : decide ((i : Int) < (y.length : Int)) = true := decide_eq_true (by omega)
        simp only [c2, cond_true, idxL_nat hi, idxL_nat hj, Option.bind_some, bless_eq]
        rw [lex_drop cB_ord hi hj] at h4
        have hv := cB_ord.val x[i] y[i]
        have he := cB_ord.eq x[i] y[i]
        rcases hv with hv | hv | hv
        · right
          rw [if_neg (by omega)] at h4
          simp only [hv, decide_true, cond_true]
          exact ⟨_, rfl, .inl (by rw [← h4, hv])⟩
        · left
          have := he.1 hv
          rw [if_pos hv] at h4
          have c3 : decide ((0 : Int) = -1) = false := rfl
          have c4 : (x[i] == y[i]) = true := by simp [this]
          simp only [hv, c3, c4, cond_false, Bool.false_or, Bool.not_true]
          refine ⟨_, rfl, ⟨rfl, i + 1, by simp only; rw [w64 (by omega) (by omega)]; rfl, by omega, by omega, h4⟩, ?_⟩
          simp only
          rw [w64 (by omega) (by omega)]; omega
        · right
          rw [if_neg (by omega)] at h4
          have c3 : decide ((1 : Int) = -1) = false := rfl
          have c4 : (x[i] == y[i]) = false := by
            simp only [beq_eq_false_iff_ne, ne_eq]; intro e; have := he.2 e; omega
          simp only [hv, c3, c4, cond_false, Bool.false_or, Bool.not_false, cond_true]
          exact ⟨_, rfl, .inl (by rw [← h4, hv])⟩
      · right
        have c2 : decide ((i : Int) < (y.length : Int)) = false := decide_eq_false (by omega)
        simp only [c2, cond_false]
        refine ⟨_, rfl, .inr ⟨rfl, ?_⟩⟩
        rw [if_neg (by omega), if_pos (by omega), ← h4, lex_nilR hi (by omega)]
    · right
      have c1 : decide ((i : Int) < (x.length : Int)) = false := decide_eq_false (by omega)
      simp only [c1, cond_false]
      refine ⟨_, rfl, .inr ⟨rfl, ?_⟩⟩
      rw [← h4]
      split
      · rw [lex_nilL (by omega) (by omega)]
      · rw [if_neg (by omega), lex_nil2 (by omega) (by omega)]) NF (0, x, y, ()) ⟨rfl, 0, rfl, Nat.zero_le _, Nat.zero_le _, rfl⟩ (by rw [NF_eq]; simp; omega)
  obtain ⟨r, h1, h2⟩ := key
  rw [h1]
  rcases h2 with rfl | ⟨rfl, h2⟩
  · rfl
  · simp only [Option.bind_some, sumK]
    by_cases hl : x.length < y.length
    · have c1 : decide ((x.length : Int) < (y.length : Int)) = true := decide_eq_true (by omega)
      rw [if_pos hl] at h2
      rw [c1, ← h2]; rfl
    · have c1 : decide ((x.length : Int) < (y.length : Int)) = false := decide_eq_false (by omega)
      rw [if_neg hl] at h2
      simp only [c1, cond_false]
      by_cases hg : x.length > y.length
      · have c2 : decide ((x.length : Int) > (y.length : Int)) = true := decide_eq_true (by omega)
        rw [if_pos hg] at h2
        rw [c2, ← h2]; rfl
      · have c2 : decide ((x.length : Int) > (y.length : Int)) = false := decide_eq_false (by omega)
        rw [if_neg hg] at h2
        rw [c2, ← h2]; rfl
end Go.Proofs.YtglcbikbmobdpaaDoorM
