/- Usage: the first by bytes. -/
import Derived.Test.YtglcbikbmobdpaaDoorP45e
set_option linter.unusedSimpArgs false
set_option linter.unusedVariables false
namespace Go.Proofs.YtglcbikbmobdpaaDoorM
open Go Go.RowKit

def kU (u : Us) : Int := u.2.2.2.1
theorem top1_lt (a b : Us) : ∃ c : Int, F_usage_Top_1 a b = some (c, ()) ∧ (decide (c < 0) = decide (kU b < kU a)) := by
  unfold F_usage_Top_1 F_cmp_Compare_int F_cmp_isNaN_int
  have n1 : ∀ x : Int, (x != x) = false := fun x => by simp
  simp only [vS, n1, vF]
  show ∃ c : Int, (bif decide (kU b < kU a) then some (-1, ()) else bif decide (kU b > kU a) then some (1, ()) else some (0, ())).bind (fun v0 => some v0) = some (c, ()) ∧ _
  by_cases h1 : kU b < kU a
  · exact ⟨-1, by rw [decide_eq_true h1, vT, vS], by simp [h1]⟩
  · by_cases h2 : kU b > kU a
    · exact ⟨1, by rw [decide_eq_false h1, decide_eq_true h2, vF, vT, vS], by simp [h1]⟩
    · exact ⟨0, by rw [decide_eq_false h1, decide_eq_false h2, vF, vF, vS], by simp [h1]⟩
/-- One swap. -/
theorem swap_at (A B : List Us) (y x : Us) : ((A ++ y :: x :: B).set (A.length + 1) y).set A.length x = A ++ x :: y :: B := by
  simp [List.set_append]
/-- One element, moved forward past all that are less. -/
theorem sink_eq {step : Int × List Us × Unit → Option ((Int × List Us × Unit) ⊕ (List Us × Unit))} (x : Us)
    (s0 : ∀ l : List Us, step (0, l, ()) = some (.inr (l, ())))
    (s1 : ∀ (A B : List Us) (y : Us), A.length + B.length ≤ 1000 → step (((A.length + 1 : Nat) : Int), A ++ y :: x :: B, ()) = if kU y < kU x then some (.inl ((A.length : Int), A ++ x :: y :: B, ())) else some (.inr (A ++ y :: x :: B, ()))) :
    ∀ (L B : List Us) (n : Nat), L.length + B.length ≤ 999 → L.Pairwise (fun a b => kU b ≤ kU a) → L.length < n → iter step n ((L.length : Int), L ++ x :: B, ()) = some (insS kU x L ++ B, ()) := by
  refine snoc_ind (P := fun L => ∀ (B : List Us) (n : Nat), L.length + B.length ≤ 999 → L.Pairwise (fun a b => kU b ≤ kU a) → L.length < n → iter step n ((L.length : Int), L ++ x :: B, ()) = some (insS kU x L ++ B, ())) ?_ ?_
  · intro B n _ _ hn
    obtain ⟨n, rfl⟩ : ∃ j, n = j + 1 := ⟨n - 1, by omega⟩
    exact iter_inr (s0 _)
  · intro L y ih B n hB hs hn
    obtain ⟨n, rfl⟩ : ∃ j, n = j + 1 := ⟨n - 1, by omega⟩
    have hs' := List.pairwise_append.1 hs
    have e1 : (L ++ [y]).length = L.length + 1 := by simp
    have e2 : L ++ [y] ++ x :: B = L ++ y :: x :: B := by simp
    rw [e1, e2]
    have h1 := s1 L B y (by simp at hB; omega)
    by_cases hy : kU y < kU x
    · rw [if_pos hy] at h1
      rw [iter_inl h1, ih (y :: B) n (by simp at *; omega) hs'.1 (by simp at hn; omega)]
      have : insS kU x (L ++ [y]) = insS kU x L ++ [y] := by
        clear ih h1 hn hB e1 e2 hs
        induction L with
        | nil => show (if kU x ≤ kU y then _ else _) = _; rw [if_neg (by omega)]; rfl
        | cons z L ih2 =>
          have hz := List.pairwise_cons.1 hs'.1
          rw [List.cons_append]
          unfold insS
          split
          · rw [ih2 ⟨hz.2, hs'.2.1, fun a ha => hs'.2.2 a (List.mem_cons_of_mem _ ha)⟩]; rfl
          · rfl
      rw [this]; simp
    · rw [if_neg hy] at h1
      rw [iter_inr h1]
      have : insS kU x (L ++ [y]) = L ++ [y, x] := by
        have hall : ∀ z ∈ L, kU x ≤ kU z := fun z hz => by have := hs'.2.2 z hz y List.mem_cons_self; omega
        clear ih h1 hn hB e1 e2 hs hs'
        induction L with
        | nil => show (if kU x ≤ kU y then _ else _) = _; rw [if_pos (by omega)]; rfl
        | cons z L ih2 =>
          rw [List.cons_append]
          unfold insS
          rw [if_pos (hall z List.mem_cons_self), ih2 fun w hw => hall w (List.mem_cons_of_mem _ hw)]; rfl
      rw [this]; simp
/-- A block of 20 or fewer, sorted. -/
theorem insertion_eq (l : List Us) (b : Nat) (hb : b ≤ l.length) (hl : l.length ≤ 900) : F_slices_insertionSortCmpFunc_api_Usage__usage_Top_1 0 (b : Int) l = some (sortS kU (l.take b) ++ l.drop b, ()) := by
  unfold F_slices_insertionSortCmpFunc_api_Usage__usage_Top_1
  have w01 : IntKind.i64.wrap (0 + 1) = ((1 : Nat) : Int) := by rw [w64 (by omega) (by omega)]; rfl
  rw [w01]
  by_cases hb1 : b ≤ 1
  · refine vB (r := (l, ())) ?_ ?_
    · rw [NF_add1]
      refine iter_inr ?_
      have c1 : decide (((1 : Nat) : Int) < (b : Int)) = false := decide_eq_false (by omega)
      simp only [c1, vF]
    · show some (l, ()) = some (sortS kU (l.take b) ++ l.drop b, ())
      have : sortS kU (l.take b) = l.take b := by
        rcases b with _ | _ | b
        · rfl
        · rcases l with _ | ⟨a, l⟩
          · rfl
          · rfl
        · omega
      rw [this, List.take_append_drop]
  refine vB (r := (sortS kU (l.take b) ++ l.drop b, ())) ?_ rfl
  have hst : (((1 : Nat) : Int), l, ()) = (fun i : Nat => ((i : Int), sortS kU (l.take i) ++ l.drop i, ())) 1 := by
    have : sortS kU (l.take 1) = l.take 1 := by
      rcases l with _ | ⟨a, l⟩
      · rfl
      · rfl
    show _ = (((1 : Nat) : Int), sortS kU (l.take 1) ++ l.drop 1, ())
    rw [this, List.take_append_drop]
  rw [hst]
  refine iter_nat (fun i : Nat => ((i : Int), sortS kU (l.take i) ++ l.drop i, ())) b ?_ (b - 1) 1 NF (by omega) (fun j h1 h2 => ?_) (by rw [NF_eq]; omega)
  · simp only [ge_c (Nat.lt_irrefl _), vF]
  · have hj : j < l.length := by omega
    have e1 : sortS kU (l.take j) ++ l.drop j = sortS kU (l.take j) ++ l[j] :: l.drop (j + 1) := by rw [List.drop_eq_getElem_cons hj]
    have hlen : (sortS kU (l.take j)).length = j := by rw [sortS_len, List.length_take]; omega
    have e2 : sortS kU (l.take (j + 1)) = insS kU l[j] (sortS kU (l.take j)) := by rw [List.take_succ_eq_append_getElem hj, sortS_snoc]
    simp only [lt_c h2, vT, w1 (show j ≤ 1000000 by omega)]
    have hst := (sortS_sts kU (l.take j)).srt
    rw [e1, e2]
    generalize sortS kU (l.take j) = S at *
    refine vB (r := (insS kU l[j] S ++ l.drop (j + 1), ())) ?_ rfl
    subst hlen
    refine sink_eq l[S.length] ?_ ?_ S (l.drop (S.length + 1)) NF (by simp; omega) hst (by rw [NF_eq]; omega)
    · intro l'
      simp only [show decide ((0 : Int) > 0) = false from rfl, vF]
    · intro A B y hAB
      have c1 : decide (((A.length + 1 : Nat) : Int) > 0) = true := decide_eq_true (by omega)
      have hA : A.length < (A ++ y :: l[S.length] :: B).length := by simp
      have hA1 : A.length + 1 < (A ++ y :: l[S.length] :: B).length := by simp
      have i1 : idxL (A ++ y :: l[S.length] :: B) ((A.length + 1 : Nat) : Int) = some l[S.length] := by rw [idxL_nat hA1]; simp [List.getElem_append]
      have i0 : idxL (A ++ y :: l[S.length] :: B) (A.length : Int) = some y := by rw [idxL_nat hA]; simp [List.getElem_append]
      have e3 : IntKind.i64.wrap (((A.length + 1 : Nat) : Int) - 1) = (A.length : Int) := by rw [w64 (by omega) (by omega)]; omega
      obtain ⟨c, hc, hc2⟩ := top1_lt l[S.length] y
      have i2 : idxL (oSet (A ++ y :: l[S.length] :: B) ((A.length + 1 : Nat) : Int) y) (A.length : Int) = some y := by
        rw [idxL_nat (by simp)]; simp [List.getElem_set, List.getElem_append]
      simp only [c1, vT, i1, vS, e3, i0, hc, hc2]
      by_cases hk : kU y < kU l[S.length]
      · rw [decide_eq_true hk, vT, if_pos hk, i2, vS, vS]
        exact congrArg (fun z => some (Sum.inl ((A.length : Int), z, ()))) (swap_at A B y l[S.length])
      · rw [decide_eq_false hk, vF, if_neg hk]
/-- The 21st, put in its place among 20 that are sorted. -/
theorem symMerge_eq (l : List Us) (hl : l.length = 21) (hs : (l.take 20).Pairwise (fun a b => kU b ≤ kU a)) : F_slices_symMergeCmpFunc_api_Usage__usage_Top_1 0 20 21 l = some (insS kU (l[20]'(by omega)) (l.take 20), ()) := by
  unfold F_slices_symMergeCmpFunc_api_Usage__usage_Top_1
  have c1 : (IntKind.i64.wrap (20 - 0) == 1) = false := by rw [w64 (by omega) (by omega)]; rfl
  have c2 : (IntKind.i64.wrap (21 - 20) == 1) = true := by rw [w64 (by omega) (by omega)]; rfl
  rw [c1, vF, c2, vT]
  have h20 : 20 < l.length := by omega
  obtain ⟨m, m1, m2, m3, m4⟩ := insS_split kU l[20] (l.take 20)
  rw [List.length_take, hl] at m1
  have m1 : m ≤ 20 := m1
  have at_ : ∀ i (hi : i < 20), (l.take 20)[i]'(by rw [List.length_take]; omega) = l[i]'(by omega) := fun i hi => List.getElem_take
  have up : ∀ i (hi : i < 20), (kU (l[i]'(by omega)) < kU l[20]) ↔ m ≤ i := fun i hi => by
    constructor
    · intro h
      rcases Nat.lt_or_ge i m with h2 | h2
      · have := m3 i (by rw [List.length_take]; omega) h2
        rw [at_ i hi] at this; omega
      · exact h2
    · intro h
      have hm : m < (l.take 20).length := by rw [List.length_take]; omega
      have h3 := m4 hm
      rcases Nat.lt_or_ge m i with h4 | h4
      · have := List.pairwise_iff_getElem.1 hs m i hm (by rw [List.length_take]; omega) h4
        rw [at_ i hi] at this
        omega
      · obtain rfl : i = m := by omega
        rw [at_ i hi] at h3; exact h3
  refine vB (r := ((m : Int), (l, ()))) ?_ ?_
  · refine iter_eq (fun st => ∃ i j : Nat, st = ((i : Int), ((j : Int), (l, ()))) ∧ i ≤ m ∧ m ≤ j ∧ j ≤ 20) (fun st => (st.2.1 - st.1).toNat) (fun _ => ((m : Int), (l, ()))) ?_ NF _ ⟨0, 20, rfl, Nat.zero_le _, m1, Nat.le_refl _⟩ (by rw [NF_eq]; simp)
    rintro _ ⟨i, j, rfl, h1, h2, h3⟩
    by_cases hij : i < j
    rotate_left
    · right
      have : i = m := by omega
      simp only [ge_c hij, vF]
      rw [this]
    left
    have hh : (i + j) / 2 < 20 := by omega
    have e1 : IntKind.i64.wrap ((i : Int) + (j : Int)) = ((i + j : Nat) : Int) := by rw [w64 (by omega) (by omega)]; omega
    have e2 : IntKind.u64.wrap ((i + j : Nat) : Int) = ((i + j : Nat) : Int) := by
      show ((i + j : Nat) : Int) % _ = _
      exact Int.emod_eq_of_lt (by omega) (by have : IntKind.u64.bits = 64 := rfl; simp [this]; omega)
    have e3 : shrI ((i + j : Nat) : Int) .u64 1 = some (((i + j) / 2 : Nat) : Int) := by
      unfold shrI
      rw [if_neg (by omega)]
      have : min (1 : Int).toNat IntKind.u64.bits = 1 := rfl
      rw [this, Int.fdiv_eq_ediv_of_nonneg _ (by omega)]
      congr 1
    have e4 : IntKind.i64.wrap (((i + j) / 2 : Nat) : Int) = (((i + j) / 2 : Nat) : Int) := w64 (by omega) (by omega)
    have hh2 : (i + j) / 2 < l.length := by omega
    obtain ⟨c, hc, hc2⟩ := top1_lt l[20] l[(i + j) / 2]
    have i20 : idxL l 20 = some l[20] := idxL_nat h20
    simp only [lt_c hij, vT, e1, e2, e3, e4, vS, i20, idxL_nat hh2, hc, hc2, w1 (show (i + j) / 2 ≤ 1000000 by omega)]
    by_cases hk : kU l[(i + j) / 2] < kU l[20]
    · have := (up _ hh).1 hk
      rw [decide_eq_true hk]
      exact ⟨_, rfl, ⟨i, (i + j) / 2, rfl, h1, this, by omega⟩, by simp only; omega, trivial⟩
    · have : ¬ m ≤ (i + j) / 2 := fun h => hk ((up _ hh).2 h)
      rw [decide_eq_false hk]
      exact ⟨_, rfl, ⟨(i + j) / 2 + 1, j, rfl, by omega, h2, h3⟩, by simp only; omega, trivial⟩
  · rw [m2]
    have e0 : l = l.take 20 ++ [l[20]] := by
      conv => lhs; rw [← List.take_append_drop 20 l, List.drop_eq_getElem_cons h20, List.drop_of_length_le (by omega)]
    clear at_ up m3 m4 m2 hs
    generalize l[20] = x at *
    have hA : (l.take 20).length = 20 := by rw [List.length_take]; omega
    generalize l.take 20 = A at *
    subst e0
    have hst : ((20 : Int), (A ++ [x], ())) = (fun i : Nat => (((20 - i : Nat) : Int), (A.take (20 - i) ++ x :: A.drop (20 - i), ()))) 0 := by
      show _ = (((20 : Nat) : Int), (A.take 20 ++ x :: A.drop 20, ()))
      rw [List.take_of_length_le (by omega), List.drop_of_length_le (by omega)]; rfl
    refine vB (r := (A.take m ++ x :: A.drop m, ())) ?_ rfl
    simp only []
    rw [hst]
    refine iter_nat (fun i : Nat => (((20 - i : Nat) : Int), (A.take (20 - i) ++ x :: A.drop (20 - i), ()))) (20 - m) ?_ (20 - m) 0 NF (by omega) (fun j h1 h2 => ?_) (by rw [NF_eq]; omega)
    · have e : 20 - (20 - m) = m := by omega
      have c3 : decide ((m : Int) > (m : Int)) = false := decide_eq_false (by omega)
      simp only [e, c3, vF]
    · obtain ⟨q, hq⟩ : ∃ q, 20 - j = q + 1 := ⟨19 - j, by omega⟩
      have hq2 : 20 - (j + 1) = q := by omega
      have c3 : decide (((q + 1 : Nat) : Int) > (m : Int)) = true := decide_eq_true (by omega)
      have e3 : IntKind.i64.wrap (((q + 1 : Nat) : Int) - 1) = (q : Int) := by rw [w64 (by omega) (by omega)]; omega
      have hqA : q < A.length := by omega
      have eA : A.take (q + 1) ++ x :: A.drop (q + 1) = A.take q ++ A[q] :: x :: A.drop (q + 1) := by
        rw [List.take_succ_eq_append_getElem hqA, List.append_assoc]; rfl
      have eB : A.take q ++ x :: A.drop q = A.take q ++ x :: A[q] :: A.drop (q + 1) := by rw [List.drop_eq_getElem_cons hqA]
      have hlq : (A.take q).length = q := by rw [List.length_take]; omega
      simp only [hq, hq2, eA, eB]
      generalize A.take q = P at *
      generalize A.drop (q + 1) = Q at *
      generalize A[q] = y at *
      subst hlq
      have i1 : idxL (P ++ y :: x :: Q) ((P.length + 1 : Nat) : Int) = some x := by rw [idxL_nat (by simp)]; simp [List.getElem_append]
      have i0 : idxL (P ++ y :: x :: Q) (P.length : Int) = some y := by rw [idxL_nat (by simp)]; simp [List.getElem_append]
      have i2 : idxL (oSet (P ++ y :: x :: Q) ((P.length + 1 : Nat) : Int) y) (P.length : Int) = some y := by
        rw [idxL_nat (by simp)]; simp [List.getElem_set, List.getElem_append]
      simp only [c3, vT, e3, i0, i1, i2, vS]
      exact congrArg (fun z => some (Sum.inl ((P.length : Int), z, ()))) (swap_at P Q y x)

theorem stable_eq (l : List Us) (hl : l.length ≤ 21) : F_slices_SortStableFunc_api_Usage_api_Usage__usage_Top_1 l = some (sortS kU l, ()) := by
  unfold F_slices_SortStableFunc_api_Usage_api_Usage__usage_Top_1 F_slices_stableCmpFunc_api_Usage__usage_Top_1
  have one : ∀ (b : Nat) (l : List Us), b ≤ 21 → F_slices_insertionSortCmpFunc_api_Usage__usage_Top_1 20 (b : Int) l = some (l, ()) := fun b l hb => by
    unfold F_slices_insertionSortCmpFunc_api_Usage__usage_Top_1
    have w21 : IntKind.i64.wrap (20 + 1) = 21 := by rw [w64 (by omega) (by omega)]; rfl
    rw [w21]
    refine vB (r := (l, ())) ?_ rfl
    rw [NF_add1]
    refine iter_inr ?_
    have c1 : decide ((21 : Int) < (b : Int)) = false := decide_eq_false (by omega)
    simp only [c1, vF]
  by_cases h20 : l.length < 20
  · have s1 := insertion_eq l l.length (Nat.le_refl _) (by omega)
    rw [List.take_length, List.drop_length, List.append_nil] at s1
    have c1 : decide ((20 : Int) ≤ (l.length : Int)) = false := decide_eq_false (by omega)
    have c2 : decide ((20 : Int) < (l.length : Int)) = false := decide_eq_false (by omega)
    refine vB (vB (r := (0, (l, ()))) ?_ (vB s1 (vB (r := (sortS kU l, ())) ?_ rfl))) rfl
    · rw [NF_add1]; refine iter_inr ?_; simp only [c1, vF]
    · rw [NF_add1]; refine iter_inr ?_; simp only [c2, vF]
  have s1 := insertion_eq l 20 (by omega) (by omega)
  have a1 : ∀ l' : List Us, l'.length = l.length → ∃ r, r = (20, (l', ())) ∧ True := fun l' _ => ⟨_, rfl, trivial⟩
  have c1 : decide ((20 : Int) ≤ (l.length : Int)) = true := decide_eq_true (by omega)
  have c2 : decide ((40 : Int) ≤ (l.length : Int)) = false := decide_eq_false (by omega)
  have w40 : IntKind.i64.wrap (20 + 20) = 40 := by rw [w64 (by omega) (by omega)]; rfl
  have w40' : IntKind.i64.wrap (2 * 20) = 40 := by rw [w64 (by omega) (by omega)]; rfl
  have w40'' : IntKind.i64.wrap (20 * 2) = 40 := by rw [w64 (by omega) (by omega)]; rfl
  have s1' : F_slices_insertionSortCmpFunc_api_Usage__usage_Top_1 0 20 l = some (sortS kU (l.take 20) ++ l.drop 20, ()) := s1
  have first : iter (fun v0 : Int × Int × List Us × Unit => bif decide (v0.2.1 ≤ (l.length : Int)) then ((F_slices_insertionSortCmpFunc_api_Usage__usage_Top_1 v0.1 v0.2.1 v0.2.2.1).bind fun v1 => some (.inl (v0.2.1, (IntKind.i64.wrap (v0.2.1 + 20), v1)))) else (some (.inr (v0.1, v0.2.2)))) NF ((0 : Int), ((20 : Int), (l, ()))) = some (20, (sortS kU (l.take 20) ++ l.drop 20, ())) := by
    rw [NF_add1, iter_inl (s' := (20, (40, (sortS kU (l.take 20) ++ l.drop 20, ()))))]
    · rw [show 999999 = 999998 + 1 from rfl]
      refine iter_inr ?_
      simp only [c2, vF]
    · simp only [c1, vT, s1', vS, w40]
  by_cases h21 : l.length = 20
  · have c3 : decide ((20 : Int) < (l.length : Int)) = false := decide_eq_false (by omega)
    have e : sortS kU (l.take 20) ++ l.drop 20 = sortS kU l := by rw [List.take_of_length_le (by omega), List.drop_of_length_le (by omega), List.append_nil]
    refine vB (vB first (vB (one l.length _ (by omega)) (vB (r := (sortS kU l, ())) ?_ rfl))) rfl
    rw [NF_add1]; refine iter_inr ?_; simp only [c3, vF, e]
  have h21 : l.length = 21 := by omega
  have hx : 20 < l.length := by omega
  have hlS : (sortS kU (l.take 20)).length = 20 := by rw [sortS_len, List.length_take]; omega
  have el : sortS kU (l.take 20) ++ l.drop 20 = sortS kU (l.take 20) ++ [l[20]] := by rw [List.drop_eq_getElem_cons hx, List.drop_of_length_le (by omega)]
  have et : (sortS kU (l.take 20) ++ [l[20]]).take 20 = sortS kU (l.take 20) := by rw [List.take_left' hlS]
  have eg : (sortS kU (l.take 20) ++ [l[20]])[20]'(by simp; omega) = l[20] := by rw [List.getElem_append_right (by omega)]; simp [hlS]
  have sm := symMerge_eq (sortS kU (l.take 20) ++ [l[20]]) (by simp; omega) (by rw [et]; exact (sortS_sts kU _).srt)
  rw [et, eg] at sm
  have fin : sortS kU l = insS kU l[20] (sortS kU (l.take 20)) := by
    conv => lhs; rw [← List.take_append_drop 20 l, List.drop_eq_getElem_cons hx, List.drop_of_length_le (by omega)]
    rw [sortS_snoc]
  have c3 : decide ((20 : Int) < (l.length : Int)) = true := decide_eq_true (by omega)
  have c4 : decide ((40 : Int) < (l.length : Int)) = false := decide_eq_false (by omega)
  refine vB (vB first (vB (one l.length _ (by omega)) (vB (r := (sortS kU l, ())) ?_ rfl))) rfl
  rw [NF_add1, iter_inl (s' := (40, (sortS kU l, ())))]
  · rw [show 999999 = 999998 + 1 from rfl]
    refine iter_inr ?_
    simp only [c4, vF]
  · simp only [c3, vT, w40', el]
    have c5 : decide ((20 : Int) < (l.length : Int)) = true := c3
    have w20 : IntKind.i64.wrap (0 + 20) = 20 := by rw [w64 (by omega) (by omega)]; rfl
    have hl21 : (l.length : Int) = 21 := by omega
    refine vB (r := ((0 : Int), (sortS kU (l.take 20) ++ [l[20]], ()))) ?_ ?_
    · refine iter_inr ?_; simp only [c2, vF]
    refine vB (r := (sortS kU l, ())) ?_ ?_
    · simp only [w20, c3, vT]
      rw [hl21, sm, vS, fin]
    · simp only [w40'']
end Go.Proofs.YtglcbikbmobdpaaDoorM
