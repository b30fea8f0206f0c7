/- Layer 19 in plain terms: end records that are put, and found again. -/
import Derived.Test.YtikkpmmhejjpaaaEAP19
set_option linter.unusedSimpArgs false
set_option linter.unusedVariables false
namespace Go.Proofs.YtikkpmmhejjpaaaM
open Go Go.RowKit

theorem L_p64 (l : List Int) (hl : l.length ≤ 100) : ∀ (k i n : Nat) (acc : List UInt8), i + k = l.length → acc.length ≤ 8 * i → k < n → iter (L_end_p64_1 l) n (acc, (i : Int)) = some (acc ++ (l.drop i).flatMap fun x => put x 8) := by
  intro k
  induction k with
  | zero =>
    intro i n acc hi ha hn
    obtain ⟨n, rfl⟩ : ∃ j, n = j + 1 := ⟨n - 1, by omega⟩
    refine iter_inr ?_
    unfold L_end_p64_1
    rw [if_neg (by simp only; omega), List.drop_of_length_le (by omega)]
    simp
  | succ k ih =>
    intro i n acc hi ha hn
    obtain ⟨n, rfl⟩ : ∃ j, n = j + 1 := ⟨n - 1, by omega⟩
    have wi : IntKind.i64.wrap ((i : Int) + 1) = ((i + 1 : Nat) : Int) := by rw [wrap_i64 (by omega) (by omega)]; omega
    have h1 : idxL l (i : Int) = some (l[i]'(by omega)) := by
      unfold idxL; rw [if_pos (by omega), Int.toNat_natCast, List.getElem?_eq_getElem (by omega)]
    have h2 := P64_eq (l[i]'(by omega))
    have hp := put_len (l[i]'(by omega)) 8
    have h3 : cat acc (put (l[i]'(by omega)) 8) = some (acc ++ put (l[i]'(by omega)) 8) := cat_eq _ _ (by omega)
    have step : L_end_p64_1 l (acc, (i : Int)) = some (.inl (acc ++ put (l[i]'(by omega)) 8, ((i + 1 : Nat) : Int))) := by
      unfold L_end_p64_1
      rw [if_pos (by simp only; omega)]
      simp only [h1, h2, h3, Option.bind_some, wi]
    rw [iter_inl step, ih (i + 1) n _ (by omega) (by simp; omega) (by omega), List.drop_eq_getElem_cons (by omega : i < l.length), List.flatMap_cons, List.append_assoc]
theorem p64_eq (l : List Int) (hl : l.length ≤ 100) : F_end_p64 l = some (l.flatMap fun x => put x 8) := by
  unfold F_end_p64
  have := L_p64 l hl l.length 0 NF [] (by omega) (by simp) (by rw [NF_eq]; omega)
  rw [show ((0 : Nat) : Int) = 0 from rfl] at this
  rw [this]; simp

theorem fits_eq (n m : Int) : F_end_fits n m = some (decide (0 ≤ n ∧ n ≤ m)) := by
  unfold F_end_fits
  by_cases c : n ≥ 0
  · simp [c]
  · simp [c]
theorem rin_eq (n m : Int) : F_ref19_in n m = some (decide (0 ≤ n ∧ n ≤ m)) := fits_eq n m

/-- May an end record be put? -/
def endOK (x : Gapi_End) : Prop :=
  (0 ≤ x.xCount ∧ x.xCount ≤ if x.xWide then 1099511627776 else 65534) ∧ (0 ≤ x.xSize ∧ x.xSize ≤ if x.xWide then 1099511627776 else 4294967294) ∧ (0 ≤ x.xOffset ∧ x.xOffset ≤ if x.xWide then 1099511627776 else 4294967294) ∧
    x.xAt = IntKind.i64.wrap (x.xOffset + x.xSize) ∧ (x.xComment.length : Int) ≤ 65535
instance (x : Gapi_End) : Decidable (endOK x) := by unfold endOK; infer_instance

/-- The short record's bytes. -/
def rec22 (c n o : Int) (m : List UInt8) : List UInt8 := put 101010256 4 ++ (put 0 4 ++ (put c 2 ++ (put c 2 ++ (put n 4 ++ (put o 4 ++ (put m.length 2 ++ m))))))
/-- The wide one's, with the locator. -/
def rec76 (x : Gapi_End) : List UInt8 := put 101075792 4 ++ (put 44 8 ++ (put 45 2 ++ (put 45 2 ++ (put 0 8 ++ (put x.xCount 8 ++ (put x.xCount 8 ++ (put x.xSize 8 ++ (put x.xOffset 8 ++ (put 117853008 4 ++ (put 0 4 ++ (put x.xAt 8 ++ put 1 4)))))))))))
def endB (x : Gapi_End) : List UInt8 := if x.xWide then rec76 x ++ rec22 65535 4294967295 4294967295 x.xComment else rec22 x.xCount x.xSize x.xOffset x.xComment

theorem RPut4c (c : Int) (h : IntKind.u64.wrap c = c) : F_ref02_Put c 4 = some (put c 4) := by have := RPut4 c; rwa [h] at this
theorem RPut2c (c : Int) (h : IntKind.u64.wrap c = c) : F_ref02_Put c 2 = some (put c 2) := by have := RPut2 c; rwa [h] at this
theorem RPut8c (c : Int) (h : IntKind.u64.wrap c = c) : F_ref02_Put c 8 = some (put c 8) := by have := RPut8 c; rwa [h] at this

theorem EPut_eq (x : Gapi_End) (hc : x.xComment.length ≤ 1000) : F_end_Put x = some (if endOK x then (endB x, 0) else ([], 1)) := by
  have hr : F_end_right x = some (decide (endOK x)) := by
    unfold F_end_right
    cases hw : x.xWide
    · simp only [Bool.false_eq_true, if_false, Option.bind_some, fits_eq]
      by_cases a1 : 0 ≤ x.xCount ∧ x.xCount ≤ 65534 <;> by_cases a2 : 0 ≤ x.xSize ∧ x.xSize ≤ 4294967294 <;> by_cases a3 : 0 ≤ x.xOffset ∧ x.xOffset ≤ 4294967294 <;> by_cases a4 : x.xAt = IntKind.i64.wrap (x.xOffset + x.xSize) <;> simp [endOK, hw, a1, a2, a3, a4]
    · simp only [if_true, Option.bind_some, fits_eq]
      by_cases a1 : 0 ≤ x.xCount ∧ x.xCount ≤ 1099511627776 <;> by_cases a2 : 0 ≤ x.xSize ∧ x.xSize ≤ 1099511627776 <;> by_cases a3 : 0 ≤ x.xOffset ∧ x.xOffset ≤ 1099511627776 <;> by_cases a4 : x.xAt = IntKind.i64.wrap (x.xOffset + x.xSize) <;> simp [endOK, hw, a1, a2, a3, a4]
  unfold F_end_Put
  rw [hr]
  by_cases h : endOK x
  · rw [if_pos h]
    have l4 := fun v => put_len v 4
    have l2 := fun v => put_len v 2
    have l8 := fun v => put_len v 8
    cases hw : x.xWide
    · simp (disch := simp only [List.length_append, List.length_nil, l4, l2, l8]; omega) only [decide_eq_true h, Option.bind_some, Bool.not_true, Bool.false_eq_true, if_false, P32_eq, P16_eq, cat_eq]
      simp [endB, hw, rec22]
    · simp (disch := simp only [List.length_append, List.length_nil, List.length_flatMap, List.map_cons, List.map_nil, List.sum_cons, List.sum_nil, l4, l2, l8, List.length_cons]; omega) only [decide_eq_true h, Option.bind_some, Bool.not_true, Bool.false_eq_true, if_false, if_true, P32_eq, P16_eq, p64_eq, cat_eq]
      simp [endB, hw, rec22, rec76]
  · rw [if_neg h]; simp [h]

theorem RefPut_eq (x : Gapi_End) (hc : x.xComment.length ≤ 1000) : F_ref19_Put x = some (if endOK x then (endB x, 0) else ([], 1)) := by
  have hwr : IntKind.u64.wrap (x.xComment.length : Int) = x.xComment.length := by rw [wrap_u64]; omega
  unfold F_ref19_Put
  have l4 := fun v => put_len v 4
  have l2 := fun v => put_len v 2
  have l8 := fun v => put_len v 8
  have k1 := RPut4c 101010256 (by decide)
  have k2 := RPut4c 0 (by decide)
  have k3 := RPut4c 101075792 (by decide)
  have k4 := RPut8c 44 (by decide)
  have k5 := RPut2c 45 (by decide)
  have k6 := RPut8c 0 (by decide)
  have k7 := RPut4c 117853008 (by decide)
  have k8 := RPut4c 1 (by decide)
  cases hw : x.xWide
  · simp only [Bool.false_eq_true, if_false, Option.bind_some, rin_eq]
    have key : endOK x ↔ (0 ≤ x.xCount ∧ x.xCount ≤ 65534) ∧ (0 ≤ x.xSize ∧ x.xSize ≤ 4294967294) ∧ (0 ≤ x.xOffset ∧ x.xOffset ≤ 4294967294) ∧ x.xAt = IntKind.i64.wrap (x.xOffset + x.xSize) := by
      unfold endOK; rw [hw]; simp; omega
    by_cases h : endOK x
    · rw [if_pos h]
      obtain ⟨a1, a2, a3, a4⟩ := key.1 h
      have a5 : ¬ (x.xComment.length : Int) > 65535 := by omega
      simp (disch := simp only [List.length_append, List.length_nil, l4, l2, l8]; omega) only [decide_eq_true a1, decide_eq_true a2, decide_eq_true a3, Bool.not_true, Bool.false_eq_true, if_false, Option.bind_some, ← a4, bne_self_eq_false, decide_eq_false a5, k1, k2, RPut2, RPut4, cat_eq]
      simp [endB, hw, rec22]
    · rw [if_neg h]
      have : ∀ b : Bool, b = true → (if b = true then some (([] : List UInt8), (1 : Int)) else none) = some ([], 1) := fun b hb => by rw [hb]; rfl
      by_cases a1 : 0 ≤ x.xCount ∧ x.xCount ≤ 65534 <;> by_cases a2 : 0 ≤ x.xSize ∧ x.xSize ≤ 4294967294 <;> by_cases a3 : 0 ≤ x.xOffset ∧ x.xOffset ≤ 4294967294 <;> by_cases a4 : x.xAt = IntKind.i64.wrap (x.xOffset + x.xSize) <;> first | exact absurd (key.2 ⟨a1, a2, a3, a4⟩) h | simp [a1, a2, a3, a4]
  · simp only [if_true, Option.bind_some, rin_eq]
    have key : endOK x ↔ (0 ≤ x.xCount ∧ x.xCount ≤ 1099511627776) ∧ (0 ≤ x.xSize ∧ x.xSize ≤ 1099511627776) ∧ (0 ≤ x.xOffset ∧ x.xOffset ≤ 1099511627776) ∧ x.xAt = IntKind.i64.wrap (x.xOffset + x.xSize) := by
      unfold endOK; rw [hw]; simp; omega
    by_cases h : endOK x
    · rw [if_pos h]
      obtain ⟨a1, a2, a3, a4⟩ := key.1 h
      have a5 : ¬ (x.xComment.length : Int) > 65535 := by omega
      have w1 : IntKind.u64.wrap (65535 : Int) = 65535 := by decide
      have w2 : IntKind.u64.wrap (4294967295 : Int) = 4294967295 := by decide
      simp (disch := simp only [List.length_append, List.length_nil, l4, l2, l8]; omega) only [decide_eq_true a1, decide_eq_true a2, decide_eq_true a3, Bool.not_true, Bool.false_eq_true, if_false, if_true, Option.bind_some, ← a4, bne_self_eq_false, decide_eq_false a5, k1, k2, k3, k4, k5, k6, k7, k8, RPut2, RPut4, RPut8, cat_eq]
      simp [endB, hw, rec22, rec76]
    · rw [if_neg h]
      by_cases a1 : 0 ≤ x.xCount ∧ x.xCount ≤ 1099511627776 <;> by_cases a2 : 0 ≤ x.xSize ∧ x.xSize ≤ 1099511627776 <;> by_cases a3 : 0 ≤ x.xOffset ∧ x.xOffset ≤ 1099511627776 <;> by_cases a4 : x.xAt = IntKind.i64.wrap (x.xOffset + x.xSize) <;> first | exact absurd (key.2 ⟨a1, a2, a3, a4⟩) h | simp [a1, a2, a3, a4]
end Go.Proofs.YtikkpmmhejjpaaaM
