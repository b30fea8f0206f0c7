/- Layer 18 in plain terms: local headers read; HeaderAny. -/
import Derived.Test.YtobhmahlenjheaaP18e
set_option linter.unusedSimpArgs false
set_option linter.unusedVariables false
namespace Go.Proofs.YtobhmahlenjheaaM
open Go Go.RowKit

def locS (s : List UInt8) (k : Nat) : HdT × Int × Int :=
  if numOf s ((k + 0 : Nat) : Int) 4 ≠ 67324752 then (z0, 0, 2) else
    match txs s (k + 30) [(numOf s ((k + 26 : Nat) : Int) 2).toNat, (numOf s ((k + 28 : Nat) : Int) 2).toNat] with
    | some (b, [t1, t2]) =>
      if (numOf s ((k + 18 : Nat) : Int) 4 == 4294967295) = (numOf s ((k + 22 : Nat) : Int) 4 == 4294967295) then
        if (finS 0 (numOf s ((k + 4 : Nat) : Int) 2) (numOf s ((k + 6 : Nat) : Int) 2) (numOf s ((k + 8 : Nat) : Int) 2) (numOf s ((k + 10 : Nat) : Int) 4) (numOf s ((k + 14 : Nat) : Int) 4) (numOf s ((k + 18 : Nat) : Int) 4) (numOf s ((k + 22 : Nat) : Int) 4) 0 0 0 t1 t2 []).2 = 0 then
          ((finS 0 (numOf s ((k + 4 : Nat) : Int) 2) (numOf s ((k + 6 : Nat) : Int) 2) (numOf s ((k + 8 : Nat) : Int) 2) (numOf s ((k + 10 : Nat) : Int) 4) (numOf s ((k + 14 : Nat) : Int) 4) (numOf s ((k + 18 : Nat) : Int) 4) (numOf s ((k + 22 : Nat) : Int) 4) 0 0 0 t1 t2 []).1, (b : Int), 0)
        else (z0, 0, (finS 0 (numOf s ((k + 4 : Nat) : Int) 2) (numOf s ((k + 6 : Nat) : Int) 2) (numOf s ((k + 8 : Nat) : Int) 2) (numOf s ((k + 10 : Nat) : Int) 4) (numOf s ((k + 14 : Nat) : Int) 4) (numOf s ((k + 18 : Nat) : Int) 4) (numOf s ((k + 22 : Nat) : Int) 4) 0 0 0 t1 t2 []).2)
      else (z0, 0, 2)
    | _ => (z0, 0, 3)
theorem Local_no (s : List UInt8) (hs : s.length ≤ 100000) (a : Int) (h : ¬ (0 ≤ a ∧ a + 30 ≤ s.length)) : F_header_Local s a = some (flatH (z0, 0, 3)) := by
  unfold F_header_Local
  exact vB (begin_no s hs a 30 _ h) rfl
theorem nb_c {a b : Bool} (h : a = b) : (!(a == b)) = false := by subst h; cases a <;> rfl
theorem nb_t {a b : Bool} (h : ¬ a = b) : (!(a == b)) = true := by cases a <;> cases b <;> first | rfl | exact absurd rfl h
theorem Local_eq (s : List UInt8) (hs : s.length ≤ 100000) (k : Nat) (h : k + 30 ≤ s.length) : F_header_Local s (k : Int) = some (flatH (locS s k)) := by
  unfold F_header_Local locS
  have hb := begin_eq s hs k 30 67324752 h
  by_cases hg : numOf s ((k + 0 : Nat) : Int) 4 = 67324752
  rotate_left
  · rw [if_neg (show ¬ numOf s (k : Int) 4 = 67324752 from hg)] at hb
    rw [if_pos hg]
    exact vB hb rfl
  rw [if_pos (show numOf s (k : Int) 4 = 67324752 from hg)] at hb
  rw [if_neg (fun h1 => h1 hg)]
  refine vB hb ?_
  simp only [vK, bne_self_eq_false, vF]
  have R16 := fun p hp => r16 s hs p hp
  have R32 := fun p hp => r32 s hs p hp
  refine vB (R16 (k + 4) (by omega)) (vB (R16 (k + 6) (by omega)) (vB (R16 (k + 8) (by omega)) (vB (R32 (k + 10) (by omega)) (vB (R32 (k + 14) (by omega)) (vB (R32 (k + 18) (by omega)) (vB (R32 (k + 22) (by omega)) (vB (R16 (k + 26) (by omega)) (vB (R16 (k + 28) (by omega)) ?_))))))))
  simp only []
  obtain ⟨n1, m1, e1⟩ := toN s ((k + 26 : Nat) : Int)
  obtain ⟨n2, m2, e2⟩ := toN s ((k + 28 : Nat) : Int)
  rw [e1, e2, Int.toNat_natCast, Int.toNat_natCast]
  generalize numOf s ((k + 4 : Nat) : Int) 2 = need
  generalize numOf s ((k + 6 : Nat) : Int) 2 = flags
  generalize numOf s ((k + 8 : Nat) : Int) 2 = method
  generalize numOf s ((k + 10 : Nat) : Int) 4 = time
  generalize numOf s ((k + 14 : Nat) : Int) 4 = crc
  generalize numOf s ((k + 18 : Nat) : Int) 4 = packed
  generalize numOf s ((k + 22 : Nat) : Int) 4 = size
  rcases texts2_eq s hs (k + 30) n1 n2 (by omega) m1 m2 0 need flags method time crc packed size 0 0 0 with ⟨ht, x, hx⟩ | ⟨b, t1, t2, ht, hb2, hl2, hx⟩
  · rw [ht]
    exact vB hx rfl
  · rw [ht]
    refine vB hx ?_
    simp only [bne_self_eq_false, vF]
    by_cases hq : (packed == 4294967295) = (size == 4294967295)
    rotate_left
    · rw [nb_t hq, vT, if_neg hq]; rfl
    rw [nb_c hq, vF, if_pos hq]
    obtain ⟨e, y, hr, he, hy⟩ := resolve_eq 0 need flags method time crc packed size 0 0 0 t1 t2 [] (by omega)
    refine vB hr ?_
    by_cases hz : e = 0
    · have hz2 := hz; rw [he] at hz2
      simp only [ne_c hz, vF, if_pos hz2, hy hz]; rfl
    · have hz2 := hz; rw [he] at hz2
      simp only [ne_t hz, vT, if_neg hz2]; rw [he]; rfl
theorem RLocal_no (s : List UInt8) (hs : s.length ≤ 100000) (a : Int) (h : ¬ (0 ≤ a ∧ a + 30 ≤ s.length)) : F_ref18_Local s a = some (flatH (z0, 0, 3)) := by
  unfold F_ref18_Local
  refine vB (RCut_eq s a 30 (by omega)) ?_
  rw [cut_no (by omega)]
  rfl
theorem fin_none {made need flags method time crc packed size inner outer offset : Int} {name extra comment : List UInt8} (h : pzS extra = none) : finS made need flags method time crc packed size inner outer offset name extra comment = (z0, 2) := by unfold finS; rw [h]
theorem RLocal_eq (s : List UInt8) (hs : s.length ≤ 100000) (k : Nat) (h : k + 30 ≤ s.length) : F_ref18_Local s (k : Int) = some (flatH (locS s k)) := by
  unfold F_ref18_Local locS
  have hbl : (cutOf s (k : Int) (30 : Nat)).1.length < 1000000000 := by have := cut_length s (k : Int) (30 : Nat); omega
  have he0 : (cutOf s (k : Int) (30 : Nat)).2 = 0 := by rw [cut_nat h]
  have N16 : ∀ p : Nat, p + 2 ≤ 30 → F_ref02_U16 (cutOf s (k : Int) (30 : Nat)).1 (p : Int) = some (numOf s ((k + p : Nat) : Int) 2, ()) := fun p hp => by
    rw [RU16_eq _ _ hbl]
    have := num_cut (m := 2) h hp
    simp only [Int.cast_ofNat_Int] at this ⊢
    rw [this]
  have N32 : ∀ p : Nat, p + 4 ≤ 30 → F_ref02_U32 (cutOf s (k : Int) (30 : Nat)).1 (p : Int) = some (numOf s ((k + p : Nat) : Int) 4, ()) := fun p hp => by
    rw [RU32_eq _ _ hbl]
    have := num_cut (m := 4) h hp
    simp only [Int.cast_ofNat_Int] at this ⊢
    rw [this]
  refine vB (RCut_eq s (k : Int) (30 : Nat) (by omega)) ?_
  simp only [ne_c he0, vF]
  have n0 : F_ref02_U32 (cutOf s (k : Int) (30 : Nat)).1 0 = some (numOf s ((k + 0 : Nat) : Int) 4, ()) := N32 0 (by omega)
  refine vB n0 ?_
  simp only []
  by_cases hg : numOf s ((k + 0 : Nat) : Int) 4 = 67324752
  rotate_left
  · rw [if_pos hg, show (numOf s ((k + 0 : Nat) : Int) 4 != 67324752) = true by simpa using hg, vT]; rfl
  rw [show (numOf s ((k + 0 : Nat) : Int) 4 != 67324752) = false by simpa using hg, vF, if_neg (fun h1 => h1 hg)]
  obtain ⟨n1, m1, e1⟩ := toN s ((k + 26 : Nat) : Int)
  obtain ⟨n2, m2, e2⟩ := toN s ((k + 28 : Nat) : Int)
  refine vB (N16 26 (by omega)) (vB (N16 28 (by omega)) ?_)
  simp only []
  rw [e1, e2, Int.toNat_natCast, Int.toNat_natCast]
  have ht := rtexts_eq s hs (k + 30) [n1, n2] (by omega) (by simp)
  have w30 : IntKind.i64.wrap ((k : Int) + 30) = ((k + 30 : Nat) : Int) := add_w (a := k) (n := 30) (by omega) (by omega)
  rw [w30]
  refine vB ht ?_
  rcases texts2_eq s hs (k + 30) n1 n2 (by omega) m1 m2 0 0 0 0 0 0 0 0 0 0 0 with ⟨ht, x, hx⟩ | ⟨b, t1, t2, ht, hb2, hl2, hx⟩
  · rw [ht]; rfl
  · rw [ht]
    simp only [decide_eq_false (show ¬ (b : Int) < 0 by omega), vF]
    refine vB (N16 4 (by omega)) (vB (N16 6 (by omega)) (vB (N16 8 (by omega)) (vB (N32 10 (by omega)) (vB (N32 14 (by omega)) (vB (N32 18 (by omega)) (vB (N32 22 (by omega)) ?_))))))
    refine vB (r := t1) rfl (vB (r := t1) rfl (vB (r := t2) rfl (vB (r := t2) rfl ?_)))
    simp only []
    generalize numOf s ((k + 4 : Nat) : Int) 2 = need
    generalize numOf s ((k + 6 : Nat) : Int) 2 = flags
    generalize numOf s ((k + 8 : Nat) : Int) 2 = method
    generalize numOf s ((k + 10 : Nat) : Int) 4 = time
    generalize numOf s ((k + 14 : Nat) : Int) 4 = crc
    generalize numOf s ((k + 18 : Nat) : Int) 4 = packed
    generalize numOf s ((k + 22 : Nat) : Int) 4 = size
    rw [RParse_eq t2 (by omega), vS]
    cases hp : pzS t2 with
    | none =>
      simp only [show ((2 : Int) != 0) = true from rfl, vT, vS, fin_none hp]
      split
      · rfl
      · rfl
    | some l =>
      simp only [bne_self_eq_false, vF, vS]
      by_cases hq : (packed == 4294967295) = (size == 4294967295)
      rotate_left
      · rw [nb_t hq, vT, if_neg hq]; rfl
      rw [nb_c hq, vF, if_pos hq]
      refine vB (finish_eq 0 need flags method time crc packed size 0 0 0 t1 t2 [] (by omega)) ?_
      simp only []
      generalize hf : finS _ _ _ _ _ _ _ _ _ _ _ t1 t2 [] = f
      by_cases hz : f.2 = 0
      · simp only [ne_c hz, vF, if_pos hz]; rfl
      · simp only [ne_t hz, vT, if_neg hz]; rfl

theorem both_Central (s : List UInt8) (hs : s.length ≤ 100000) (a : Int) : ∃ v, F_header_Central s a = some v ∧ F_ref18_Central s a = some v := by
  by_cases h : 0 ≤ a ∧ a + 46 ≤ s.length
  · obtain ⟨k, rfl⟩ := Int.eq_ofNat_of_zero_le h.1
    exact ⟨_, Central_eq s hs k (by omega), RCentral_eq s hs k (by omega)⟩
  · exact ⟨_, Central_no s hs a h, RCentral_no s hs a h⟩
theorem both_Local (s : List UInt8) (hs : s.length ≤ 100000) (a : Int) : ∃ v, F_header_Local s a = some v ∧ F_ref18_Local s a = some v := by
  by_cases h : 0 ≤ a ∧ a + 30 ≤ s.length
  · obtain ⟨k, rfl⟩ := Int.eq_ofNat_of_zero_le h.1
    exact ⟨_, Local_eq s hs k (by omega), RLocal_eq s hs k (by omega)⟩
  · exact ⟨_, Local_no s hs a h, RLocal_no s hs a h⟩
theorem true_law18_HeaderAny (s : List UInt8) (a : Int) : F_law18_HeaderAny s a = some (true, ()) := by
  unfold F_law18_HeaderAny
  refine vB awake18 ?_
  simp only [Bool.not_true, vF]
  cases k1 : decide ((s.length : Int) > 300) with
  | true => simp only [vT]
  | false =>
    simp only [vF]
    have hs : s.length ≤ 100000 := by have := of_decide_eq_false k1; omega
    obtain ⟨v, h1, h2⟩ := both_Central s hs a
    obtain ⟨u, h3, h4⟩ := both_Local s hs a
    refine vB h1 (vB h2 (vB h3 (vB h4 ?_)))
    simp only [beq_self_eq_true, Bool.and_self, vT, vS]
end Go.Proofs.YtobhmahlenjheaaM
