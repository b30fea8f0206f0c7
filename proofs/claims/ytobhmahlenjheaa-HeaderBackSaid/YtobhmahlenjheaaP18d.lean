/- Layer 17 in plain terms: fields parsed, found, and what stands in a field 1. -/
import Derived.Test.YtobhmahlenjheaaP18c
set_option linter.unusedSimpArgs false
set_option linter.unusedVariables false
namespace Go.Proofs.YtobhmahlenjheaaM
open Go Go.RowKit

abbrev XT : Type := Int × List UInt8 × Unit
/-- The fields of some bytes. -/
def pz : Nat → List UInt8 → Option (List XT)
  | 0, _ => none
  | n + 1, s => if s = [] then some [] else if s.length < 4 then none else
      if s.length < 4 + leNum ((s.drop 2).take 2) then none else (pz n (s.drop (4 + leNum ((s.drop 2).take 2)))).map fun l => ((leNum (s.take 2) : Int), ((s.drop 4).take (leNum ((s.drop 2).take 2)), ())) :: l
theorem pz_more : ∀ (n m : Nat) (s : List UInt8), s.length < n → s.length < m → pz n s = pz m s
  | 0, _, _, h, _ => by omega
  | _, 0, _, _, h => by omega
  | n + 1, m + 1, s, h1, h2 => by
    unfold pz
    by_cases h0 : s = []
    · rw [if_pos h0, if_pos h0]
    rw [if_neg h0, if_neg h0]
    have : 0 < s.length := List.length_pos_iff.2 h0
    rw [pz_more n m (s.drop (4 + leNum ((s.drop 2).take 2))) (by simp; omega) (by simp; omega)]
def pzS (s : List UInt8) : Option (List XT) := pz (s.length + 1) s

theorem cut_num {s : List UInt8} {i k : Nat} (h : i + k ≤ s.length) : numOf s (i : Int) (k : Int) = (leNum ((s.drop i).take k) : Int) := by
  unfold numOf
  rw [cut_is (by omega) (by omega) (by omega)]
  simp only
  rw [show ((i : Int) + (k : Int)).toNat = i + k by omega, Int.toNat_natCast, td, Nat.add_sub_cancel_left]
theorem cut_nat {s : List UInt8} {i k : Nat} (h : i + k ≤ s.length) : cutOf s (i : Int) (k : Int) = ((s.drop i).take k, 0) := by
  rw [cut_is (by omega) (by omega) (by omega)]
  rw [show ((i : Int) + (k : Int)).toNat = i + k by omega, Int.toNat_natCast, td, Nat.add_sub_cancel_left]
theorem cut_er {s : List UInt8} {i k : Nat} (h : s.length < i + k) : (cutOf s (i : Int) (k : Int)).2 = 3 := by
  rw [cut_no (by omega)]
theorem le2 (s : List UInt8) : leNum (s.take 2) < 65536 := by
  have h1 := leNum_lt (s.take 2)
  have h2 : (256 : Nat) ^ (s.take 2).length ≤ 256 ^ 2 := Nat.pow_le_pow_right (by omega) (by simp; omega)
  omega

section
variable (s : List UInt8) (hs : s.length ≤ 100000)
include hs
theorem parse_key {step : Int × List XT × Unit → Option ((Int × List XT × Unit) ⊕ ((Int × Unit) ⊕ (List XT × Unit)))}
    (h0 : ∀ out, step ((s.length : Int), (out, ())) = some (.inr (.inr (out, ()))))
    (h1 : ∀ (i : Nat) out, i < s.length → out.length ≤ i → s.length < i + 4 + leNum (((s.drop i).drop 2).take 2) ∨ s.length < i + 4 → step ((i : Int), (out, ())) = some (.inr (.inl (2, ()))))
    (h2 : ∀ (i : Nat) out, out.length ≤ i → i + 4 + leNum (((s.drop i).drop 2).take 2) ≤ s.length → step ((i : Int), (out, ())) = some (.inl (((i + (4 + leNum (((s.drop i).drop 2).take 2)) : Nat) : Int), (out ++ [((leNum ((s.drop i).take 2) : Int), (((s.drop i).drop 4).take (leNum (((s.drop i).drop 2).take 2)), ()))], ())))) :
    ∀ (n i k : Nat) (out : List XT), s.length - i < n → i ≤ s.length → out.length ≤ i → n ≤ k → iter step k ((i : Int), (out, ())) = some (match pz n (s.drop i) with | some l => .inr (out ++ l, ()) | none => .inl (2, ()))
  | 0, i, k, out, hn, _, _, _ => by omega
  | n + 1, i, k, out, hn, hi, ho, hk => by
    obtain ⟨k, rfl⟩ : ∃ j, k = j + 1 := ⟨k - 1, by omega⟩
    unfold pz
    by_cases he : i = s.length
    · subst he
      rw [List.drop_length, if_pos rfl]
      exact (iter_inr (h0 out)).trans (by simp)
    have hne : s.drop i ≠ [] := fun h => by have := congrArg List.length h; simp at this; omega
    rw [if_neg hne]
    by_cases h4 : (s.drop i).length < 4
    · rw [if_pos h4]
      exact iter_inr (h1 i out (by omega) ho (.inr (by simp at h4; omega)))
    rw [if_neg h4]
    have hl : (s.drop i).length = s.length - i := by simp
    by_cases hm : (s.drop i).length < 4 + leNum (((s.drop i).drop 2).take 2)
    · rw [if_pos hm]
      exact iter_inr (h1 i out (by omega) ho (.inl (by omega)))
    rw [if_neg hm]
    refine (iter_inl (h2 i out ho (by omega))).trans ?_
    have ih := parse_key h0 h1 h2 n (i + (4 + leNum (((s.drop i).drop 2).take 2))) k (out ++ [((leNum ((s.drop i).take 2) : Int), (((s.drop i).drop 4).take (leNum (((s.drop i).drop 2).take 2)), ()))]) (by omega) (by omega) (by simp; omega) (by omega)
    rw [ih, ← List.drop_drop]
    cases pz n ((s.drop i).drop (4 + leNum (((s.drop i).drop 2).take 2))) with
    | none => rfl
    | some l => simp only [Option.map_some, List.append_assoc, List.singleton_append]

theorem Parse_eq : F_extra_Parse s = some (match pzS s with | some l => ((0 : Int), (l, ())) | none => ((2 : Int), ([], ()))) := by
  unfold F_extra_Parse
  refine vB (parse_key s hs (fun out => ?_) (fun i out hi ho hb => ?_) (fun i out ho hb => ?_) (s.length + 1) 0 NF [] (by omega) (by omega) (by simp) (by rw [NF_eq]; omega)) ?_
  · simp only [ge_c (Nat.lt_irrefl _), vF]
  · have w2 : IntKind.i64.wrap ((i : Int) + 2) = ((i + 2 : Nat) : Int) := by rw [w64 (by omega) (by omega)]; rfl
    have w4 : IntKind.i64.wrap ((i : Int) + 4) = ((i + 4 : Nat) : Int) := by rw [w64 (by omega) (by omega)]; rfl
    simp only [lt_c hi, vT, w2, w4, U16_eq s _ (by omega : s.length < 1000000000), vS, Cut_eq s _ _ (by omega : s.length < 1000000000)]
    by_cases h4 : s.length < i + 4
    · have : (cutOf s ((i + 2 : Nat) : Int) 2).2 = 3 := cut_er (k := 2) (by omega)
      simp only [this]; rfl
    · have e1 : (cutOf s ((i + 2 : Nat) : Int) 2).2 = 0 := by
        have := cut_nat (s := s) (i := i + 2) (k := 2) (by omega)
        simp only [Int.cast_ofNat_Int] at this
        rw [this]
      have e2 : numOf s ((i + 2 : Nat) : Int) 2 = (leNum (((s.drop i).drop 2).take 2) : Int) := by
        have := cut_num (s := s) (i := i + 2) (k := 2) (by omega)
        rw [List.drop_drop]; exact this
      have e3 : (cutOf s ((i + 4 : Nat) : Int) (leNum (((s.drop i).drop 2).take 2) : Int)).2 = 3 := cut_er (by rcases hb with hb | hb <;> omega)
      simp only [e1, e2, e3]; rfl
  · have hi : i < s.length := by omega
    have w2 : IntKind.i64.wrap ((i : Int) + 2) = ((i + 2 : Nat) : Int) := by rw [w64 (by omega) (by omega)]; rfl
    have w4 : IntKind.i64.wrap ((i : Int) + 4) = ((i + 4 : Nat) : Int) := by rw [w64 (by omega) (by omega)]; rfl
    have e0 : numOf s (i : Int) 2 = (leNum ((s.drop i).take 2) : Int) := cut_num (s := s) (i := i) (k := 2) (by omega)
    have e1 : (cutOf s ((i + 2 : Nat) : Int) 2).2 = 0 := by
      have := cut_nat (s := s) (i := i + 2) (k := 2) (by omega)
      simp only [Int.cast_ofNat_Int] at this
      rw [this]
    have e2 : numOf s ((i + 2 : Nat) : Int) 2 = (leNum (((s.drop i).drop 2).take 2) : Int) := by
      have := cut_num (s := s) (i := i + 2) (k := 2) (by omega)
      rw [List.drop_drop]; exact this
    have e3 := cut_nat (s := s) (i := i + 4) (k := leNum (((s.drop i).drop 2).take 2)) (by omega)
    have hlt := le2 ((s.drop i).drop 2)
    have w5 : IntKind.i64.wrap (4 + (leNum (((s.drop i).drop 2).take 2) : Int)) = ((4 + leNum (((s.drop i).drop 2).take 2) : Nat) : Int) := by rw [w64 (by omega) (by omega)]; rfl
    have w6 : IntKind.i64.wrap ((i : Int) + ((4 + leNum (((s.drop i).drop 2).take 2) : Nat) : Int)) = ((i + (4 + leNum (((s.drop i).drop 2).take 2)) : Nat) : Int) := by rw [w64 (by omega) (by omega)]; rfl
    simp only [lt_c hi, vT, w2, w4, U16_eq s _ (by omega : s.length < 1000000000), vS, Cut_eq s _ _ (by omega : s.length < 1000000000), e0, e1, e2, e3, bne_self_eq_false, vF, app1 (show out.length ≤ 1000000 by omega), w5, w6]
    rw [show (s.drop i).drop 4 = s.drop (i + 4) from List.drop_drop]
  · rw [List.drop_zero]
    show sumK (match pz (s.length + 1) s with | some l => _ | none => _) _ _ = some (match pz (s.length + 1) s with | some l => _ | none => _)
    cases pz (s.length + 1) s with
    | none => exact vJ
    | some l => exact vK
theorem RParse_eq : F_ref17_Parse s = some (match pzS s with | some l => ((0 : Int), (l, ())) | none => ((2 : Int), ([], ()))) := by
  unfold F_ref17_Parse
  refine vB (parse_key s hs (fun out => ?_) (fun i out hi ho hb => ?_) (fun i out ho hb => ?_) (s.length + 1) 0 NF [] (by omega) (by omega) (by simp) (by rw [NF_eq]; omega)) ?_
  · simp only [ge_c (Nat.lt_irrefl _), vF]
  · have w0 : IntKind.i64.wrap ((s.length : Int) - (i : Int)) = (s.length : Int) - (i : Int) := w64 (by omega) (by omega)
    have w2 : IntKind.i64.wrap ((i : Int) + 2) = ((i + 2 : Nat) : Int) := by rw [w64 (by omega) (by omega)]; rfl
    have w4 : IntKind.i64.wrap ((i : Int) + 4) = ((i + 4 : Nat) : Int) := by rw [w64 (by omega) (by omega)]; rfl
    simp only [lt_c hi, vT, w0, w2, w4, RU16_eq s _ (by omega : s.length < 1000000000), vS, RCut_eq s _ _ (by omega : s.length < 1000000000)]
    by_cases h4 : s.length < i + 4
    · rw [decide_eq_true (show (s.length : Int) - (i : Int) < 4 by omega), vT]
    · rw [decide_eq_false (show ¬ (s.length : Int) - (i : Int) < 4 by omega), vF]
      have e2 : numOf s ((i + 2 : Nat) : Int) 2 = (leNum (((s.drop i).drop 2).take 2) : Int) := by
        have := cut_num (s := s) (i := i + 2) (k := 2) (by omega)
        rw [List.drop_drop]; exact this
      have e3 : (cutOf s ((i + 4 : Nat) : Int) (leNum (((s.drop i).drop 2).take 2) : Int)).2 = 3 := cut_er (by rcases hb with hb | hb <;> omega)
      simp only [e2, e3]; rfl
  · have hi : i < s.length := by omega
    have w0 : IntKind.i64.wrap ((s.length : Int) - (i : Int)) = (s.length : Int) - (i : Int) := w64 (by omega) (by omega)
    have w2 : IntKind.i64.wrap ((i : Int) + 2) = ((i + 2 : Nat) : Int) := by rw [w64 (by omega) (by omega)]; rfl
    have w4 : IntKind.i64.wrap ((i : Int) + 4) = ((i + 4 : Nat) : Int) := by rw [w64 (by omega) (by omega)]; rfl
    have e0 : numOf s (i : Int) 2 = (leNum ((s.drop i).take 2) : Int) := cut_num (s := s) (i := i) (k := 2) (by omega)
    have e2 : numOf s ((i + 2 : Nat) : Int) 2 = (leNum (((s.drop i).drop 2).take 2) : Int) := by
      have := cut_num (s := s) (i := i + 2) (k := 2) (by omega)
      rw [List.drop_drop]; exact this
    have e3 := cut_nat (s := s) (i := i + 4) (k := leNum (((s.drop i).drop 2).take 2)) (by omega)
    have hlt := le2 ((s.drop i).drop 2)
    have w6 : IntKind.i64.wrap (((i + 4 : Nat) : Int) + (leNum (((s.drop i).drop 2).take 2) : Int)) = ((i + (4 + leNum (((s.drop i).drop 2).take 2)) : Nat) : Int) := by rw [w64 (by omega) (by omega)]; omega
    simp only [lt_c hi, vT, w0, w2, w4, decide_eq_false (show ¬ (s.length : Int) - (i : Int) < 4 by omega), vF, RU16_eq s _ (by omega : s.length < 1000000000), vS, RCut_eq s _ _ (by omega : s.length < 1000000000), e0, e2, e3, bne_self_eq_false, app1 (show out.length ≤ 1000000 by omega), w6]
    rw [show (s.drop i).drop 4 = s.drop (i + 4) from List.drop_drop]
  · rw [List.drop_zero]
    show sumK (match pz (s.length + 1) s with | some l => _ | none => _) _ _ = some (match pz (s.length + 1) s with | some l => _ | none => _)
    cases pz (s.length + 1) s with
    | none => exact vJ
    | some l => exact vK
end
theorem pz_small : ∀ (n : Nat) (s : List UInt8) (l : List XT), pz n s = some l → l.length ≤ s.length ∧ ∀ x ∈ l, x.2.1.length ≤ s.length
  | 0, _, _, h => by cases h
  | n + 1, s, l, h => by
    unfold pz at h
    split at h
    · cases h; simp
    split at h
    · cases h
    split at h
    · cases h
    obtain ⟨l', h1, rfl⟩ := Option.map_eq_some_iff.1 h
    obtain ⟨h2, h3⟩ := pz_small n _ l' h1
    simp only [List.length_drop] at h2 h3
    refine ⟨by simp only [List.length_cons]; omega, fun x hx => ?_⟩
    rcases List.mem_cons.1 hx with rfl | hx
    · simp only [List.length_take, List.length_drop]; omega
    · have := h3 x hx; omega

/-! ### Found -/
def fnd (l : List XT) (id : Int) : Option (List UInt8) := (l.find? fun x => x.1 == id).map fun x => x.2.1
theorem find_key (l : List XT) (id : Int) (hl : l.length ≤ 100000) {step : Int × Unit → Option ((Int × Unit) ⊕ ((List UInt8 × Unit) ⊕ Unit))}
    (h0 : step ((l.length : Int), ()) = some (.inr (.inr ()))) (h1 : ∀ i (hi : i < l.length), step ((i : Int), ()) = if l[i].1 == id then some (.inr (.inl l[i].2)) else some (.inl (((i + 1 : Nat) : Int), ()))) :
    iter step NF (0, ()) = some (match l.find? (fun x => x.1 == id) with | some x => .inl x.2 | none => .inr ()) := by
  refine iter_takeI l (by omega) (fun i _ => ((i : Int), ())) (fun p => p.find? (fun x => x.1 == id) = none) rfl _ (fun i hi hI => ?_) (fun hI => by rw [h0, hI])
  rw [h1 i hi]
  cases hb : (l[i].1 == id) with
  | false =>
    simp only [Bool.false_eq_true, if_false]
    refine .inl ⟨trivial, ?_⟩
    rw [List.find?_append, hI]; simp [hb]
  | true =>
    simp only [if_true]
    right
    have : l.find? (fun x => x.1 == id) = some l[i] := by
      conv => lhs; rw [← List.take_append_drop i l]
      rw [List.find?_append, hI, List.drop_eq_getElem_cons hi, List.find?_cons, hb]
      rfl
    rw [this]
theorem Find_eq (l : List XT) (id : Int) (hl : l.length ≤ 100000) : F_extra_Find l id = some ((fnd l id).getD [], ((fnd l id).isSome, ())) := by
  unfold F_extra_Find
  refine vB (find_key l id hl ?_ fun i hi => ?_) ?_
  · simp only [ge_c (Nat.lt_irrefl _), vF]
  · simp only [lt_c hi, vT, idxL_nat hi, vS, w1 (show i ≤ 1000000 by omega)]
    cases (l[i].1 == id) <;> rfl
  · unfold fnd
    cases l.find? (fun x => x.1 == id) with
    | none => exact vK
    | some x => exact vJ
theorem RFind_eq (l : List XT) (id : Int) (hl : l.length ≤ 100000) : F_ref17_Find l id = some ((fnd l id).getD [], ((fnd l id).isSome, ())) := by
  unfold F_ref17_Find
  refine vB (find_key l id hl ?_ fun i hi => ?_) ?_
  · simp only [ge_c (Nat.lt_irrefl _), vF]
  · simp only [lt_c hi, vT, idxL_nat hi, vS, w1 (show i ≤ 1000000 by omega)]
    cases (l[i].1 == id) <;> rfl
  · unfold fnd
    cases l.find? (fun x => x.1 == id) with
    | none => exact vK
    | some x => exact vJ
theorem fnd_len {l : List XT} {id : Int} {n : Nat} (h : ∀ x ∈ l, x.2.1.length ≤ n) : ((fnd l id).getD []).length ≤ n := by
  unfold fnd
  cases hf : l.find? (fun x => x.1 == id) with
  | none => simp
  | some x => exact h x (List.mem_of_find?_eq_some hf)

/-! ### What stands there -/
/-- One number: taken, if it is too great; and the place behind; none: it isn't there. -/
def rs1 (d : List UInt8) (v a : Int) : Option (Int × Int × Bool) :=
  if v = 4294967295 then (if (cutOf d a 8).2 = 0 then some (IntKind.i64.wrap (numOf d a 8), a + 8, decide (numOf d a 8 > 1099511627776)) else none) else some (v, a, false)
def resS (d : List UInt8) (a b c : Int) : (Int × Int × Int × Unit) × Int :=
  match rs1 d a 0 with
  | none => ((0, 0, 0, ()), 2)
  | some (a, p, f) => match rs1 d b p with
    | none => ((0, 0, 0, ()), 2)
    | some (b, p, g) => match rs1 d c p with
      | none => ((0, 0, 0, ()), 2)
      | some (c, _, h) => if f || g || h then ((0, 0, 0, ()), 7) else ((a, b, c, ()), 0)
theorem rs1_no {d : List UInt8} {v a : Int} (h : (v != 4294967295) = true) : rs1 d v a = some (v, a, false) := by
  unfold rs1; rw [if_neg (by simpa using h)]
theorem rs1_er {d : List UInt8} {v a : Int} (h : (v != 4294967295) = false) (he : ((cutOf d a 8).2 != 0) = true) : rs1 d v a = none := by
  unfold rs1; rw [if_pos (by simpa using h), if_neg (by simpa using he)]
theorem rs1_ok {d : List UInt8} {v a : Int} (h : (v != 4294967295) = false) (he : ((cutOf d a 8).2 != 0) = false) : rs1 d v a = some (IntKind.i64.wrap (numOf d a 8), a + 8, decide (numOf d a 8 > 1099511627776)) := by
  unfold rs1; rw [if_pos (by simpa using h), if_pos (by simpa using he)]
theorem wr8 : IntKind.i64.wrap (0 + 8) = 8 ∧ IntKind.i64.wrap (8 + 8) = 16 ∧ IntKind.i64.wrap (16 + 8) = 24 := by decide +kernel
set_option maxHeartbeats 2000000 in
theorem Resolve_eq (l : List XT) (a b c : Int) (hl : l.length ≤ 100000) (hd : ∀ x ∈ l, x.2.1.length ≤ 100000) : F_extra_Resolve l (a, b, c, ()) = some ((resS ((fnd l 1).getD []) a b c).1, ((resS ((fnd l 1).getD []) a b c).2, ())) := by
  have hdl := fnd_len (l := l) (id := 1) hd
  obtain ⟨q0, q1, q2⟩ := wr8
  unfold F_extra_Resolve resS
  refine vB (Find_eq l 1 hl) ?_
  simp only []
  generalize (fnd l 1).getD [] = d at hdl
  have U := fun p => U64_eq d p (by omega : d.length < 1000000000)
  cases hA : (a != 4294967295) <;> simp only [hA, vT, vF, vS, vJ, vK, U, q0]
  · cases hA2 : ((cutOf d 0 8).2 != 0) <;> simp only [hA2, vT, vF, vS, vJ, vK]
    · simp only [rs1_ok hA hA2]
      cases hA3 : decide (numOf d 0 8 > 1099511627776) <;> simp only [hA3, vT, vF, vS, vJ, vK]
      all_goals
        cases hB : (b != 4294967295) <;> simp only [hB, vT, vF, vS, vJ, vK, U, q1]
        · cases hB2 : ((cutOf d 8 8).2 != 0) <;> simp only [hB2, vT, vF, vS, vJ, vK]
          · simp only [show (0 : Int) + 8 = 8 from rfl, rs1_ok hB hB2]
            cases hB3 : decide (numOf d 8 8 > 1099511627776) <;> simp only [hB3, vT, vF, vS, vJ, vK]
            all_goals
              cases hC : (c != 4294967295) <;> simp only [hC, vT, vF, vS, vJ, vK, U, q2]
              · cases hC2 : ((cutOf d 16 8).2 != 0) <;> simp only [hC2, vT, vF, vS, vJ, vK]
                · simp only [show (8 : Int) + 8 = 16 from rfl, rs1_ok hC hC2]
                  cases hC3 : decide (numOf d 16 8 > 1099511627776) <;> simp only [hC3, vT, vF, vS, vJ, vK] <;> rfl
                · simp only [show (8 : Int) + 8 = 16 from rfl, rs1_er hC hC2]
              · simp only [rs1_no hC]; rfl
          · simp only [show (0 : Int) + 8 = 8 from rfl, rs1_er hB hB2]
        · simp only [rs1_no hB]
          cases hC : (c != 4294967295) <;> simp only [hC, vT, vF, vS, vJ, vK, U, q1]
          · cases hC2 : ((cutOf d 8 8).2 != 0) <;> simp only [hC2, vT, vF, vS, vJ, vK]
            · simp only [show (0 : Int) + 8 = 8 from rfl, rs1_ok hC hC2]
              cases hC3 : decide (numOf d 8 8 > 1099511627776) <;> simp only [hC3, vT, vF, vS, vJ, vK] <;> rfl
            · simp only [show (0 : Int) + 8 = 8 from rfl, rs1_er hC hC2]
          · simp only [rs1_no hC]; rfl
    · simp only [rs1_er hA hA2]
  · simp only [rs1_no hA]
    cases hB : (b != 4294967295) <;> simp only [hB, vT, vF, vS, vJ, vK, U, q0]
    · cases hB2 : ((cutOf d 0 8).2 != 0) <;> simp only [hB2, vT, vF, vS, vJ, vK]
      · simp only [rs1_ok hB hB2]
        cases hB3 : decide (numOf d 0 8 > 1099511627776) <;> simp only [hB3, vT, vF, vS, vJ, vK]
        all_goals
          cases hC : (c != 4294967295) <;> simp only [hC, vT, vF, vS, vJ, vK, U, q1]
          · cases hC2 : ((cutOf d 8 8).2 != 0) <;> simp only [hC2, vT, vF, vS, vJ, vK]
            · simp only [show (0 : Int) + 8 = 8 from rfl, rs1_ok hC hC2]
              cases hC3 : decide (numOf d 8 8 > 1099511627776) <;> simp only [hC3, vT, vF, vS, vJ, vK] <;> rfl
            · simp only [show (0 : Int) + 8 = 8 from rfl, rs1_er hC hC2]
          · simp only [rs1_no hC]; rfl
      · simp only [rs1_er hB hB2]
    · simp only [rs1_no hB]
      cases hC : (c != 4294967295) <;> simp only [hC, vT, vF, vS, vJ, vK, U, q0]
      · cases hC2 : ((cutOf d 0 8).2 != 0) <;> simp only [hC2, vT, vF, vS, vJ, vK]
        · simp only [rs1_ok hC hC2]
          cases hC3 : decide (numOf d 0 8 > 1099511627776) <;> simp only [hC3, vT, vF, vS, vJ, vK] <;> rfl
        · simp only [rs1_er hC hC2]
      · simp only [rs1_no hC]; rfl
end Go.Proofs.YtobhmahlenjheaaM
