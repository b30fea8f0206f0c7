/- Usage: what stands under a path; the directories; each with what is there. -/
import Derived.Test.YtglcbikbmobdpaaDoorP45c
set_option linter.unusedSimpArgs false
set_option linter.unusedVariables false
namespace Go.Proofs.YtglcbikbmobdpaaDoorM
open Go Go.RowKit

theorem cntW_snoc (q : Txt) (l : List Nd) (x : Nd) : cntW q (l ++ [x]) = if holds q x = true then bump (cntW q l) x else cntW q l := by
  unfold cntW
  rw [List.filter_append, List.foldl_append]
  split
  · rename_i h; simp [h]
  · rename_i h; simp [h]
/-- Nodes of short paths. -/
def shortN (t : List Nd) : Prop := ∀ n ∈ t, n.1.length ≤ 1000
theorem refUnder45_eq (t : List Nd) (ht : t.length ≤ 1000) (hn : shortN t) (q : Txt) (hq : q.length ≤ 1000) : F_ref45_Under t q = some ((q, cntW q t), ()) := by
  unfold F_ref45_Under
  refine vB (iter_take t (by omega) (fun i p => ((i : Int), ([], (0, (0, (0, (q, cntW q p))))))) (r := ([], (0, (0, (0, (q, cntW q t)))))) (fun i hi => ?_) ?_) rfl
  · have hx := hn _ (List.getElem_mem hi)
    simp only [lt_c hi, vT, idxL_nat hi, vS, refUnder_eq t[i].1 q (by omega) (by omega), w1 (show i ≤ 1000000 by omega), cntW_snoc]
    generalize cntW q (t.take i) = w
    generalize t[i] = x
    obtain ⟨path, dir, data, mode, time, u⟩ := x
    obtain ⟨w1, w2, w3, w4⟩ := w
    by_cases hq0 : q = []
    · subst hq0
      have c : (!(([] : Txt) == ([] : Txt))) = false := rfl
      have hh : holds [] (path, dir, data, mode, time, u) = true := rfl
      rw [c, vF, vS, if_pos hh]
      cases dir <;> rfl
    · have c : (!(q == ([] : Txt))) = true := by simp [hq0]
      have hh : holds q (path, dir, data, mode, time, u) = und path q := by unfold holds; simp [hq0]
      rw [c, vT, hh]
      cases und path q with
      | false => rfl
      | true => cases dir <;> rfl
  · simp only [ge_c (Nat.lt_irrefl _), vF]
theorem few_eq (t : List Nd) (n : Nat) (hn : n ≤ 1000) : F_law24_Few t (n : Int) = some (decide (t.length ≤ n) && t.all (fun x => decide (x.1.length ≤ 60) && decide (x.2.2.1.length ≤ 60)), ()) := by
  unfold F_law24_Few
  by_cases ht : t.length ≤ n
  rotate_left
  · have c1 : decide ((t.length : Int) > (n : Int)) = true := decide_eq_true (by omega)
    rw [c1, vT, decide_eq_false ht]; rfl
  have c1 : decide ((t.length : Int) > (n : Int)) = false := decide_eq_false (by omega)
  rw [c1, vF, decide_eq_true ht, Bool.true_and]
  refine vB (iter_takeI t (by omega) (fun i p => ((i : Int), ())) (fun p => ∀ x ∈ p, x.1.length ≤ 60 ∧ x.2.2.1.length ≤ 60) (by simp) (r := if t.all (fun x => decide (x.1.length ≤ 60) && decide (x.2.2.1.length ≤ 60)) = true then .inr () else .inl ()) (fun i hi hI => ?_) fun hI => ?_) ?_
  · simp only [lt_c hi, vT, idxL_nat hi, vS]
    by_cases h1 : t[i].1.length ≤ 60
    · by_cases h2 : t[i].2.2.1.length ≤ 60
      · have d1 : decide ((t[i].1.length : Int) > 60) = false := decide_eq_false (by omega)
        have d2 : decide ((t[i].2.2.1.length : Int) > 60) = false := decide_eq_false (by omega)
        left
        rw [d1, d2, vF, vF, w1 (by omega)]
        refine ⟨rfl, fun x hx => ?_⟩
        rcases List.mem_append.1 hx with h | h
        · exact hI x h
        · rw [List.mem_singleton] at h; subst h; exact ⟨h1, h2⟩
      · right
        have d1 : decide ((t[i].1.length : Int) > 60) = false := decide_eq_false (by omega)
        have d2 : decide ((t[i].2.2.1.length : Int) > 60) = true := decide_eq_true (by omega)
        rw [d1, d2, vF, vT, if_neg]
        intro ha
        have := List.all_eq_true.1 ha _ (List.getElem_mem hi)
        simp at this; omega
    · right
      have d1 : decide ((t[i].1.length : Int) > 60) = true := decide_eq_true (by omega)
      rw [d1, vT, if_neg]
      intro ha
      have := List.all_eq_true.1 ha _ (List.getElem_mem hi)
      simp at this; omega
  · simp only [ge_c (Nat.lt_irrefl _), vF]
    rw [if_pos]
    rw [List.all_eq_true]
    intro x hx
    have := hI x hx
    simp [this.1, this.2]
  · cases t.all (fun x => decide (x.1.length ≤ 60) && decide (x.2.2.1.length ≤ 60)) <;> rfl

/-! ### Each once -/
theorem compact_eq (l : List Txt) (hl : l.length ≤ 100000) : ∃ (n : Nat) (l' : List Txt), F_slices_Compact_string_string l = some (0, (n : Int), l', ()) ∧ n ≤ l'.length ∧ l'.take n = cpt l := by
  unfold F_slices_Compact_string_string
  by_cases h2 : l.length < 2
  · have c1 : decide ((l.length : Int) < 2) = true := decide_eq_true (by omega)
    rw [c1, vT]
    refine ⟨l.length, l, rfl, Nat.le_refl _, ?_⟩
    rw [List.take_length]
    rcases l with _ | ⟨a, _ | ⟨b, l⟩⟩
    · rfl
    · rfl
    · simp at h2; omega
  have c1 : decide ((l.length : Int) < 2) = false := decide_eq_false (by omega)
  rw [c1, vF]
  have last (i : Nat) (hi : i < l.length) (h0 : 0 < i) : (cpt (l.take i)).getLast? = some (l[i - 1]'(by omega)) := by
    rw [cpt_last, List.getLast?_eq_getElem?, List.length_take, Nat.min_eq_left (by omega), List.getElem?_take_of_lt (by omega), List.getElem?_eq_getElem]
  have next (i : Nat) (hi : i < l.length) (h0 : 0 < i) : cpt (l.take (i + 1)) = if l[i - 1]'(by omega) = l[i] then cpt (l.take i) else cpt (l.take i) ++ [l[i]] := by
    rw [List.take_succ_eq_append_getElem hi, cpt_snoc, last i hi h0]
    simp
  suffices key : ∃ r, iter (ρ := (Int × (Int × ((List Txt) × Unit))) ⊕ (List Txt × Unit)) _ NF ((1 : Int), (l, ())) = some r ∧ ((∃ (n : Nat) (l' : List Txt), r = .inl (0, (n : Int), l', ()) ∧ n ≤ l'.length ∧ l'.take n = cpt l) ∨ (r = .inr (l, ()) ∧ cpt l = l)) by
    obtain ⟨r, h1, h2⟩ := key
    rcases h2 with ⟨n, l', rfl, h3, h4⟩ | ⟨rfl, h3⟩
    · exact ⟨n, l', vB h1 rfl, h3, h4⟩
    · exact ⟨l.length, l, vB h1 rfl, Nat.le_refl _, by rw [List.take_length, h3]⟩
  refine iter_inv (fun st => ∃ k : Nat, st = ((k : Int), l, ()) ∧ 1 ≤ k ∧ k ≤ l.length ∧ cpt (l.take k) = l.take k) (fun st => l.length - st.1.toNat) _ ?_ NF _ ⟨1, rfl, Nat.le_refl _, by omega, ?_⟩ (by rw [NF_eq]; simp; omega)
  rotate_left
  · rw [show (1 : Nat) = 0 + 1 from rfl, List.take_succ_eq_append_getElem (show 0 < l.length by omega)]; rfl
  rintro _ ⟨k, rfl, k1, k2, k3⟩
  by_cases hk : k < l.length
  rotate_left
  · right
    simp only [ge_c hk, vF]
    refine ⟨_, rfl, .inr ⟨rfl, ?_⟩⟩
    rwa [List.take_of_length_le (by omega)] at k3
  have hk1 : k - 1 < l.length := by omega
  have e1 : IntKind.i64.wrap ((k : Int) - 1) = ((k - 1 : Nat) : Int) := by rw [w64 (by omega) (by omega)]; omega
  simp only [lt_c hk, vT, idxL_nat hk, e1, idxL_nat hk1, vS]
  by_cases he : l[k] = l[k - 1]
  rotate_left
  · left
    have c2 : (l[k] == l[k - 1]) = false := by simp [he]
    rw [c2, vF, w1 (by omega)]
    refine ⟨_, rfl, ⟨k + 1, rfl, by omega, by omega, ?_⟩, by simp only; omega⟩
    rw [next k hk (by omega), if_neg (fun e => he e.symm), k3, List.take_succ_eq_append_getElem hk]
  right
  have c2 : (l[k] == l[k - 1]) = true := by simp [he]
  rw [c2, vT]
  have c3 : chkSub (l.length : Int) (k : Int) (l.length : Int) = some () := chkSub_nat (by omega) (Nat.le_refl _)
  rw [c3, vS]
  -- the rest, moved forward
  suffices key : ∃ r : Int × (List Txt × Unit), iter _ NF ((k : Int), ((k : Int), ((l.length : Int), ((1 : Int), (l, ()))))) = some r ∧ ∃ (n : Nat) (s : List Txt), r = ((n : Int), s, ()) ∧ n ≤ s.length ∧ s.take n = cpt l by
    obtain ⟨r, h1, n, s, rfl, h3, h4⟩ := key
    have c4 : chkSub (s.length : Int) (n : Int) (s.length : Int) = some () := chkSub_nat h3 (Nat.le_refl _)
    have cl : (oClr s (n : Int) (s.length : Int) ([] : List UInt8)).length = s.length := by simp; omega
    have c5 : chkSub ((oClr s (n : Int) (s.length : Int) ([] : List UInt8)).length : Int) (0 : Int) (n : Int) = some () := by rw [cl]; exact chkSub_nat (a := 0) (Nat.zero_le _) h3
    refine ⟨.inl (0, (n : Int), oClr s (n : Int) (s.length : Int) ([] : List UInt8), ()), vB h1 ?_, .inl ⟨n, _, rfl, by rw [cl]; exact h3, ?_⟩⟩
    · simp only [c4, vS, c5]
    · rw [← h4]; simp [List.take_append, Nat.min_eq_left h3]
  refine iter_inv (fun st => ∃ (n j : Nat) (s : List Txt), st = ((n : Int), ((k : Int), ((l.length : Int), ((j : Int), (s, ()))))) ∧ 1 ≤ j ∧ k + j ≤ l.length ∧ n ≤ k + j - 1 ∧ s.length = l.length ∧ s.take n = cpt (l.take (k + j)) ∧ s.drop (k + j - 1) = l.drop (k + j - 1)) (fun st => l.length - st.2.2.2.1.toNat) _ ?_ NF _ ⟨k, 1, l, rfl, Nat.le_refl _, by omega, by omega, rfl, ?_, rfl⟩ (by rw [NF_eq]; simp; omega)
  rotate_left
  · rw [next k hk (by omega), if_pos he.symm, k3]
  rintro _ ⟨n, j, s, rfl, j1, j2, j3, j4, j5, j6⟩
  have at_ (i : Nat) (h1 : k + j - 1 ≤ i) (h2 : i < l.length) : idxL s (i : Int) = some l[i] := by
    rw [idxL_nat (show i < s.length by omega)]
    have := congrArg (fun x => x[i - (k + j - 1)]?) j6
    simp only [List.getElem?_drop] at this
    rw [show k + j - 1 + (i - (k + j - 1)) = i by omega, List.getElem?_eq_getElem (show i < s.length by omega), List.getElem?_eq_getElem h2] at this
    exact this
  by_cases hj : k + j < l.length
  rotate_left
  · right
    have c4 : decide ((j : Int) < (l.length : Int) - (k : Int)) = false := decide_eq_false (by omega)
    simp only [c4, vF]
    refine ⟨_, rfl, n, s, rfl, by omega, ?_⟩
    rw [j5, List.take_of_length_le (by omega)]
  left
  have c4 : decide ((j : Int) < (l.length : Int) - (k : Int)) = true := decide_eq_true (by omega)
  have c5 : chkIdx ((l.length : Int) - (k : Int)) (j : Int) = some () := by unfold chkIdx; rw [if_pos (by omega)]
  have e2 : IntKind.i64.wrap ((j : Int) - 1) = ((j - 1 : Nat) : Int) := by rw [w64 (by omega) (by omega)]; omega
  have c6 : chkIdx ((l.length : Int) - (k : Int)) ((j - 1 : Nat) : Int) = some () := by unfold chkIdx; rw [if_pos (by omega)]
  have i1 : idxL s ((k : Int) + (j : Int)) = some l[k + j] := by rw [← Int.natCast_add]; exact at_ _ (by omega) hj
  have hk2 : k + (j - 1) < l.length := by omega
  have i2 : idxL s ((k : Int) + ((j - 1 : Nat) : Int)) = some (l[k + (j - 1)]'hk2) := by rw [← Int.natCast_add]; exact at_ _ (by omega) hk2
  simp only [c4, vT, c5, vS, i1, e2, c6, i2]
  have nx := next (k + j) hj (by omega)
  have ee : l[k + j - 1]'(by omega) = l[k + (j - 1)]'hk2 := by congr 1; omega
  rw [ee] at nx
  by_cases hd : l[k + j] = l[k + (j - 1)]'hk2
  · have c7 : (!(l[k + j] == l[k + (j - 1)]'hk2)) = false := by simp [hd]
    rw [c7, vF, vS, w1 (by omega)]
    refine ⟨_, rfl, ⟨n, j + 1, s, rfl, by omega, by omega, by omega, j4, ?_, ?_⟩, by simp only; omega⟩
    · rw [if_pos hd.symm] at nx
      rw [j5, ← nx]; rfl
    · have := congrArg (List.drop 1) j6
      rw [List.drop_drop, List.drop_drop] at this
      rw [show k + (j + 1) - 1 = k + j - 1 + 1 by omega]; exact this
  · have c7 : (!(l[k + j] == l[k + (j - 1)]'hk2)) = true := by simp [hd]
    have hns : n < s.length := by omega
    simp only [c7, vT, vS, idxL_nat hns, w1 (show n ≤ 1000000 by omega), w1 (show j ≤ 1000000 by omega)]
    refine ⟨_, rfl, ⟨n + 1, j + 1, s.set n l[k + j], rfl, by omega, by omega, by omega, by simp [j4], ?_, ?_⟩, by simp only; omega⟩
    · rw [if_neg (fun e => hd e.symm), ← j5] at nx
      rw [show k + (j + 1) = k + j + 1 by omega, nx, List.take_succ_eq_append_getElem (by simp; omega), List.take_set_of_le (Nat.le_refl _)]
      simp
    · rw [List.drop_set_of_lt (by omega)]
      have := congrArg (List.drop 1) j6
      rw [List.drop_drop, List.drop_drop] at this
      rw [show k + (j + 1) - 1 = k + j - 1 + 1 by omega]; exact this
end Go.Proofs.YtglcbikbmobdpaaDoorM
