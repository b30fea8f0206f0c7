/- Layer 14 in plain terms: small letters, texts folded. -/
import Derived.Test.YtikkpmmhejjpaaaDoorFOPU
import Derived.KernelRfl
set_option linter.unusedSimpArgs false
set_option linter.unusedVariables false
namespace Go.Proofs.YtikkpmmhejjpaaaDoorM
open Go Go.RowKit

theorem awake14 : F_law14_awake = some true := by kernel_rfl
def table14 : List GA3_i64 := [⟨65, 90, 32⟩, ⟨192, 214, 32⟩, ⟨216, 222, 32⟩, ⟨913, 929, 32⟩, ⟨931, 937, 32⟩, ⟨1024, 1039, 80⟩, ⟨1040, 1071, 32⟩]
theorem table_eq : F_fold_Table = some table14 := by kernel_rfl

/-- The small letter. -/
def sm (c : Int) : Int := if (65 ≤ c ∧ c ≤ 90) ∨ (192 ≤ c ∧ c ≤ 222 ∧ c ≠ 215) ∨ (913 ≤ c ∧ c ≤ 937 ∧ c ≠ 930) ∨ (1040 ≤ c ∧ c ≤ 1071) then c + 32 else if 1024 ≤ c ∧ c ≤ 1039 then c + 80 else c
theorem small_low : ∀ n : Fin 1100, F_fold_Small ((n.val : Nat) : Int) = some (sm n.val) ∧ F_ref14_Small ((n.val : Nat) : Int) = some (sm n.val) ∧ iter (L_law14_FoldSmall_1 table14 ((n.val : Nat) : Int)) NF (0, (-1), 0) = some (.inl (sm n.val - n.val)) := by decide +kernel
theorem sm_out {c : Int} (h : c < 0 ∨ 1100 ≤ c) : sm c = c := by
  unfold sm
  rw [if_neg (by omega), if_neg (by omega)]
theorem sm_lo {c : Int} (h : sm c ≠ c) : 65 ≤ c ∧ c ≤ 1071 ∧ sm (sm c) = sm c ∧ 0 ≤ sm c ∧ sm c < 2048 ∧ (c < 128 ↔ sm c < 128) := by
  unfold sm at h
  have h3 : sm c = if (65 ≤ c ∧ c ≤ 90) ∨ (192 ≤ c ∧ c ≤ 222 ∧ c ≠ 215) ∨ (913 ≤ c ∧ c ≤ 937 ∧ c ≠ 930) ∨ (1040 ≤ c ∧ c ≤ 1071) then c + 32 else if 1024 ≤ c ∧ c ≤ 1039 then c + 80 else c := rfl
  split at h
  · rename_i c1
    rw [if_pos c1] at h3
    refine ⟨by omega, by omega, ?_, by omega, by omega, by omega⟩
    rw [h3]; unfold sm; rw [if_neg (by omega), if_neg (by omega)]
  · rename_i c1
    rw [if_neg c1] at h3
    split at h
    · rename_i c2
      rw [if_pos c2] at h3
      refine ⟨by omega, by omega, ?_, by omega, by omega, by omega⟩
      rw [h3]; unfold sm; rw [if_neg (by omega), if_neg (by omega)]
    · exact absurd rfl h

theorem cmp14 (x : GA3_i64) (c : Int) : F_fold_Small_1 [x.x0, x.x1, x.x2] c = some (if x.x1 < c then -1 else if x.x0 > c then 1 else 0) := by
  simp only [F_fold_Small_1, chkIdx, idxA]
  simp
  split
  · rfl
  · split <;> rfl
theorem bs_step (c i j h : Int) (x : GA3_i64) (s' : Int × Int) (hij : i < j) (hh : shrI (IntKind.u64.wrap (IntKind.i64.wrap (i + j))) .u64 1 = some h) (hw : IntKind.i64.wrap h = h) (hx : idxL table14 h = some x)
    (hs : s' = if x.x1 < c then (IntKind.i64.wrap (h + 1), j) else (i, h)) : L_slices_BinarySearchFunc_3_int_3_int_int_20_1 table14 c (i, j) = some (.inl s') := by
  unfold L_slices_BinarySearchFunc_3_int_3_int_int_20_1
  simp only [if_pos hij, hh, Option.bind_some, hw, hx, cmp14]
  subst hs
  by_cases q : x.x1 < c
  · rw [if_pos q, if_pos q, if_pos (by decide)]
  · rw [if_neg q, if_neg q]
    by_cases q2 : x.x0 > c
    · rw [if_pos q2, if_neg (by decide)]
    · rw [if_neg q2, if_neg (by decide)]
theorem bs_end (c i j : Int) (hij : ¬ i < j) : L_slices_BinarySearchFunc_3_int_3_int_int_20_1 table14 c (i, j) = some (.inr i) := by
  unfold L_slices_BinarySearchFunc_3_int_3_int_int_20_1
  rw [if_neg hij]
theorem small_high {c : Int} (h : 1100 ≤ c) : F_fold_Small c = some c := by
  unfold F_fold_Small
  rw [table_eq, Option.bind_some]
  unfold F_slices_BinarySearchFunc_3_int_3_int_int_20
  rw [NF_add, show ((table14.length : Nat) : Int) = 7 from rfl,
    iter_inl (bs_step c 0 7 3 ⟨913, 929, 32⟩ (4, 7) (by decide) (by decide +kernel) (by decide +kernel) rfl (by rw [if_pos (by simp only; omega)]; rfl)),
    iter_inl (bs_step c 4 7 5 ⟨1024, 1039, 80⟩ (6, 7) (by decide) (by decide +kernel) (by decide +kernel) rfl (by rw [if_pos (by simp only; omega)]; rfl)),
    iter_inl (bs_step c 6 7 6 ⟨1040, 1071, 32⟩ (7, 7) (by decide) (by decide +kernel) (by decide +kernel) rfl (by rw [if_pos (by simp only; omega)]; rfl)),
    iter_inr (bs_end c 7 7 (by decide))]
  rfl
theorem small_neg {c : Int} (h : c < 0) : F_fold_Small c = some c := by
  unfold F_fold_Small
  rw [table_eq, Option.bind_some]
  unfold F_slices_BinarySearchFunc_3_int_3_int_int_20
  rw [NF_add, show ((table14.length : Nat) : Int) = 7 from rfl,
    iter_inl (bs_step c 0 7 3 ⟨913, 929, 32⟩ (0, 3) (by decide) (by decide +kernel) (by decide +kernel) rfl (by rw [if_neg (by simp only; omega)])),
    iter_inl (bs_step c 0 3 1 ⟨192, 214, 32⟩ (0, 1) (by decide) (by decide +kernel) (by decide +kernel) rfl (by rw [if_neg (by simp only; omega)])),
    iter_inl (bs_step c 0 1 0 ⟨65, 90, 32⟩ (0, 0) (by decide) (by decide +kernel) (by decide +kernel) rfl (by rw [if_neg (by simp only; omega)])),
    iter_inr (bs_end c 0 0 (by decide)), Option.bind_some, if_pos (by decide), show idxL table14 0 = some ⟨65, 90, 32⟩ from rfl, Option.bind_some, cmp14, if_neg (by simp only; omega), if_pos (by simp only; omega)]
  rfl
theorem low_of {c : Int} (h : ¬ (c < 0 ∨ 1100 ≤ c)) : ∃ n : Fin 1100, c = ((n.val : Nat) : Int) := ⟨⟨c.toNat, by omega⟩, by simp only; omega⟩
theorem small_eq (c : Int) : F_fold_Small c = some (sm c) := by
  by_cases h : c < 0 ∨ 1100 ≤ c
  · rw [sm_out h]
    rcases h with h | h
    · exact small_neg h
    · exact small_high h
  · obtain ⟨n, rfl⟩ := low_of h
    exact (small_low n).1
theorem rsmall_eq (c : Int) : F_ref14_Small c = some (sm c) := by
  by_cases h : c < 0 ∨ 1100 ≤ c
  · rw [sm_out h]
    unfold F_ref14_Small
    rcases h with h | h
    · simp only [if_neg (show ¬ c ≥ 65 by omega), if_neg (show ¬ c ≥ 192 by omega), if_neg (show ¬ c ≥ 913 by omega), if_neg (show ¬ c ≥ 1040 by omega), if_neg (show ¬ c ≥ 1024 by omega), Option.bind_some, Bool.false_eq_true, if_false]
    · simp only [if_pos (show c ≥ 65 by omega), if_neg (show ¬ c ≤ 90 by omega), if_pos (show c ≥ 192 by omega), if_neg (show ¬ c ≤ 222 by omega), if_pos (show c ≥ 913 by omega), if_neg (show ¬ c ≤ 937 by omega), if_pos (show c ≥ 1040 by omega), show ¬ c ≤ 1071 by omega, if_pos (show c ≥ 1024 by omega), show ¬ c ≤ 1039 by omega, decide_false, Option.bind_some, Bool.false_eq_true, if_false]
  · obtain ⟨n, rfl⟩ := low_of h
    exact (small_low n).2.1

/-! ### The table -/
theorem tab_step (c last k k' : Int) (x : GA3_i64) (hk : k < 7) (hx : idxL table14 k = some x) (h1 : last < x.x0) (h2 : x.x0 ≤ x.x1) (h3 : x.x2 ≠ 0) (h4 : c < x.x0 ∨ x.x1 < c) (hk' : IntKind.i64.wrap (k + 1) = k') :
    L_law14_FoldSmall_1 table14 c (0, last, k) = some (.inl (0, x.x1, k')) := by
  unfold L_law14_FoldSmall_1
  simp only [show ((table14.length : Nat) : Int) = 7 from rfl, if_pos hk, hx, Option.bind_some, chkLen, chkIdx, idxA, hk']
  simp only [List.length_cons, List.length_nil, Nat.zero_add, Nat.reduceAdd, if_true, Option.bind_some]
  simp only [show (0:Int) ≤ 3 ∧ (3:Int) < 3 ↔ False by decide, show ((0:Int) ≤ 0 ∧ (0:Int) < 3) by decide, show ((0:Int) ≤ 1 ∧ (1:Int) < 3) by decide, show ((0:Int) ≤ 2 ∧ (2:Int) < 3) by decide, and_self, if_true, Option.bind_some,
    show (0 : Int).toNat = 0 from rfl, show (1 : Int).toNat = 1 from rfl, show (2 : Int).toNat = 2 from rfl, List.getElem?_cons_zero, List.getElem?_cons_succ, if_neg (show ¬ x.x0 ≤ last by omega), if_neg (show ¬ x.x1 < x.x0 by omega),
    show (x.x2 == 0) = false by simpa using h3, Bool.false_eq_true, if_false]
  by_cases q : c ≥ x.x0
  · simp only [if_pos q, show ¬ c ≤ x.x1 by omega, decide_false, Option.bind_some, Bool.false_eq_true, if_false]
  · simp only [if_neg q, Option.bind_some, Bool.false_eq_true, if_false]
theorem tab_out {c : Int} (h : c < 0 ∨ 1100 ≤ c) : iter (L_law14_FoldSmall_1 table14 c) NF (0, (-1), 0) = some (.inl 0) := by
  rw [show NF = 999992 + 1 + 1 + 1 + 1 + 1 + 1 + 1 + 1 by rw [NF_eq],
    iter_inl (tab_step c (-1) 0 1 ⟨65, 90, 32⟩ (by decide) rfl (by decide) (by decide) (by decide) (by simp only; omega) (by decide +kernel)),
    iter_inl (tab_step c _ 1 2 ⟨192, 214, 32⟩ (by decide) rfl (by decide) (by decide) (by decide) (by simp only; omega) (by decide +kernel)),
    iter_inl (tab_step c _ 2 3 ⟨216, 222, 32⟩ (by decide) rfl (by decide) (by decide) (by decide) (by simp only; omega) (by decide +kernel)),
    iter_inl (tab_step c _ 3 4 ⟨913, 929, 32⟩ (by decide) rfl (by decide) (by decide) (by decide) (by simp only; omega) (by decide +kernel)),
    iter_inl (tab_step c _ 4 5 ⟨931, 937, 32⟩ (by decide) rfl (by decide) (by decide) (by decide) (by simp only; omega) (by decide +kernel)),
    iter_inl (tab_step c _ 5 6 ⟨1024, 1039, 80⟩ (by decide) rfl (by decide) (by decide) (by decide) (by simp only; omega) (by decide +kernel)),
    iter_inl (tab_step c _ 6 7 ⟨1040, 1071, 32⟩ (by decide) rfl (by decide) (by decide) (by decide) (by simp only; omega) (by decide +kernel))]
  refine iter_inr ?_
  unfold L_law14_FoldSmall_1
  rw [if_neg (by decide)]
theorem true_law14_FoldSmall (c : Int) (w : (Lit.int .i64 c).wf = true) : F_law14_FoldSmall c = some true := by
  unfold F_law14_FoldSmall
  have hs : sm c = c ∨ sm c = c + 32 ∨ sm c = c + 80 := by
    unfold sm; split
    · right; left; rfl
    · split
      · right; right; rfl
      · left; rfl
  have ht : iter (L_law14_FoldSmall_1 table14 c) NF (0, (-1), 0) = some (.inl (sm c - c)) := by
    by_cases h : c < 0 ∨ 1100 ≤ c
    · rw [tab_out h, sm_out h, Int.sub_self]
    · obtain ⟨n, rfl⟩ := low_of h
      exact (small_low n).2.2
  rw [awake14, Option.bind_some, if_neg (by decide), small_eq, Option.bind_some, rsmall_eq, Option.bind_some, if_neg (by simp), table_eq, Option.bind_some, ht, Option.bind_some, sumK_inl, wrap_i64 (by omega) (by omega)]
  simp
end Go.Proofs.YtikkpmmhejjpaaaDoorM
