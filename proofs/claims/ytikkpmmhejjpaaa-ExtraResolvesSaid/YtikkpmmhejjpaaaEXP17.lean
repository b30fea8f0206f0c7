/- Layer 17 in plain terms: fields are put as the document's bytes, and parsed again; numbers that are too great are found as it says. -/
import Derived.Test.YtikkpmmhejjpaaaEXP02
import Derived.KernelRfl
set_option linter.unusedSimpArgs false
set_option linter.unusedVariables false
namespace Go.Proofs.YtikkpmmhejjpaaaM
open Go Go.RowKit

theorem num_at (a b : List UInt8) (v : Int) (k : Nat) : numOf (a ++ (put v k ++ b)) a.length k = ((IntKind.u64.wrap v).toNat % 256 ^ k : Nat) := by
  have hl := put_len v k
  unfold numOf
  rw [cut_is (by omega) (by omega) (by simp; omega)]
  have : ((a ++ (put v k ++ b)).take ((a.length : Int) + k).toNat).drop (a.length : Int).toNat = put v k := by
    rw [show ((a.length : Int) + k).toNat = a.length + k by omega, Int.toNat_natCast, List.take_length_add_append, List.drop_left, List.take_append_of_le_length (by omega), List.take_of_length_le (by omega)]
  simp only [this]
  unfold put
  rw [leNum_leB]
theorem num_at' {s : List UInt8} (a b : List UInt8) (v : Int) (k : Nat) {d : Int} (hs : s = a ++ (put v k ++ b)) (hd : d = a.length) : numOf s d k = ((IntKind.u64.wrap v).toNat % 256 ^ k : Nat) := by
  subst hs; subst hd; exact num_at a b v k

theorem idxL_at {α : Type} {l : List α} {i : Nat} {x : α} {r : List α} (h : l.drop i = x :: r) : idxL l (i : Int) = some x ∧ i < l.length ∧ l.drop (i + 1) = r := by
  have hlt : i < l.length := by
    rcases Nat.lt_or_ge i l.length with h' | h'
    · exact h'
    · rw [List.drop_of_length_le h'] at h; cases h
  have h2 := List.drop_eq_getElem_cons hlt
  rw [h] at h2
  simp only [List.cons.injEq] at h2
  refine ⟨?_, hlt, h2.2.symm⟩
  unfold idxL
  rw [if_pos (by omega), Int.toNat_natCast, List.getElem?_eq_getElem hlt, h2.1]
theorem drop_end {α : Type} {l : List α} {i : Nat} (hi : i ≤ l.length) (h : l.drop i = []) : i = l.length := by
  have := congrArg List.length h
  simp at this; omega
theorem wrap_succ {i m : Nat} (hi : i < m) (hm : m ≤ 1000000) : IntKind.i64.wrap ((i : Int) + 1) = ((i + 1 : Nat) : Int) := by rw [wrap_i64 (by omega) (by omega)]; omega
theorem app_eq {α : Type} (a b : List α) (h : a.length + b.length ≤ 100000000) : app a b = some (a ++ b) := by
  unfold app; rw [if_pos (by unfold capL; omega)]

/-! ### Put -/
def encX (x : Gapi_Extra) : List UInt8 := put x.xID 2 ++ (put x.xData.length 2 ++ x.xData)
def badX (x : Gapi_Extra) : Prop := x.xID < 0 ∨ x.xID > 65535 ∨ (x.xData.length : Int) > 65535
instance (x : Gapi_Extra) : Decidable (badX x) := by unfold badX; infer_instance
def putsX : List Gapi_Extra → List UInt8 → Option (List UInt8)
  | [], acc => some acc
  | x :: l, acc => if badX x then none else putsX l (acc ++ encX x)
theorem encX_len (x : Gapi_Extra) : (encX x).length = 4 + x.xData.length := by
  unfold encX; simp [put_len]; omega

theorem L_ePut (l : List Gapi_Extra) (hl : l.length ≤ 100) (hd : ∀ x ∈ l, x.xData.length ≤ 1000) : ∀ (r : List Gapi_Extra) (i n : Nat) (acc : List UInt8), l.drop i = r → i ≤ l.length → acc.length ≤ 2000 * i → r.length < n →
    iter (L_extra_Put_1 l) n (acc, (i : Int)) = some (match putsX r acc with | some b => .inl b | none => .inr ()) := by
  intro r
  induction r with
  | nil =>
    intro i n acc hr hi ha hn
    obtain ⟨n, rfl⟩ : ∃ j, n = j + 1 := ⟨n - 1, by simp at hn; omega⟩
    have := drop_end hi hr
    refine iter_inr ?_
    unfold L_extra_Put_1
    rw [if_neg (by simp only; omega)]; rfl
  | cons x r ih =>
    intro i n acc hr hi ha hn
    obtain ⟨n, rfl⟩ : ∃ j, n = j + 1 := ⟨n - 1, by simp at hn; omega⟩
    obtain ⟨h1, h2, h3⟩ := idxL_at hr
    have hx := hd x (List.mem_of_mem_drop (by rw [hr]; exact List.mem_cons_self ..))
    have hp := fun v => put_len v 2
    have e1 : cat (put x.xID 2) (put x.xData.length 2) = some (put x.xID 2 ++ put x.xData.length 2) := cat_eq _ _ (by rw [hp, hp]; omega)
    have e2 : cat (put x.xID 2 ++ put x.xData.length 2) x.xData = some (encX x) := by rw [cat_eq _ _ (by rw [List.length_append, hp, hp]; omega)]; unfold encX; rw [List.append_assoc]
    have e3 : app acc (encX x) = some (acc ++ encX x) := app_eq _ _ (by rw [encX_len]; omega)
    have step : L_extra_Put_1 l (acc, (i : Int)) = some (if badX x then .inr (.inr ()) else .inl (acc ++ encX x, ((i + 1 : Nat) : Int))) := by
      unfold L_extra_Put_1
      rw [if_pos (by simp only; omega)]
      simp only [h1, Option.bind_some, P16_eq, e1, e2, e3, wrap_succ h2 (by omega)]
      by_cases c1 : x.xID < 0
      · simp [badX, c1]
      · by_cases c2 : x.xID > 65535
        · simp [badX, c1, c2]
        · by_cases c3 : (x.xData.length : Int) > 65535 <;> simp [badX, c1, c2, c3]
    by_cases hb : badX x
    · rw [if_pos hb] at step
      rw [iter_inr step, putsX, if_pos hb]
    · rw [if_neg hb] at step
      rw [iter_inl step, ih (i + 1) n _ h3 (by omega) (by rw [List.length_append, encX_len]; omega) (by simp at hn; omega), putsX, if_neg hb]
theorem L_rPut (l : List Gapi_Extra) (hl : l.length ≤ 100) (hd : ∀ x ∈ l, x.xData.length ≤ 1000) : ∀ (r : List Gapi_Extra) (i n : Nat) (acc : List UInt8), l.drop i = r → i ≤ l.length → acc.length ≤ 2000 * i → r.length < n →
    iter (L_ref17_Put_1 l) n (acc, (i : Int)) = some (match putsX r acc with | some b => .inl b | none => .inr ()) := by
  intro r
  induction r with
  | nil =>
    intro i n acc hr hi ha hn
    obtain ⟨n, rfl⟩ : ∃ j, n = j + 1 := ⟨n - 1, by simp at hn; omega⟩
    have := drop_end hi hr
    refine iter_inr ?_
    unfold L_ref17_Put_1
    rw [if_neg (by simp only; omega)]; rfl
  | cons x r ih =>
    intro i n acc hr hi ha hn
    obtain ⟨n, rfl⟩ : ∃ j, n = j + 1 := ⟨n - 1, by simp at hn; omega⟩
    obtain ⟨h1, h2, h3⟩ := idxL_at hr
    have hx := hd x (List.mem_of_mem_drop (by rw [hr]; exact List.mem_cons_self ..))
    have hp := fun v => put_len v 2
    have e1 : cat acc (put x.xID 2) = some (acc ++ put x.xID 2) := cat_eq _ _ (by rw [hp]; omega)
    have e2 : cat (acc ++ put x.xID 2) (put x.xData.length 2) = some (acc ++ put x.xID 2 ++ put x.xData.length 2) := cat_eq _ _ (by rw [List.length_append, hp, hp]; omega)
    have e3 : cat (acc ++ put x.xID 2 ++ put x.xData.length 2) x.xData = some (acc ++ encX x) := by rw [cat_eq _ _ (by rw [List.length_append, List.length_append, hp, hp]; omega)]; unfold encX; simp only [List.append_assoc]
    have step : L_ref17_Put_1 l (acc, (i : Int)) = some (if badX x then .inr (.inr ()) else .inl (acc ++ encX x, ((i + 1 : Nat) : Int))) := by
      unfold L_ref17_Put_1
      rw [if_pos (by simp only; omega)]
      simp only [h1, Option.bind_some, RPut2, e1, e2, e3, wrap_succ h2 (by omega)]
      by_cases c1 : x.xID < 0
      · simp [badX, c1]
      · by_cases c2 : x.xID > 65535
        · simp [badX, c1, c2]
        · by_cases c3 : (x.xData.length : Int) > 65535 <;> simp [badX, c1, c2, c3]
    by_cases hb : badX x
    · rw [if_pos hb] at step
      rw [iter_inr step, putsX, if_pos hb]
    · rw [if_neg hb] at step
      rw [iter_inl step, ih (i + 1) n _ h3 (by omega) (by rw [List.length_append, encX_len]; omega) (by simp at hn; omega), putsX, if_neg hb]

theorem putsX_is : ∀ (l : List Gapi_Extra) (acc b : List UInt8), putsX l acc = some b → b = acc ++ l.flatMap encX ∧ ∀ x ∈ l, ¬ badX x
  | [], acc, b, h => by
    rw [putsX] at h; cases h
    exact ⟨by simp, fun x hx => by cases hx⟩
  | x :: l, acc, b, h => by
    rw [putsX] at h
    split at h
    · cases h
    · rename_i hb
      obtain ⟨h1, h2⟩ := putsX_is l _ _ h
      refine ⟨by rw [h1]; simp, fun y hy => ?_⟩
      rcases List.mem_cons.1 hy with rfl | hy
      · exact hb
      · exact h2 y hy
theorem flat_le (l : List Gapi_Extra) (hd : ∀ x ∈ l, x.xData.length ≤ 1000) : (l.flatMap encX).length ≤ 1004 * l.length := by
  induction l with
  | nil => simp
  | cons x l ih =>
    have h1 := hd x (List.mem_cons_self ..)
    have h2 := ih fun y hy => hd y (List.mem_cons_of_mem _ hy)
    simp only [List.flatMap_cons, List.length_append, List.length_cons, encX_len]
    omega

/-- What is put. -/
def putX (l : List Gapi_Extra) : List UInt8 × Int :=
  match putsX l [] with
  | none => ([], 1)
  | some b => if (b.length : Int) > 65535 then ([], 7) else (b, 0)
theorem ePut_eq (l : List Gapi_Extra) (hl : l.length ≤ 100) (hd : ∀ x ∈ l, x.xData.length ≤ 1000) : F_extra_Put l = some (putX l) := by
  unfold F_extra_Put putX
  have := L_ePut l hl hd l 0 NF [] (by simp) (by omega) (by simp) (by rw [NF_eq]; omega)
  rw [show ((0 : Nat) : Int) = 0 from rfl] at this
  rw [this]
  cases hp : putsX l [] with
  | none => rfl
  | some b =>
    simp only [Option.bind_some, sumK_inl]
    split
    · rfl
    · have h1 : chkCap b = some () := by unfold chkCap; rw [if_pos (by unfold capL; omega)]
      rw [h1]; rfl
theorem rPut_eq (l : List Gapi_Extra) (hl : l.length ≤ 100) (hd : ∀ x ∈ l, x.xData.length ≤ 1000) : F_ref17_Put l = some (putX l) := by
  unfold F_ref17_Put putX
  have := L_rPut l hl hd l 0 NF [] (by simp) (by omega) (by simp) (by rw [NF_eq]; omega)
  rw [show ((0 : Nat) : Int) = 0 from rfl] at this
  rw [this]
  cases hp : putsX l [] with
  | none => rfl
  | some b =>
    simp only [Option.bind_some, sumK_inl]
    split <;> rfl

/-! ### Parsed again -/
theorem cut_at (a b c : List UInt8) {d m : Int} (hd : d = a.length) (hm : m = b.length) : cutOf (a ++ (b ++ c)) d m = (b, 0) := by
  subst hd; subst hm
  rw [cut_is (by omega) (by omega) (by simp; omega)]
  congr 1
  rw [show ((a.length : Int) + b.length).toNat = a.length + b.length by omega, Int.toNat_natCast, List.take_length_add_append, List.drop_left, List.take_append_of_le_length (by omega), List.take_of_length_le (by omega)]

theorem L_Parse : ∀ (r : List Gapi_Extra) (pre : List UInt8) (n : Nat) (out : List Gapi_Extra) (s : List UInt8), s = pre ++ r.flatMap encX → s.length < 1000000 → (∀ x ∈ r, ¬ badX x) → out.length ≤ pre.length → r.length < n →
    iter (L_extra_Parse_1 s) n (out, (pre.length : Int)) = some (.inl (out ++ r)) := by
  intro r
  induction r with
  | nil =>
    intro pre n out s hs hlen hb ho hn
    obtain ⟨n, rfl⟩ : ∃ j, n = j + 1 := ⟨n - 1, by simp at hn; omega⟩
    refine iter_inr ?_
    unfold L_extra_Parse_1
    rw [if_neg (by simp only [hs]; simp)]
    simp
  | cons x r ih =>
    intro pre n out s hs hlen hb ho hn
    obtain ⟨n, rfl⟩ : ∃ j, n = j + 1 := ⟨n - 1, by simp at hn; omega⟩
    have hbx := hb x (List.mem_cons_self ..)
    unfold badX at hbx
    have hp := fun v => put_len v 2
    have hs1 : s = pre ++ (put x.xID 2 ++ (put x.xData.length 2 ++ (x.xData ++ r.flatMap encX))) := by
      rw [hs, List.flatMap_cons]; unfold encX; simp only [List.append_assoc]
    have hs2 : s = (pre ++ put x.xID 2) ++ (put x.xData.length 2 ++ (x.xData ++ r.flatMap encX)) := by rw [hs1]; simp only [List.append_assoc]
    have hs3 : s = (pre ++ put x.xID 2 ++ put x.xData.length 2) ++ (x.xData ++ r.flatMap encX) := by rw [hs1]; simp only [List.append_assoc]
    have hs4 : s = (pre ++ encX x) ++ r.flatMap encX := by rw [hs, List.flatMap_cons, List.append_assoc]
    have hsl : s.length = pre.length + 4 + x.xData.length + (r.flatMap encX).length := by rw [hs4, List.length_append, List.length_append, encX_len]; omega
    have n1 : numOf s pre.length 2 = x.xID := by
      have := num_at' pre _ x.xID 2 hs1 (d := (pre.length : Int)) rfl
      rw [wrap_u64] at this
      exact this.trans (by omega)
    have n2 : numOf s ((pre.length : Int) + 2) 2 = x.xData.length := by
      have := num_at' (pre ++ put x.xID 2) _ x.xData.length 2 hs2 (d := (pre.length : Int) + 2) (by rw [List.length_append, hp]; omega)
      rw [wrap_u64] at this
      exact this.trans (by omega)
    have c1 : (cutOf s ((pre.length : Int) + 2) 2).2 = 0 := by
      have := cut_at (pre ++ put x.xID 2) (put x.xData.length 2) (x.xData ++ r.flatMap encX) (d := (pre.length : Int) + 2) (m := 2) (by rw [List.length_append, hp]; omega) (by rw [hp]; rfl)
      rw [← hs2] at this
      rw [this]
    have c2 : cutOf s ((pre.length : Int) + 4) x.xData.length = (x.xData, 0) := by
      have := cut_at (pre ++ put x.xID 2 ++ put x.xData.length 2) x.xData (r.flatMap encX) (d := (pre.length : Int) + 4) (m := x.xData.length) (by rw [List.length_append, List.length_append, hp, hp]; omega) rfl
      rwa [← hs3] at this
    have w2 : IntKind.i64.wrap ((pre.length : Int) + 2) = (pre.length : Int) + 2 := wrap_i64 (by omega) (by omega)
    have w4 : IntKind.i64.wrap ((pre.length : Int) + 4) = (pre.length : Int) + 4 := wrap_i64 (by omega) (by omega)
    have w5 : IntKind.i64.wrap (4 + (x.xData.length : Int)) = 4 + (x.xData.length : Int) := wrap_i64 (by omega) (by omega)
    have w6 : IntKind.i64.wrap ((pre.length : Int) + (4 + (x.xData.length : Int))) = ((pre ++ encX x).length : Int) := by rw [wrap_i64 (by omega) (by omega), List.length_append, encX_len]; omega
    have ap : app out [x] = some (out ++ [x]) := app_eq _ _ (by simp; omega)
    have step : L_extra_Parse_1 s (out, (pre.length : Int)) = some (.inl (out ++ [x], ((pre ++ encX x).length : Int))) := by
      unfold L_extra_Parse_1
      rw [if_pos (by simp only; omega)]
      simp only [w2, w4, U16_eq s _ (by omega : s.length < 1000000000), Cut_eq s _ _ (by omega : s.length < 1000000000), Option.bind_some, n1, n2, c1, c2, bne_self_eq_false, Bool.false_eq_true, if_false, w5, w6, ap]
    rw [iter_inl step, ih (pre ++ encX x) n _ s hs4 hlen (fun y hy => hb y (List.mem_cons_of_mem _ hy)) (by rw [List.length_append, List.length_append, encX_len]; simp; omega) (by simp at hn; omega)]
    simp
theorem Parse_put (l : List Gapi_Extra) (hb : ∀ x ∈ l, ¬ badX x) (hl : l.length ≤ 100) (hs : (l.flatMap encX).length < 1000000) : F_extra_Parse (l.flatMap encX) = some (l, 0) := by
  unfold F_extra_Parse
  have := L_Parse l [] NF [] (l.flatMap encX) (by simp) hs hb (by simp) (by rw [NF_eq]; omega)
  simp only [List.length_nil, List.nil_append] at this
  rw [show ((0 : Nat) : Int) = 0 from rfl] at this
  rw [this]; rfl

theorem L_same (l : List Gapi_Extra) (hl : l.length ≤ 100) : ∀ (r : List Gapi_Extra) (i n : Nat), l.drop i = r → i ≤ l.length → r.length < n → iter (L_law17_same_1 l l) n (i : Int) = some (.inl ()) := by
  intro r
  induction r with
  | nil =>
    intro i n hr hi hn
    obtain ⟨n, rfl⟩ : ∃ j, n = j + 1 := ⟨n - 1, by simp at hn; omega⟩
    have := drop_end hi hr
    refine iter_inr ?_
    unfold L_law17_same_1
    rw [if_neg (by omega)]
  | cons x r ih =>
    intro i n hr hi hn
    obtain ⟨n, rfl⟩ : ∃ j, n = j + 1 := ⟨n - 1, by simp at hn; omega⟩
    obtain ⟨h1, h2, h3⟩ := idxL_at hr
    have step : L_law17_same_1 l l (i : Int) = some (.inl ((i + 1 : Nat) : Int)) := by
      unfold L_law17_same_1
      rw [if_pos (by omega)]
      simp [h1, wrap_succ h2 (by omega)]
    rw [iter_inl step]
    exact ih (i + 1) n h3 (by omega) (by simp at hn; omega)
theorem same_self (l : List Gapi_Extra) (hl : l.length ≤ 100) : F_law17_same l l = some true := by
  unfold F_law17_same
  have := L_same l hl l 0 NF (by simp) (by omega) (by rw [NF_eq]; omega)
  rw [show ((0 : Nat) : Int) = 0 from rfl] at this
  rw [this]
  simp [sumK]

theorem L_small (l : List Gapi_Extra) (hl : l.length ≤ 100) : ∀ (r : List Gapi_Extra) (i n : Nat), l.drop i = r → i ≤ l.length → r.length < n → ∃ q, iter (L_law17_ExtraBack_1 l) n (i : Int) = some q ∧ (q = .inl () → ∀ x ∈ r, x.xData.length ≤ 100) := by
  intro r
  induction r with
  | nil =>
    intro i n hr hi hn
    obtain ⟨n, rfl⟩ : ∃ j, n = j + 1 := ⟨n - 1, by simp at hn; omega⟩
    have := drop_end hi hr
    refine ⟨.inl (), iter_inr ?_, fun _ x hx => by cases hx⟩
    unfold L_law17_ExtraBack_1
    rw [if_neg (by omega)]
  | cons x r ih =>
    intro i n hr hi hn
    obtain ⟨n, rfl⟩ : ∃ j, n = j + 1 := ⟨n - 1, by simp at hn; omega⟩
    obtain ⟨h1, h2, h3⟩ := idxL_at hr
    by_cases c : (x.xData.length : Int) > 100
    · refine ⟨.inr (), iter_inr ?_, fun h => by cases h⟩
      unfold L_law17_ExtraBack_1
      rw [if_pos (by omega), h1]
      simp [c]
    · obtain ⟨q, h4, h5⟩ := ih (i + 1) n h3 (by omega) (by simp at hn; omega)
      have step : L_law17_ExtraBack_1 l (i : Int) = some (.inl ((i + 1 : Nat) : Int)) := by
        unfold L_law17_ExtraBack_1
        rw [if_pos (by omega), h1]
        simp [c, wrap_succ h2 (by omega)]
      refine ⟨q, by rw [iter_inl step, h4], fun hq y hy => ?_⟩
      rcases List.mem_cons.1 hy with rfl | hy
      · omega
      · exact h5 hq y hy

theorem awake17 : F_law17_awake = some true := by kernel_rfl

theorem true_law17_ExtraBack (l : List Gapi_Extra) : F_law17_ExtraBack l = some true := by
  unfold F_law17_ExtraBack
  rw [awake17]
  simp only [Option.bind_some, Bool.not_true, Bool.false_eq_true, if_false]
  by_cases c : (l.length : Int) > 20
  · rw [if_pos c]
  rw [if_neg c]
  obtain ⟨q, h1, h2⟩ := L_small l (by omega) l 0 NF (by simp) (by omega) (by rw [NF_eq]; omega)
  rw [show ((0 : Nat) : Int) = 0 from rfl] at h1
  rw [h1]
  simp only [Option.bind_some]
  cases q with
  | inr u => rfl
  | inl u =>
    have hd : ∀ x ∈ l, x.xData.length ≤ 1000 := fun x hx => by have := h2 rfl x hx; omega
    simp only [sumK_inl, ePut_eq l (by omega) hd, rPut_eq l (by omega) hd, Option.bind_some, beq_self_eq_true, Bool.not_true, Bool.false_eq_true, if_false, bne_self_eq_false]
    cases hp : putsX l [] with
    | none =>
      have e : putX l = ([], 1) := by unfold putX; rw [hp]
      rw [e]; rfl
    | some b =>
      obtain ⟨h3, h4⟩ := putsX_is l [] b hp
      simp only [List.nil_append] at h3
      subst h3
      by_cases c2 : ((l.flatMap encX).length : Int) > 65535
      · have e : putX l = ([], 7) := by unfold putX; rw [hp]; simp only [if_pos c2]
        rw [e]; rfl
      · have e : putX l = (l.flatMap encX, 0) := by unfold putX; rw [hp]; simp only [if_neg c2]
        rw [e]
        simp only [bne_self_eq_false, Bool.false_eq_true, if_false, Parse_put l h4 (by omega) (by omega), Option.bind_some, beq_self_eq_true, if_true, same_self l (by omega)]

/-! ### Numbers that are too great -/
theorem Find_same (l : List Gapi_Extra) (id : Int) : F_extra_Find l id = F_ref17_Find l id := rfl
theorem L_Find (l : List Gapi_Extra) (id : Int) (hl : l.length ≤ 100) (hd : ∀ x ∈ l, x.xData.length ≤ 1000) : ∀ (r : List Gapi_Extra) (i n : Nat), l.drop i = r → i ≤ l.length → r.length < n → ∃ q, iter (L_extra_Find_1 l id) n (i : Int) = some q ∧ (∀ d, q = .inr d → d.length ≤ 1000) := by
  intro r
  induction r with
  | nil =>
    intro i n hr hi hn
    obtain ⟨n, rfl⟩ : ∃ j, n = j + 1 := ⟨n - 1, by simp at hn; omega⟩
    have := drop_end hi hr
    refine ⟨.inl (), iter_inr ?_, fun d h => by cases h⟩
    unfold L_extra_Find_1
    rw [if_neg (by omega)]
  | cons x r ih =>
    intro i n hr hi hn
    obtain ⟨n, rfl⟩ : ∃ j, n = j + 1 := ⟨n - 1, by simp at hn; omega⟩
    obtain ⟨h1, h2, h3⟩ := idxL_at hr
    have hx := hd x (List.mem_of_mem_drop (by rw [hr]; exact List.mem_cons_self ..))
    by_cases c : (x.xID == id) = true
    · refine ⟨.inr x.xData, iter_inr ?_, fun d h => by cases h; exact hx⟩
      unfold L_extra_Find_1
      rw [if_pos (by omega), h1]
      simp only [Option.bind_some, c, if_true]
    · obtain ⟨q, h4, h5⟩ := ih (i + 1) n h3 (by omega) (by simp at hn; omega)
      have step : L_extra_Find_1 l id (i : Int) = some (.inl ((i + 1 : Nat) : Int)) := by
        unfold L_extra_Find_1
        rw [if_pos (by omega), h1]
        simp only [Option.bind_some, c, if_false, wrap_succ h2 (by omega : l.length ≤ 1000000)]
        rfl
      exact ⟨q, by rw [iter_inl step, h4], h5⟩
theorem Find_some (l : List Gapi_Extra) (id : Int) (hl : l.length ≤ 100) (hd : ∀ x ∈ l, x.xData.length ≤ 1000) : ∃ d b, F_extra_Find l id = some (d, b) ∧ d.length ≤ 1000 := by
  obtain ⟨q, h1, h2⟩ := L_Find l id hl hd l 0 NF (by simp) (by omega) (by rw [NF_eq]; omega)
  rw [show ((0 : Nat) : Int) = 0 from rfl] at h1
  unfold F_extra_Find
  rw [h1]
  cases q with
  | inl u => exact ⟨[], false, rfl, by simp⟩
  | inr d => exact ⟨d, true, rfl, h2 d rfl⟩

/-- What comes of the rest of the numbers; none: refused. -/
def rz (d : List UInt8) : List Int → Int → Bool → Option (List Int × Bool)
  | [], _, ov => some ([], ov)
  | x :: xs, a, ov =>
    if (x != 4294967295) = true then (rz d xs a ov).map fun p => (x :: p.1, p.2)
    else if ((cutOf d a 8).2 != 0) = true then none
    else (rz d xs (a + 8) (ov || decide (numOf d a 8 > 1099511627776))).map fun p => (IntKind.i64.wrap (numOf d a 8) :: p.1, p.2)

section
variable (d : List UInt8) (b : Bool) (hd : d.length ≤ 1000) (n0 n1 n2 : Int)
include hd
theorem L_eRes : ∀ (r pre : List Int) (i n : Nat) (a : Int) (ov : Bool), [n0, n1, n2].drop i = r → pre.length = i → i ≤ 3 → 0 ≤ a → a ≤ 8 * i → r.length < n →
    iter (L_extra_Resolve_1 n0 n1 n2 (d, b)) n (pre ++ r, a, (if ov then 7 else 0), (i : Int)) = some (match rz d r a ov with | some p => .inl (pre ++ p.1, if p.2 then 7 else 0) | none => .inr ()) := by
  intro r
  induction r with
  | nil =>
    intro pre i n a ov hr hp hi h0 ha hn
    obtain ⟨n, rfl⟩ : ∃ j, n = j + 1 := ⟨n - 1, by simp at hn; omega⟩
    have := drop_end (by simpa using hi) hr
    simp at this
    refine iter_inr ?_
    unfold L_extra_Resolve_1
    rw [if_neg (by simp only; omega)]
    simp [rz]
  | cons x r ih =>
    intro pre i n a ov hr hp hi h0 ha hn
    obtain ⟨n, rfl⟩ : ∃ j, n = j + 1 := ⟨n - 1, by simp at hn; omega⟩
    obtain ⟨h1, h2, h3⟩ := idxL_at hr
    simp at h2
    have ck : chkIdx 3 (i : Int) = some () := by unfold chkIdx; rw [if_pos (by omega)]
    have ix : idxA 3 [n0, n1, n2] (i : Int) = some x := by
      unfold idxA; rw [if_pos (by omega)]
      unfold idxL at h1; rw [if_pos (by omega)] at h1; exact h1
    have w1 : IntKind.i64.wrap ((i : Int) + 1) = ((i + 1 : Nat) : Int) := by rw [wrap_i64 (by omega) (by omega)]; omega
    have w8 : IntKind.i64.wrap (a + 8) = a + 8 := wrap_i64 (by omega) (by omega)
    have cl : chkLen [0, 0, 0] 3 = some () := rfl
    have st : ∀ v, setA 3 (pre ++ x :: r) (i : Int) v = some (pre ++ v :: r) := fun v => by
      unfold setA
      rw [if_pos ⟨by omega, by omega, by simp; omega⟩, Int.toNat_natCast, List.set_append, if_neg (by omega), hp, Nat.sub_self]; rfl
    by_cases c : (x != 4294967295) = true
    · have step : L_extra_Resolve_1 n0 n1 n2 (d, b) (pre ++ x :: r, a, (if ov then 7 else 0), (i : Int)) = some (.inl ((pre ++ [x]) ++ r, a, (if ov then 7 else 0), ((i + 1 : Nat) : Int))) := by
        unfold L_extra_Resolve_1
        rw [if_pos (by simp only; omega)]
        simp only [ck, ix, Option.bind_some, c, if_true, w1, List.append_assoc, List.singleton_append]
      rw [iter_inl step, ih (pre ++ [x]) (i + 1) n a ov h3 (by simp; omega) (by omega) h0 (by omega) (by simp at hn; omega), rz, if_pos c]
      cases rz d r a ov <;> simp
    · by_cases c2 : ((cutOf d a 8).2 != 0) = true
      · have step : L_extra_Resolve_1 n0 n1 n2 (d, b) (pre ++ x :: r, a, (if ov then 7 else 0), (i : Int)) = some (.inr (.inr ())) := by
          unfold L_extra_Resolve_1
          rw [if_pos (by simp only; omega)]
          simp only [ck, ix, Option.bind_some, c, if_false, U64_eq d a (by omega), c2, if_true, cl, Bool.false_eq_true]
        rw [iter_inr step, rz, if_neg c, if_pos c2]
      · have step : L_extra_Resolve_1 n0 n1 n2 (d, b) (pre ++ x :: r, a, (if ov then 7 else 0), (i : Int)) = some (.inl ((pre ++ [IntKind.i64.wrap (numOf d a 8)]) ++ r, a + 8, (if (ov || decide (numOf d a 8 > 1099511627776)) then 7 else 0), ((i + 1 : Nat) : Int))) := by
          unfold L_extra_Resolve_1
          rw [if_pos (by simp only; omega)]
          simp only [ck, ix, Option.bind_some, c, if_false, U64_eq d a (by omega), c2, st, w8, w1, List.append_assoc, List.singleton_append, Bool.false_eq_true]
          by_cases c3 : numOf d a 8 > 1099511627776 <;> cases ov <;> simp [c3]
        rw [iter_inl step, ih (pre ++ [IntKind.i64.wrap (numOf d a 8)]) (i + 1) n (a + 8) _ h3 (by simp; omega) (by omega) (by omega) (by omega) (by simp at hn; omega), rz, if_neg c, if_neg c2]
        cases rz d r (a + 8) (ov || decide (numOf d a 8 > 1099511627776)) <;> simp
theorem L_rRes : ∀ (r pre : List Int) (i n : Nat) (a : Int) (ov : Bool), pre.length = i → i + r.length = 3 → 0 ≤ a → a ≤ 8 * i → r.length < n →
    iter (L_ref17_Resolve_1 (d, b)) n (pre ++ r, a, ov, (i : Int)) = some (match rz d r a ov with | some p => .inl (pre ++ p.1, p.2) | none => .inr ()) := by
  intro r
  induction r with
  | nil =>
    intro pre i n a ov hp hi h0 ha hn
    obtain ⟨n, rfl⟩ : ∃ j, n = j + 1 := ⟨n - 1, by simp at hn; omega⟩
    simp at hi
    refine iter_inr ?_
    unfold L_ref17_Resolve_1
    rw [if_neg (by simp only; omega)]
    simp [rz]
  | cons x r ih =>
    intro pre i n a ov hp hi h0 ha hn
    obtain ⟨n, rfl⟩ : ∃ j, n = j + 1 := ⟨n - 1, by simp at hn; omega⟩
    simp at hi
    have ck : chkIdx 3 (i : Int) = some () := by unfold chkIdx; rw [if_pos (by omega)]
    have ix : idxA 3 (pre ++ x :: r) (i : Int) = some x := by
      unfold idxA; rw [if_pos (by omega), Int.toNat_natCast, List.getElem?_append_right (by omega), hp, Nat.sub_self]; rfl
    have w1 : IntKind.i64.wrap ((i : Int) + 1) = ((i + 1 : Nat) : Int) := by rw [wrap_i64 (by omega) (by omega)]; omega
    have w8 : IntKind.i64.wrap (a + 8) = a + 8 := wrap_i64 (by omega) (by omega)
    have cl : chkLen [0, 0, 0] 3 = some () := rfl
    have st : ∀ v, setA 3 (pre ++ x :: r) (i : Int) v = some (pre ++ v :: r) := fun v => by
      unfold setA
      rw [if_pos ⟨by omega, by omega, by simp; omega⟩, Int.toNat_natCast, List.set_append, if_neg (by omega), hp, Nat.sub_self]; rfl
    by_cases c : (x != 4294967295) = true
    · have step : L_ref17_Resolve_1 (d, b) (pre ++ x :: r, a, ov, (i : Int)) = some (.inl ((pre ++ [x]) ++ r, a, ov, ((i + 1 : Nat) : Int))) := by
        unfold L_ref17_Resolve_1
        rw [if_pos (by simp only; omega)]
        simp only [ck, ix, Option.bind_some, c, if_true, w1, List.append_assoc, List.singleton_append]
      rw [iter_inl step, ih (pre ++ [x]) (i + 1) n a ov (by simp; omega) (by omega) h0 (by omega) (by simp at hn; omega), rz, if_pos c]
      cases rz d r a ov <;> simp
    · by_cases c2 : ((cutOf d a 8).2 != 0) = true
      · have step : L_ref17_Resolve_1 (d, b) (pre ++ x :: r, a, ov, (i : Int)) = some (.inr (.inr ())) := by
          unfold L_ref17_Resolve_1
          rw [if_pos (by simp only; omega)]
          simp only [ck, ix, Option.bind_some, c, if_false, Num_eq d a 8 (by omega) (by omega), c2, if_true, cl, Bool.false_eq_true]
        rw [iter_inr step, rz, if_neg c, if_pos c2]
      · have step : L_ref17_Resolve_1 (d, b) (pre ++ x :: r, a, ov, (i : Int)) = some (.inl ((pre ++ [IntKind.i64.wrap (numOf d a 8)]) ++ r, a + 8, (ov || decide (numOf d a 8 > 1099511627776)), ((i + 1 : Nat) : Int))) := by
          unfold L_ref17_Resolve_1
          rw [if_pos (by simp only; omega)]
          simp only [ck, ix, Option.bind_some, c, if_false, Num_eq d a 8 (by omega) (by omega), c2, st, w8, w1, List.append_assoc, List.singleton_append, Bool.false_eq_true]
          cases ov <;> simp [st, w8]
        rw [iter_inl step, ih (pre ++ [IntKind.i64.wrap (numOf d a 8)]) (i + 1) n (a + 8) _ (by simp; omega) (by omega) (by omega) (by omega) (by simp at hn; omega), rz, if_neg c, if_neg c2]
        cases rz d r (a + 8) (ov || decide (numOf d a 8 > 1099511627776)) <;> simp
end
theorem rz_len (d : List UInt8) : ∀ (r : List Int) (a : Int) (ov : Bool) (p : List Int × Bool), rz d r a ov = some p → p.1.length = r.length
  | [], a, ov, p, h => by rw [rz] at h; cases h; rfl
  | x :: r, a, ov, p, h => by
    rw [rz] at h
    split at h
    · cases hr : rz d r a ov with
      | none => rw [hr] at h; cases h
      | some q => rw [hr] at h; cases h; simp [rz_len d r _ _ q hr]
    · split at h
      · cases h
      · cases hr : rz d r (a + 8) (ov || decide (numOf d a 8 > 1099511627776)) with
        | none => rw [hr] at h; cases h
        | some q => rw [hr] at h; cases h; simp [rz_len d r _ _ q hr]
theorem Resolve_eq (l : List Gapi_Extra) (hl : l.length ≤ 100) (hd : ∀ x ∈ l, x.xData.length ≤ 1000) (n0 n1 n2 : Int) : ∃ r, F_extra_Resolve l [n0, n1, n2] = some r ∧ F_ref17_Resolve l [n0, n1, n2] = some r ∧ r.1.length = 3 := by
  obtain ⟨d, b, hf, hdl⟩ := Find_some l 1 hl hd
  have e1 := L_eRes d b hdl n0 n1 n2 [n0, n1, n2] [] 0 NF 0 false (by simp) rfl (by omega) (by omega) (by omega) (by rw [NF_eq]; simp)
  have e2 := L_rRes d b hdl [n0, n1, n2] [] 0 NF 0 false rfl rfl (by omega) (by omega) (by rw [NF_eq]; simp)
  simp only [List.nil_append, Bool.false_eq_true, if_false] at e1 e2
  rw [show ((0 : Nat) : Int) = 0 from rfl] at e1 e2
  have cl : ∀ a b c : Int, chkLen [a, b, c] 3 = some () := fun _ _ _ => rfl
  unfold F_extra_Resolve F_ref17_Resolve
  rw [← Find_same, hf]
  simp only [Option.bind_some, cl, e1, e2]
  cases hr : rz d [n0, n1, n2] 0 false with
  | none => exact ⟨([0, 0, 0], 2), by simp [sumK], by simp [sumK], rfl⟩
  | some p =>
    have hp := rz_len d _ _ _ p hr
    have cp : chkLen p.1 3 = some () := by unfold chkLen; rw [if_pos (by simpa using hp)]
    obtain ⟨q, ov⟩ := p
    cases ov
    · exact ⟨(q, 0), by simp [sumK, cp] , by simp [sumK, cp], hp⟩
    · exact ⟨([0, 0, 0], 7), by simp [sumK], by simp [sumK], rfl⟩

theorem L_eWide (l : List Int) (hl : l.length ≤ 100) : ∀ (r : List Int) (i n : Nat) (acc : List UInt8), l.drop i = r → i ≤ l.length → acc.length ≤ 8 * i → r.length < n → iter (L_extra_Wide_1 l) n (acc, (i : Int)) = some (acc ++ r.flatMap fun x => put x 8) := by
  intro r
  induction r with
  | nil =>
    intro i n acc hr hi ha hn
    obtain ⟨n, rfl⟩ : ∃ j, n = j + 1 := ⟨n - 1, by simp at hn; omega⟩
    have := drop_end hi hr
    refine iter_inr ?_
    unfold L_extra_Wide_1
    rw [if_neg (by simp only; omega)]; simp
  | cons x r ih =>
    intro i n acc hr hi ha hn
    obtain ⟨n, rfl⟩ : ∃ j, n = j + 1 := ⟨n - 1, by simp at hn; omega⟩
    obtain ⟨h1, h2, h3⟩ := idxL_at hr
    have step : L_extra_Wide_1 l (acc, (i : Int)) = some (.inl (acc ++ put x 8, ((i + 1 : Nat) : Int))) := by
      unfold L_extra_Wide_1
      rw [if_pos (by simp only; omega)]
      simp only [h1, Option.bind_some, P64_eq, app_eq acc (put x 8) (by rw [put_len]; omega), wrap_succ h2 (by omega)]
    rw [iter_inl step, ih (i + 1) n _ h3 (by omega) (by rw [List.length_append, put_len]; omega) (by simp at hn; omega)]
    simp
theorem L_rWide (l : List Int) (hl : l.length ≤ 100) : ∀ (r : List Int) (i n : Nat) (acc : List UInt8), l.drop i = r → i ≤ l.length → acc.length ≤ 8 * i → r.length < n → iter (L_ref17_Wide_1 l) n (acc, (i : Int)) = some (acc ++ r.flatMap fun x => put x 8) := by
  intro r
  induction r with
  | nil =>
    intro i n acc hr hi ha hn
    obtain ⟨n, rfl⟩ : ∃ j, n = j + 1 := ⟨n - 1, by simp at hn; omega⟩
    have := drop_end hi hr
    refine iter_inr ?_
    unfold L_ref17_Wide_1
    rw [if_neg (by simp only; omega)]; simp
  | cons x r ih =>
    intro i n acc hr hi ha hn
    obtain ⟨n, rfl⟩ : ∃ j, n = j + 1 := ⟨n - 1, by simp at hn; omega⟩
    obtain ⟨h1, h2, h3⟩ := idxL_at hr
    have step : L_ref17_Wide_1 l (acc, (i : Int)) = some (.inl (acc ++ put x 8, ((i + 1 : Nat) : Int))) := by
      unfold L_ref17_Wide_1
      rw [if_pos (by simp only; omega)]
      simp only [h1, Option.bind_some, RPut8, cat_eq acc (put x 8) (by rw [put_len]; omega), wrap_succ h2 (by omega)]
    rw [iter_inl step, ih (i + 1) n _ h3 (by omega) (by rw [List.length_append, put_len]; omega) (by simp at hn; omega)]
    simp
theorem flat8 (l : List Int) : (l.flatMap fun x => put x 8).length = 8 * l.length := by
  induction l with
  | nil => rfl
  | cons x l ih => simp only [List.flatMap_cons, List.length_append, put_len, ih, List.length_cons]; omega
theorem Wide_eq (l : List Int) (hl : l.length ≤ 100) : F_extra_Wide l = some ⟨1, l.flatMap fun x => put x 8⟩ ∧ F_ref17_Wide l = some ⟨1, l.flatMap fun x => put x 8⟩ := by
  have e1 := L_eWide l hl l 0 NF [] (by simp) (by omega) (by simp) (by rw [NF_eq]; omega)
  have e2 := L_rWide l hl l 0 NF [] (by simp) (by omega) (by simp) (by rw [NF_eq]; omega)
  rw [show ((0 : Nat) : Int) = 0 from rfl] at e1 e2
  have hc : chkCap (l.flatMap fun x => put x 8) = some () := by unfold chkCap; rw [if_pos (by rw [flat8]; unfold capL; omega)]
  unfold F_extra_Wide F_ref17_Wide
  rw [e1, e2]
  simp [hc]

theorem true_law17_ExtraResolves (l : List Gapi_Extra) (n0 n1 n2 : Int) (v : List Int) (_ : (Lit.int .u32 n0).wf = true) (_ : (Lit.int .u32 n1).wf = true) (_ : (Lit.int .u32 n2).wf = true) : F_law17_ExtraResolves l [n0, n1, n2] v = some true := by
  unfold F_law17_ExtraResolves
  rw [awake17]
  simp only [Option.bind_some, Bool.not_true, Bool.false_eq_true, if_false]
  by_cases c : (l.length : Int) > 10
  · simp [c]
  by_cases c1 : (v.length : Int) > 5
  · simp [c, c1]
  simp only [c, c1, if_false, decide_false, Option.bind_some, Bool.false_eq_true]
  obtain ⟨q, h1, h2⟩ := L_small l (by omega) l 0 NF (by simp) (by omega) (by rw [NF_eq]; omega)
  rw [show ((0 : Nat) : Int) = 0 from rfl] at h1
  have h1' : iter (L_law17_ExtraResolves_1 l) NF 0 = some q := h1
  rw [h1']
  simp only [Option.bind_some]
  cases q with
  | inr u => rfl
  | inl u =>
    have hd : ∀ x ∈ l, x.xData.length ≤ 1000 := fun x hx => by have := h2 rfl x hx; omega
    have ck : ∀ i : Int, i = 0 ∨ i = 1 ∨ i = 2 → chkIdx 3 i = some () := fun i hi => by unfold chkIdx; rw [if_pos (by omega)]
    have i0 : idxA 3 [n0, n1, n2] 0 = some n0 := rfl
    have i1 : idxA 3 [n0, n1, n2] 1 = some n1 := rfl
    have i2 : idxA 3 [n0, n1, n2] 2 = some n2 := rfl
    have cl : ∀ a b c : Int, chkLen [a, b, c] 3 = some () := fun _ _ _ => rfl
    obtain ⟨r, e1, e2, e3⟩ := Resolve_eq l (by omega) hd (IntKind.i64.wrap n0) (IntKind.i64.wrap n1) (IntKind.i64.wrap n2)
    obtain ⟨w1, w2⟩ := Wide_eq v (by omega)
    have cr : chkLen r.1 3 = some () := by unfold chkLen; rw [if_pos e3]
    have hl3 : ∃ p, lit3 r.1 = some p := by
      obtain ⟨q, e⟩ := r
      match q, e3 with
      | [a, b, c], _ => exact ⟨_, rfl⟩
    obtain ⟨p, hp⟩ := hl3
    simp only [sumK_inl, ck 0 (.inl rfl), ck 1 (.inr (.inl rfl)), ck 2 (.inr (.inr rfl)), i0, i1, i2, cl, e1, e2, cr, hp, Option.bind_some, beq_self_eq_true, Bool.and_self, if_true, w1, w2]
end Go.Proofs.YtikkpmmhejjpaaaM
