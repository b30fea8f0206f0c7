/- Paths: their parts, in plain terms. -/
import Derived.Test.YtglcbikbmobdpaaDoorRV
import Derived.Test.YtglcbikbmobdpaaDoorVC
set_option linter.unusedSimpArgs false
set_option linter.unusedVariables false
namespace Go.Proofs.YtglcbikbmobdpaaDoorM
open Go Go.RowKit

abbrev Txt := List UInt8
/-- Between bytes /. -/
def sp : Txt → List Txt
  | [] => [[]]
  | c :: r => if c = 47 then [] :: sp r else match sp r with
    | h :: t => (c :: h) :: t
    | [] => [[c]]
def pts (s : Txt) : List Txt := if s = [] then [] else sp s
/-- The parts of a text whose first part has begun. -/
def spw (cur : Txt) (rest : Txt) : List Txt := match sp rest with
  | h :: t => (cur ++ h) :: t
  | [] => []
theorem sp_ne (s : Txt) : sp s ≠ [] := by
  cases s with
  | nil => simp [sp]
  | cons c r =>
    unfold sp; split
    · simp
    · split <;> simp
theorem sp_cons (s : Txt) : ∃ h t, sp s = h :: t := by
  cases hs : sp s with
  | nil => exact absurd hs (sp_ne s)
  | cons h t => exact ⟨h, t, rfl⟩
theorem spw_nil (r : Txt) : spw [] r = sp r := by
  obtain ⟨h, t, e⟩ := sp_cons r
  simp [spw, e]
theorem spw_end (c : Txt) : spw c [] = [c] := by simp [spw, sp]
theorem spw_slash (c r : Txt) : spw c (47 :: r) = c :: sp r := by simp [spw, sp]
theorem spw_byte (c r : Txt) (b : UInt8) (hb : b ≠ 47) : spw c (b :: r) = spw (c ++ [b]) r := by
  obtain ⟨h, t, e⟩ := sp_cons r
  simp [spw, sp, if_neg hb, e]
theorem sp_app (a b : Txt) : ∀ c, spw c (a ++ 47 :: b) = spw c a ++ sp b := by
  induction a with
  | nil => intro c; rw [List.nil_append, spw_slash, spw_end]; rfl
  | cons x a ih =>
    intro c
    by_cases hx : x = 47
    · subst hx
      rw [List.cons_append, spw_slash, spw_slash, ← spw_nil (a ++ 47 :: b), ih, spw_nil]; rfl
    · rw [List.cons_append, spw_byte _ _ _ hx, spw_byte _ _ _ hx, ih]
theorem sp_join (a b : Txt) : sp (a ++ 47 :: b) = sp a ++ sp b := by rw [← spw_nil, sp_app, spw_nil]
theorem spw_no (a : Txt) (h : 47 ∉ a) : ∀ c, spw c a = [c ++ a] := by
  induction a with
  | nil => intro c; rw [spw_end, List.append_nil]
  | cons x a ih =>
    intro c
    rw [spw_byte _ _ _ (fun e => h (by simp [e])), ih (fun e => h (by simp [e]))]
    simp
theorem sp_no {a : Txt} (h : 47 ∉ a) : sp a = [a] := by rw [← spw_nil, spw_no a h, List.nil_append]
theorem sp_len (s : Txt) : (sp s).length = s.count 47 + 1 := by
  induction s with
  | nil => rfl
  | cons c r ih =>
    unfold sp
    by_cases hc : c = 47
    · subst hc; rw [if_pos rfl, List.length_cons, ih, List.count_cons_self]
    · rw [if_neg hc, List.count_cons_of_ne hc, ← ih]
      obtain ⟨h, t, e⟩ := sp_cons r
      rw [e]; rfl
/-- Each part has no /. -/
theorem sp_mem (s : Txt) : ∀ p ∈ sp s, 47 ∉ p := by
  induction s with
  | nil => simp [sp]
  | cons c r ih =>
    unfold sp
    by_cases hc : c = 47
    · rw [if_pos hc]
      intro p hp
      rcases List.mem_cons.1 hp with rfl | hp
      · simp
      · exact ih p hp
    · rw [if_neg hc]
      obtain ⟨h, t, e⟩ := sp_cons r
      rw [e] at ih ⊢
      intro p hp
      rcases List.mem_cons.1 hp with rfl | hp
      · intro hm
        rcases List.mem_cons.1 hm with e1 | hm
        · exact hc e1.symm
        · exact ih h (List.mem_cons_self ..) hm
      · exact ih p (List.mem_cons_of_mem _ hp)

/-! ### The document's -/
theorem refParts_eq (s : Txt) (hs : s.length ≤ 100000) : F_ref13_Parts s = some (pts s, ()) := by
  unfold F_ref13_Parts pts
  by_cases h0 : s = []
  · subst h0; rfl
  have hb : (s == ([] : List UInt8)) = false := by simpa using h0
  rw [hb, if_neg h0]
  simp only [cond_false]
  rw [iter_eq (fun st : Int × Int × List Txt × Unit => ∃ f i : Nat, st.1 = f ∧ st.2.1 = i ∧ i ≤ s.length + 1 ∧ (i ≤ s.length → f ≤ i) ∧ st.2.2.1.length ≤ i)
    (fun st => s.length + 2 - st.2.1.toNat) (fun st => if st.2.1 ≤ s.length then (st.2.2.1 ++ spw ((s.take st.2.1.toNat).drop st.1.toNat) (s.drop st.2.1.toNat), ()) else (st.2.2.1, ())) ?_ NF (0, 0, [], ()) ⟨0, 0, rfl, rfl, by omega, fun _ => Nat.le_refl _, Nat.le_refl _⟩ (by rw [NF_eq]; simp; omega)]
  · simp [spw_nil]
  · rintro ⟨f', i', out, u⟩ ⟨f, i, h1, h2, h3, h4, h5⟩
    simp only at h1 h2 h3 h4 h5
    subst h1; subst h2
    have hw : IntKind.i64.wrap ((i : Int) + 1) = ((i + 1 : Nat) : Int) := by rw [w64 (by omega) (by omega)]; rfl
    by_cases hi : i ≤ s.length
    · left
      have hfi := h4 hi
      have e1 : decide ((i : Int) ≤ (s.length : Int)) = true := decide_eq_true (by omega)
      have e2 : (i : Int) ≤ (s.length : Int) := by omega
      simp only [e1, cond_true, e2, if_true, Int.toNat_natCast]
      by_cases he : i = s.length
      · have e3 : ((i : Int) == (s.length : Int)) = true := by simp [he]
        simp only [e3, cond_true, Option.bind_some, subS_nat hfi hi, app_of out _ (show out.length + [(s.take i).drop f].length ≤ 100000000 by simp; omega), hw]
        refine ⟨_, rfl, ⟨i + 1, i + 1, rfl, rfl, by omega, fun h => by omega, by simp; omega⟩, by simp; omega, ?_⟩
        simp only [if_neg (show ¬ (((i + 1 : Nat) : Int) ≤ (s.length : Int)) by omega)]
        rw [he, List.drop_length, spw_end]
      · have hlt : i < s.length := by omega
        have e3 : ((i : Int) == (s.length : Int)) = false := by simp; omega
        have hd : s.drop i = s[i] :: s.drop (i + 1) := List.drop_eq_getElem_cons hlt
        have e4 : ((s[i].toNat : Int) == 47) = (s[i] == 47) := byte_eq (n := 47) (by omega)
        simp only [e3, cond_false, Option.bind_some, idxS_nat hlt, e4]
        by_cases hc : s[i] = 47
        · have e5 : (s[i] == 47) = true := by simp [hc]
          simp only [e5, cond_true, subS_nat hfi hi, Option.bind_some, app_of out _ (show out.length + [(s.take i).drop f].length ≤ 100000000 by simp; omega), hw]
          refine ⟨_, rfl, ⟨i + 1, i + 1, rfl, rfl, by omega, fun _ => Nat.le_refl _, by simp; omega⟩, by simp; omega, ?_⟩
          simp only [if_pos (show ((i + 1 : Nat) : Int) ≤ (s.length : Int) by omega), Int.toNat_natCast]
          rw [hd, hc, spw_slash, show (s.take (i + 1)).drop (i + 1) = [] from List.drop_of_length_le (by simp; omega), spw_nil, List.append_assoc]; rfl
        · have e5 : (s[i] == 47) = false := by simp [hc]
          simp only [e5, cond_false, Option.bind_some, hw]
          refine ⟨_, rfl, ⟨f, i + 1, rfl, rfl, by omega, fun _ => by omega, by simp; omega⟩, by simp; omega, ?_⟩
          simp only [if_pos (show ((i + 1 : Nat) : Int) ≤ (s.length : Int) by omega), Int.toNat_natCast]
          rw [hd, spw_byte _ _ _ hc]
          congr 3
          rw [List.take_add_one, List.drop_append_of_le_length (by simp; omega), List.getElem?_eq_getElem hlt]; rfl
    · right
      have e1 : decide ((i : Int) ≤ (s.length : Int)) = false := decide_eq_false (by omega)
      simp only [e1, cond_false]
      rw [if_neg (by omega)]

/-! ### The program's -/
theorem count_eq (s : Txt) : F_strings_Count s [47] = some ((s.count 47 : Int), ()) := by
  unfold F_strings_Count
  have e0 : ((([47] : List UInt8).length : Int) == 0) = false := rfl
  have e1 : ((([47] : List UInt8).length : Int) == 1) = true := rfl
  have e2 : idxS [47] 0 = some 47 := rfl
  simp only [e0, e1, e2, cond_false, cond_true, Option.bind_some]
  rfl
theorem index_eq (s : Txt) : F_strings_Index s [47] = some (Lib.indexByte s 47, ()) := by
  unfold F_strings_Index F_internal_stringslite_Index
  have e0 : ((([47] : List UInt8).length : Int) == 0) = false := rfl
  have e1 : ((([47] : List UInt8).length : Int) == 1) = true := rfl
  have e2 : idxS [47] 0 = some 47 := rfl
  by_cases h : s = [47]
  · subst h; rfl
  · have e3 : (([47] : List UInt8) == s) = false := by simpa using fun e => h e.symm
    simp only [e0, e1, e2, e3, cond_false, cond_true, Option.bind_some]
    rfl
theorem index_spec (s : Txt) : (Lib.indexByte s 47 = -1 ∧ 47 ∉ s) ∨ ∃ m : Nat, Lib.indexByte s 47 = m ∧ m < s.length ∧ s = s.take m ++ 47 :: s.drop (m + 1) ∧ 47 ∉ s.take m := by
  induction s with
  | nil => exact .inl ⟨rfl, by simp⟩
  | cons b l ih =>
    unfold Lib.indexByte
    by_cases hb : b = 47
    · subst hb
      exact .inr ⟨0, by simp, by simp, by simp, by simp⟩
    · have e : (b == 47) = false := by simpa using hb
      rw [e]
      rcases ih with ⟨h1, h2⟩ | ⟨m, h1, h2, h3, h4⟩
      · left
        rw [h1]
        refine ⟨rfl, ?_⟩
        simp only [List.mem_cons, not_or]
        exact ⟨fun e => hb e.symm, h2⟩
      · right
        refine ⟨m + 1, ?_, by simp; omega, ?_, ?_⟩
        · rw [h1]
          have : ((m : Int) == -1) = false := by simp
          simp [this]
        · simp only [List.take_succ_cons, List.drop_succ_cons, List.cons_append]; rw [← h3]
        · simp only [List.take_succ_cons, List.mem_cons, not_or]
          exact ⟨fun e => hb e.symm, h4⟩
theorem split_eq (s : Txt) (hs : s.length ≤ 100000) : F_strings_Split s [47] = some (sp s, ()) := by
  unfold F_strings_Split F_strings_genSplit
  have e0 : ((-1 : Int) == 0) = false := rfl
  have e1 : (([47] : List UInt8) == ([] : List UInt8)) = false := rfl
  have e2 : decide ((-1 : Int) < 0) = true := rfl
  have hc : s.count 47 ≤ s.length := List.count_le_length
  have w1 : IntKind.i64.wrap ((s.count 47 : Int) + 1) = ((s.count 47 + 1 : Nat) : Int) := by rw [w64 (by omega) (by omega)]; rfl
  have w2 : IntKind.i64.wrap ((s.length : Int) + 1) = ((s.length + 1 : Nat) : Int) := by rw [w64 (by omega) (by omega)]; rfl
  have hmin : minI ((s.count 47 + 1 : Nat) : Int) ((s.length + 1 : Nat) : Int) = ((s.count 47 + 1 : Nat) : Int) := by unfold minI; split <;> omega
  have w3 : IntKind.i64.wrap (((s.count 47 + 1 : Nat) : Int) - 1) = (s.count 47 : Int) := by rw [w64 (by omega) (by omega)]; omega
  have hchk : chkSub (oMin ((s.count 47 + 1 : Nat) : Int) 100000000) ((s.count 47 + 1 : Nat) : Int) ((s.count 47 + 1 : Nat) : Int) = some () := by
    unfold chkSub oMin; rw [if_pos (by omega)]
  have hrep : oRep ((s.count 47 + 1 : Nat) : Int) ([] : Txt) = List.replicate (s.count 47 + 1) ([] : Txt) := rfl
  simp only [e0, e1, e2, cond_false, cond_true, count_eq, Option.bind_some, w1, w2, hmin, hchk, w3, hrep]
  have key := iter_inv (step := fun v4 : Txt × Int × List Txt × Unit => bif decide (v4.2.1 < (s.count 47 : Int)) then ((F_strings_Index v4.1 [47]).bind fun v5 => bif decide (v5.1 < 0) then (some (.inr v4)) else ((subS v4.1 (0 : Int) (IntKind.i64.wrap (v5.1 + 0))).bind fun v6 => (idxL v4.2.2.1 v4.2.1).bind fun v7 => (idxL v4.2.2.1 v4.2.1).bind fun v8 => (subS v4.1 (IntKind.i64.wrap (v5.1 + (([47] : List UInt8).length : Int))) (v4.1.length : Int)).bind fun v9 => some (.inl (v9, (IntKind.i64.wrap (v4.2.1 + 1), (oSet v4.2.2.1 v4.2.1 v6, ())))))) else (some (.inr v4)))
    (fun st : Txt × Int × List Txt × Unit => st.1.length ≤ s.length ∧ ∃ i : Nat, st.2.1 = i ∧ i + st.1.count 47 = s.count 47 ∧ st.2.2.1.length = s.count 47 + 1 ∧ st.2.2.1.take i ++ sp st.1 = sp s)
    (fun st => s.count 47 - st.2.1.toNat) (fun r : Txt × Int × List Txt × Unit => ∃ i : Nat, r.2.1 = i ∧ i ≤ s.count 47 ∧ r.2.2.1.length = s.count 47 + 1 ∧ r.2.2.1.take i ++ [r.1] = sp s) (by
    rintro ⟨t, i', a, u⟩ ⟨p0, i, p1, p2, p3, p4⟩
    simp only at p0 p1 p2 p3 p4
    subst p1
    by_cases hlt : i < s.count 47
    · have c1 : decide ((i : Int) < (s.count 47 : Int)) = true := decide_eq_true (by omega)
      rcases index_spec t with ⟨x1, x2⟩ | ⟨m, x1, x2, x3, x4⟩
      · rw [List.count_eq_zero.2 x2] at p2
        omega
      · left
        have c2 : decide ((m : Int) < 0) = false := decide_eq_false (by omega)
        have w5 : IntKind.i64.wrap ((m : Int) + 0) = (m : Int) := by rw [w64 (by omega) (by omega)]; omega
        have w6 : IntKind.i64.wrap ((m : Int) + (([47] : List UInt8).length : Int)) = ((m + 1 : Nat) : Int) := by rw [w64 (by simp; omega) (by simp; omega)]; rfl
        have w7 : IntKind.i64.wrap ((i : Int) + 1) = ((i + 1 : Nat) : Int) := by rw [w64 (by omega) (by omega)]; rfl
        have hs1 : subS t 0 (m : Int) = some (t.take m) := by rw [show (0 : Int) = ((0 : Nat) : Int) from rfl, subS_nat (Nat.zero_le _) (by omega)]; rfl
        have hs2 : subS t ((m + 1 : Nat) : Int) (t.length : Int) = some (t.drop (m + 1)) := by rw [subS_nat (by omega) (Nat.le_refl _), List.take_length]
        have hset : oSet a (i : Int) (t.take m) = a.set i (t.take m) := rfl
        have hia : i < a.length := by omega
        simp only [c1, cond_true, index_eq, x1, Option.bind_some, c2, cond_false, w5, w6, w7, hs1, hs2, idxL_nat hia, hset]
        have hcnt : t.count 47 = (t.drop (m + 1)).count 47 + 1 := by
          have := congrArg (List.count 47) x3
          rw [List.count_append, List.count_cons_self, List.count_eq_zero.2 x4] at this
          omega
        refine ⟨_, rfl, ⟨by simp; omega, i + 1, rfl, by show i + 1 + (t.drop (m + 1)).count 47 = _; omega, by simp; omega, ?_⟩, by simp; omega⟩
        show (a.set i (t.take m)).take (i + 1) ++ sp (t.drop (m + 1)) = sp s
        rw [← p4, List.take_add_one, List.getElem?_set_self hia, List.take_set_of_le (Nat.le_refl _)]
        have : sp t = t.take m :: sp (t.drop (m + 1)) := by
          have := congrArg sp x3
          rw [sp_join, sp_no x4] at this
          exact this
        rw [this]
        simp
    · right
      have c1 : decide ((i : Int) < (s.count 47 : Int)) = false := decide_eq_false (by omega)
      refine ⟨_, by simp only [c1, cond_false]; rfl, i, rfl, by omega, p3, ?_⟩
      have : t.count 47 = 0 := by omega
      rw [← p4, sp_no (List.count_eq_zero.1 this)]) NF (s, (0 : Int), List.replicate (s.count 47 + 1) ([] : Txt), ()) ⟨Nat.le_refl _, 0, rfl, by simp, by simp, by simp⟩ (by rw [NF_eq]; simp; omega)
  obtain ⟨r, h1, h2⟩ := key
  rw [h1]
  obtain ⟨i, q1, q2, q3, q4⟩ := h2
  obtain ⟨t, i', a, u⟩ := r
  simp only at q1 q2 q3 q4
  subst q1
  have hi : i < a.length := by omega
  have w4 : IntKind.i64.wrap ((i : Int) + 1) = ((i + 1 : Nat) : Int) := by rw [w64 (by omega) (by omega)]; rfl
  have hset : oSet a (i : Int) t = a.set i t := rfl
  have hck : chkSub ((a.set i t).length : Int) 0 ((i + 1 : Nat) : Int) = some () := chkSub_nat (a := 0) (by omega) (by simp; omega)
  simp only [Option.bind_some, idxL_nat hi, w4, hset, hck]
  congr 2
  show ((a.set i t).take (i + 1)).drop 0 = _
  rw [← q4, List.drop_zero, List.take_add_one, List.getElem?_set_self hi, List.take_set_of_le (Nat.le_refl _)]; rfl
theorem parts_eq (s : Txt) (hs : s.length ≤ 100000) : F_route_Parts s = some (pts s, ()) := by
  unfold F_route_Parts pts
  by_cases h0 : s = []
  · subst h0; rfl
  have hb : (s == ([] : List UInt8)) = false := by simpa using h0
  rw [hb, if_neg h0]
  simp only [cond_false, split_eq s hs, Option.bind_some]
theorem pts_len (s : Txt) : (pts s).length ≤ s.length + 1 := by
  unfold pts
  split
  · simp
  · rw [sp_len]; have : s.count 47 ≤ s.length := List.count_le_length; omega
end Go.Proofs.YtglcbikbmobdpaaDoorM
