/- Layer 13 in plain terms: parts of a path. -/
import Derived.Test.YtobhmahlenjheaaDGF
import Derived.Test.YtobhmahlenjheaaFieldNum
import Derived.Test.YtobhmahlenjheaaPB
set_option linter.unusedSimpArgs false
set_option linter.unusedVariables false
namespace Go.Proofs.YtobhmahlenjheaaM
open Go Go.RowKit

/-- A text, parted at its slashes. -/
def splitB : List UInt8 → List (List UInt8)
  | [] => [[]]
  | c :: s => if c = 47 then [] :: splitB s else match splitB s with
    | [] => [[c]]
    | h :: t => (c :: h) :: t
def joinB : List (List UInt8) → List UInt8
  | [] => []
  | [x] => x
  | x :: y :: r => x ++ 47 :: joinB (y :: r)
theorem splitB_ne (s : List UInt8) : ∃ h t, splitB s = h :: t := by
  cases s with
  | nil => exact ⟨_, _, rfl⟩
  | cons c s =>
    rw [splitB]
    split
    · exact ⟨_, _, rfl⟩
    · split <;> exact ⟨_, _, rfl⟩
theorem splitB_cons (c : UInt8) (s : List UInt8) (hc : c ≠ 47) : ∃ h t, splitB s = h :: t ∧ splitB (c :: s) = (c :: h) :: t := by
  obtain ⟨h, t, e⟩ := splitB_ne s
  exact ⟨h, t, e, by rw [splitB, if_neg hc, e]⟩
theorem splitB_slash (s : List UInt8) : splitB (47 :: s) = [] :: splitB s := by rw [splitB, if_pos rfl]
theorem splitB_app (y : List UInt8) : ∀ x : List UInt8, splitB (x ++ 47 :: y) = splitB x ++ splitB y := by
  intro x
  induction x with
  | nil => rw [List.nil_append, splitB_slash]; rfl
  | cons c x ih =>
    by_cases hc : c = 47
    · subst hc
      rw [List.cons_append, splitB_slash, splitB_slash, ih]; rfl
    · obtain ⟨h, t, e1, e2⟩ := splitB_cons c x hc
      obtain ⟨h', t', e3, e4⟩ := splitB_cons c (x ++ 47 :: y) hc
      rw [List.cons_append, e4, e2]
      rw [ih, e1] at e3
      cases e3
      rfl
theorem splitB_one : ∀ x : List UInt8, 47 ∉ x → splitB x = [x] := by
  intro x
  induction x with
  | nil => intro _; rfl
  | cons c x ih =>
    intro h
    simp only [List.mem_cons, not_or] at h
    rw [splitB, if_neg (fun hh => h.1 hh.symm), ih h.2]
theorem joinB_cons (x : List UInt8) (r : List (List UInt8)) (hr : r ≠ []) : joinB (x :: r) = x ++ 47 :: joinB r := by
  cases r with
  | nil => exact absurd rfl hr
  | cons y r => rfl
theorem joinB_split (s : List UInt8) : joinB (splitB s) = s := by
  induction s with
  | nil => rfl
  | cons c s ih =>
    obtain ⟨h, t, e⟩ := splitB_ne s
    by_cases hc : c = 47
    · subst hc
      rw [splitB_slash, joinB_cons _ _ (by rw [e]; simp), ih]; rfl
    · rw [splitB, if_neg hc, e]
      rw [e] at ih
      cases t with
      | nil => simp only [joinB] at ih ⊢; rw [ih]
      | cons y r => rw [joinB_cons _ _ (by simp)] at ih ⊢; rw [List.cons_append, ih]
theorem joinB_app : ∀ (a b : List (List UInt8)), a ≠ [] → b ≠ [] → joinB (a ++ b) = joinB a ++ 47 :: joinB b := by
  intro a
  induction a with
  | nil => intro b h; exact absurd rfl h
  | cons x a ih =>
    intro b _ hb
    by_cases ha : a = []
    · subst ha
      rw [List.singleton_append, joinB_cons _ _ hb]; rfl
    · rw [List.cons_append, joinB_cons _ _ (by simp [ha]), ih b ha hb, joinB_cons x a ha, List.append_assoc]; rfl
theorem splitB_length : ∀ s : List UInt8, (splitB s).length ≤ s.length + 1 := by
  intro s
  induction s with
  | nil => exact Nat.le_refl _
  | cons c s ih =>
    by_cases hc : c = 47
    · subst hc; rw [splitB_slash, List.length_cons, List.length_cons]; omega
    · obtain ⟨h, t, e1, e2⟩ := splitB_cons c s hc
      rw [e2]; rw [e1] at ih; simp only [List.length_cons] at ih ⊢; omega
/-- A path's parts. -/
def parts (p : List UInt8) : List (List UInt8) := if p = [] then [] else splitB p

theorem idx_b2 (s : List UInt8) (j : Nat) (hj : j < s.length) : idxS s (j : Int) = some ((s.getD j 0).toNat : Int) := by
  unfold idxS; rw [if_pos (by omega)]; rfl
theorem Parts_loop (p : List UInt8) (hp : p.length ≤ 100000) : ∀ (d f i n : Nat) (out : List (List UInt8)), i + d = p.length → f ≤ i → d + 1 < n → 47 ∉ (p.drop f).take (i - f) → out.length ≤ f →
    iter (L_ref13_Parts_1 p) n (out, (f : Int), (i : Int)) = some (out ++ splitB (p.drop f)) := by
  intro d
  induction d with
  | zero =>
    intro f i n out hi hf hn hs ho
    obtain ⟨n, rfl⟩ : ∃ j, n = j + 1 + 1 := ⟨n - 2, by omega⟩
    obtain rfl : i = p.length := by omega
    have hsub : subS p (f : Int) (p.length : Int) = some (p.drop f) := by
      unfold subS; rw [if_pos (by omega), Int.toNat_natCast, Int.toNat_natCast, List.take_length]
    have step : L_ref13_Parts_1 p (out, (f : Int), (p.length : Int)) = some (.inl (out ++ [p.drop f], ((p.length + 1 : Nat) : Int), ((p.length + 1 : Nat) : Int))) := by
      unfold L_ref13_Parts_1
      simp only
      rw [if_pos (by omega), if_pos (by simp), Option.bind_some, if_pos rfl, hsub, Option.bind_some]
      unfold app
      rw [if_pos (by simp [capL]; omega), Option.bind_some, wrap_i64 (by omega) (by omega)]
      rfl
    rw [iter_inl step]
    rw [List.take_of_length_le (by simp)] at hs
    rw [splitB_one _ hs]
    refine iter_inr ?_
    unfold L_ref13_Parts_1
    rw [if_neg (by simp only; omega)]
  | succ d ih =>
    intro f i n out hi hf hn hs ho
    obtain ⟨n, rfl⟩ : ∃ j, n = j + 1 := ⟨n - 1, by omega⟩
    have hlt : i < p.length := by omega
    have hc := (p.getD i 0).toNat_lt
    have hdi : p.drop f = (p.drop f).take (i - f) ++ p.getD i 0 :: p.drop (i + 1) := by
      have h1 := (List.take_append_drop (i - f) (p.drop f)).symm
      rw [List.drop_drop, show f + (i - f) = i by omega, List.drop_eq_getElem_cons hlt] at h1
      rw [List.getD_eq_getElem?_getD, List.getElem?_eq_getElem hlt]
      exact h1
    by_cases h47 : p.getD i 0 = 47
    · have hsub : subS p (f : Int) (i : Int) = some ((p.drop f).take (i - f)) := by
        unfold subS; rw [if_pos (by omega), Int.toNat_natCast, Int.toNat_natCast, List.drop_take]
      have step : L_ref13_Parts_1 p (out, (f : Int), (i : Int)) = some (.inl (out ++ [(p.drop f).take (i - f)], ((i + 1 : Nat) : Int), ((i + 1 : Nat) : Int))) := by
        unfold L_ref13_Parts_1
        simp only
        rw [if_pos (by omega), if_neg (by simp; omega), idx_b2 p i hlt, Option.bind_some, Option.bind_some, h47, if_pos (by decide), hsub, Option.bind_some]
        unfold app
        rw [if_pos (by simp [capL]; omega), Option.bind_some, wrap_i64 (by omega) (by omega)]
        rfl
      rw [iter_inl step, ih (i + 1) (i + 1) n _ (by omega) (by omega) (by omega) (by simp) (by simp; omega)]
      rw [h47] at hdi
      conv => rhs; rw [hdi, splitB_app, splitB_one _ hs]
      rw [List.append_assoc]
    · have step : L_ref13_Parts_1 p (out, (f : Int), (i : Int)) = some (.inl (out, (f : Int), ((i + 1 : Nat) : Int))) := by
        unfold L_ref13_Parts_1
        simp only
        rw [if_pos (by omega), if_neg (by simp; omega), idx_b2 p i hlt, Option.bind_some, Option.bind_some, if_neg, wrap_i64 (by omega) (by omega)]
        · rfl
        · simp only [beq_iff_eq]
          intro hh
          refine h47 (UInt8.toNat_inj.1 ?_)
          show (p.getD i 0).toNat = 47
          omega
      rw [iter_inl step, ih f (i + 1) n out (by omega) (by omega) (by omega) ?_ ho]
      have e : (p.drop f).take (i + 1 - f) = (p.drop f).take (i - f) ++ [p.getD i 0] := by
        rw [show i + 1 - f = (i - f) + 1 by omega, List.take_add_one]
        congr 1
        rw [List.getElem?_drop, show f + (i - f) = i by omega, List.getElem?_eq_getElem hlt, List.getD_eq_getElem?_getD, List.getElem?_eq_getElem hlt]
        rfl
      rw [e]
      simp only [List.mem_append, List.mem_singleton, not_or]
      exact ⟨hs, fun hh => h47 hh.symm⟩
theorem RParts_eq (p : List UInt8) (hp : p.length ≤ 100000) : F_ref13_Parts p = some (parts p) := by
  unfold F_ref13_Parts parts
  by_cases h : p = []
  · subst h; rfl
  · rw [if_neg (by simpa using h), if_neg h]
    have := Parts_loop p hp p.length 0 0 NF [] (by omega) (by omega) (by rw [NF_eq]; omega) (by simp) (by simp)
    rw [show ((0 : Nat) : Int) = 0 from rfl] at this
    rw [this]
    simp

/-- Is a path under a directory? -/
def under (p d : List UInt8) : Bool := if d = [] then !(p == []) else (d ++ [47]).isPrefixOf p
theorem parts_under (p d : List UInt8) : (parts d).length < (parts p).length ∧ (parts p).take (parts d).length = parts d ↔ under p d = true := by
  unfold parts under
  by_cases hd : d = []
  · subst hd
    simp only [if_true, List.length_nil, List.take_zero, and_true]
    by_cases hp : p = []
    · subst hp; simp
    · obtain ⟨h, t, e⟩ := splitB_ne p
      simp [hp, e]
  · rw [if_neg hd, if_neg hd]
    by_cases hp : p = []
    · subst hp
      simp
    · rw [if_neg hp, List.isPrefixOf_iff_prefix]
      constructor
      · rintro ⟨h1, h2⟩
        have e : splitB p = splitB d ++ (splitB p).drop (splitB d).length := by
          conv => lhs; rw [← List.take_append_drop (splitB d).length (splitB p), h2]
        have hne : (splitB p).drop (splitB d).length ≠ [] := fun hh => by have := congrArg List.length hh; simp at this; omega
        obtain ⟨a, b, e2⟩ := splitB_ne d
        have := joinB_app (splitB d) _ (by rw [e2]; simp) hne
        rw [← e, joinB_split, joinB_split] at this
        rw [this]
        exact ⟨joinB ((splitB p).drop (splitB d).length), by simp⟩
      · rintro ⟨r, rfl⟩
        obtain ⟨a, b, e2⟩ := splitB_ne r
        rw [List.append_assoc, List.singleton_append, splitB_app, e2]
        simp
theorem RUnder_loop (a b : List (List UInt8)) (hab : b.length ≤ a.length) (ha : a.length ≤ 200000) : ∀ (d i n : Nat), i + d = b.length → d < n →
    ∃ q, iter (L_ref13_Under_1 b a) n (i : Int) = some q ∧ sumK q (fun t77 => some true) (fun t80 => some false) = some (decide ((a.drop i).take (b.length - i) = b.drop i)) := by
  intro d
  induction d with
  | zero =>
    intro i n hi hn
    obtain ⟨n, rfl⟩ : ∃ j, n = j + 1 := ⟨n - 1, by omega⟩
    refine ⟨.inl (), iter_inr ?_, ?_⟩
    · unfold L_ref13_Under_1
      rw [if_neg (by omega)]
    · rw [show b.length - i = 0 by omega, List.drop_of_length_le (l := b) (by omega), List.take_zero]
      simp [sumK]
  | succ d ih =>
    intro i n hi hn
    obtain ⟨n, rfl⟩ : ∃ j, n = j + 1 := ⟨n - 1, by omega⟩
    have hb : i < b.length := by omega
    have ha' : i < a.length := by omega
    have g1 : idxL a (i : Int) = some a[i] := by unfold idxL; rw [if_pos (by omega), Int.toNat_natCast, List.getElem?_eq_getElem ha']
    have g2 : idxL b (i : Int) = some b[i] := by unfold idxL; rw [if_pos (by omega), Int.toNat_natCast, List.getElem?_eq_getElem hb]
    have e1 : (a.drop i).take (b.length - i) = a[i] :: (a.drop (i + 1)).take (b.length - (i + 1)) := by
      rw [List.drop_eq_getElem_cons ha', show b.length - i = (b.length - (i + 1)) + 1 by omega, List.take_succ_cons]
    rw [e1]
    have e2 : b.drop i = b[i] :: b.drop (i + 1) := List.drop_eq_getElem_cons hb
    by_cases h : a[i] = b[i]
    · have step : L_ref13_Under_1 b a (i : Int) = some (.inl ((i + 1 : Nat) : Int)) := by
        unfold L_ref13_Under_1
        rw [if_pos (by omega), g1, Option.bind_some, g2, Option.bind_some, if_neg (by simp [h]), wrap_i64 (by omega) (by omega)]
        rfl
      rw [iter_inl step]
      obtain ⟨q, q1, q2⟩ := ih (i + 1) n (by omega) (by omega)
      refine ⟨q, q1, ?_⟩
      rw [q2, e2]
      simp only [h, List.cons.injEq, true_and]
    · refine ⟨.inr (), iter_inr ?_, ?_⟩
      · unfold L_ref13_Under_1
        rw [if_pos (by omega), g1, Option.bind_some, g2, Option.bind_some, if_pos (by simp [h])]
      · rw [e2]; simp only [sumK, h, List.cons.injEq, false_and, decide_false]
theorem RUnder_eq (p d : List UInt8) (hp : p.length ≤ 100000) (hd : d.length ≤ 100000) : F_ref13_Under p d = some (under p d) := by
  unfold F_ref13_Under
  rw [RParts_eq p hp, Option.bind_some, RParts_eq d hd, Option.bind_some]
  have hu := parts_under p d
  have hl : (parts p).length ≤ 100001 := by
    unfold parts; split
    · simp
    · have := splitB_length p; omega
  by_cases h : ((parts p).length : Int) ≤ ((parts d).length : Int)
  · rw [if_pos h]
    have : under p d = false := by
      cases hh : under p d with
      | false => rfl
      | true => have := (hu.2 hh).1; omega
    rw [this]
  · rw [if_neg h]
    obtain ⟨q, q1, q2⟩ := RUnder_loop (parts p) (parts d) (by omega) (by omega) (parts d).length 0 NF (by omega) (by
      rw [NF_eq]
      have : (parts d).length ≤ 100001 := by
        unfold parts; split
        · simp
        · have := splitB_length d; omega
      omega)
    rw [show ((0 : Nat) : Int) = 0 from rfl] at q1
    rw [q1, Option.bind_some, q2]
    simp only [List.drop_zero, Nat.sub_zero]
    congr 1
    cases hh : under p d with
    | true => rw [decide_eq_true (hu.2 hh).2]
    | false =>
      rw [decide_eq_false]
      intro h2
      have := hu.1 ⟨by omega, h2⟩
      rw [hh] at this; cases this
end Go.Proofs.YtobhmahlenjheaaM
