/- Layer 19 in plain terms: where any bytes have their directory is the document's answer. -/
import Derived.Test.YtikkpmmhejjpaaaEAP02
import Derived.KernelRfl
set_option linter.unusedSimpArgs false
set_option linter.unusedVariables false
namespace Go.Proofs.YtikkpmmhejjpaaaM
open Go Go.RowKit

theorem nu16 (s : List UInt8) (a : Int) (hs : s.length < 1000000000) : F_end_numbers_u16 ⟨s⟩ a = some (numOf s a 2) := by
  unfold F_end_numbers_u16; rw [U16_eq s a hs]; rfl
theorem nu32 (s : List UInt8) (a : Int) (hs : s.length < 1000000000) : F_end_numbers_u32 ⟨s⟩ a = some (numOf s a 4) := by
  unfold F_end_numbers_u32; rw [U32_eq s a hs]; rfl
theorem nu64 (s : List UInt8) (a : Int) (hs : s.length < 1000000000) : F_end_numbers_u64 ⟨s⟩ a = some (numOf s a 8) := by
  unfold F_end_numbers_u64; rw [U64_eq s a hs]; rfl
theorem rlong (s : List UInt8) (a : Int) (hs : s.length < 1000000000) : F_ref19_long s a = some (numOf s a 8) := by
  unfold F_ref19_long; rw [Num_eq s a 8 hs (by omega)]; rfl

/-- Is an end record at a place? -/
def recAt (s : List UInt8) (i : Nat) : Prop := numOf s i 4 = 101010256 ∧ (i : Int) + 22 + numOf s ((i : Int) + 20) 2 = s.length
instance (s : List UInt8) (i : Nat) : Decidable (recAt s i) := by unfold recAt; infer_instance
/-- The last of the first so many places that has one. -/
def lastR (s : List UInt8) : Nat → Option Nat
  | 0 => none
  | k + 1 => if recAt s k then some k else lastR s k
theorem lastR_lt (s : List UInt8) : ∀ k j, lastR s k = some j → j < k
  | 0, j, h => by cases h
  | k + 1, j, h => by
    rw [lastR] at h
    split at h
    · cases h; omega
    · have := lastR_lt s k j h; omega

theorem head_byte (s : List UInt8) (i : Nat) (hi : i + 4 ≤ s.length) : idxS s i = some (numOf s i 4 % 256) := by
  unfold idxS numOf
  rw [if_pos (by omega), cut_is (by omega) (by omega) (by omega)]
  have e : ((s.take ((i : Int) + 4).toNat).drop (i : Int).toNat) = s[i]'(by omega) :: ((s.take (i + 4)).drop (i + 1)) := by
    rw [show ((i : Int) + 4).toNat = i + 4 by omega, Int.toNat_natCast, List.drop_eq_getElem_cons (by simp; omega)]
    congr 1
    simp
  simp only [e, leNum]
  have hb := (s[i]'(by omega)).toNat_lt
  rw [Int.toNat_natCast, List.getD_eq_getElem?_getD, List.getElem?_eq_getElem (by omega)]
  simp only [Option.getD_some]
  congr 1
  omega

section
variable (s : List UInt8) (hs : s.length ≤ 60000)
include hs

theorem L_last : ∀ (k n : Nat), k + 21 ≤ s.length → k < n → iter (L_end_last_1 s) n ((k : Int) - 1) = some (match lastR s k with | some j => .inr (j : Int) | none => .inl ()) := by
  intro k
  induction k with
  | zero =>
    intro n hk hn
    obtain ⟨n, rfl⟩ : ∃ j, n = j + 1 := ⟨n - 1, by omega⟩
    refine iter_inr ?_
    unfold L_end_last_1
    rw [if_neg (by omega)]
    simp [lastR]
  | succ k ih =>
    intro n hk hn
    obtain ⟨n, rfl⟩ : ∃ j, n = j + 1 := ⟨n - 1, by omega⟩
    have e1 : (((k + 1 : Nat) : Int) - 1) = (k : Int) := by omega
    have w1 : IntKind.i64.wrap (IntKind.i64.wrap ((s.length : Int) - 22) - 65535) = s.length - 22 - 65535 := by rw [wrap_i64 (n := (s.length : Int) - 22) (by omega) (by omega), wrap_i64 (by omega) (by omega)]
    have w2 : IntKind.i64.wrap ((k : Int) + 20) = (k : Int) + 20 := wrap_i64 (by omega) (by omega)
    have n2 := numOf2 s ((k : Int) + 20)
    have w3 : IntKind.i64.wrap (IntKind.i64.wrap ((k : Int) + 22) + numOf s ((k : Int) + 20) 2) = (k : Int) + 22 + numOf s ((k : Int) + 20) 2 := by rw [wrap_i64 (n := (k : Int) + 22) (by omega) (by omega), wrap_i64 (by omega) (by omega)]
    have w4 : IntKind.i64.wrap ((k : Int) - 1) = (k : Int) - 1 := wrap_i64 (by omega) (by omega)
    have hd := head_byte s k (by omega)
    have c0 : (k : Int) ≥ 0 := by omega
    have c1 : (k : Int) ≥ (s.length : Int) - 22 - 65535 := by omega
    rw [e1]
    have step : L_end_last_1 s (k : Int) = some (if recAt s k then .inr (.inr (k : Int)) else .inl ((k : Int) - 1)) := by
      unfold L_end_last_1
      rw [if_pos c0]
      simp only [w1, c1, decide_true, Option.bind_some, if_true, hd, nu32 s _ (by omega : s.length < 1000000000), nu16 s _ (by omega : s.length < 1000000000), w2, w3, w4]
      by_cases h4 : numOf s k 4 = 101010256
      · have h5 : (numOf s k 4 % 256 == 80) = true := by rw [h4]; rfl
        simp only [h5, if_true, h4, beq_self_eq_true, Option.bind_some]
        by_cases h6 : (k : Int) + 22 + numOf s ((k : Int) + 20) 2 = s.length
        · simp [recAt, h4, h6]
        · simp [recAt, h4, h6]
      · by_cases h5 : (numOf s k 4 % 256 == 80) = true
        · simp [recAt, h4, h5]
        · simp only [Bool.not_eq_true] at h5
          simp [recAt, h4, h5]
    by_cases hr : recAt s k
    · rw [if_pos hr] at step
      rw [iter_inr step, lastR, if_pos hr]
    · rw [if_neg hr] at step
      rw [iter_inl step, ih n (by omega) (by omega), lastR, if_neg hr]

theorem L_record : ∀ (k n : Nat), k + 21 ≤ s.length → k < n → iter (L_ref19_record_1 s) n ((k : Int) - 1) = some (match lastR s k with | some j => .inr (j : Int) | none => .inl ()) := by
  intro k
  induction k with
  | zero =>
    intro n hk hn
    obtain ⟨n, rfl⟩ : ∃ j, n = j + 1 := ⟨n - 1, by omega⟩
    refine iter_inr ?_
    unfold L_ref19_record_1
    rw [if_neg (by omega)]
    simp [lastR]
  | succ k ih =>
    intro n hk hn
    obtain ⟨n, rfl⟩ : ∃ j, n = j + 1 := ⟨n - 1, by omega⟩
    have e1 : (((k + 1 : Nat) : Int) - 1) = (k : Int) := by omega
    have w2 : IntKind.i64.wrap ((k : Int) + 20) = (k : Int) + 20 := wrap_i64 (by omega) (by omega)
    have n2 := numOf2 s ((k : Int) + 20)
    have w3 : IntKind.i64.wrap (IntKind.i64.wrap ((k : Int) + 22) + numOf s ((k : Int) + 20) 2) = (k : Int) + 22 + numOf s ((k : Int) + 20) 2 := by rw [wrap_i64 (n := (k : Int) + 22) (by omega) (by omega), wrap_i64 (by omega) (by omega)]
    have w4 : IntKind.i64.wrap ((k : Int) - 1) = (k : Int) - 1 := wrap_i64 (by omega) (by omega)
    have c0 : (k : Int) ≥ 0 := by omega
    rw [e1]
    have step : L_ref19_record_1 s (k : Int) = some (if recAt s k then .inr (.inr (k : Int)) else .inl ((k : Int) - 1)) := by
      unfold L_ref19_record_1
      rw [if_pos c0]
      simp only [RU32_eq s _ (by omega : s.length < 1000000000), RU16_eq s _ (by omega : s.length < 1000000000), Option.bind_some, w2, w3, w4]
      by_cases h4 : numOf s k 4 = 101010256
      · simp only [h4, beq_self_eq_true, if_true, Option.bind_some]
        by_cases h6 : (k : Int) + 22 + numOf s ((k : Int) + 20) 2 = s.length
        · simp [recAt, h4, h6]
        · simp [recAt, h4, h6]
      · simp [recAt, h4]
    by_cases hr : recAt s k
    · rw [if_pos hr] at step
      rw [iter_inr step, lastR, if_pos hr]
    · rw [if_neg hr] at step
      rw [iter_inl step, ih n (by omega) (by omega), lastR, if_neg hr]

def lastE (s : List UInt8) : Option Nat := if 22 ≤ s.length then lastR s (s.length - 21) else none
omit hs in
theorem lastE_lt {j : Nat} (h : lastE s = some j) : j + 22 ≤ s.length := by
  unfold lastE at h
  split at h
  · have := lastR_lt _ _ _ h; omega
  · cases h

theorem last_eq : F_end_last s = some (match lastE s with | some j => ((j : Int), true) | none => (0, false)) := by
  unfold F_end_last lastE
  rw [wrap_i64 (by omega) (by omega)]
  by_cases c : 22 ≤ s.length
  · have := L_last s hs (s.length - 21) NF (by omega) (by rw [NF_eq]; omega)
    rw [show (((s.length - 21 : Nat) : Int) - 1) = (s.length : Int) - 22 by omega] at this
    rw [this, if_pos c]
    cases lastR s (s.length - 21) <;> rfl
  · rw [if_neg c]
    have : iter (L_end_last_1 s) NF ((s.length : Int) - 22) = some (.inl ()) := by
      rw [NF_eq, show (1000000 : Nat) = 999999 + 1 from rfl]
      refine iter_inr ?_
      unfold L_end_last_1
      rw [if_neg (by omega)]; rfl
    rw [this]; rfl
theorem record_eq : F_ref19_record s = some (match lastE s with | some j => (j : Int) | none => -1) := by
  unfold F_ref19_record lastE
  rw [wrap_i64 (by omega) (by omega)]
  by_cases c : 22 ≤ s.length
  · have := L_record s hs (s.length - 21) NF (by omega) (by rw [NF_eq]; omega)
    rw [show (((s.length - 21 : Nat) : Int) - 1) = (s.length : Int) - 22 by omega] at this
    rw [this, if_pos c]
    cases lastR s (s.length - 21) <;> rfl
  · rw [if_neg c]
    have : iter (L_ref19_record_1 s) NF ((s.length : Int) - 22) = some (.inl ()) := by
      rw [NF_eq, show (1000000 : Nat) = 999999 + 1 from rfl]
      refine iter_inr ?_
      unfold L_ref19_record_1
      rw [if_neg (by omega)]
    rw [this]; rfl

theorem ahead_eq (j : Nat) (hj : j ≤ s.length) : F_end_ahead s j = F_ref19_wide s j := by
  have w0 : IntKind.i64.wrap ((j : Int) - 20) = (j : Int) - 20 := wrap_i64 (by omega) (by omega)
  have w1 : IntKind.i64.wrap ((j : Int) - 20 - 56) = (j : Int) - 76 := by rw [wrap_i64 (by omega) (by omega)]; omega
  have w2 : IntKind.i64.wrap ((j : Int) - 76) = (j : Int) - 76 := wrap_i64 (by omega) (by omega)
  have w3 : IntKind.i64.wrap ((j : Int) - 76 + 56) = (j : Int) - 20 := by rw [wrap_i64 (by omega) (by omega)]; omega
  unfold F_end_ahead F_ref19_wide F_end_located
  simp only [w0, w1, w2, w3]
  by_cases c : (j : Int) < 76
  · rw [if_pos (by omega), if_pos c]; rfl
  · rw [if_neg (by omega), if_neg c]
    have sl : ∃ l, subS s ((j : Int) - 20) j = some l ∧ l.length < 1000000000 := by
      refine ⟨(s.take (j : Int).toNat).drop ((j : Int) - 20).toNat, by unfold subS; rw [if_pos (by omega)], ?_⟩
      rw [List.length_drop, List.length_take]; omega
    have sw : ∃ l, subS s ((j : Int) - 76) ((j : Int) - 20) = some l ∧ l.length < 1000000000 := by
      refine ⟨(s.take ((j : Int) - 20).toNat).drop ((j : Int) - 76).toNat, by unfold subS; rw [if_pos (by omega)], ?_⟩
      rw [List.length_drop, List.length_take]; omega
    obtain ⟨l, e1, h1⟩ := sl
    obtain ⟨w, e2, h2⟩ := sw
    simp only [e1, e2, Option.bind_some, nu32 l _ h1, nu64 l _ h1, nu32 w _ h2, nu64 w _ h2, RU32_eq l _ h1, RU32_eq w _ h2, rlong l _ h1, rlong w _ h2]
    by_cases a1 : numOf l 0 4 = 117853008 <;> by_cases a2 : numOf l 4 4 = 0 <;> by_cases a3 : numOf l 8 8 = IntKind.u64.wrap ((j : Int) - 76) <;> by_cases a4 : numOf l 16 4 = 1 <;> simp [a1, a2, a3, a4]

theorem Find_eq : F_end_Find s = F_ref19_Find s := by
  unfold F_end_Find F_ref19_Find
  rw [last_eq s hs, record_eq s hs]
  cases hl : lastE s with
  | none => rfl
  | some j =>
    have hj := lastE_lt s hl
    have e1 : subS s (j : Int) s.length = some (s.drop j) := by
      unfold subS; rw [if_pos (by omega), Int.toNat_natCast, Int.toNat_natCast, List.take_length]
    have nd := fun a m (ha : 0 ≤ a) => num_drop s j a m (by omega) ha
    have hd : (s.drop j).length < 1000000000 := by rw [List.length_drop]; omega
    have hs' : s.length < 1000000000 := by omega
    have ww : ∀ k : Int, 0 ≤ k → k ≤ 1000 → IntKind.i64.wrap ((j : Int) + k) = (j : Int) + k := fun k h0 h1 => wrap_i64 (by omega) (by omega)
    simp only [Option.bind_some, Bool.not_true, Bool.false_eq_true, if_false, e1, nu16 _ _ hd, nu32 _ _ hd, nd 4 2 (by omega), nd 6 2 (by omega), nd 8 2 (by omega), nd 10 2 (by omega), nd 12 4 (by omega), nd 16 4 (by omega),
      RU16_eq s _ hs', RU32_eq s _ hs', ww 4 (by omega) (by omega), ww 6 (by omega) (by omega), ww 8 (by omega) (by omega), ww 10 (by omega) (by omega), ww 12 (by omega) (by omega), ww 16 (by omega) (by omega), ww 22 (by omega) (by omega), ahead_eq s hs j (by omega)]
    rw [if_neg (by omega : ¬ (j : Int) < 0)]
theorem wide_some (j : Nat) (hj : j ≤ s.length) : ∃ y, F_ref19_wide s j = some y := by
  have w0 : IntKind.i64.wrap ((j : Int) - 20) = (j : Int) - 20 := wrap_i64 (by omega) (by omega)
  have w2 : IntKind.i64.wrap ((j : Int) - 76) = (j : Int) - 76 := wrap_i64 (by omega) (by omega)
  unfold F_ref19_wide
  simp only [w0, w2]
  by_cases c : (j : Int) < 76
  · rw [if_pos c]; exact ⟨_, rfl⟩
  · rw [if_neg c]
    have sl : ∃ l, subS s ((j : Int) - 20) j = some l ∧ l.length < 1000000000 := by
      refine ⟨(s.take (j : Int).toNat).drop ((j : Int) - 20).toNat, by unfold subS; rw [if_pos (by omega)], ?_⟩
      rw [List.length_drop, List.length_take]; omega
    have sw : ∃ l, subS s ((j : Int) - 76) ((j : Int) - 20) = some l ∧ l.length < 1000000000 := by
      refine ⟨(s.take ((j : Int) - 20).toNat).drop ((j : Int) - 76).toNat, by unfold subS; rw [if_pos (by omega)], ?_⟩
      rw [List.length_drop, List.length_take]; omega
    obtain ⟨l, e1, h1⟩ := sl
    obtain ⟨w, e2, h2⟩ := sw
    simp only [e1, e2, Option.bind_some, RU32_eq l _ h1, RU32_eq w _ h2, rlong l _ h1, rlong w _ h2]
    repeat' first | exact ⟨_, rfl⟩ | apply some_ite | (refine some_bind ?_ fun _ => ?_)
theorem Find_some : ∃ y, F_ref19_Find s = some y := by
  unfold F_ref19_Find
  rw [record_eq s hs]
  cases hl : lastE s with
  | none => exact ⟨_, rfl⟩
  | some j =>
    have hj := lastE_lt s hl
    have hs' : s.length < 1000000000 := by omega
    obtain ⟨y, hy⟩ := wide_some s hs j (by omega)
    have w2 : IntKind.i64.wrap ((j : Int) + 22) = (j : Int) + 22 := wrap_i64 (by omega) (by omega)
    have e1 : subS s ((j : Int) + 22) s.length = some ((s.take (s.length : Int).toNat).drop ((j : Int) + 22).toNat) := by unfold subS; rw [if_pos (by omega)]
    simp only [Option.bind_some, RU16_eq s _ hs', RU32_eq s _ hs', hy, w2, e1]
    repeat' first | exact ⟨_, rfl⟩ | apply some_ite | (refine some_bind ?_ fun _ => ?_) | (refine some_sumK (fun _ => ?_) fun _ => ?_)
end

theorem awake19 : F_law19_awake = some true := by kernel_rfl

theorem true_law19_EndAny (s : List UInt8) : F_law19_EndAny s = some true := by
  unfold F_law19_EndAny
  rw [awake19]
  simp only [Option.bind_some, Bool.not_true, Bool.false_eq_true, if_false]
  by_cases c : (s.length : Int) > 300
  · rw [if_pos c]
  · rw [if_neg c, Find_eq s (by omega)]
    obtain ⟨y, hf⟩ := Find_some s (by omega)
    rw [hf]
    simp
end Go.Proofs.YtikkpmmhejjpaaaM
