/- Letters in plain terms: what the library and the document read at a place. -/
import Derived.Test.YtikkpmmhejjpaaaDoorFOF
import Derived.Test.YtikkpmmhejjpaaaDoorFieldNum
import Derived.Test.YtikkpmmhejjpaaaDoorPB
import Derived.KernelRfl
set_option linter.unusedSimpArgs false
set_option linter.unusedVariables false
namespace Go.Proofs.YtikkpmmhejjpaaaDoorM
open Go Go.RowKit

/-- A byte that goes on. -/
def cont (b : UInt8) : Bool := decide (128 ≤ b.toNat ∧ b.toNat < 192)
def ok3 (c : Int) : Int × Int := if c < 2048 ∨ (55296 ≤ c ∧ c < 57344) then (0, 0) else (c, 3)
def ok4 (c : Int) : Int × Int := if c < 65536 ∨ c > 1114111 then (0, 0) else (c, 4)
/-- A text's first letter, and how many bytes it takes; 0: it has none. -/
def dec : List UInt8 → Int × Int
  | [] => (0, 0)
  | b0 :: r =>
    if b0.toNat < 128 then ((b0.toNat : Int), 1)
    else if b0.toNat < 194 then (0, 0)
    else match r with
      | [] => (0, 0)
      | b1 :: r =>
        if cont b1 = false then (0, 0)
        else if b0.toNat < 224 then (64 * ((b0.toNat : Int) - 192) + ((b1.toNat : Int) - 128), 2)
        else match r with
          | [] => (0, 0)
          | b2 :: r =>
            if cont b2 = false then (0, 0)
            else if b0.toNat < 240 then ok3 (64 * (64 * ((b0.toNat : Int) - 224) + ((b1.toNat : Int) - 128)) + ((b2.toNat : Int) - 128))
            else match r with
              | [] => (0, 0)
              | b3 :: _ =>
                if cont b3 = false then (0, 0)
                else if b0.toNat < 248 then ok4 (64 * (64 * (64 * ((b0.toNat : Int) - 240) + ((b1.toNat : Int) - 128)) + ((b2.toNat : Int) - 128)) + ((b3.toNat : Int) - 128))
                else (0, 0)

theorem idx_at (s : List UInt8) (a k : Nat) : idxS s ((a : Int) + (k : Int)) = ((s.drop a)[k]?).map fun b => (b.toNat : Int) := by
  unfold idxS
  rw [List.getElem?_drop]
  by_cases h : a + k < s.length
  · rw [if_pos (by omega), List.getElem?_eq_getElem h, show ((a : Int) + (k : Int)).toNat = a + k by omega, List.getD_eq_getElem?_getD, List.getElem?_eq_getElem h]
    rfl
  · rw [if_neg (by omega), List.getElem?_eq_none (by omega)]
    rfl
theorem cont_lt {b : UInt8} (h : cont b = true) : 128 ≤ b.toNat ∧ b.toNat < 192 := of_decide_eq_true h
theorem cont_not {b : UInt8} (h : cont b = false) : b.toNat < 128 ∨ 192 ≤ b.toNat := by
  have := of_decide_eq_false h; omega

/-! ### The document's -/
def longOf (c : Nat) : Int × Int := if c < 128 then (1, (c : Int)) else if c < 192 then (0, 0) else if c < 224 then (2, (c : Int) - 192) else if c < 240 then (3, (c : Int) - 224) else if c < 248 then (4, (c : Int) - 240) else (0, 0)
theorem long_fin : ∀ b : Fin 256, F_ref13_long ((b.val : Nat) : Int) = some (longOf b.val) := by decide +kernel
theorem long_eq (b : UInt8) : F_ref13_long (b.toNat : Int) = some (longOf b.toNat) := long_fin ⟨b.toNat, b.toNat_lt⟩

theorem Next_step (s : List UInt8) (a : Nat) (y : Int × Int) (code : Int) (k : Nat) (z z' : Int) (b : UInt8) (hb : (s.drop a)[k]? = some b) (ez : z = k) (ez' : z' = k + 1) (ha : a < 1000000000) (hk : (k : Int) < y.1) (hy : y.1 ≤ 4) (h0 : 0 ≤ code) (h1 : code < 1000000000) :
    L_ref13_Next_1 y s (a : Int) (code, z) = if cont b = false then some (.inr (.inr ())) else some (.inl (64 * code + ((b.toNat : Int) - 128), z')) := by
  subst ez; subst ez'
  have hbt := b.toNat_lt
  unfold L_ref13_Next_1
  simp only [if_pos hk]
  rw [wrap_i64 (n := (a : Int) + (k : Int)) (by omega) (by omega), idx_at, hb]
  simp only [Option.map_some, Option.bind_some]
  rw [wrap_i64 (n := 64 * code) (by omega) (by omega), wrap_i64 (n := (b.toNat : Int)) (by omega) (by omega), wrap_i64 (n := 64 * code + (b.toNat : Int)) (by omega) (by omega), wrap_i64 (n := 64 * code + (b.toNat : Int) - 128) (by omega) (by omega), wrap_i64 (n := (k : Int) + 1) (by omega) (by omega)]
  by_cases c : cont b = false
  · have := cont_not c
    rw [if_pos c]
    by_cases c2 : (b.toNat : Int) < 128
    · simp [c2]
    · simp [c2, show (192 : Int) ≤ b.toNat by omega]
  · have := cont_lt (by simpa using c)
    rw [if_neg c]
    simp only [if_neg (show ¬ (b.toNat : Int) < 128 by omega), Option.bind_some, show ¬ (b.toNat : Int) ≥ 192 by omega, decide_false, Bool.false_eq_true, if_false]
    congr 3
    omega
theorem Next_end (s : List UInt8) (a : Nat) (y : Int × Int) (code : Int) (k : Int) (hk : ¬ k < y.1) : L_ref13_Next_1 y s (a : Int) (code, k) = some (.inr (.inl code)) := by
  unfold L_ref13_Next_1
  simp only [if_neg hk]

theorem NF_add : NF = 999995 + 1 + 1 + 1 + 1 + 1 := by rw [NF_eq]
theorem Next_eq (s : List UInt8) (a : Nat) (h : a < s.length) (hs : s.length < 1000000000) : F_ref13_Next s (a : Int) = some (dec (s.drop a)) := by
  obtain ⟨b0, r, hl⟩ : ∃ b r, s.drop a = b :: r := by
    cases hd : s.drop a with
    | nil => have := congrArg List.length hd; simp at this; omega
    | cons b r => exact ⟨b, r, rfl⟩
  have hlen : (s.drop a).length = s.length - a := by simp
  rw [hl, List.length_cons] at hlen
  have hb0 := b0.toNat_lt
  have i0 := idx_at s a 0
  rw [hl] at i0
  simp only [Int.natCast_zero, Int.add_zero, List.getElem?_cons_zero, Option.map_some] at i0
  unfold F_ref13_Next
  rw [i0]
  simp only [Option.bind_some, long_eq, hl]
  have nil0 : dec [b0] = if b0.toNat < 128 then ((b0.toNat : Int), 1) else (0, 0) := by
    simp only [dec]; split
    · rfl
    · simp
  by_cases r1 : b0.toNat < 128
  · have hy : longOf b0.toNat = (1, (b0.toNat : Int)) := by simp [longOf, r1]
    rw [hy, NF_add, wrap_i64 (by omega) (by omega)]
    simp only [show ((1 : Int) == 0) = false from rfl, Bool.false_eq_true, if_false, Option.bind_some, show ¬ ((a : Int) + 1 > (s.length : Int)) by omega, decide_false]
    rw [iter_inr (Next_end s a _ _ 1 (by simp))]
    simp only [Option.bind_some, sumK, show idxL ([0, 0, 128, 2048, 65536] : List Int) 1 = some 0 from rfl, if_neg (show ¬ (b0.toNat : Int) < 0 by omega), if_neg (show ¬ (b0.toNat : Int) > 1114111 by omega), if_neg (show ¬ (b0.toNat : Int) ≥ 55296 by omega), Bool.false_eq_true, if_false]
    simp [dec, r1]
  by_cases r2 : b0.toNat < 192
  · have hy : longOf b0.toNat = (0, 0) := by simp [longOf, r1, r2]
    rw [hy]
    simp [dec, r1, show b0.toNat < 194 by omega]
  by_cases r3 : b0.toNat < 224
  · have hy : longOf b0.toNat = (2, (b0.toNat : Int) - 192) := by simp [longOf, r1, r2, r3]
    rw [hy, NF_add, wrap_i64 (by omega) (by omega)]
    simp only [show ((2 : Int) == 0) = false from rfl, Bool.false_eq_true, if_false, Option.bind_some]
    cases r with
    | nil =>
      simp only [List.length_nil] at hlen
      simp only [show (a : Int) + 2 > (s.length : Int) by omega, decide_true, if_true]
      simp [dec, r1]
    | cons b1 r =>
      simp only [List.length_cons] at hlen
      have hb1 := b1.toNat_lt
      simp only [show ¬ ((a : Int) + 2 > (s.length : Int)) by omega, decide_false, Bool.false_eq_true, if_false]
      have st := Next_step s a (2, (b0.toNat : Int) - 192) ((b0.toNat : Int) - 192) 1 1 2 b1 (by rw [hl]; rfl) rfl rfl (by omega) (by simp) (by simp) (by omega) (by omega)
      by_cases c1 : cont b1 = false
      · rw [if_pos c1] at st
        rw [iter_inr st]
        simp only [Option.bind_some, sumK]
        by_cases q : b0.toNat < 194 <;> simp [dec, r1, q, c1]
      · rw [if_neg c1] at st
        have cc := cont_lt (by simpa using c1)
        rw [iter_inl st, iter_inr (Next_end s a _ _ _ (by simp))]
        simp only [Option.bind_some, sumK, show idxL ([0, 0, 128, 2048, 65536] : List Int) 2 = some 128 from rfl]
        by_cases q : b0.toNat < 194
        · rw [if_pos (show 64 * ((b0.toNat : Int) - 192) + ((b1.toNat : Int) - 128) < 128 by omega)]
          simp [dec, r1, q]
        · simp only [if_neg (show ¬ 64 * ((b0.toNat : Int) - 192) + ((b1.toNat : Int) - 128) < 128 by omega), if_neg (show ¬ 64 * ((b0.toNat : Int) - 192) + ((b1.toNat : Int) - 128) > 1114111 by omega), if_neg (show ¬ 64 * ((b0.toNat : Int) - 192) + ((b1.toNat : Int) - 128) ≥ 55296 by omega), Option.bind_some, Bool.false_eq_true, if_false]
          simp [dec, r1, q, c1, r3]
  by_cases r4 : b0.toNat < 240
  · have hy : longOf b0.toNat = (3, (b0.toNat : Int) - 224) := by simp [longOf, r1, r2, r3, r4]
    rw [hy, NF_add, wrap_i64 (by omega) (by omega)]
    simp only [show ((3 : Int) == 0) = false from rfl, Bool.false_eq_true, if_false, Option.bind_some]
    cases r with
    | nil =>
      simp only [List.length_nil] at hlen
      simp only [show (a : Int) + 3 > (s.length : Int) by omega, decide_true, if_true]
      simp [dec, r1]
    | cons b1 r =>
      simp only [List.length_cons] at hlen
      have hb1 := b1.toNat_lt
      cases r with
      | nil =>
        simp only [List.length_nil] at hlen
        simp only [show (a : Int) + 3 > (s.length : Int) by omega, decide_true, if_true]
        simp [dec, r1, r3]
      | cons b2 r =>
        simp only [List.length_cons] at hlen
        have hb2 := b2.toNat_lt
        simp only [show ¬ ((a : Int) + 3 > (s.length : Int)) by omega, decide_false, Bool.false_eq_true, if_false]
        have st := Next_step s a (3, (b0.toNat : Int) - 224) ((b0.toNat : Int) - 224) 1 1 2 b1 (by rw [hl]; rfl) rfl rfl (by omega) (by simp) (by simp) (by omega) (by omega)
        by_cases c1 : cont b1 = false
        · rw [if_pos c1] at st
          rw [iter_inr st]
          simp [sumK, dec, r1, c1]
        · rw [if_neg c1] at st
          have cc := cont_lt (by simpa using c1)
          rw [iter_inl st]
          have st2 := Next_step s a (3, (b0.toNat : Int) - 224) (64 * ((b0.toNat : Int) - 224) + ((b1.toNat : Int) - 128)) 2 2 3 b2 (by rw [hl]; rfl) rfl rfl (by omega) (by simp) (by simp) (by omega) (by omega)
          by_cases c2 : cont b2 = false
          · rw [if_pos c2] at st2
            rw [iter_inr st2]
            simp [sumK, dec, r1, r3, c1, c2]
          · rw [if_neg c2] at st2
            have cc2 := cont_lt (by simpa using c2)
            rw [iter_inl st2, iter_inr (Next_end s a _ _ _ (by simp))]
            have hd : dec (b0 :: b1 :: b2 :: r) = ok3 (64 * (64 * ((b0.toNat : Int) - 224) + ((b1.toNat : Int) - 128)) + ((b2.toNat : Int) - 128)) := by
              simp [dec, r1, r3, r4, c1, c2, show ¬ b0.toNat < 194 by omega]
            rw [hd]
            simp only [Option.bind_some, sumK, show idxL ([0, 0, 128, 2048, 65536] : List Int) 3 = some 2048 from rfl, ok3]
            have hcb : 64 * (64 * ((b0.toNat : Int) - 224) + ((b1.toNat : Int) - 128)) + ((b2.toNat : Int) - 128) < 65536 := by omega
            generalize 64 * (64 * ((b0.toNat : Int) - 224) + ((b1.toNat : Int) - 128)) + ((b2.toNat : Int) - 128) = c at *
            by_cases q1 : c < 2048
            · simp [q1]
            by_cases q2 : c > 1114111
            · omega
            by_cases q3 : c ≥ 55296
            · by_cases q4 : c < 57344 <;> simp [q1, q2, q3, q4]
            · simp [q1, q2, q3]
  by_cases r5 : b0.toNat < 248
  · have hy : longOf b0.toNat = (4, (b0.toNat : Int) - 240) := by simp [longOf, r1, r2, r3, r4, r5]
    rw [hy, NF_add, wrap_i64 (by omega) (by omega)]
    simp only [show ((4 : Int) == 0) = false from rfl, Bool.false_eq_true, if_false, Option.bind_some]
    cases r with
    | nil =>
      simp only [List.length_nil] at hlen
      simp only [show (a : Int) + 4 > (s.length : Int) by omega, decide_true, if_true]
      simp [dec, r1]
    | cons b1 r =>
      simp only [List.length_cons] at hlen
      have hb1 := b1.toNat_lt
      cases r with
      | nil =>
        simp only [List.length_nil] at hlen
        simp only [show (a : Int) + 4 > (s.length : Int) by omega, decide_true, if_true]
        simp [dec, r1, r3]
      | cons b2 r =>
        simp only [List.length_cons] at hlen
        have hb2 := b2.toNat_lt
        cases r with
        | nil =>
          simp only [List.length_nil] at hlen
          simp only [show (a : Int) + 4 > (s.length : Int) by omega, decide_true, if_true]
          simp [dec, r1, r3, r4]
        | cons b3 r =>
          simp only [List.length_cons] at hlen
          have hb3 := b3.toNat_lt
          simp only [show ¬ ((a : Int) + 4 > (s.length : Int)) by omega, decide_false, Bool.false_eq_true, if_false]
          have st := Next_step s a (4, (b0.toNat : Int) - 240) ((b0.toNat : Int) - 240) 1 1 2 b1 (by rw [hl]; rfl) rfl rfl (by omega) (by simp) (by simp) (by omega) (by omega)
          by_cases c1 : cont b1 = false
          · rw [if_pos c1] at st
            rw [iter_inr st]
            simp [sumK, dec, r1, c1]
          · rw [if_neg c1] at st
            have cc := cont_lt (by simpa using c1)
            rw [iter_inl st]
            have st2 := Next_step s a (4, (b0.toNat : Int) - 240) (64 * ((b0.toNat : Int) - 240) + ((b1.toNat : Int) - 128)) 2 2 3 b2 (by rw [hl]; rfl) rfl rfl (by omega) (by simp) (by simp) (by omega) (by omega)
            by_cases c2 : cont b2 = false
            · rw [if_pos c2] at st2
              rw [iter_inr st2]
              simp [sumK, dec, r1, r3, c1, c2]
            · rw [if_neg c2] at st2
              have cc2 := cont_lt (by simpa using c2)
              rw [iter_inl st2]
              have st3 := Next_step s a (4, (b0.toNat : Int) - 240) (64 * (64 * ((b0.toNat : Int) - 240) + ((b1.toNat : Int) - 128)) + ((b2.toNat : Int) - 128)) 3 3 4 b3 (by rw [hl]; rfl) rfl rfl (by omega) (by simp) (by simp) (by omega) (by omega)
              by_cases c3 : cont b3 = false
              · rw [if_pos c3] at st3
                rw [iter_inr st3]
                simp [sumK, dec, r1, r3, r4, c1, c2, c3]
              · rw [if_neg c3] at st3
                have cc3 := cont_lt (by simpa using c3)
                rw [iter_inl st3, iter_inr (Next_end s a _ _ _ (by simp))]
                have hd : dec (b0 :: b1 :: b2 :: b3 :: r) = ok4 (64 * (64 * (64 * ((b0.toNat : Int) - 240) + ((b1.toNat : Int) - 128)) + ((b2.toNat : Int) - 128)) + ((b3.toNat : Int) - 128)) := by
                  simp [dec, r1, r3, r4, r5, c1, c2, c3, show ¬ b0.toNat < 194 by omega]
                rw [hd]
                simp only [Option.bind_some, sumK, show idxL ([0, 0, 128, 2048, 65536] : List Int) 4 = some 65536 from rfl, ok4]
                generalize 64 * (64 * (64 * ((b0.toNat : Int) - 240) + ((b1.toNat : Int) - 128)) + ((b2.toNat : Int) - 128)) + ((b3.toNat : Int) - 128) = c at *
                by_cases q1 : c < 65536
                · simp [q1]
                by_cases q2 : c > 1114111
                · simp [q1, q2]
                simp [q1, q2, show c ≥ 55296 by omega, show ¬ c < 57344 by omega]
  · have hy : longOf b0.toNat = (0, 0) := by simp [longOf, r1, r2, r3, r4, r5]
    rw [hy]
    rcases r with _ | ⟨b1, _ | ⟨b2, _ | ⟨b3, r⟩⟩⟩ <;> simp [dec, r1, r3, r4, r5]

/-! ### The library's -/
def fstOf (n : Nat) : Int := if n < 128 then 240 else if n < 194 then 241 else if n < 224 then 2 else if n = 224 then 19 else if n < 237 then 3 else if n = 237 then 35 else if n < 240 then 3 else if n = 240 then 52 else if n < 244 then 4 else if n = 244 then 68 else 241
theorem first_fin : ∀ b : Fin 256, idxL gv_0 ((b.val : Nat) : Int) = some (fstOf b.val) := by decide +kernel
theorem first_eq (b : UInt8) : idxL gv_0 (b.toNat : Int) = some (fstOf b.toNat) := first_fin ⟨b.toNat, b.toNat_lt⟩
theorem bad_fin : ∀ b : Fin 256, orI .i32 (andNotI .i32 (IntKind.i32.wrap ((b.val : Nat) : Int)) (-1)) (andI .i32 65533 (-1)) = 65533 := by decide +kernel
theorem bad_eq (b : UInt8) : orI .i32 (andNotI .i32 (IntKind.i32.wrap (b.toNat : Int)) (-1)) (andI .i32 65533 (-1)) = 65533 := bad_fin ⟨b.toNat, b.toNat_lt⟩
theorem wrap_i32 {n : Int} (h : -2147483648 ≤ n) (h' : n < 2147483648) : IntKind.i32.wrap n = n := by
  unfold IntKind.wrap
  simp [IntKind.signed, IntKind.bits]
  omega
theorem andb_fin : ∀ b : Fin 256, andI .u8 ((b.val : Nat) : Int) 63 = ((b.val % 64 : Nat) : Int) ∧ andI .u8 ((b.val : Nat) : Int) 31 = ((b.val % 32 : Nat) : Int) ∧ andI .u8 ((b.val : Nat) : Int) 15 = ((b.val % 16 : Nat) : Int) ∧ andI .u8 ((b.val : Nat) : Int) 7 = ((b.val % 8 : Nat) : Int) := by decide +kernel
theorem and63 (b : UInt8) : andI .u8 (b.toNat : Int) 63 = ((b.toNat % 64 : Nat) : Int) := (andb_fin ⟨b.toNat, b.toNat_lt⟩).1
theorem and31 (b : UInt8) : andI .u8 (b.toNat : Int) 31 = ((b.toNat % 32 : Nat) : Int) := (andb_fin ⟨b.toNat, b.toNat_lt⟩).2.1
theorem and15 (b : UInt8) : andI .u8 (b.toNat : Int) 15 = ((b.toNat % 16 : Nat) : Int) := (andb_fin ⟨b.toNat, b.toNat_lt⟩).2.2.1
theorem and7 (b : UInt8) : andI .u8 (b.toNat : Int) 7 = ((b.toNat % 8 : Nat) : Int) := (andb_fin ⟨b.toNat, b.toNat_lt⟩).2.2.2
/-- Bits set above what there is. -/
theorem or32 (a b k : Nat) (hb : b < 2 ^ k) (hs : 2 ^ k * a + b < 2147483648) : orI .i32 ((2 ^ k * a : Nat) : Int) ((b : Nat) : Int) = ((2 ^ k * a + b : Nat) : Int) := by
  unfold orI
  have e : (BitVec.ofInt 32 ((2 ^ k * a : Nat) : Int) ||| BitVec.ofInt 32 ((b : Nat) : Int)).toNat = 2 ^ k * a ||| b := by
    rw [BitVec.toNat_or]
    simp only [BitVec.ofInt_natCast, BitVec.toNat_ofNat]
    rw [Nat.mod_eq_of_lt (by omega), Nat.mod_eq_of_lt (by omega)]
  show IntKind.i32.wrap ((BitVec.ofInt 32 ((2 ^ k * a : Nat) : Int) ||| BitVec.ofInt 32 ((b : Nat) : Int)).toNat : Int) = _
  rw [e, ← Nat.two_pow_add_eq_or_of_lt hb, wrap_i32 (by omega) (by omega)]
theorem shl32 (a k : Nat) (hk : k ≤ 31) (hs : 2 ^ k * a < 2147483648) : shlI .i32 ((a : Nat) : Int) (k : Int) = some ((2 ^ k * a : Nat) : Int) := by
  unfold shlI
  rw [if_neg (by omega)]
  show some (IntKind.i32.wrap ((a : Int) * 2 ^ min (k : Int).toNat 32)) = _
  rw [Int.toNat_natCast, Nat.min_eq_left (by omega), show (a : Int) * 2 ^ k = ((2 ^ k * a : Nat) : Int) by push_cast; rw [Int.mul_comm], wrap_i32 (by omega) (by omega)]

/-- What the library says of a text's first letter. -/
def decG (l : List UInt8) : Int × Int := if (dec l).2 = 0 then (65533, 1) else dec l
theorem shl_bad : shlI .i32 (IntKind.i32.wrap 241) 31 = some (-2147483648) := by decide +kernel
theorem shr_bad : shrI (-2147483648) .i32 31 = some (-1) := by decide +kernel
theorem i0_eq (b0 : UInt8) (r : List UInt8) : idxS (b0 :: r) 0 = some (b0.toNat : Int) := by
  have := idx_at (b0 :: r) 0 0
  simpa using this
theorem i1_eq (b0 b1 : UInt8) (r : List UInt8) : idxS (b0 :: b1 :: r) 1 = some (b1.toNat : Int) := by
  have := idx_at (b0 :: b1 :: r) 0 1
  simpa using this
theorem i2_eq (b0 b1 b2 : UInt8) (r : List UInt8) : idxS (b0 :: b1 :: b2 :: r) 2 = some (b2.toNat : Int) := by
  have := idx_at (b0 :: b1 :: b2 :: r) 0 2
  simpa using this
theorem i3_eq (b0 b1 b2 b3 : UInt8) (r : List UInt8) : idxS (b0 :: b1 :: b2 :: b3 :: r) 3 = some (b3.toNat : Int) := by
  have := idx_at (b0 :: b1 :: b2 :: b3 :: r) 0 3
  simpa using this
theorem rng_eq {α : Type} (c lo hi : Int) (x y : Option α) : (((if c < lo then some true else some (decide (hi < c))) : Option Bool).bind fun j => if j = true then x else y) = if c < lo ∨ hi < c then x else y := by
  by_cases h1 : c < lo
  · rw [if_pos h1, if_pos (.inl h1)]; rfl
  · rw [if_neg h1]
    by_cases h2 : hi < c
    · rw [if_pos (.inr h2), decide_eq_true h2]; rfl
    · rw [if_neg (by omega), decide_eq_false h2]; rfl
theorem slow_bad (b0 : UInt8) (r : List UInt8) (h : fstOf b0.toNat = 241) : F_unicode_utf8_decodeRuneInStringSlow (b0 :: r) = some (65533, 1) := by
  unfold F_unicode_utf8_decodeRuneInStringSlow
  rw [if_neg (by simp only [List.length_cons]; omega), i0_eq, Option.bind_some, first_eq, h, Option.bind_some, if_pos (by decide), shl_bad, Option.bind_some, shr_bad, Option.bind_some, bad_eq]

def slowR (b0 : UInt8) (r : List UInt8) (lo hi n : Int) : Option (Int × Int) :=
  match r with
  | [] => some (65533, 1)
  | b1 :: r =>
    if (b1.toNat : Int) < lo ∨ hi < b1.toNat then some (65533, 1)
    else if n ≤ 2 then some (((64 * (b0.toNat % 32) + b1.toNat % 64 : Nat) : Int), 2)
    else match r with
      | [] => some (65533, 1)
      | b2 :: r =>
        if (b2.toNat : Int) < 128 ∨ 191 < (b2.toNat : Int) then some (65533, 1)
        else if n ≤ 3 then some (((64 * (64 * (b0.toNat % 16) + b1.toNat % 64) + b2.toNat % 64 : Nat) : Int), 3)
        else match r with
          | [] => some (65533, 1)
          | b3 :: r =>
            if (b3.toNat : Int) < 128 ∨ 191 < (b3.toNat : Int) then some (65533, 1)
            else some (((64 * (64 * (64 * (b0.toNat % 8) + b1.toNat % 64) + b2.toNat % 64) + b3.toNat % 64 : Nat) : Int), 4)
theorem slow_gen (b0 : UInt8) (r : List UInt8) (x y lo hi n : Int) (hx : fstOf b0.toNat = x) (h240 : ¬ x ≥ 240) (hsh : shrI x .u8 4 = some y) (ha : idxL gv_1 y = some ⟨lo, hi⟩) (hn : IntKind.i64.wrap (andI .u8 x 7) = n) (hn4 : 2 ≤ n ∧ n ≤ 4) :
    F_unicode_utf8_decodeRuneInStringSlow (b0 :: r) = if ((b0 :: r).length : Int) < n then some (65533, 1) else slowR b0 r lo hi n := by
  unfold F_unicode_utf8_decodeRuneInStringSlow
  rw [if_neg (by simp only [List.length_cons]; omega), i0_eq, Option.bind_some, first_eq, hx, Option.bind_some, if_neg h240, hsh, Option.bind_some, ha, Option.bind_some, hn]
  by_cases hl : ((b0 :: r).length : Int) < n
  · rw [if_pos hl, if_pos hl]
  rw [if_neg hl, if_neg hl]
  have hb0 := b0.toNat_lt
  cases r with
  | nil => simp only [List.length_cons, List.length_nil] at hl; omega
  | cons b1 r =>
    have hb1 := b1.toNat_lt
    rw [i1_eq, Option.bind_some, rng_eq]
    simp only [slowR]
    by_cases c1 : (b1.toNat : Int) < lo ∨ hi < b1.toNat
    · rw [if_pos c1, if_pos c1]
    rw [if_neg c1, if_neg c1]
    by_cases n2 : n ≤ 2
    · rw [if_pos n2, if_pos n2, and31, and63, wrap_i32 (by omega) (by omega), wrap_i32 (by omega) (by omega), show (6 : Int) = ((6 : Nat) : Int) from rfl, shl32 _ 6 (by omega) (by omega), Option.bind_some, or32 _ _ 6 (by omega) (by omega)]
    rw [if_neg n2, if_neg n2]
    cases r with
    | nil => simp only [List.length_cons, List.length_nil] at hl; omega
    | cons b2 r =>
      have hb2 := b2.toNat_lt
      rw [i2_eq, Option.bind_some, rng_eq]
      by_cases c2 : (b2.toNat : Int) < 128 ∨ 191 < (b2.toNat : Int)
      · rw [if_pos c2]; simp only [if_pos c2]
      rw [if_neg c2]
      simp only [if_neg c2]
      by_cases n3 : n ≤ 3
      · rw [if_pos n3, if_pos n3, and15, and63, and63, wrap_i32 (by omega) (by omega), wrap_i32 (by omega) (by omega), wrap_i32 (by omega) (by omega), show (6 : Int) = ((6 : Nat) : Int) from rfl, show (12 : Int) = ((12 : Nat) : Int) from rfl,
          shl32 _ 12 (by omega) (by omega), Option.bind_some, shl32 _ 6 (by omega) (by omega), Option.bind_some, or32 _ _ 12 (by omega) (by omega),
          show 2 ^ 12 * (b0.toNat % 16) + 2 ^ 6 * (b1.toNat % 64) = 2 ^ 6 * (64 * (b0.toNat % 16) + b1.toNat % 64) by omega, or32 _ _ 6 (by omega) (by omega)]
      rw [if_neg n3, if_neg n3]
      cases r with
      | nil => simp only [List.length_cons, List.length_nil] at hl; omega
      | cons b3 r =>
        have hb3 := b3.toNat_lt
        rw [i3_eq, Option.bind_some, rng_eq]
        by_cases c3 : (b3.toNat : Int) < 128 ∨ 191 < (b3.toNat : Int)
        · rw [if_pos c3]; simp only [if_pos c3]
        rw [if_neg c3]
        simp only [if_neg c3]
        rw [and7, and63, and63, and63, wrap_i32 (by omega) (by omega), wrap_i32 (by omega) (by omega), wrap_i32 (by omega) (by omega), wrap_i32 (by omega) (by omega), show (6 : Int) = ((6 : Nat) : Int) from rfl, show (12 : Int) = ((12 : Nat) : Int) from rfl, show (18 : Int) = ((18 : Nat) : Int) from rfl,
          shl32 _ 18 (by omega) (by omega), Option.bind_some, shl32 _ 12 (by omega) (by omega), Option.bind_some, shl32 _ 6 (by omega) (by omega), Option.bind_some, or32 _ _ 18 (by omega) (by omega),
          show 2 ^ 18 * (b0.toNat % 8) + 2 ^ 12 * (b1.toNat % 64) = 2 ^ 12 * (64 * (b0.toNat % 8) + b1.toNat % 64) by omega, or32 _ _ 12 (by omega) (by omega),
          show 2 ^ 12 * (64 * (b0.toNat % 8) + b1.toNat % 64) + 2 ^ 6 * (b2.toNat % 64) = 2 ^ 6 * (64 * (64 * (b0.toNat % 8) + b1.toNat % 64) + b2.toNat % 64) by omega, or32 _ _ 6 (by omega) (by omega)]

theorem decG_bad {l : List UInt8} (h : dec l = (0, 0)) : decG l = (65533, 1) := by unfold decG; rw [h]; rfl
theorem ok3_or (c : Int) : ok3 c = (0, 0) ∨ ok3 c = (c, 3) := by unfold ok3; split <;> simp
theorem ok4_or (c : Int) : ok4 c = (0, 0) ∨ ok4 c = (c, 4) := by unfold ok4; split <;> simp
theorem three (b0 : UInt8) (r : List UInt8) (k0 : 224 ≤ b0.toNat) (k1 : b0.toNat < 240) (x y lo hi : Int) (hx : fstOf b0.toNat = x) (h240 : ¬ x ≥ 240) (hsh : shrI x .u8 4 = some y) (ha : idxL gv_1 y = some ⟨lo, hi⟩) (hn : IntKind.i64.wrap (andI .u8 x 7) = 3)
    (hlo : 128 ≤ lo) (hhi : hi ≤ 191)
    (hb : ∀ b1 b2 : UInt8, cont b1 = true → cont b2 = true → (((b1.toNat : Int) < lo ∨ hi < b1.toNat) ↔ ok3 (64 * (64 * ((b0.toNat : Int) - 224) + ((b1.toNat : Int) - 128)) + ((b2.toNat : Int) - 128)) = (0, 0))) :
    F_unicode_utf8_decodeRuneInStringSlow (b0 :: r) = some (decG (b0 :: r)) := by
  have n1 : ¬ b0.toNat < 128 := by omega
  have n2 : ¬ b0.toNat < 194 := by omega
  have n3 : ¬ b0.toNat < 224 := by omega
  rw [slow_gen b0 r x y lo hi 3 hx h240 hsh ha hn (by omega)]
  rcases r with _ | ⟨b1, _ | ⟨b2, r⟩⟩
  · rw [if_pos (by simp)]
    exact congrArg some (decG_bad (by simp only [dec, if_neg n1, if_neg n2])).symm
  · rw [if_pos (by simp)]
    refine congrArg some (decG_bad ?_).symm
    simp only [dec, if_neg n1, if_neg n2, if_neg n3]
    split <;> rfl
  · rw [if_neg (by simp only [List.length_cons]; omega)]
    simp only [slowR]
    by_cases c : (b1.toNat : Int) < lo ∨ hi < b1.toNat
    · rw [if_pos c]
      refine congrArg some (decG_bad ?_).symm
      simp only [dec, if_neg n1, if_neg n2, if_neg n3, if_pos k1]
      by_cases c1 : cont b1 = true
      · by_cases c2 : cont b2 = true
        · rw [(hb b1 b2 c1 c2).1 c]; simp
        · simp [c1, c2]
      · simp [c1]
    · rw [if_neg c, if_neg (by decide)]
      have c1 : cont b1 = true := decide_eq_true (by omega)
      by_cases q : (b2.toNat : Int) < 128 ∨ 191 < (b2.toNat : Int)
      · rw [if_pos q]
        have c2 : cont b2 = false := decide_eq_false (by omega)
        refine congrArg some (decG_bad ?_).symm
        simp [dec, n1, n2, n3, c2]
      · rw [if_neg q, if_pos (by decide)]
        have c2 : cont b2 = true := decide_eq_true (by omega)
        have hd : dec (b0 :: b1 :: b2 :: r) = ok3 (64 * (64 * ((b0.toNat : Int) - 224) + ((b1.toNat : Int) - 128)) + ((b2.toNat : Int) - 128)) := by
          simp [dec, n1, n2, n3, k1, c1, c2]
        have hne : ¬ ok3 (64 * (64 * ((b0.toNat : Int) - 224) + ((b1.toNat : Int) - 128)) + ((b2.toNat : Int) - 128)) = (0, 0) := fun hh => c ((hb b1 b2 c1 c2).2 hh)
        have he := (ok3_or (64 * (64 * ((b0.toNat : Int) - 224) + ((b1.toNat : Int) - 128)) + ((b2.toNat : Int) - 128))).resolve_left hne
        unfold decG
        rw [hd, he]
        have := cont_lt c1
        have := cont_lt c2
        simp only [show ¬ (3 : Int) = 0 by decide, if_false]
        congr 2
        omega
theorem four (b0 : UInt8) (r : List UInt8) (k0 : 240 ≤ b0.toNat) (k1 : b0.toNat < 248) (x y lo hi : Int) (hx : fstOf b0.toNat = x) (h240 : ¬ x ≥ 240) (hsh : shrI x .u8 4 = some y) (ha : idxL gv_1 y = some ⟨lo, hi⟩) (hn : IntKind.i64.wrap (andI .u8 x 7) = 4)
    (hlo : 128 ≤ lo) (hhi : hi ≤ 191)
    (hb : ∀ b1 b2 b3 : UInt8, cont b1 = true → cont b2 = true → cont b3 = true → (((b1.toNat : Int) < lo ∨ hi < b1.toNat) ↔ ok4 (64 * (64 * (64 * ((b0.toNat : Int) - 240) + ((b1.toNat : Int) - 128)) + ((b2.toNat : Int) - 128)) + ((b3.toNat : Int) - 128)) = (0, 0))) :
    F_unicode_utf8_decodeRuneInStringSlow (b0 :: r) = some (decG (b0 :: r)) := by
  have n1 : ¬ b0.toNat < 128 := by omega
  have n2 : ¬ b0.toNat < 194 := by omega
  have n3 : ¬ b0.toNat < 224 := by omega
  have n4 : ¬ b0.toNat < 240 := by omega
  rw [slow_gen b0 r x y lo hi 4 hx h240 hsh ha hn (by omega)]
  rcases r with _ | ⟨b1, _ | ⟨b2, _ | ⟨b3, r⟩⟩⟩
  · rw [if_pos (by simp)]
    exact congrArg some (decG_bad (by simp only [dec, if_neg n1, if_neg n2])).symm
  · rw [if_pos (by simp)]
    refine congrArg some (decG_bad ?_).symm
    simp only [dec, if_neg n1, if_neg n2, if_neg n3]
    split <;> rfl
  · rw [if_pos (by simp)]
    refine congrArg some (decG_bad ?_).symm
    simp only [dec, if_neg n1, if_neg n2, if_neg n3, if_neg n4]
    split
    · rfl
    · split <;> rfl
  · rw [if_neg (by simp only [List.length_cons]; omega)]
    simp only [slowR]
    by_cases c : (b1.toNat : Int) < lo ∨ hi < b1.toNat
    · rw [if_pos c]
      refine congrArg some (decG_bad ?_).symm
      simp only [dec, if_neg n1, if_neg n2, if_neg n3, if_neg n4, if_pos k1]
      by_cases c1 : cont b1 = true
      · by_cases c2 : cont b2 = true
        · by_cases c3 : cont b3 = true
          · rw [(hb b1 b2 b3 c1 c2 c3).1 c]; simp
          · simp [c1, c2, c3]
        · simp [c1, c2]
      · simp [c1]
    · rw [if_neg c, if_neg (by decide)]
      have c1 : cont b1 = true := decide_eq_true (by omega)
      by_cases q : (b2.toNat : Int) < 128 ∨ 191 < (b2.toNat : Int)
      · rw [if_pos q]
        have c2 : cont b2 = false := decide_eq_false (by omega)
        refine congrArg some (decG_bad ?_).symm
        simp [dec, n1, n2, n3, c2]
      · rw [if_neg q, if_neg (by decide)]
        have c2 : cont b2 = true := decide_eq_true (by omega)
        by_cases q3 : (b3.toNat : Int) < 128 ∨ 191 < (b3.toNat : Int)
        · rw [if_pos q3]
          have c3 : cont b3 = false := decide_eq_false (by omega)
          refine congrArg some (decG_bad ?_).symm
          simp [dec, n1, n2, n3, n4, c3]
        · rw [if_neg q3]
          have c3 : cont b3 = true := decide_eq_true (by omega)
          have hd : dec (b0 :: b1 :: b2 :: b3 :: r) = ok4 (64 * (64 * (64 * ((b0.toNat : Int) - 240) + ((b1.toNat : Int) - 128)) + ((b2.toNat : Int) - 128)) + ((b3.toNat : Int) - 128)) := by
            simp [dec, n1, n2, n3, n4, k1, c1, c2, c3]
          have hne : ¬ ok4 (64 * (64 * (64 * ((b0.toNat : Int) - 240) + ((b1.toNat : Int) - 128)) + ((b2.toNat : Int) - 128)) + ((b3.toNat : Int) - 128)) = (0, 0) := fun hh => c ((hb b1 b2 b3 c1 c2 c3).2 hh)
          have he := (ok4_or (64 * (64 * (64 * ((b0.toNat : Int) - 240) + ((b1.toNat : Int) - 128)) + ((b2.toNat : Int) - 128)) + ((b3.toNat : Int) - 128))).resolve_left hne
          unfold decG
          rw [hd, he]
          have := cont_lt c1
          have := cont_lt c2
          have := cont_lt c3
          simp only [show ¬ (4 : Int) = 0 by decide, if_false]
          congr 2
          omega
theorem ok3_bad (c : Int) : ok3 c = (0, 0) ↔ (c < 2048 ∨ (55296 ≤ c ∧ c < 57344)) := by
  unfold ok3
  split
  · simp [*]
  · rename_i h; simp [h]
theorem ok4_bad (c : Int) : ok4 c = (0, 0) ↔ (c < 65536 ∨ c > 1114111) := by
  unfold ok4
  split
  · simp [*]
  · rename_i h; simp [h]

theorem slow_eq (b0 : UInt8) (r : List UInt8) (h : 128 ≤ b0.toNat) : F_unicode_utf8_decodeRuneInStringSlow (b0 :: r) = some (decG (b0 :: r)) := by
  have hb0 := b0.toNat_lt
  have h1 : ¬ b0.toNat < 128 := by omega
  by_cases k1 : b0.toNat < 194
  · rw [slow_bad b0 r (by simp [fstOf, h1, k1])]
    simp [decG, dec, h1, k1]
  by_cases k2 : b0.toNat < 224
  · rw [slow_gen b0 r 2 0 128 191 2 (by simp [fstOf, h1, k1, k2]) (by decide) (by decide +kernel) (by decide +kernel) (by decide +kernel) (by omega)]
    cases r with
    | nil => simp [decG, dec, h1]
    | cons b1 r =>
      rw [if_neg (by simp only [List.length_cons]; omega)]
      simp only [slowR]
      by_cases c : (b1.toNat : Int) < 128 ∨ 191 < (b1.toNat : Int)
      · rw [if_pos c]
        have : cont b1 = false := decide_eq_false (by omega)
        simp [decG, dec, h1, this]
      · rw [if_neg c, if_pos (by decide)]
        have : cont b1 = true := decide_eq_true (by omega)
        simp only [decG, dec, h1, k1, k2, this, if_true, if_false, Bool.true_eq_false]
        rw [if_neg (by decide)]
        congr 2
        omega
  by_cases k3 : b0.toNat = 224
  · exact three b0 r (by omega) (by omega) 19 1 160 191 (by simp [fstOf, k3]) (by decide) (by decide +kernel) (by decide +kernel) (by decide +kernel) (by omega) (by omega) fun b1 b2 h1 h2 => by
      have := cont_lt h1; have := cont_lt h2; rw [ok3_bad]; omega
  by_cases k4 : b0.toNat = 237
  · exact three b0 r (by omega) (by omega) 35 2 128 159 (by simp [fstOf, k4]) (by decide) (by decide +kernel) (by decide +kernel) (by decide +kernel) (by omega) (by omega) fun b1 b2 h1 h2 => by
      have := cont_lt h1; have := cont_lt h2; rw [ok3_bad]; omega
  by_cases k5 : b0.toNat < 240
  · refine three b0 r (by omega) (by omega) 3 0 128 191 ?_ (by decide) (by decide +kernel) (by decide +kernel) (by decide +kernel) (by omega) (by omega) fun b1 b2 h1 h2 => by
      have := cont_lt h1; have := cont_lt h2; rw [ok3_bad]; omega
    unfold fstOf
    rw [if_neg h1, if_neg k1, if_neg k2, if_neg k3]
    by_cases q : b0.toNat < 237
    · rw [if_pos q]
    · rw [if_neg q, if_neg k4, if_pos k5]
  by_cases k6 : b0.toNat = 240
  · exact four b0 r (by omega) (by omega) 52 3 144 191 (by simp [fstOf, k6]) (by decide) (by decide +kernel) (by decide +kernel) (by decide +kernel) (by omega) (by omega) fun b1 b2 b3 h1 h2 h3 => by
      have := cont_lt h1; have := cont_lt h2; have := cont_lt h3; rw [ok4_bad]; omega
  by_cases k7 : b0.toNat < 244
  · exact four b0 r (by omega) (by omega) 4 0 128 191 (by simp [fstOf, h1, k1, k2, k3, k4, k5, k6, k7, show ¬ b0.toNat < 237 by omega]) (by decide) (by decide +kernel) (by decide +kernel) (by decide +kernel) (by omega) (by omega) fun b1 b2 b3 h1 h2 h3 => by
      have := cont_lt h1; have := cont_lt h2; have := cont_lt h3; rw [ok4_bad]; omega
  by_cases k8 : b0.toNat = 244
  · exact four b0 r (by omega) (by omega) 68 4 128 143 (by simp [fstOf, k8]) (by decide) (by decide +kernel) (by decide +kernel) (by decide +kernel) (by omega) (by omega) fun b1 b2 b3 h1 h2 h3 => by
      have := cont_lt h1; have := cont_lt h2; have := cont_lt h3; rw [ok4_bad]; omega
  · rw [slow_bad b0 r (by simp [fstOf, h1, k1, k2, k3, k4, k5, k6, k7, k8, show ¬ b0.toNat < 237 by omega])]
    refine congrArg some (decG_bad ?_).symm
    rcases r with _ | ⟨b1, _ | ⟨b2, _ | ⟨b3, r⟩⟩⟩ <;> simp only [dec, if_neg h1, if_neg k1, if_neg k2, if_neg k5]
    · split <;> rfl
    · split
      · rfl
      · split <;> rfl
    · split
      · rfl
      split
      · rfl
      rename_i q1 q2
      by_cases c3 : cont b3 = false
      · rw [if_pos c3]
      rw [if_neg c3]
      split
      · have := cont_lt (b := b1) (by simpa using q1); have := cont_lt (b := b2) (by simpa using q2); have := cont_lt (b := b3) (by simpa using c3)
        rw [ok4_bad]; omega
      · rfl

/-- The library reads what the document reads; where that has none, 65533 of one byte. -/
theorem Decode_eq (b0 : UInt8) (r : List UInt8) : F_unicode_utf8_DecodeRuneInString (b0 :: r) = some (decG (b0 :: r)) := by
  unfold F_unicode_utf8_DecodeRuneInString
  have hb0 := b0.toNat_lt
  rw [if_pos (by simp), i0_eq, Option.bind_some, Option.bind_some]
  by_cases h : b0.toNat < 128
  · rw [if_pos (by simp; omega), Option.bind_some, wrap_i32 (by omega) (by omega)]
    simp [decG, dec, h]
  · rw [if_neg (by simp; omega), slow_eq b0 r (by omega), Option.bind_some]

theorem dec_size (l : List UInt8) : (dec l = (0, 0)) ∨ (1 ≤ (dec l).2 ∧ (dec l).2 ≤ 4 ∧ (dec l).2 ≤ l.length ∧ 0 ≤ (dec l).1 ∧ (dec l).1 ≤ 1114111) := by
  rcases l with _ | ⟨b0, r⟩
  · left; rfl
  have hb0 := b0.toNat_lt
  by_cases h1 : b0.toNat < 128
  · right; simp [dec, h1]; omega
  by_cases h2 : b0.toNat < 194
  · left; simp [dec, h1, h2]
  rcases r with _ | ⟨b1, r⟩
  · left; simp [dec, h1]
  cases c1 : cont b1 with
  | false => left; simp [dec, h1, c1]
  | true =>
  have := cont_lt c1
  by_cases h3 : b0.toNat < 224
  · right; simp [dec, h1, h2, h3, c1]; omega
  rcases r with _ | ⟨b2, r⟩
  · left; simp [dec, h1, h3]
  cases c2 : cont b2 with
  | false => left; simp [dec, h1, h3, c2]
  | true =>
  have := cont_lt c2
  by_cases h4 : b0.toNat < 240
  · simp only [dec, if_neg h1, if_neg h2, c1, if_neg h3, c2, if_pos h4, Bool.true_eq_false, if_false]
    rcases ok3_or (64 * (64 * ((b0.toNat : Int) - 224) + ((b1.toNat : Int) - 128)) + ((b2.toNat : Int) - 128)) with e | e
    · left; exact e
    · right; rw [e]; simp only [List.length_cons]; omega
  rcases r with _ | ⟨b3, r⟩
  · left; simp [dec, h1, h3, h4]
  cases c3 : cont b3 with
  | false => left; simp [dec, h1, h3, h4, c3]
  | true =>
  have := cont_lt c3
  by_cases h5 : b0.toNat < 248
  · simp only [dec, if_neg h1, if_neg h2, c1, if_neg h3, c2, if_neg h4, c3, if_pos h5, Bool.true_eq_false, if_false]
    rcases ok4_or (64 * (64 * (64 * ((b0.toNat : Int) - 240) + ((b1.toNat : Int) - 128)) + ((b2.toNat : Int) - 128)) + ((b3.toNat : Int) - 128)) with e | e
    · left; exact e
    · right
      have hn : ¬ ok4 (64 * (64 * (64 * ((b0.toNat : Int) - 240) + ((b1.toNat : Int) - 128)) + ((b2.toNat : Int) - 128)) + ((b3.toNat : Int) - 128)) = (0, 0) := by rw [e]; simp
      rw [ok4_bad] at hn
      rw [e]; simp only [List.length_cons]; omega
  · left; simp [dec, h1, h2, h3, h4, h5]
end Go.Proofs.YtikkpmmhejjpaaaDoorM
