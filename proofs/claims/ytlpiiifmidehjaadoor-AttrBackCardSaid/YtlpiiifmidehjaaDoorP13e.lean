/- Which texts are read to their end. -/
import Derived.Test.YtlpiiifmidehjaaDoorP13d
set_option linter.unusedSimpArgs false
set_option linter.unusedVariables false
namespace Go.Proofs.YtlpiiifmidehjaaDoorM
open Go Go.RowKit

/-- Is a text letters to its end? -/
def vld (s : Txt) : Bool := if h : szU s = 0 then s.isEmpty else vld (s.drop (szU s))
termination_by s.length
decreasing_by
  have := szU_le s
  rw [List.length_drop]; omega
theorem vld_eq (s : Txt) : vld s = if szU s = 0 then s.isEmpty else vld (s.drop (szU s)) := by
  rw [vld]; split <;> simp_all
theorem szU_ascii {b : UInt8} {r : Txt} (h : b.toNat < 128) : szU (b :: r) = 1 := by simp [szU, h]
theorem vld_ascii {b : UInt8} {r : Txt} (h : b.toNat < 128) : vld (b :: r) = vld r := by
  rw [vld_eq, szU_ascii h]; simp
theorem vld_skip : ∀ (k : Nat) (s : Txt), (∀ x ∈ s.take k, x.toNat < 128) → vld s = vld (s.drop k)
  | 0, s, _ => by simp
  | k + 1, [], _ => by simp
  | k + 1, b :: r, h => by
    rw [vld_ascii (h b (by simp)), List.drop_succ_cons]
    exact vld_skip k r (fun x hx => h x (by simp [hx]))

/-! ### Words of eight bytes -/
theorem wrap_u64 {n : Nat} (h : n < 18446744073709551616) : IntKind.u64.wrap (n : Int) = n := by
  simp [IntKind.wrap, IntKind.bits, IntKind.signed]; omega
theorem or64 {a b : Nat} (ha : a < 2 ^ 64) (hb : b < 2 ^ 64) : orI .u64 (a : Int) (b : Int) = ((a ||| b : Nat) : Int) := by
  unfold orI
  show IntKind.u64.wrap ((BitVec.ofInt 64 (a : Int) ||| BitVec.ofInt 64 (b : Int)).toNat : Int) = _
  rw [BitVec.ofInt_natCast, BitVec.ofInt_natCast, BitVec.toNat_or, BitVec.toNat_ofNat, BitVec.toNat_ofNat, Nat.mod_eq_of_lt ha, Nat.mod_eq_of_lt hb]
  exact wrap_u64 (Nat.or_lt_two_pow ha hb)
theorem and64 {a b : Nat} (ha : a < 2 ^ 64) (hb : b < 2 ^ 64) : andI .u64 (a : Int) (b : Int) = ((a &&& b : Nat) : Int) := by
  unfold andI
  show IntKind.u64.wrap ((BitVec.ofInt 64 (a : Int) &&& BitVec.ofInt 64 (b : Int)).toNat : Int) = _
  rw [BitVec.ofInt_natCast, BitVec.ofInt_natCast, BitVec.toNat_and, BitVec.toNat_ofNat, BitVec.toNat_ofNat, Nat.mod_eq_of_lt ha, Nat.mod_eq_of_lt hb]
  exact wrap_u64 (Nat.lt_of_le_of_lt Nat.and_le_left ha)
theorem shl64 {b k : Nat} (hb : b < 256) (hk : k ≤ 56) : shlI .u64 (IntKind.u64.wrap (b : Int)) (k : Int) = some ((b * 2 ^ k : Nat) : Int) := by
  have h2 : 2 ^ k ≤ 2 ^ 56 := Nat.pow_le_pow_right (by omega) hk
  have h3 : b * 2 ^ k < 18446744073709551616 := by
    have : b * 2 ^ k ≤ 255 * 2 ^ 56 := Nat.mul_le_mul (by omega) h2
    omega
  unfold shlI
  rw [if_neg (by omega), wrap_u64 (by omega)]
  have e : min (k : Int).toNat IntKind.u64.bits = k := by show min k 64 = k; omega
  rw [e, ← wrap_u64 h3]
  congr 2
/-- No byte's highest bit. -/
def hiN (w : Nat) : Prop := ∀ j, j < 8 → w.testBit (8 * j + 7) = false
theorem hiN_or {a b : Nat} (h : hiN (a ||| b)) : hiN a ∧ hiN b := by
  refine ⟨fun j hj => ?_, fun j hj => ?_⟩ <;> have := h j hj <;> rw [Nat.testBit_or, Bool.or_eq_false_iff] at this
  · exact this.1
  · exact this.2
theorem mask_bit : ∀ j : Fin 8, Nat.testBit 9259542123273814144 (8 * j.val + 7) = true := by decide
theorem hiN_of {w : Nat} (hw : w < 2 ^ 64) (h : (andI .u64 (w : Int) 9259542123273814144 == 0) = true) : hiN w := by
  rw [show (9259542123273814144 : Int) = ((9259542123273814144 : Nat) : Int) from rfl, and64 hw (by omega)] at h
  have h0 : w &&& 9259542123273814144 = 0 := by simpa using h
  intro j hj
  have := congrArg (fun x => Nat.testBit x (8 * j + 7)) h0
  simp only [Nat.testBit_and, mask_bit ⟨j, hj⟩, Bool.and_true, Nat.zero_testBit] at this
  exact this
theorem bit7 {b : Nat} (hb : b < 256) (h : b.testBit 7 = false) : b < 128 := by
  rw [Nat.testBit_eq_decide_div_mod_eq, decide_eq_false_iff_not] at h
  omega
theorem hiN_byte {b k : Nat} (hb : b < 256) (hk : k < 8) (h : hiN (b * 2 ^ (8 * k))) : b < 128 := by
  have := h k hk
  rw [Nat.testBit_mul_two_pow] at this
  simp only [show 8 * k ≤ 8 * k + 7 by omega, decide_true, Bool.true_and, show 8 * k + 7 - 8 * k = 7 by omega] at this
  exact bit7 hb this
theorem word_eq (s : Txt) (hs : 8 ≤ s.length) : ∃ w : Nat, F_unicode_utf8_word_string s = some ((w : Int), ()) ∧ w < 2 ^ 64 ∧ (hiN w → ∀ x ∈ s.take 8, x.toNat < 128) := by
  obtain ⟨b0, b1, b2, b3, b4, b5, b6, b7, r, rfl⟩ : ∃ b0 b1 b2 b3 b4 b5 b6 b7 r, s = b0 :: b1 :: b2 :: b3 :: b4 :: b5 :: b6 :: b7 :: r := by
    rcases s with _ | ⟨b0, _ | ⟨b1, _ | ⟨b2, _ | ⟨b3, _ | ⟨b4, _ | ⟨b5, _ | ⟨b6, _ | ⟨b7, r⟩⟩⟩⟩⟩⟩⟩⟩ <;> simp at hs
    exact ⟨b0, b1, b2, b3, b4, b5, b6, b7, r, rfl⟩
  have k0 := b0.toNat_lt
  have k1 := b1.toNat_lt
  have k2 := b2.toNat_lt
  have k3 := b3.toNat_lt
  have k4 := b4.toNat_lt
  have k5 := b5.toNat_lt
  have k6 := b6.toNat_lt
  have k7 := b7.toNat_lt
  have at' : ∀ (i : Nat) (b : UInt8), (b0 :: b1 :: b2 :: b3 :: b4 :: b5 :: b6 :: b7 :: r)[i]? = some b → idxS (b0 :: b1 :: b2 :: b3 :: b4 :: b5 :: b6 :: b7 :: r) (i : Int) = some (b.toNat : Int) := fun i b h => by
    have hi : i < (b0 :: b1 :: b2 :: b3 :: b4 :: b5 :: b6 :: b7 :: r).length := by
      rcases Nat.lt_or_ge i (b0 :: b1 :: b2 :: b3 :: b4 :: b5 :: b6 :: b7 :: r).length with h' | h'
      · exact h'
      · rw [List.getElem?_eq_none h'] at h; cases h
    rw [idxS_nat hi]
    rw [List.getElem?_eq_getElem hi] at h
    rw [Option.some.inj h]
  have a0 := at' 0 b0 rfl
  have a1 := at' 1 b1 rfl
  have a2 := at' 2 b2 rfl
  have a3 := at' 3 b3 rfl
  have a4 := at' 4 b4 rfl
  have a5 := at' 5 b5 rfl
  have a6 := at' 6 b6 rfl
  have a7 := at' 7 b7 rfl
  have s1 := shl64 (b := b1.toNat) (k := 8) (by omega) (by omega)
  have s2 := shl64 (b := b2.toNat) (k := 16) (by omega) (by omega)
  have s3 := shl64 (b := b3.toNat) (k := 24) (by omega) (by omega)
  have s4 := shl64 (b := b4.toNat) (k := 32) (by omega) (by omega)
  have s5 := shl64 (b := b5.toNat) (k := 40) (by omega) (by omega)
  have s6 := shl64 (b := b6.toNat) (k := 48) (by omega) (by omega)
  have s7 := shl64 (b := b7.toNat) (k := 56) (by omega) (by omega)
  have bnd : ∀ {b k : Nat}, b < 256 → k ≤ 56 → b * 2 ^ k < 2 ^ 64 := fun {b k} hb hk => by
    have h2 : 2 ^ k ≤ 2 ^ 56 := Nat.pow_le_pow_right (by omega) hk
    have : b * 2 ^ k ≤ 255 * 2 ^ 56 := Nat.mul_le_mul (by omega) h2
    omega
  have u0 : b0.toNat < 2 ^ 64 := by omega
  have u1 := bnd (b := b1.toNat) (k := 8) (by omega) (by omega)
  have u2 := bnd (b := b2.toNat) (k := 16) (by omega) (by omega)
  have u3 := bnd (b := b3.toNat) (k := 24) (by omega) (by omega)
  have u4 := bnd (b := b4.toNat) (k := 32) (by omega) (by omega)
  have u5 := bnd (b := b5.toNat) (k := 40) (by omega) (by omega)
  have u6 := bnd (b := b6.toNat) (k := 48) (by omega) (by omega)
  have u7 := bnd (b := b7.toNat) (k := 56) (by omega) (by omega)
  have v1 := Nat.or_lt_two_pow u0 u1
  have v2 := Nat.or_lt_two_pow v1 u2
  have v3 := Nat.or_lt_two_pow v2 u3
  have v4 := Nat.or_lt_two_pow v3 u4
  have v5 := Nat.or_lt_two_pow v4 u5
  have v6 := Nat.or_lt_two_pow v5 u6
  have v7 := Nat.or_lt_two_pow v6 u7
  refine ⟨_, ?_, v7, ?_⟩
  · unfold F_unicode_utf8_word_string
    simp only [show (0 : Int) = ((0 : Nat) : Int) from rfl, show (1 : Int) = ((1 : Nat) : Int) from rfl, show (2 : Int) = ((2 : Nat) : Int) from rfl, show (3 : Int) = ((3 : Nat) : Int) from rfl, show (4 : Int) = ((4 : Nat) : Int) from rfl, show (5 : Int) = ((5 : Nat) : Int) from rfl, show (6 : Int) = ((6 : Nat) : Int) from rfl, show (7 : Int) = ((7 : Nat) : Int) from rfl, show (8 : Int) = ((8 : Nat) : Int) from rfl, show (16 : Int) = ((16 : Nat) : Int) from rfl, show (24 : Int) = ((24 : Nat) : Int) from rfl, show (32 : Int) = ((32 : Nat) : Int) from rfl, show (40 : Int) = ((40 : Nat) : Int) from rfl, show (48 : Int) = ((48 : Nat) : Int) from rfl, show (56 : Int) = ((56 : Nat) : Int) from rfl, a0, a1, a2, a3, a4, a5, a6, a7, Option.bind_some, s1, s2, s3, s4, s5, s6, s7]
    rw [wrap_u64 (n := b0.toNat) (by omega), or64 u0 u1, or64 v1 u2, or64 v2 u3, or64 v3 u4, or64 v4 u5, or64 v5 u6, or64 v6 u7]
  · intro h
    obtain ⟨h, h7⟩ := hiN_or h
    obtain ⟨h, h6⟩ := hiN_or h
    obtain ⟨h, h5⟩ := hiN_or h
    obtain ⟨h, h4⟩ := hiN_or h
    obtain ⟨h, h3⟩ := hiN_or h
    obtain ⟨h, h2⟩ := hiN_or h
    obtain ⟨h0, h1⟩ := hiN_or h
    have c0 := hiN_byte (k := 0) (by omega) (by omega) (show hiN (b0.toNat * 2 ^ (8 * 0)) by simpa using h0)
    have c1 := hiN_byte (k := 1) (by omega) (by omega) h1
    have c2 := hiN_byte (k := 2) (by omega) (by omega) h2
    have c3 := hiN_byte (k := 3) (by omega) (by omega) h3
    have c4 := hiN_byte (k := 4) (by omega) (by omega) h4
    have c5 := hiN_byte (k := 5) (by omega) (by omega) h5
    have c6 := hiN_byte (k := 6) (by omega) (by omega) h6
    have c7 := hiN_byte (k := 7) (by omega) (by omega) h7
    intro x hx
    simp only [List.take_succ_cons, List.take_zero, List.mem_cons, List.mem_nil_iff, or_false] at hx
    rcases hx with rfl | rfl | rfl | rfl | rfl | rfl | rfl | rfl <;> assumption
end Go.Proofs.YtlpiiifmidehjaaDoorM
