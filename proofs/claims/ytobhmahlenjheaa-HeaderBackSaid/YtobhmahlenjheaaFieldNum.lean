/- Numbers and their bytes, the lowest first: what the model's shifts and sums make of them. -/
import Derived.Test.YtobhmahlenjheaaMB
set_option linter.unusedSimpArgs false
set_option linter.unusedVariables false
namespace Go.Proofs.YtobhmahlenjheaaM
open Go Go.RowKit

/-- Byte i of a number. -/
def bt (m i : Nat) : UInt8 := UInt8.ofNat (m / 256 ^ i)

theorem wrap_u8 (n : Int) : IntKind.u8.wrap n = n % 256 := rfl
theorem wrap_u16 (n : Int) : IntKind.u16.wrap n = n % 65536 := rfl
theorem wrap_u32 (n : Int) : IntKind.u32.wrap n = n % 4294967296 := rfl
theorem wrap_u64 (n : Int) : IntKind.u64.wrap n = n % 18446744073709551616 := rfl

/-- One more byte, set above what there is. -/
theorem or_byte (a i : Nat) (b : UInt8) (hi : i < 8) (ha : a < 256 ^ i) :
    IntKind.u64.wrap ((BitVec.ofInt 64 (a : Int) ||| BitVec.ofInt 64 (IntKind.u64.wrap (IntKind.u64.wrap b.toNat * 2 ^ min (8 * i) 64))).toNat) = ((a + b.toNat * 256 ^ i : Nat) : Int) := by
  have hb : b.toNat < 256 := b.toNat_lt
  have e1 : (IntKind.u64.wrap (b.toNat : Int)) = (b.toNat : Int) := by rw [wrap_u64]; omega
  have e256 : (256 : Nat) ^ i = 2 ^ (8 * i) := by rw [Nat.pow_mul]
  have hle : 8 * i ≤ 56 := by omega
  have hm : min (8 * i) 64 = 8 * i := by omega
  have hp : 2 ^ (8 * i) ≤ 2 ^ 56 := Nat.pow_le_pow_right (by omega) hle
  have hbd : b.toNat * 2 ^ (8 * i) < 2 ^ 64 := by
    have : b.toNat * 2 ^ (8 * i) ≤ 255 * 2 ^ 56 := Nat.mul_le_mul (by omega) hp
    omega
  have e2 : IntKind.u64.wrap (IntKind.u64.wrap (b.toNat : Int) * 2 ^ min (8 * i) 64) = ((b.toNat * 2 ^ (8 * i) : Nat) : Int) := by
    rw [e1, hm, wrap_u64]
    have : ((b.toNat : Int) * 2 ^ (8 * i)) = ((b.toNat * 2 ^ (8 * i) : Nat) : Int) := by push_cast; rfl
    rw [this]
    omega
  rw [e2, e256]
  rw [e256] at ha
  have ha' : a < 2 ^ 64 := by
    have : (2:Nat) ^ (8 * i) ≤ 2 ^ 56 := hp
    omega
  have eo : (BitVec.ofInt 64 (a : Int) ||| BitVec.ofInt 64 ((b.toNat * 2 ^ (8 * i) : Nat) : Int)).toNat = a ||| b.toNat * 2 ^ (8 * i) := by
    rw [BitVec.toNat_or]
    simp only [BitVec.ofInt_natCast, BitVec.toNat_ofNat]
    rw [Nat.mod_eq_of_lt ha', Nat.mod_eq_of_lt hbd]
  rw [eo]
  have es : a ||| b.toNat * 2 ^ (8 * i) = a + b.toNat * 2 ^ (8 * i) := by
    rw [Nat.or_comm, Nat.mul_comm, ← Nat.two_pow_add_eq_or_of_lt ha, Nat.add_comm]
  rw [es, wrap_u64]
  have : a + b.toNat * 2 ^ (8 * i) < 2 ^ 64 := by
    have h1 : b.toNat * 2 ^ (8 * i) ≤ 255 * 2 ^ (8 * i) := Nat.mul_le_mul (by omega) (Nat.le_refl _)
    have h2 : 256 * 2 ^ (8 * i) ≤ 256 * 2 ^ 56 := Nat.mul_le_mul (Nat.le_refl _) hp
    omega
  omega

/-- A byte of a number, shifted down. -/
theorem shr_byte (m i : Nat) (hi : i < 8) : UInt8.ofNat (IntKind.u8.wrap ((m : Int).fdiv (2 ^ min (8 * i) 64))).toNat = bt m i := by
  have hm : min (8 * i) 64 = 8 * i := by omega
  have e256 : (256 : Nat) ^ i = 2 ^ (8 * i) := by rw [Nat.pow_mul]
  have e2 : ((2 : Int) ^ (8 * i)) = ((2 ^ (8 * i) : Nat) : Int) := by push_cast; rfl
  have e3 : (m : Int).fdiv ((2 ^ (8 * i) : Nat) : Int) = ((m / 2 ^ (8 * i) : Nat) : Int) := by
    rw [Int.fdiv_eq_ediv_of_nonneg _ (Int.natCast_nonneg _)]; rfl
  rw [hm, e2, e3, wrap_u8, bt, e256]
  have : (((m / 2 ^ (8 * i) : Nat) : Int) % 256).toNat = (m / 2 ^ (8 * i)) % 256 := by omega
  rw [this]
  apply UInt8.toNat_inj.1
  simp

theorem rem_byte (m : Nat) : UInt8.ofNat (IntKind.u8.wrap ((m : Int).tmod 256)).toNat = UInt8.ofNat m := by
  have e : (m : Int).tmod 256 = ((m % 256 : Nat) : Int) := by rfl
  rw [e, wrap_u8]
  have : (((m % 256 : Nat) : Int) % 256).toNat = m % 256 := by omega
  rw [this]
  apply UInt8.toNat_inj.1
  simp

theorem quo_byte (m : Nat) (h : m < 2 ^ 64) : IntKind.u64.wrap ((m : Int).tdiv 256) = ((m / 256 : Nat) : Int) := by
  have e : (m : Int).tdiv 256 = ((m / 256 : Nat) : Int) := by rfl
  rw [e, wrap_u64]; omega

/-- The number of some bytes. -/
def leNum : List UInt8 → Nat
  | [] => 0
  | b :: l => b.toNat + 256 * leNum l

theorem leNum_lt (l : List UInt8) : leNum l < 256 ^ l.length := by
  induction l with
  | nil => simp [leNum]
  | cons b l ih =>
    have hb : b.toNat < 256 := b.toNat_lt
    simp only [leNum, List.length_cons, Nat.pow_succ]
    omega

/-- So many bytes of a number. -/
def leB : Nat → Nat → List UInt8
  | _, 0 => []
  | m, k + 1 => UInt8.ofNat m :: leB (m / 256) k

theorem leB_length (m k : Nat) : (leB m k).length = k := by
  induction k generalizing m with
  | zero => rfl
  | succ k ih => simp [leB, ih]

theorem leNum_leB (m k : Nat) : leNum (leB m k) = m % 256 ^ k := by
  induction k generalizing m with
  | zero => simp [leB, leNum, Nat.mod_one]
  | succ k ih =>
    simp only [leB, leNum, ih, UInt8.toNat_ofNat']
    have e : (256 : Nat) ^ (k + 1) = 256 * 256 ^ k := by rw [Nat.pow_succ, Nat.mul_comm]
    rw [e, Nat.mod_mul]

theorem leB_bt (m k : Nat) : leB m k = (List.range k).map (bt m) := by
  induction k generalizing m with
  | zero => rfl
  | succ k ih =>
    rw [leB, ih, List.range_succ_eq_map, List.map_cons, List.map_map]
    congr 1
    · simp [bt]
    · apply List.map_congr_left
      intro i _
      simp [bt, Nat.pow_succ, Nat.div_div_eq_div_mul, Nat.mul_comm]

def nb : Int → Nat → List UInt8 → Int
  | v, _, [] => v
  | v, i, b :: l => nb (IntKind.u64.wrap ((BitVec.ofInt 64 v ||| BitVec.ofInt 64 (IntKind.u64.wrap (IntKind.u64.wrap b.toNat * 2 ^ min (8 * i) 64))).toNat)) (i + 1) l

theorem nb_num (l : List UInt8) : ∀ (a i : Nat), i + l.length ≤ 8 → a < 256 ^ i → nb a i l = ((a + leNum l * 256 ^ i : Nat) : Int) := by
  induction l with
  | nil => intro a i _ _; simp [nb, leNum]
  | cons b l ih =>
    intro a i hi ha
    simp only [List.length_cons] at hi
    rw [nb, or_byte a i b (by omega) ha, ih _ _ (by omega)]
    · congr 1
      rw [leNum, Nat.add_mul, Nat.add_assoc, Nat.pow_succ]
      congr 2
      rw [Nat.mul_comm (256 ^ i), ← Nat.mul_assoc, Nat.mul_comm (leNum l)]
    · have hb : b.toNat < 256 := b.toNat_lt
      rw [Nat.pow_succ]
      have h1 : b.toNat * 256 ^ i ≤ 255 * 256 ^ i := Nat.mul_le_mul (by omega) (Nat.le_refl _)
      omega

def pb (v : Int) (i : Nat) : UInt8 := UInt8.ofNat (IntKind.u8.wrap (v.fdiv (2 ^ min (8 * i) 64))).toNat
def rp : Int → Nat → List UInt8
  | _, 0 => []
  | v, n + 1 => UInt8.ofNat (IntKind.u8.wrap (v.tmod 256)).toNat :: rp (IntKind.u64.wrap (v.tdiv 256)) n

theorem rp_leB (k : Nat) : ∀ m : Nat, m < 2 ^ 64 → rp m k = leB m k := by
  induction k with
  | zero => intro m _; rfl
  | succ k ih =>
    intro m hm
    rw [rp, leB, rem_byte, quo_byte m hm, ih _ (by omega)]

theorem pb_bt (m i : Nat) (hi : i < 8) : pb m i = bt m i := shr_byte m i hi

end Go.Proofs.YtobhmahlenjheaaM
