/- Layer 40 in plain terms: a number's bytes, and the number at a place. -/
import Derived.Test.YtikkpmmhejjpaaaDEP02
set_option linter.unusedSimpArgs false
set_option linter.unusedVariables false
namespace Go.Proofs.YtikkpmmhejjpaaaM
open Go Go.RowKit

def numB : Nat → Nat → List UInt8
  | 0, n => [UInt8.ofNat n]
  | f + 1, n => if n < 128 then [UInt8.ofNat n] else UInt8.ofNat (n % 128 + 128) :: numB f (n / 128)

theorem numB_small (f n : Nat) (h : n < 128) : numB f n = [UInt8.ofNat n] := by
  cases f with
  | zero => rfl
  | succ f => simp [numB, h]

theorem or128 : ∀ b : Fin 256, IntKind.u8.wrap ((BitVec.ofInt 8 (b.val : Int) ||| BitVec.ofInt 8 128).toNat) = ((b.val % 128 + 128 : Nat) : Int) := by decide +kernel

theorem byte_or (n : Nat) : IntKind.u8.wrap ((BitVec.ofInt IntKind.u8.bits (IntKind.u8.wrap (n : Int)) ||| BitVec.ofInt IntKind.u8.bits 128).toNat) = (((UInt8.ofNat (n % 128 + 128)).toNat : Nat) : Int) := by
  have e : IntKind.u8.wrap (n : Int) = ((n % 256 : Nat) : Int) := by show (n : Int) % 256 = _; omega
  rw [e]
  have := or128 ⟨n % 256, Nat.mod_lt _ (by omega)⟩
  simp only at this
  have e2 : (UInt8.ofNat (n % 128 + 128)).toNat = n % 256 % 128 + 128 := by
    simp only [UInt8.toNat_ofNat']
    omega
  rw [e2]
  exact this

theorem byte_of (n : Nat) (h : n < 128) : IntKind.u8.wrap (n : Int) = (((UInt8.ofNat n).toNat : Nat) : Int) := by
  simp only [UInt8.toNat_ofNat']
  show (n : Int) % 256 = _
  omega

theorem shr7 (n : Nat) : (n : Int).fdiv (2 ^ min (Int.toNat 7) IntKind.i64.bits) = ((n / 128 : Nat) : Int) := by
  have : (2 : Int) ^ min (Int.toNat 7) IntKind.i64.bits = ((128 : Nat) : Int) := by decide
  rw [this, Int.fdiv_eq_ediv_of_nonneg _ (Int.natCast_nonneg _)]
  rfl

/-- The number at a place, k bytes on, of which n is known. -/
def nx (s : List UInt8) (a : Nat) : Nat → Nat → Nat → Nat × Nat × Nat
  | 0, _, _ => (0, 0, 2)
  | r + 1, k, n =>
    if s.length ≤ a + k then (0, 0, 3) else
    if (s.getD (a + k) 0).toNat < 128 then
      (if (s.getD (a + k) 0).toNat = 0 ∧ 0 < k then (0, 0, 2) else (n + (s.getD (a + k) 0).toNat % 128 * 128 ^ k, a + k + 1, 0))
    else nx s a r (k + 1) (n + (s.getD (a + k) 0).toNat % 128 * 128 ^ k)

def nextOf (s : List UInt8) (a : Int) : Nat × Nat × Nat := if a < 0 ∨ a ≥ s.length then (0, 0, 3) else nx s a.toNat 4 0 0

theorem and127 : ∀ b : Fin 256, IntKind.u8.wrap ((BitVec.ofInt 8 (b.val : Int) &&& BitVec.ofInt 8 127).toNat) = ((b.val % 128 : Nat) : Int) := by decide +kernel

theorem or_seven (n c k : Nat) (hk : k < 4) (hn : n < 128 ^ k) (hc : c < 128) :
    IntKind.i64.wrap ((BitVec.ofInt 64 (n : Int) ||| BitVec.ofInt 64 (IntKind.i64.wrap ((c : Int) * 2 ^ min (7 * k) 64))).toNat) = ((n + c * 128 ^ k : Nat) : Int) := by
  have e1 : (128 : Nat) ^ k = 2 ^ (7 * k) := by rw [Nat.pow_mul]
  have hp : 2 ^ (7 * k) ≤ 2 ^ 21 := Nat.pow_le_pow_right (by omega) (by omega)
  have hm : min (7 * k) 64 = 7 * k := by omega
  have hcb : c * 2 ^ (7 * k) ≤ 127 * 2 ^ 21 := Nat.mul_le_mul (by omega) hp
  have e2 : IntKind.i64.wrap ((c : Int) * 2 ^ min (7 * k) 64) = ((c * 2 ^ (7 * k) : Nat) : Int) := by
    rw [hm]
    have : ((c : Int) * 2 ^ (7 * k)) = ((c * 2 ^ (7 * k) : Nat) : Int) := by push_cast; rfl
    rw [this, wrap_i64 (by omega) (by omega)]
  rw [e1] at hn
  rw [e2, e1]
  have eo : (BitVec.ofInt 64 (n : Int) ||| BitVec.ofInt 64 ((c * 2 ^ (7 * k) : Nat) : Int)).toNat = n ||| c * 2 ^ (7 * k) := by
    rw [BitVec.toNat_or]
    simp only [BitVec.ofInt_natCast, BitVec.toNat_ofNat]
    rw [Nat.mod_eq_of_lt (by omega), Nat.mod_eq_of_lt (by omega)]
  have es : n ||| c * 2 ^ (7 * k) = n + c * 2 ^ (7 * k) := by
    rw [Nat.or_comm, Nat.mul_comm, ← Nat.two_pow_add_eq_or_of_lt hn, Nat.add_comm]
  rw [eo, es, wrap_i64 (by omega) (by omega)]

theorem nextOf_nx (s : List UInt8) (a : Nat) : nextOf s (a : Int) = nx s a 4 0 0 := by
  unfold nextOf
  by_cases h : (a : Int) ≥ s.length
  · rw [if_pos (.inr h)]
    simp only [nx, if_pos (by omega : s.length ≤ a + 0)]
  · rw [if_neg (by omega), Int.toNat_natCast]

theorem getD_mid (p q : List UInt8) (b : UInt8) : (p ++ b :: q).getD p.length 0 = b := by simp [List.getD]

theorem nx_numB (q : List UInt8) : ∀ (f m : Nat) (p : List UInt8) (a k x r : Nat), p.length = a + k → f < r → m < 128 ^ (f + 1) → (k = 0 ∨ 0 < m) →
    nx (p ++ numB f m ++ q) a r k x = (x + m * 128 ^ k, a + k + (numB f m).length, 0) := by
  have small : ∀ (f m : Nat) (p : List UInt8) (a k x r : Nat), p.length = a + k → 0 < r → m < 128 → (k = 0 ∨ 0 < m) → nx (p ++ numB f m ++ q) a r k x = (x + m * 128 ^ k, a + k + (numB f m).length, 0) := by
    intro f m p a k x r hp hr hm hk
    obtain ⟨r, rfl⟩ : ∃ j, r = j + 1 := ⟨r - 1, by omega⟩
    have e := getD_mid p q (UInt8.ofNat m)
    rw [numB_small f m hm, List.append_assoc, List.singleton_append]
    simp only [nx]
    rw [← hp, e]
    have e2 : (UInt8.ofNat m).toNat = m := by simp only [UInt8.toNat_ofNat']; omega
    rw [e2, if_neg (by simp), if_pos hm, if_neg (by omega), Nat.mod_eq_of_lt hm]
    simp
  intro f
  induction f with
  | zero => intro m p a k x r hp hr hm hk; exact small 0 m p a k x r hp hr (by simpa using hm) hk
  | succ f ih =>
    intro m p a k x r hp hr hm hk
    by_cases hs : m < 128
    · exact small (f + 1) m p a k x r hp (by omega) hs hk
    · obtain ⟨r, rfl⟩ : ∃ j, r = j + 1 := ⟨r - 1, by omega⟩
      have hnum : numB (f + 1) m = UInt8.ofNat (m % 128 + 128) :: numB f (m / 128) := by simp only [numB, if_neg hs]
      have e := getD_mid p (numB f (m / 128) ++ q) (UInt8.ofNat (m % 128 + 128))
      have e2 : (UInt8.ofNat (m % 128 + 128)).toNat = m % 128 + 128 := by simp only [UInt8.toNat_ofNat']; omega
      have ih' := ih (m / 128) (p ++ [UInt8.ofNat (m % 128 + 128)]) a (k + 1) (x + m % 128 * 128 ^ k) r (by simp; omega) (by omega) (by rw [Nat.pow_succ] at hm; omega) (.inr (by omega))
      have el : p ++ [UInt8.ofNat (m % 128 + 128)] ++ numB f (m / 128) ++ q = p ++ numB (f + 1) m ++ q := by rw [hnum]; simp
      rw [el] at ih'
      have eg : (p ++ numB (f + 1) m ++ q).getD (a + k) 0 = UInt8.ofNat (m % 128 + 128) := by
        rw [← hp, hnum, List.append_assoc, List.cons_append]; exact e
      have hlen : ¬ (p ++ numB (f + 1) m ++ q).length ≤ a + k := by rw [hnum]; simp; omega
      rw [nx, if_neg hlen, eg, e2, if_neg (by omega), show (m % 128 + 128) % 128 = m % 128 by omega, ih', hnum]
      simp only [List.length_cons, Prod.mk.injEq, and_true]
      refine ⟨?_, by omega⟩
      rw [Nat.pow_succ, Nat.add_assoc]
      congr 1
      have := Nat.div_add_mod m 128
      calc m % 128 * 128 ^ k + m / 128 * (128 ^ k * 128) = (m / 128 * 128 + m % 128) * 128 ^ k := by
            rw [Nat.add_mul, Nat.add_comm]
            congr 1
            rw [Nat.mul_comm (128 ^ k) 128, Nat.mul_assoc]
        _ = m * 128 ^ k := by rw [Nat.mul_comm (m / 128) 128, this]

theorem numB_len (f m : Nat) : (numB f m).length ≤ f + 1 := by
  induction f generalizing m with
  | zero => simp [numB]
  | succ f ih =>
    unfold numB
    split
    · simp
    · have := ih (m / 128); simp; omega


theorem byt_nat (c : UInt8) : byt ((c.toNat : Nat) : Int) = c := by unfold byt; simp
theorem orI_128 (x : Nat) : orI .u8 (IntKind.u8.wrap (x : Int)) 128 = (((UInt8.ofNat (x % 128 + 128)).toNat : Nat) : Int) := byte_or x
theorem shr7I (x : Nat) : shrI (x : Int) .i64 7 = some ((x / 128 : Nat) : Int) := by
  unfold shrI; rw [if_neg (by omega), shr7]

theorem L_num40 : ∀ (k x : Nat) (acc : List Int) (n : Nat), x < 128 ^ (k + 1) → acc.length + k ≤ 100 → k < n →
    ∃ p r, iter L_delta_number_1 n ((x : Int), acc) = some p ∧ app p.2 [IntKind.u8.wrap p.1] = some r ∧ r.map byt = acc.map byt ++ numB k x := by
  have small : ∀ (k x : Nat) (acc : List Int) (n : Nat), x < 128 → acc.length ≤ 100 → ∃ p r, iter L_delta_number_1 (n + 1) ((x : Int), acc) = some p ∧ app p.2 [IntKind.u8.wrap p.1] = some r ∧ r.map byt = acc.map byt ++ numB k x := by
    intro k x acc n hx ha
    refine ⟨((x : Int), acc), acc ++ [IntKind.u8.wrap (x : Int)], iter_inr ?_, ?_, ?_⟩
    · unfold L_delta_number_1
      rw [if_neg (by simp only; omega)]
    · unfold app; rw [if_pos (by unfold capL; simp; omega)]
    · rw [List.map_append, numB_small k x hx, List.map_singleton, byte_of x hx, byt_nat]
  intro k
  induction k with
  | zero =>
    intro x acc n hx ha hn
    obtain ⟨n, rfl⟩ : ∃ j, n = j + 1 := ⟨n - 1, by omega⟩
    exact small 0 x acc n (by simpa using hx) (by omega)
  | succ k ih =>
    intro x acc n hx ha hn
    obtain ⟨n, rfl⟩ : ∃ j, n = j + 1 := ⟨n - 1, by omega⟩
    by_cases c : x < 128
    · exact small (k + 1) x acc n c (by omega)
    have ap : app acc [orI .u8 (IntKind.u8.wrap (x : Int)) 128] = some (acc ++ [(((UInt8.ofNat (x % 128 + 128)).toNat : Nat) : Int)]) := by
      rw [orI_128]; unfold app; rw [if_pos (by unfold capL; simp; omega)]
    have step : L_delta_number_1 ((x : Int), acc) = some (.inl (((x / 128 : Nat) : Int), acc ++ [(((UInt8.ofNat (x % 128 + 128)).toNat : Nat) : Int)])) := by
      unfold L_delta_number_1
      rw [if_pos (by simp only; omega)]
      simp only [ap, shr7I, Option.bind_some]
    obtain ⟨p, r, h1, h2, h3⟩ := ih (x / 128) (acc ++ [(((UInt8.ofNat (x % 128 + 128)).toNat : Nat) : Int)]) n (by rw [Nat.pow_succ] at hx; omega) (by simp; omega) (by omega)
    refine ⟨p, r, by rw [iter_inl step]; exact h1, h2, ?_⟩
    rw [h3, List.map_append, List.map_singleton, byt_nat, List.append_assoc, List.singleton_append]
    simp only [numB, if_neg c]
theorem number40 (m : Nat) (hm : m < 268435456) : F_delta_number (m : Int) = some (numB 3 m) := by
  unfold F_delta_number
  obtain ⟨p, r, h1, h2, h3⟩ := L_num40 3 m [] NF (by omega) (by simp) (by rw [NF_eq]; omega)
  simp only [h1, Option.bind_some, h2, h3, List.map_nil, List.nil_append]

/-! ### The number at a place -/
def c3 (p : Nat × Nat × Nat) : Int × Int × Int := ((p.1 : Int), (p.2.1 : Int), (p.2.2 : Int))
def nxI (s : List UInt8) (a : Int) : Int × Int × Int := c3 (nextOf s a)
theorem andI_127 (c : UInt8) : IntKind.i64.wrap (andI .u8 (c.toNat : Int) 127) = ((c.toNat % 128 : Nat) : Int) := by
  have := and127 ⟨c.toNat, c.toNat_lt⟩
  simp only at this
  show IntKind.i64.wrap (IntKind.u8.wrap _) = _
  rw [show IntKind.u8.bits = 8 from rfl, this, wrap_i64 (by omega) (by omega)]

theorem L_next40 (s : List UInt8) (hs : s.length < 1000000000) (a : Nat) : ∀ (r k x n : Nat), r + k = 4 → x < 128 ^ k → a < s.length → r < n →
    ∃ q, iter (L_delta_Next_1 (a : Int) s) n ((x : Int), (k : Int)) = some q ∧ (match q with | .inl _ => (0, 0, 2) | .inr t => t) = c3 (nx s a r k x) := by
  intro r
  induction r with
  | zero =>
    intro k x n hk hx hal hn
    obtain ⟨n, rfl⟩ : ∃ j, n = j + 1 := ⟨n - 1, by omega⟩
    refine ⟨.inl (), iter_inr ?_, rfl⟩
    unfold L_delta_Next_1
    rw [if_neg (by simp only; omega)]
  | succ r ih =>
    intro k x n hk hx hal hn
    obtain ⟨n, rfl⟩ : ∃ j, n = j + 1 := ⟨n - 1, by omega⟩
    have w1 : IntKind.i64.wrap ((a : Int) + (k : Int)) = ((a + k : Nat) : Int) := by rw [wrap_i64 (by omega) (by omega)]; omega
    by_cases c1 : s.length ≤ a + k
    · refine ⟨.inr (0, 0, 3), iter_inr ?_, by simp only [nx, if_pos c1]; rfl⟩
      unfold L_delta_Next_1
      rw [if_pos (by simp only; omega)]
      simp only [w1]
      rw [if_pos (by omega)]
    have ix : idxS s ((a + k : Nat) : Int) = some (((s.getD (a + k) 0).toNat : Nat) : Int) := by unfold idxS; rw [if_pos (by omega), Int.toNat_natCast]
    have hnx : nx s a (r + 1) k x = (if (s.getD (a + k) 0).toNat < 128 then (if (s.getD (a + k) 0).toNat = 0 ∧ 0 < k then (0, 0, 2) else (x + (s.getD (a + k) 0).toNat % 128 * 128 ^ k, a + k + 1, 0)) else nx s a r (k + 1) (x + (s.getD (a + k) 0).toNat % 128 * 128 ^ k)) := by
      rw [nx, if_neg c1]
    rw [hnx]
    generalize s.getD (a + k) 0 = c at *
    have hc := c.toNat_lt
    have w7 : IntKind.i64.wrap (7 * (k : Int)) = ((7 * k : Nat) : Int) := by rw [wrap_i64 (by omega) (by omega)]; omega
    have sh : shlI .i64 (IntKind.i64.wrap (andI .u8 (c.toNat : Int) 127)) ((7 * k : Nat) : Int) = some (IntKind.i64.wrap (((c.toNat % 128 : Nat) : Int) * 2 ^ min (7 * k) 64)) := by
      rw [andI_127]; unfold shlI; rw [if_neg (by omega), Int.toNat_natCast]; rfl
    have ho : orI .i64 (x : Int) (IntKind.i64.wrap (((c.toNat % 128 : Nat) : Int) * 2 ^ min (7 * k) 64)) = ((x + c.toNat % 128 * 128 ^ k : Nat) : Int) := or_seven x (c.toNat % 128) k (by omega) hx (by omega)
    have wk : IntKind.i64.wrap ((k : Int) + 1) = ((k + 1 : Nat) : Int) := by rw [wrap_i64 (by omega) (by omega)]; omega
    have wa : IntKind.i64.wrap (((a + k : Nat) : Int) + 1) = ((a + k + 1 : Nat) : Int) := by rw [wrap_i64 (by omega) (by omega)]; omega
    have red : ∀ z, L_delta_Next_1 (a : Int) s ((x : Int), (k : Int)) = z ↔ (if (c.toNat : Int) < 128 then ((if ((c.toNat : Int) == 0) = true then some (decide ((k : Int) > 0)) else some false : Option Bool).bind fun j => if j = true then some (.inr (.inl ())) else some (.inr (.inr (((x + c.toNat % 128 * 128 ^ k : Nat) : Int), ((a + k + 1 : Nat) : Int), 0)))) else some (.inl (((x + c.toNat % 128 * 128 ^ k : Nat) : Int), ((k + 1 : Nat) : Int)))) = z := by
      intro z
      unfold L_delta_Next_1
      rw [if_pos (by simp only; omega)]
      simp only [w1]
      rw [if_neg (by omega)]
      simp only [ix, Option.bind_some, w7, sh, ho, wk, wa]
    by_cases c2 : c.toNat < 128
    · rw [if_pos c2]
      by_cases c3' : c.toNat = 0 ∧ 0 < k
      · refine ⟨.inl (), iter_inr ((red _).2 ?_), by rw [if_pos c3']; rfl⟩
        rw [if_pos (by omega), if_pos (by simp [c3'.1])]
        simp [c3'.2]
      · refine ⟨.inr (((x + c.toNat % 128 * 128 ^ k : Nat) : Int), ((a + k + 1 : Nat) : Int), 0), iter_inr ((red _).2 ?_), by rw [if_neg c3']; rfl⟩
        rw [if_pos (by omega)]
        by_cases c4 : c.toNat = 0
        · rw [if_pos (by simp [c4])]
          have : ¬ (k : Int) > 0 := fun hh => c3' ⟨c4, by omega⟩
          simp [this]; omega
        · rw [if_neg (by simp; omega)]
          rfl
    · rw [if_neg c2]
      have hx' : x + c.toNat % 128 * 128 ^ k < 128 ^ (k + 1) := by
        have : c.toNat % 128 * 128 ^ k ≤ 127 * 128 ^ k := Nat.mul_le_mul (by omega) (Nat.le_refl _)
        rw [Nat.pow_succ]; omega
      obtain ⟨q, h1, h2⟩ := ih (k + 1) _ n (by omega) hx' hal (by omega)
      refine ⟨q, ?_, h2⟩
      rw [iter_inl ((red (some (.inl _))).2 (by rw [if_neg (by omega)]))]
      exact h1
theorem Next40 (s : List UInt8) (hs : s.length < 1000000000) (a : Int) : F_delta_Next s a = some (nxI s a) := by
  unfold F_delta_Next nxI nextOf
  by_cases c1 : a < 0
  · simp [c1, c3]
  by_cases c2 : a ≥ s.length
  · simp [c1, c2, c3]
  obtain ⟨a, rfl⟩ := Int.eq_ofNat_of_zero_le (by omega : 0 ≤ a)
  obtain ⟨q, h1, h2⟩ := L_next40 s hs a 4 0 0 NF (by omega) (by simp) (by omega) (by rw [NF_eq]; omega)
  rw [if_neg (by omega : ¬ ((a : Int) < 0 ∨ (a : Int) ≥ s.length)), Int.toNat_natCast, ← h2]
  rw [show ((0 : Nat) : Int) = 0 from rfl] at h1
  simp only [if_neg c1, decide_eq_false c2, Option.bind_some, Bool.false_eq_true, if_false, h1]
  cases q <;> rfl

theorem L_rnext40 (s : List UInt8) (hs : s.length < 1000000000) (a : Nat) (ha : (a : Int) < 9000000000000000000) : ∀ (r k x n : Nat), r + k = 4 → x < 128 ^ k → (k = 0 ∨ a < s.length) → r < n →
    ∃ q, iter (L_ref40_Next_1 (a : Int) s) n ((x : Int), ((128 ^ k : Nat) : Int), (k : Int)) = some q ∧ (match q with | .inl _ => (0, 0, 2) | .inr t => t) = c3 (nx s a r k x) := by
  intro r
  induction r with
  | zero =>
    intro k x n hk hx hal hn
    obtain ⟨n, rfl⟩ : ∃ j, n = j + 1 := ⟨n - 1, by omega⟩
    refine ⟨.inl (), iter_inr ?_, rfl⟩
    unfold L_ref40_Next_1
    rw [if_neg (by simp only; omega)]
  | succ r ih =>
    intro k x n hk hx hal hn
    obtain ⟨n, rfl⟩ : ∃ j, n = j + 1 := ⟨n - 1, by omega⟩
    have w1 : IntKind.i64.wrap ((a : Int) + (k : Int)) = ((a + k : Nat) : Int) := by rw [wrap_i64 (by omega) (by omega)]; omega
    have lo : ¬ ((a + k : Nat) : Int) < (a : Int) := by omega
    by_cases c1 : s.length ≤ a + k
    · refine ⟨.inr (0, 0, 3), iter_inr ?_, by simp only [nx, if_pos c1]; rfl⟩
      unfold L_ref40_Next_1
      rw [if_pos (by simp only; omega)]
      simp only [w1, if_neg lo]
      rw [decide_eq_true (by omega : ((a + k : Nat) : Int) ≥ s.length)]
      rfl
    have ix : idxS s ((a + k : Nat) : Int) = some (((s.getD (a + k) 0).toNat : Nat) : Int) := by unfold idxS; rw [if_pos (by omega), Int.toNat_natCast]
    have hnx : nx s a (r + 1) k x = (if (s.getD (a + k) 0).toNat < 128 then (if (s.getD (a + k) 0).toNat = 0 ∧ 0 < k then (0, 0, 2) else (x + (s.getD (a + k) 0).toNat % 128 * 128 ^ k, a + k + 1, 0)) else nx s a r (k + 1) (x + (s.getD (a + k) 0).toNat % 128 * 128 ^ k)) := by
      rw [nx, if_neg c1]
    rw [hnx]
    generalize s.getD (a + k) 0 = c at *
    have hc := c.toNat_lt
    have wc : IntKind.i64.wrap (c.toNat : Int) = (c.toNat : Int) := wrap_i64 (by omega) (by omega)
    have rm : remI (c.toNat : Int) 128 = some (((c.toNat % 128 : Nat)) : Int) := by unfold remI; rw [if_neg (by omega)]; rfl
    have hp : (128 : Nat) ^ k ≤ 2097152 := Nat.le_trans (Nat.pow_le_pow_right (by omega) (by omega : k ≤ 3)) (by decide)
    have hm : c.toNat % 128 * 128 ^ k ≤ 127 * 2097152 := Nat.mul_le_mul (by omega) hp
    have wm : IntKind.i64.wrap (((c.toNat % 128 : Nat) : Int) * ((128 ^ k : Nat) : Int)) = ((c.toNat % 128 * 128 ^ k : Nat) : Int) := by
      have : ((c.toNat % 128 : Nat) : Int) * ((128 ^ k : Nat) : Int) = ((c.toNat % 128 * 128 ^ k : Nat) : Int) := by push_cast; rfl
      rw [this, wrap_i64 (by omega) (by omega)]
    have ws : IntKind.i64.wrap ((x : Int) + ((c.toNat % 128 * 128 ^ k : Nat) : Int)) = ((x + c.toNat % 128 * 128 ^ k : Nat) : Int) := by
      rw [wrap_i64 (by omega) (by omega)]; omega
    have wk : IntKind.i64.wrap ((k : Int) + 1) = ((k + 1 : Nat) : Int) := by rw [wrap_i64 (by omega) (by omega)]; omega
    have wa : IntKind.i64.wrap (((a + k : Nat) : Int) + 1) = ((a + k + 1 : Nat) : Int) := by rw [wrap_i64 (by omega) (by omega)]; omega
    have wp : IntKind.i64.wrap (128 * ((128 ^ k : Nat) : Int)) = ((128 ^ (k + 1) : Nat) : Int) := by
      have : 128 * ((128 ^ k : Nat) : Int) = ((128 ^ (k + 1) : Nat) : Int) := by rw [Nat.pow_succ]; push_cast; rw [Int.mul_comm]
      rw [this, wrap_i64 (by omega) (by rw [Nat.pow_succ]; omega)]
    have red : ∀ z, L_ref40_Next_1 (a : Int) s ((x : Int), ((128 ^ k : Nat) : Int), (k : Int)) = z ↔ (if (c.toNat : Int) < 128 then ((if ((c.toNat : Int) == 0) = true then some (decide ((k : Int) > 0)) else some false : Option Bool).bind fun j => if j = true then some (.inr (.inr (0, 0, 2))) else some (.inr (.inr (((x + c.toNat % 128 * 128 ^ k : Nat) : Int), ((a + k + 1 : Nat) : Int), 0)))) else some (.inl (((x + c.toNat % 128 * 128 ^ k : Nat) : Int), ((128 ^ (k + 1) : Nat) : Int), ((k + 1 : Nat) : Int)))) = z := by
      intro z
      unfold L_ref40_Next_1
      rw [if_pos (by simp only; omega)]
      simp only [w1, if_neg lo]
      rw [decide_eq_false (by omega : ¬ ((a + k : Nat) : Int) ≥ s.length)]
      simp only [Option.bind_some, Bool.false_eq_true, if_false, ix, wc, rm, wm, ws, wk, wa, wp]
    by_cases c2 : c.toNat < 128
    · rw [if_pos c2]
      by_cases c3' : c.toNat = 0 ∧ 0 < k
      · refine ⟨.inr (0, 0, 2), iter_inr ((red _).2 ?_), by rw [if_pos c3']; rfl⟩
        rw [if_pos (by omega), if_pos (by simp [c3'.1])]
        simp [c3'.2]
      · refine ⟨.inr (((x + c.toNat % 128 * 128 ^ k : Nat) : Int), ((a + k + 1 : Nat) : Int), 0), iter_inr ((red _).2 ?_), by rw [if_neg c3']; rfl⟩
        rw [if_pos (by omega)]
        by_cases c4 : c.toNat = 0
        · rw [if_pos (by simp [c4])]
          have : ¬ (k : Int) > 0 := fun hh => c3' ⟨c4, by omega⟩
          simp [this]; omega
        · rw [if_neg (by simp; omega)]
          rfl
    · rw [if_neg c2]
      have hx' : x + c.toNat % 128 * 128 ^ k < 128 ^ (k + 1) := by
        have : c.toNat % 128 * 128 ^ k ≤ 127 * 128 ^ k := Nat.mul_le_mul (by omega) (Nat.le_refl _)
        rw [Nat.pow_succ]; omega
      obtain ⟨q, h1, h2⟩ := ih (k + 1) _ n (by omega) hx' (.inr (by omega)) (by omega)
      refine ⟨q, ?_, h2⟩
      rw [iter_inl ((red (some (.inl _))).2 (by rw [if_neg (by omega)]))]
      exact h1
theorem RNext40 (s : List UInt8) (hs : s.length < 1000000000) (a : Int) (ha : a < 9000000000000000000) : F_ref40_Next s a = some (nxI s a) := by
  unfold F_ref40_Next nxI
  by_cases c1 : a < 0
  · unfold nextOf; simp [c1, c3]
  obtain ⟨a, rfl⟩ := Int.eq_ofNat_of_zero_le (by omega : 0 ≤ a)
  obtain ⟨q, h1, h2⟩ := L_rnext40 s hs a ha 4 0 0 NF (by omega) (by simp) (.inl rfl) (by rw [NF_eq]; omega)
  rw [nextOf_nx, ← h2]
  rw [show ((0 : Nat) : Int) = 0 from rfl, show ((128 ^ 0 : Nat) : Int) = 1 from rfl] at h1
  simp only [if_neg c1, h1, Option.bind_some]
  cases q <;> rfl

/-- What a number at a place may be. -/
theorem nx_spec (s : List UInt8) (a : Nat) : ∀ (r k x : Nat), r + k = 4 → x < 128 ^ k → ((nx s a r k x).2.2 ≠ 0 ∧ (nx s a r k x).1 = 0) ∨ ((nx s a r k x).2.2 = 0 ∧ (nx s a r k x).1 < 268435456 ∧ a + k < (nx s a r k x).2.1 ∧ (nx s a r k x).2.1 ≤ s.length) := by
  intro r
  induction r with
  | zero => intro k x hk hx; left; simp [nx]
  | succ r ih =>
    intro k x hk hx
    have hc : ∀ c : UInt8, x + c.toNat % 128 * 128 ^ k < 128 ^ (k + 1) := fun c => by
      have : c.toNat % 128 * 128 ^ k ≤ 127 * 128 ^ k := Nat.mul_le_mul (by omega) (Nat.le_refl _)
      rw [Nat.pow_succ]; omega
    have hp : (128 : Nat) ^ (k + 1) ≤ 128 ^ 4 := Nat.pow_le_pow_right (by omega) (by omega)
    rw [nx]
    split
    · left; simp
    · rename_i h1
      split
      · split
        · left; simp
        · right; have := hc (s.getD (a + k) 0); refine ⟨rfl, by simp only; omega, by simp only; omega, by simp only; omega⟩
      · rcases ih (k + 1) _ (by omega) (hc (s.getD (a + k) 0)) with h2 | ⟨h2, h3, h4, h5⟩
        · exact .inl h2
        · exact .inr ⟨h2, h3, by omega, h5⟩
theorem nxI_spec (s : List UInt8) (a : Nat) : (∃ b e : Nat, nxI s a = (0, (b : Int), (e : Int)) ∧ e ≠ 0) ∨ ∃ n b : Nat, nxI s a = ((n : Int), (b : Int), 0) ∧ n < 268435456 ∧ a < b ∧ b ≤ s.length := by
  unfold nxI
  rw [nextOf_nx]
  rcases nx_spec s a 4 0 0 (by omega) (by simp) with ⟨h1, h2⟩ | ⟨h1, h2, h3, h4⟩
  · left; exact ⟨_, _, by unfold c3; rw [h2]; rfl, h1⟩
  · right; exact ⟨_, _, by unfold c3; rw [h1]; rfl, h2, by omega, h4⟩
end Go.Proofs.YtikkpmmhejjpaaaM
