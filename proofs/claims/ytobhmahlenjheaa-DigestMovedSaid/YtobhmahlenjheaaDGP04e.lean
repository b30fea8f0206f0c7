/- Layer 4 in plain terms: the roots of the first primes. -/
import Derived.Test.YtobhmahlenjheaaDGP04d
import Derived.Test.YtobhmahlenjheaaDGP04b
set_option linter.unusedSimpArgs false
set_option linter.unusedVariables false
namespace Go.Proofs.YtobhmahlenjheaaM
open Go Go.RowKit

theorem limit_loop (power : Nat) (hp : power ≤ 3) (p : Nat) : ∀ (d i n : Nat) (l : List Int), i + d = power → d < n → DG l → l.length ≤ 4 + 4 * i → dval l = p * 4294967296 ^ i →
    ∃ r, iter (L_ref04_root_1 (power : Int)) n (l, (i : Int)) = some r ∧ DG r ∧ r.length ≤ 4 + 4 * power ∧ dval r = p * 4294967296 ^ power := by
  intro d
  induction d with
  | zero =>
    intro i n l hi hn hd hl hv
    obtain ⟨n, rfl⟩ : ∃ j, n = j + 1 := ⟨n - 1, by omega⟩
    obtain rfl : i = power := by omega
    refine ⟨l, iter_inr ?_, hd, hl, hv⟩
    unfold L_ref04_root_1
    rw [if_neg (by simp only; omega)]
  | succ d ih =>
    intro i n l hi hn hd hl hv
    obtain ⟨n, rfl⟩ : ∃ j, n = j + 1 := ⟨n - 1, by omega⟩
    obtain ⟨r, e, h1, h2, h3⟩ := times_eq l [0, 0, 1] hd (fun x hx => by simp at hx; rcases hx with rfl | rfl <;> omega) (by omega) (by simp)
    have step : L_ref04_root_1 (power : Int) (l, (i : Int)) = some (.inl (r, ((i + 1 : Nat) : Int))) := by
      unfold L_ref04_root_1
      simp only
      rw [if_pos (by omega), e, Option.bind_some, wrap_i64 (n := (i : Int) + 1) (by omega) (by omega)]
      rfl
    rw [iter_inl step]
    exact ih (i + 1) n r (by omega) (by omega) h1 (by rw [h2]; simp; omega) (by rw [h3, hv, show dval [0, 0, 1] = 4294967296 by decide, Nat.pow_succ, Nat.mul_assoc])
theorem power_loop (power : Nat) (hp : power ≤ 3) (x : List Int) (m : Nat) (hx : DG x) (hxl : x.length = 4) (hm : dval x = m) (r bit mi : Int) : ∀ (d i n : Nat) (y : List Int), i + d = power → d < n → DG y → y.length ≤ 5 * i → dval y = m ^ i →
    ∃ q, iter (L_ref04_root_3 (power : Int) x) n (r, bit, mi, y, (i : Int)) = some (r, bit, mi, q) ∧ DG q ∧ q.length ≤ 15 ∧ dval q = m ^ power := by
  intro d
  induction d with
  | zero =>
    intro i n l hi hn hd hl hv
    obtain ⟨n, rfl⟩ : ∃ j, n = j + 1 := ⟨n - 1, by omega⟩
    obtain rfl : i = power := by omega
    refine ⟨l, iter_inr ?_, hd, by omega, hv⟩
    unfold L_ref04_root_3
    rw [if_neg (by simp only; omega)]
  | succ d ih =>
    intro i n l hi hn hd hl hv
    obtain ⟨n, rfl⟩ : ∃ j, n = j + 1 := ⟨n - 1, by omega⟩
    obtain ⟨r', e, h1, h2, h3⟩ := times_eq l x hd hx (by omega) (by omega)
    have step : L_ref04_root_3 (power : Int) x (r, bit, mi, l, (i : Int)) = some (.inl (r, bit, mi, r', ((i + 1 : Nat) : Int))) := by
      unfold L_ref04_root_3
      simp only
      rw [if_pos (by omega), e, Option.bind_some, wrap_i64 (n := (i : Int) + 1) (by omega) (by omega)]
      rfl
    rw [iter_inl step]
    exact ih (i + 1) n r' (by omega) (by omega) h1 (by rw [h2]; omega) (by rw [h3, hv, hm, Nat.pow_succ])
/-- A search from the highest bit on finds the root. -/
theorem bits_loop (power : Nat) (h1p : 1 ≤ power) (hp : power ≤ 3) (lim : List Int) (L c : Nat) (hd : DG lim) (hl : lim.length ≤ 100) (hL : dval lim = L) (hc : c ^ power ≤ L) (hc2 : L < (c + 1) ^ power) (hc37 : c < 2 ^ 37) : ∀ (b n r : Nat), b ≤ 37 → b < n → r ≤ c → c < r + 2 ^ b → r < 2 ^ 37 →
    iter (L_ref04_root_2 (power : Int) lim) n ((r : Int), (b : Int) - 1) = some (c : Int) := by
  intro b
  induction b with
  | zero =>
    intro n r _ hn h1 h2 _
    obtain ⟨n, rfl⟩ : ∃ j, n = j + 1 := ⟨n - 1, by omega⟩
    obtain rfl : r = c := by simp at h2; omega
    refine iter_inr ?_
    unfold L_ref04_root_2
    rw [if_neg (by simp only; omega)]
  | succ b ih =>
    intro n r hb hn h1 h2 h3
    obtain ⟨n, rfl⟩ : ∃ j, n = j + 1 := ⟨n - 1, by omega⟩
    have hb2 : (2 : Nat) ^ b ≤ 2 ^ 36 := Nat.pow_le_pow_right (by omega) (by omega)
    have hps : (2 : Nat) ^ (b + 1) = 2 ^ b + 2 ^ b := by rw [Nat.pow_succ]; omega
    obtain ⟨x, e1, x1, x2, x3⟩ := digits_eq (r + 2 ^ b) (by omega)
    obtain ⟨y, e2, y1, y2, y3⟩ := power_loop power hp x (r + 2 ^ b) x1 x2 x3 (r : Int) (b : Int) ((r + 2 ^ b : Nat) : Int) (power - 1) 1 NF x (by omega) (by rw [NF_eq]; omega) x1 (by omega) (by rw [x3, Nat.pow_one])
    have e3 := atMost_eq y lim y1 hd (by omega)
    rw [y3, hL] at e3
    have es : shlI .u64 1 (((b + 1 : Nat) : Int) - 1) = some ((2 ^ b : Nat) : Int) := by
      unfold shlI
      rw [if_neg (by omega), show min (((b + 1 : Nat) : Int) - 1).toNat (IntKind.u64).bits = b by simp only [IntKind.bits]; omega, Int.one_mul, wrap_u64]
      congr 1
      rw [show ((2 : Int) ^ b) = ((2 ^ b : Nat) : Int) by push_cast; rfl]
      omega
    have step : L_ref04_root_2 (power : Int) lim ((r : Int), ((b + 1 : Nat) : Int) - 1) = some (.inl (if (r + 2 ^ b) ^ power ≤ L then ((r + 2 ^ b : Nat) : Int) else (r : Int), (b : Int) - 1)) := by
      unfold L_ref04_root_2
      simp only
      rw [if_pos (by omega), es, Option.bind_some, show IntKind.u64.wrap ((r : Int) + ((2 ^ b : Nat) : Int)) = ((r + 2 ^ b : Nat) : Int) by rw [wrap_u64]; omega, e1, Option.bind_some, show ((b + 1 : Nat) : Int) - 1 = (b : Int) by omega]
      erw [e2]
      rw [Option.bind_some]
      simp only
      rw [e3, Option.bind_some, wrap_i64 (by omega) (by omega)]
      by_cases q : (r + 2 ^ b) ^ power ≤ L
      · rw [if_pos (by simpa using q), if_pos q]
      · rw [if_neg (by simpa using q), if_neg q]
    rw [iter_inl step]
    by_cases q : (r + 2 ^ b) ^ power ≤ L
    · rw [if_pos q]
      have hle : r + 2 ^ b ≤ c := by
        rcases Nat.lt_or_ge c (r + 2 ^ b) with h | h
        · have : (c + 1) ^ power ≤ (r + 2 ^ b) ^ power := Nat.pow_le_pow_left (by omega) _
          omega
        · exact h
      exact ih n (r + 2 ^ b) (by omega) (by omega) hle (by omega) (by omega)
    · rw [if_neg q]
      have hlt : c < r + 2 ^ b := by
        rcases Nat.lt_or_ge c (r + 2 ^ b) with h | h
        · exact h
        · have : (r + 2 ^ b) ^ power ≤ c ^ power := Nat.pow_le_pow_left h _
          omega
      exact ih n r (by omega) (by omega) h1 hlt h3
theorem root_eq (p power c : Nat) (h1p : 1 ≤ power) (hp : power ≤ 3) (hpp : p < 1000) (hc : c ^ power ≤ p * 4294967296 ^ power) (hc2 : p * 4294967296 ^ power < (c + 1) ^ power) (hb : c < 2 ^ 37) : F_ref04_root (p : Int) (power : Int) = some (IntKind.u32.wrap (c : Int)) := by
  unfold F_ref04_root
  obtain ⟨x, e1, x1, x2, x3⟩ := digits_eq p (by omega)
  obtain ⟨l, e2, l1, l2, l3⟩ := limit_loop power hp p power 0 NF x (by omega) (by rw [NF_eq]; omega) x1 (by omega) (by rw [x3]; simp)
  have e3 := bits_loop power h1p hp l _ c l1 (by omega) l3 hc hc2 hb 37 NF 0 (by omega) (by rw [NF_eq]; omega) (by omega) (by omega) (by omega)
  rw [e1, Option.bind_some]
  erw [e2]
  rw [Option.bind_some]
  erw [e3]
  rfl

def primes8 : List Int := [2, 3, 5, 7, 11, 13, 17, 19]
def primes64 : List Int := [2, 3, 5, 7, 11, 13, 17, 19, 23, 29, 31, 37, 41, 43, 47, 53, 59, 61, 67, 71, 73, 79, 83, 89, 97, 101, 103, 107, 109, 113, 127, 131, 137, 139, 149, 151, 157, 163, 167, 173, 179, 181, 191, 193, 197, 199, 211, 223, 227, 229, 233, 239, 241, 251, 257, 263, 269, 271, 277, 281, 283, 293, 307, 311]
set_option maxRecDepth 1000000 in
theorem primes8_eq : F_ref04_primes 8 = some primes8 := by kernel_rfl
set_option maxRecDepth 1000000 in
theorem primes64_eq : F_ref04_primes 64 = some primes64 := by kernel_rfl
/-- The root, by bits, in plain numbers (to be checked by its powers). -/
def rootN (L power : Nat) : Nat → Nat → Nat
  | 0, r => r
  | b + 1, r => if (r + 2 ^ b) ^ power ≤ L then rootN L power b (r + 2 ^ b) else rootN L power b r
def rootOf (p : Int) (power : Nat) : Nat := rootN (p.toNat * 4294967296 ^ power) power 37 0
def rootGood (p : Int) (power : Nat) (k : Int) : Bool := decide (0 ≤ p ∧ p < 1000) && decide ((rootOf p power) ^ power ≤ p.toNat * 4294967296 ^ power) && decide (p.toNat * 4294967296 ^ power < (rootOf p power + 1) ^ power) && decide (rootOf p power < 2 ^ 37) && decide (IntKind.u32.wrap (rootOf p power : Int) = k)
theorem root_good {p : Int} {power : Nat} {k : Int} (h1 : 1 ≤ power) (h3 : power ≤ 3) (h : rootGood p power k = true) : F_ref04_root p (power : Int) = some k := by
  unfold rootGood at h
  simp only [Bool.and_eq_true, decide_eq_true_eq] at h
  obtain ⟨⟨⟨⟨a, b⟩, c⟩, d⟩, e⟩ := h
  have := root_eq p.toNat power (rootOf p power) h1 h3 (by omega) b c d
  rw [show ((p.toNat : Nat) : Int) = p by omega, e] at this
  exact this
theorem roots_loop (n power : Nat) (ps ks : List Int) (hps : ps.length = n) (hks : ks.length = n) (hn : n ≤ 100) (h1 : 1 ≤ power) (h3 : power ≤ 3) (hg : ∀ i, i < n → rootGood (ps.getD i 0) power (ks.getD i 0) = true) :
    iter (L_ref04_roots_1 (n : Int) ps (power : Int)) NF (([] : List Int), 0) = some ks := by
  have := iter_nat (step := L_ref04_roots_1 (n : Int) ps (power : Int)) (fun i => (ks.take i, (i : Int))) (r := ks) n
    (by unfold L_ref04_roots_1; simp only; rw [if_neg (by omega), List.take_of_length_le (by omega)]) n 0 NF (by omega) (fun i _ hi => by
      unfold L_ref04_roots_1
      simp only
      rw [if_pos (by omega), idx_get ps i (by omega), Option.bind_some, root_good h1 h3 (hg i hi), Option.bind_some]
      unfold app
      rw [if_pos (by simp [capL]; omega), Option.bind_some, wrap_i64 (n := (i : Int) + 1) (by omega) (by omega), List.take_add_one, List.getD_eq_getElem?_getD, List.getElem?_eq_getElem (show i < ks.length by omega)]
      rfl) (by rw [NF_eq]; omega)
  simpa using this
def first8 : GA8_u32 := ⟨1779033703, 3144134277, 1013904242, 2773480762, 1359893119, 2600822924, 528734635, 1541459225⟩
theorem first_eq : F_sha_first = some first8 := rfl
theorem good8 : ∀ i : Fin 8, rootGood (primes8.getD i.val 0) 2 ((toL first8).getD i.val 0) = true := by decide +kernel
theorem good64 : ∀ i : Fin 64, rootGood (primes64.getD i.val 0) 3 (KL_99.getD i.val 0) = true := by decide +kernel
theorem roots8 : F_ref04_roots 8 2 = some (toL first8) := by
  unfold F_ref04_roots
  rw [primes8_eq, Option.bind_some]
  have := roots_loop 8 2 primes8 (toL first8) rfl rfl (by omega) (by omega) (by omega) (fun i hi => good8 ⟨i, hi⟩)
  erw [this]
  rfl
theorem roots64 : F_ref04_roots 64 3 = some KL_99 := by
  unfold F_ref04_roots
  rw [primes64_eq, Option.bind_some]
  have := roots_loop 64 3 primes64 KL_99 (by kernel_rfl) KL_len (by omega) (by omega) (by omega) (fun i hi => good64 ⟨i, hi⟩)
  erw [this]
  rfl
theorem R8_first : R8 first8 := by constructor <;> (unfold u32ok first8; decide)
end Go.Proofs.YtobhmahlenjheaaM
