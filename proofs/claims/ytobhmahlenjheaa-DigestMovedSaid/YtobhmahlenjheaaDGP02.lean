/- Layer 2 in plain terms: what is cut out, read and put. -/
import Derived.Test.YtobhmahlenjheaaDGF
import Derived.Test.YtobhmahlenjheaaFieldNum
import Derived.Test.YtobhmahlenjheaaPB
set_option linter.unusedSimpArgs false
set_option linter.unusedVariables false
namespace Go.Proofs.YtobhmahlenjheaaM
open Go Go.RowKit

/-- Bytes at a place; and 0 or 3. -/
def cutOf (s : List UInt8) (a m : Int) : List UInt8 × Int :=
  if a < 0 ∨ m < 0 ∨ a > s.length ∨ m > s.length - a then ([], 3) else ((s.take (a + m).toNat).drop a.toNat, 0)
theorem cut_length (s : List UInt8) (a m : Int) : (cutOf s a m).1.length = 0 ∨ ((cutOf s a m).1.length : Int) = m := by
  unfold cutOf
  split
  · left; rfl
  · right; simp; omega
theorem cut_ok {s : List UInt8} {a m : Int} (h : (cutOf s a m).2 = 0) : 0 ≤ a ∧ 0 ≤ m ∧ a + m ≤ s.length := by
  unfold cutOf at h
  split at h
  · simp at h
  · omega
theorem cut_is {s : List UInt8} {a m : Int} (h1 : 0 ≤ a) (h2 : 0 ≤ m) (h3 : a + m ≤ s.length) : cutOf s a m = ((s.take (a + m).toNat).drop a.toNat, 0) := by
  unfold cutOf
  rw [if_neg (by omega)]
theorem leNum_take_succ (b : List UInt8) : ∀ i, i < b.length → leNum (b.take (i + 1)) = leNum (b.take i) + (b.getD i 0).toNat * 256 ^ i := by
  induction b with
  | nil => intro i hi; simp at hi
  | cons c b ih =>
    intro i hi
    cases i with
    | zero => simp [leNum]
    | succ i =>
      simp only [List.take_succ_cons, leNum]
      rw [ih i (by simpa using hi), Nat.mul_add, Nat.add_assoc, List.getD_cons_succ, Nat.pow_succ]
      congr 2
      rw [Nat.mul_comm (256 ^ i), ← Nat.mul_assoc, ← Nat.mul_assoc, Nat.mul_comm 256]
theorem leNum_drop (b : List UInt8) : ∀ r, r < b.length → leNum (b.drop r) = (b.getD r 0).toNat + 256 * leNum (b.drop (r + 1)) := by
  induction b with
  | nil => intro r hr; simp at hr
  | cons c b ih =>
    intro r hr
    cases r with
    | zero => simp [leNum]
    | succ r => simpa using ih r (by simpa using hr)

theorem Cut_eq (s : List UInt8) (a m : Int) (hs : s.length < 1000000000) : F_field_Cut s a m = some (cutOf s a m) := by
  unfold F_field_Cut cutOf
  by_cases c1 : a < 0
  · simp [c1]
  by_cases c2 : m < 0
  · simp [c1, c2]
  by_cases c3 : a > s.length
  · simp [c1, c2, c3]
  have w1 : IntKind.i64.wrap (s.length - a) = s.length - a := wrap_i64 (by omega) (by omega)
  by_cases c4 : m > s.length - a
  · simp [c1, c2, c3, c4, w1]
  have w2 : IntKind.i64.wrap (a + m) = a + m := wrap_i64 (by omega) (by omega)
  have sb : subS s a (a + m) = some ((s.take (a + m).toNat).drop a.toNat) := by unfold subS; rw [if_pos (by omega)]
  simp [c1, c2, c3, c4, w1, w2, sb]
theorem RCut_eq (s : List UInt8) (a m : Int) (hs : s.length < 1000000000) : F_ref02_Cut s a m = some (cutOf s a m) := Cut_eq s a m hs

theorem L_number (b : List UInt8) (e : Int) (hb : b.length ≤ 8) : ∀ (k i n : Nat), i + k = b.length → k < n → iter (L_field_number_1 (b, e)) n ((leNum (b.take i) : Int), (i : Int)) = some (leNum b : Int) := by
  intro k
  induction k with
  | zero =>
    intro i n hi hn
    obtain ⟨n, rfl⟩ : ∃ j, n = j + 1 := ⟨n - 1, by omega⟩
    refine iter_inr ?_
    unfold L_field_number_1
    rw [if_neg (by simp only; omega), List.take_of_length_le (by omega)]
  | succ k ih =>
    intro i n hi hn
    obtain ⟨n, rfl⟩ : ∃ j, n = j + 1 := ⟨n - 1, by omega⟩
    have hlb : leNum (b.take i) < 256 ^ i := by
      have := leNum_lt (b.take i)
      rwa [List.length_take, Nat.min_eq_left (by omega)] at this
    have ix : idxS b i = some ((b.getD i 0).toNat : Int) := by unfold idxS; rw [if_pos (by omega)]; rfl
    have w8 : IntKind.i64.wrap (8 * (i : Int)) = ((8 * i : Nat) : Int) := by rw [wrap_i64 (by omega) (by omega)]; omega
    have wi : IntKind.i64.wrap ((i : Int) + 1) = ((i + 1 : Nat) : Int) := by rw [wrap_i64 (by omega) (by omega)]; omega
    have hsh : shlI .u64 (IntKind.u64.wrap ((b.getD i 0).toNat : Int)) ((8 * i : Nat) : Int) = some (IntKind.u64.wrap (IntKind.u64.wrap ((b.getD i 0).toNat : Int) * 2 ^ min (8 * i) 64)) := by
      unfold shlI; rw [if_neg (by omega)]; rfl
    have step : L_field_number_1 (b, e) ((leNum (b.take i) : Int), (i : Int)) = some (.inl ((leNum (b.take (i + 1)) : Int), ((i + 1 : Nat) : Int))) := by
      unfold L_field_number_1
      rw [if_pos (by simp only; omega)]
      simp only [ix, Option.bind_some, w8, hsh, wi]
      congr 3
      rw [leNum_take_succ b i (by omega)]
      exact or_byte (leNum (b.take i)) i (b.getD i 0) (by omega) hlb
    rw [iter_inl step]
    exact ih (i + 1) n (by omega) (by omega)

/-- The number of so many bytes at a place. -/
def numOf (s : List UInt8) (a m : Int) : Int := (leNum (cutOf s a m).1 : Int)
theorem number_eq (s : List UInt8) (a m : Int) (hs : s.length < 1000000000) (hm : m ≤ 8) : F_field_number s a m = some (numOf s a m, (cutOf s a m).2) := by
  unfold F_field_number
  have hlen := cut_length s a m
  rw [Cut_eq s a m hs]
  simp only [Option.bind_some]
  generalize hb : cutOf s a m = c
  obtain ⟨b, e⟩ := c
  rw [hb] at hlen
  simp only at hlen
  have := L_number b e (by omega) b.length 0 NF (by omega) (by rw [NF_eq]; omega)
  simp only [List.take_zero, leNum, Int.natCast_zero] at this
  rw [this]
  simp [numOf, hb]

theorem L_Num (b : List UInt8) (e : Int) (hb : b.length ≤ 8) : ∀ (i n : Nat), i ≤ b.length → i < n → iter (L_ref02_Num_1 (b, e)) n ((leNum (b.drop i) : Int), (i : Int) - 1) = some (leNum b : Int) := by
  intro i
  induction i with
  | zero =>
    intro n hi hn
    obtain ⟨n, rfl⟩ : ∃ j, n = j + 1 := ⟨n - 1, by omega⟩
    refine iter_inr ?_
    unfold L_ref02_Num_1
    rw [if_neg (by simp only; omega), List.drop_zero]
  | succ i ih =>
    intro n hi hn
    obtain ⟨n, rfl⟩ : ∃ j, n = j + 1 := ⟨n - 1, by omega⟩
    have hlt := leNum_lt (b.drop (i + 1))
    have hp : (256 : Nat) ^ (b.drop (i + 1)).length ≤ 256 ^ 7 := Nat.pow_le_pow_right (by omega) (by simp; omega)
    have hbt := (b.getD i 0).toNat_lt
    have ix : idxS b (((i + 1 : Nat) : Int) - 1) = some ((b.getD i 0).toNat : Int) := by
      unfold idxS; rw [if_pos (by omega), show (((i + 1 : Nat) : Int) - 1).toNat = i by omega]
    have step : L_ref02_Num_1 (b, e) ((leNum (b.drop (i + 1)) : Int), ((i + 1 : Nat) : Int) - 1) = some (.inl ((leNum (b.drop i) : Int), (i : Int) - 1)) := by
      unfold L_ref02_Num_1
      rw [if_pos (by simp only; omega)]
      simp only [ix, Option.bind_some]
      congr 3
      · rw [leNum_drop b i (by omega), wrap_u64, wrap_u64, wrap_u64]
        omega
      · rw [wrap_i64 (by omega) (by omega)]; omega
    rw [iter_inl step]
    exact ih n (by omega) (by omega)
theorem Num_eq (s : List UInt8) (a m : Int) (hs : s.length < 1000000000) (hm : m ≤ 8) : F_ref02_Num s a m = some (numOf s a m, (cutOf s a m).2) := by
  unfold F_ref02_Num
  have hlen := cut_length s a m
  rw [RCut_eq s a m hs]
  simp only [Option.bind_some]
  generalize hb : cutOf s a m = c
  obtain ⟨b, e⟩ := c
  rw [hb] at hlen
  simp only at hlen
  have := L_Num b e (by omega) b.length NF (by omega) (by rw [NF_eq]; omega)
  simp only [List.drop_length, leNum, Int.natCast_zero] at this
  simp only
  rw [wrap_i64 (by omega) (by omega), this]
  simp [numOf, hb]

theorem numOf_lt (s : List UInt8) (a : Int) (m : Nat) : 0 ≤ numOf s a m ∧ numOf s a m < ((256 ^ m : Nat) : Int) := by
  unfold numOf
  refine ⟨by omega, ?_⟩
  have h1 := leNum_lt (cutOf s a m).1
  have h2 := cut_length s a m
  have : (256 : Nat) ^ (cutOf s a m).1.length ≤ 256 ^ m := Nat.pow_le_pow_right (by omega) (by omega)
  omega
theorem numOf2 (s : List UInt8) (a : Int) : 0 ≤ numOf s a 2 ∧ numOf s a 2 < 65536 := numOf_lt s a 2
theorem numOf4 (s : List UInt8) (a : Int) : 0 ≤ numOf s a 4 ∧ numOf s a 4 < 4294967296 := numOf_lt s a 4
theorem numOf8 (s : List UInt8) (a : Int) : 0 ≤ numOf s a 8 ∧ numOf s a 8 < 18446744073709551616 := numOf_lt s a 8
theorem U16_eq (s : List UInt8) (a : Int) (hs : s.length < 1000000000) : F_field_U16 s a = some (numOf s a 2, (cutOf s a 2).2) := by
  have := numOf2 s a
  unfold F_field_U16
  rw [number_eq s a 2 hs (by omega)]
  simp only [Option.bind_some]
  rw [wrap_i64 (by omega) (by omega)]
theorem U32_eq (s : List UInt8) (a : Int) (hs : s.length < 1000000000) : F_field_U32 s a = some (numOf s a 4, (cutOf s a 4).2) := by
  have := numOf4 s a
  unfold F_field_U32
  rw [number_eq s a 4 hs (by omega)]
  simp only [Option.bind_some]
  rw [wrap_i64 (by omega) (by omega)]
theorem U64_eq (s : List UInt8) (a : Int) (hs : s.length < 1000000000) : F_field_U64 s a = some (numOf s a 8, (cutOf s a 8).2) := by
  unfold F_field_U64
  rw [number_eq s a 8 hs (by omega)]
  rfl
theorem RU16_eq (s : List UInt8) (a : Int) (hs : s.length < 1000000000) : F_ref02_U16 s a = some (numOf s a 2) := by
  have := numOf2 s a
  unfold F_ref02_U16
  rw [Num_eq s a 2 hs (by omega)]
  simp only [Option.bind_some]
  rw [wrap_i64 (by omega) (by omega)]
theorem RU32_eq (s : List UInt8) (a : Int) (hs : s.length < 1000000000) : F_ref02_U32 s a = some (numOf s a 4) := by
  have := numOf4 s a
  unfold F_ref02_U32
  rw [Num_eq s a 4 hs (by omega)]
  simp only [Option.bind_some]
  rw [wrap_i64 (by omega) (by omega)]

theorem cut_drop (s : List UInt8) (k : Nat) (a m : Int) (hk : k ≤ s.length) (ha : 0 ≤ a) : cutOf (s.drop k) a m = cutOf s ((k : Int) + a) m := by
  unfold cutOf
  simp only [List.length_drop]
  by_cases c : a < 0 ∨ m < 0 ∨ a > ((s.length - k : Nat) : Int) ∨ m > ((s.length - k : Nat) : Int) - a
  · rw [if_pos c, if_pos (by omega)]
  · rw [if_neg c, if_neg (by omega)]
    congr 1
    rw [List.take_drop, List.drop_drop, show k + (a + m).toNat = ((k : Int) + a + m).toNat by omega, show k + a.toNat = ((k : Int) + a).toNat by omega]
theorem num_drop (s : List UInt8) (k : Nat) (a m : Int) (hk : k ≤ s.length) (ha : 0 ≤ a) : numOf (s.drop k) a m = numOf s ((k : Int) + a) m := by
  unfold numOf; rw [cut_drop s k a m hk ha]

/-! ### Numbers put -/
def putI (v : Int) (j : Nat) : Int := IntKind.u8.wrap (v.fdiv (2 ^ min (8 * j) 64))
theorem L_put (v : Int) (z : List Int) (hz : z.length ≤ 8) : ∀ (k i : Nat) (l : List Int) (n : Nat), i + k = z.length → l.length = z.length → k < n →
    iter (L_field_put_1 z v) n (l, (i : Int)) = some (l.take i ++ (List.range k).map fun j => putI v (i + j)) := by
  intro k
  induction k with
  | zero =>
    intro i l n hi hl hn
    obtain ⟨n, rfl⟩ : ∃ j, n = j + 1 := ⟨n - 1, by omega⟩
    refine iter_inr ?_
    unfold L_field_put_1
    rw [if_neg (by simp only; omega), List.take_of_length_le (by omega)]
    simp
  | succ k ih =>
    intro i l n hi hl hn
    obtain ⟨n, rfl⟩ : ∃ j, n = j + 1 := ⟨n - 1, by omega⟩
    have w8 : IntKind.i64.wrap (8 * (i : Int)) = ((8 * i : Nat) : Int) := by rw [wrap_i64 (by omega) (by omega)]; omega
    have wi : IntKind.i64.wrap ((i : Int) + 1) = ((i + 1 : Nat) : Int) := by rw [wrap_i64 (by omega) (by omega)]; omega
    have h1 : shrI v .u64 ((8 * i : Nat) : Int) = some (v.fdiv (2 ^ min (8 * i) 64)) := by unfold shrI; rw [if_neg (by omega)]; rfl
    have h2 : idxL l (i : Int) = some (l[i]'(by omega)) := by
      unfold idxL; rw [if_pos (by omega), Int.toNat_natCast, List.getElem?_eq_getElem (by omega)]
    have h3 : setL l (i : Int) (IntKind.u8.wrap (v.fdiv (2 ^ min (8 * i) 64))) = some (l.set i (putI v i)) := by
      unfold setL; rw [if_pos (by omega), Int.toNat_natCast]; rfl
    have step : L_field_put_1 z v (l, (i : Int)) = some (.inl (l.set i (putI v i), ((i + 1 : Nat) : Int))) := by
      unfold L_field_put_1
      rw [if_pos (by simp only; omega)]
      simp only [w8, h1, Option.bind_some, h2, h3, wi]
    rw [iter_inl step, ih (i + 1) _ n (by omega) (by simp; omega) (by omega)]
    congr 1
    rw [List.range_succ_eq_map, List.map_cons, List.map_map]
    have : (l.set i (putI v i)).take (i + 1) = l.take i ++ [putI v i] := by
      rw [List.take_add_one, List.take_set_of_le (by omega), List.getElem?_set_self (by omega)]
      rfl
    rw [this, List.append_assoc]
    congr 1
    simp only [List.singleton_append, Nat.add_zero]
    congr 1
    apply List.map_congr_left
    intro j _
    simp only [Function.comp]
    congr 1
    omega
theorem byt_putI (m i : Nat) (hi : i < 8) : byt (putI (m : Int) i) = bt m i := shr_byte m i hi
theorem put_eq (m k : Nat) (hk : k ≤ 8) : F_field_put (m : Int) (k : Int) = some (leB m k) := by
  unfold F_field_put
  have h1 : mkL (0 : Int) (k : Int) = some (List.replicate k 0) := by unfold mkL; rw [if_pos (by unfold capL; omega)]; rfl
  rw [h1]
  simp only [Option.bind_some]
  have := L_put (m : Int) (List.replicate k 0) (by simpa using hk) k 0 (List.replicate k 0) NF (by simp) (by simp) (by rw [NF_eq]; omega)
  rw [show ((0 : Nat) : Int) = 0 from rfl] at this
  rw [this]
  simp only [List.take_zero, List.nil_append, Option.bind_some, List.map_map]
  rw [leB_bt]
  congr 1
  apply List.map_congr_left
  intro j hj
  rw [List.mem_range] at hj
  simp only [Function.comp, Nat.zero_add]
  exact byt_putI m j (by omega)

/-- The lowest bytes of a number. -/
def put (v : Int) (k : Nat) : List UInt8 := leB (IntKind.u64.wrap v).toNat k
theorem put_len (v : Int) (k : Nat) : (put v k).length = k := leB_length _ _
theorem u64_nat (v : Int) : ((IntKind.u64.wrap v).toNat : Int) = IntKind.u64.wrap v := by rw [wrap_u64]; omega
theorem u64_u64 (v : Int) : IntKind.u64.wrap (IntKind.u64.wrap v) = IntKind.u64.wrap v := by rw [wrap_u64, wrap_u64]; omega
theorem fput_eq (v : Int) (k : Nat) (hk : k ≤ 8) : F_field_put (IntKind.u64.wrap v) (k : Int) = some (put v k) := by
  rw [← u64_nat v, put_eq _ k hk]; rfl
theorem P16_eq (v : Int) : F_field_P16 v = some (put v 2) := by
  unfold F_field_P16; rw [show (2 : Int) = ((2 : Nat) : Int) from rfl, fput_eq v 2 (by omega)]; rfl
theorem P32_eq (v : Int) : F_field_P32 v = some (put v 4) := by
  unfold F_field_P32; rw [show (4 : Int) = ((4 : Nat) : Int) from rfl, fput_eq v 4 (by omega)]; rfl
theorem P64_eq (v : Int) : F_field_P64 (IntKind.u64.wrap v) = some (put v 8) := by
  unfold F_field_P64; rw [show (8 : Int) = ((8 : Nat) : Int) from rfl, fput_eq v 8 (by omega)]; rfl

theorem L_Put (N : Nat) : ∀ (k i : Nat) (v : Nat) (acc : List Int) (n : Nat), i + k = N → v < 2 ^ 64 → acc.length + k ≤ 1000 → k < n → N ≤ 1000 →
    ∃ r, iter (L_ref02_Put_1 (N : Int)) n ((v : Int), acc, (i : Int)) = some r ∧ r.map byt = acc.map byt ++ leB v k := by
  intro k
  induction k with
  | zero =>
    intro i v acc n hi hv ha hn hN
    obtain ⟨n, rfl⟩ : ∃ j, n = j + 1 := ⟨n - 1, by omega⟩
    refine ⟨acc, iter_inr ?_, by simp [leB]⟩
    unfold L_ref02_Put_1
    rw [if_neg (by simp only; omega)]
  | succ k ih =>
    intro i v acc n hi hv ha hn hN
    obtain ⟨n, rfl⟩ : ∃ j, n = j + 1 := ⟨n - 1, by omega⟩
    have wi : IntKind.i64.wrap ((i : Int) + 1) = ((i + 1 : Nat) : Int) := by rw [wrap_i64 (by omega) (by omega)]; omega
    have h1 : remI (v : Int) 256 = some ((v : Int).tmod 256) := by unfold remI; rw [if_neg (by omega)]
    have h2 : app acc [IntKind.u8.wrap ((v : Int).tmod 256)] = some (acc ++ [IntKind.u8.wrap ((v : Int).tmod 256)]) := by
      unfold app; rw [if_pos (by unfold capL; simp; omega)]
    have h3 : quoI .u64 (v : Int) 256 = some (((v / 256 : Nat) : Int)) := by unfold quoI; rw [if_neg (by omega), quo_byte v hv]
    have step : L_ref02_Put_1 (N : Int) ((v : Int), acc, (i : Int)) = some (.inl (((v / 256 : Nat) : Int), acc ++ [IntKind.u8.wrap ((v : Int).tmod 256)], ((i + 1 : Nat) : Int))) := by
      unfold L_ref02_Put_1
      rw [if_pos (by simp only; omega)]
      simp only [h1, h2, h3, Option.bind_some, wi]
    rw [iter_inl step]
    obtain ⟨r, e1, e2⟩ := ih (i + 1) (v / 256) (acc ++ [IntKind.u8.wrap ((v : Int).tmod 256)]) n (by omega) (by omega) (by simp; omega) (by omega) hN
    refine ⟨r, e1, ?_⟩
    rw [e2, List.map_append, List.append_assoc]
    congr 1
    simp only [List.map_cons, List.map_nil, List.singleton_append, leB]
    congr 1
    exact rem_byte v
theorem RPut_nat (v k : Nat) (hv : v < 2 ^ 64) (hk : k ≤ 8) : F_ref02_Put (v : Int) (k : Int) = some (leB v k) := by
  unfold F_ref02_Put
  obtain ⟨r, e1, e2⟩ := L_Put k k 0 v [] NF (by omega) hv (by simp; omega) (by rw [NF_eq]; omega) (by omega)
  rw [show ((0 : Nat) : Int) = 0 from rfl] at e1
  rw [e1]
  simp only [Option.bind_some, e2, List.map_nil, List.nil_append]
theorem RPut_eq (v : Int) (k : Nat) (hk : k ≤ 8) : F_ref02_Put (IntKind.u64.wrap v) (k : Int) = some (put v k) := by
  rw [← u64_nat v]
  exact RPut_nat _ k (by rw [wrap_u64]; omega) hk
theorem RPut2 (v : Int) : F_ref02_Put (IntKind.u64.wrap v) 2 = some (put v 2) := RPut_eq v 2 (by omega)
theorem RPut4 (v : Int) : F_ref02_Put (IntKind.u64.wrap v) 4 = some (put v 4) := RPut_eq v 4 (by omega)
theorem RPut8 (v : Int) : F_ref02_Put (IntKind.u64.wrap v) 8 = some (put v 8) := RPut_eq v 8 (by omega)
end Go.Proofs.YtobhmahlenjheaaM
