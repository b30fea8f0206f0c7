/- Layer 2 in plain terms: what is cut out, read and put. -/
import Derived.Test.YtobhmahlenjheaaHV
import Derived.Test.YtobhmahlenjheaaFieldNum
import Derived.Test.YtobhmahlenjheaaVC
set_option linter.unusedSimpArgs false
set_option linter.unusedVariables false
namespace Go.Proofs.YtobhmahlenjheaaM
open Go Go.RowKit

/-- Bytes at a place; and 0 or 3. -/
def cutOf (s : List UInt8) (a m : Int) : List UInt8 × Int :=
  if a < 0 ∨ m < 0 ∨ a > s.length ∨ m > s.length - a then ([], 3) else ((s.take (a + m).toNat).drop a.toNat, 0)
theorem cut_length (s : List UInt8) (a m : Int) : (cutOf s a m).1.length = 0 ∨ ((cutOf s a m).1.length : Int) = m := by
  unfold cutOf
  split
  · left; rfl
  · right; simp; omega
theorem cut_ok {s : List UInt8} {a m : Int} (h : (cutOf s a m).2 = 0) : 0 ≤ a ∧ 0 ≤ m ∧ a + m ≤ s.length := by
  unfold cutOf at h
  split at h
  · simp at h
  · omega
theorem cut_is {s : List UInt8} {a m : Int} (h1 : 0 ≤ a) (h2 : 0 ≤ m) (h3 : a + m ≤ s.length) : cutOf s a m = ((s.take (a + m).toNat).drop a.toNat, 0) := by
  unfold cutOf
  rw [if_neg (by omega)]
theorem cut_no {s : List UInt8} {a m : Int} (h : ¬ (0 ≤ a ∧ 0 ≤ m ∧ a + m ≤ s.length)) : cutOf s a m = ([], 3) := by
  unfold cutOf
  rw [if_pos (by omega)]
theorem leNum_take_succ (b : List UInt8) : ∀ i (h : i < b.length), leNum (b.take i ++ [b[i]]) = leNum (b.take i) + b[i].toNat * 256 ^ i := by
  induction b with
  | nil => intro i hi; simp at hi
  | cons c b ih =>
    intro i hi
    cases i with
    | zero => simp [leNum]
    | succ i =>
      simp only [List.take_succ_cons, List.cons_append, leNum, List.getElem_cons_succ]
      rw [ih i (by simpa using hi), Nat.mul_add, Nat.add_assoc, Nat.pow_succ]
      congr 2
      rw [Nat.mul_comm (256 ^ i), ← Nat.mul_assoc, ← Nat.mul_assoc, Nat.mul_comm 256]
theorem leNum_drop (b : List UInt8) : ∀ r (h : r < b.length), leNum (b.drop r) = b[r].toNat + 256 * leNum (b.drop (r + 1)) := by
  intro r h
  rw [List.drop_eq_getElem_cons h, leNum]

theorem Cut_eq (s : List UInt8) (a m : Int) (hs : s.length < 1000000000) : F_field_Cut s a m = some ((cutOf s a m).1, (cutOf s a m).2, ()) := by
  unfold F_field_Cut cutOf
  by_cases c1 : a < 0
  · simp [c1]
  by_cases c2 : m < 0
  · simp [c1, c2]
  by_cases c3 : a > s.length
  · simp [c1, c2, c3]
  have w1 : IntKind.i64.wrap (s.length - a) = s.length - a := wrap_i64 (by omega) (by omega)
  by_cases c4 : m > s.length - a
  · simp [c1, c2, c3, c4, w1]
  have w2 : IntKind.i64.wrap (a + m) = a + m := wrap_i64 (by omega) (by omega)
  have sb : subS s a (a + m) = some ((s.take (a + m).toNat).drop a.toNat) := by unfold subS; rw [if_pos (by omega)]
  simp [c1, c2, c3, c4, w1, w2, sb]
theorem RCut_eq (s : List UInt8) (a m : Int) (hs : s.length < 1000000000) : F_ref02_Cut s a m = some ((cutOf s a m).1, (cutOf s a m).2, ()) := Cut_eq s a m hs

/-- The number of so many bytes at a place. -/
def numOf (s : List UInt8) (a m : Int) : Int := (leNum (cutOf s a m).1 : Int)
theorem number_eq (s : List UInt8) (a m : Int) (hs : s.length < 1000000000) (hm : m ≤ 8) : F_field_number s a m = some (numOf s a m, (cutOf s a m).2, ()) := by
  unfold F_field_number
  have hlen := cut_length s a m
  rw [Cut_eq s a m hs]
  simp only [vS]
  unfold numOf
  generalize (cutOf s a m).1 = b at hlen ⊢
  refine vB (iter_take b (by omega) (fun i p => ((leNum p : Int), ((i : Int), ()))) (r := ((leNum b : Int), ())) (fun i hi => ?_) ?_) rfl
  · have hlb : leNum (b.take i) < 256 ^ i := by
      have := leNum_lt (b.take i)
      rwa [List.length_take, Nat.min_eq_left (by omega)] at this
    have w8 : IntKind.i64.wrap (8 * (i : Int)) = ((8 * i : Nat) : Int) := by rw [wrap_i64 (by omega) (by omega)]; omega
    have hsh : shlI .u64 (IntKind.u64.wrap (b[i].toNat : Int)) ((8 * i : Nat) : Int) = some (IntKind.u64.wrap (IntKind.u64.wrap (b[i].toNat : Int) * 2 ^ min (8 * i) 64)) := by
      unfold shlI; rw [if_neg (by omega)]; rfl
    simp only [lt_c hi, vT, idxS_nat hi, vS, w8, hsh, w1 (show i ≤ 1000000 by omega)]
    congr 3
    rw [leNum_take_succ b i hi]
    exact or_byte (leNum (b.take i)) i b[i] (by omega) hlb
  · simp only [ge_c (Nat.lt_irrefl _), vF]
theorem Num_eq (s : List UInt8) (a m : Int) (hs : s.length < 1000000000) (hm : m ≤ 8) : F_ref02_Num s a m = some (numOf s a m, (cutOf s a m).2, ()) := by
  unfold F_ref02_Num
  have hlen := cut_length s a m
  rw [RCut_eq s a m hs]
  simp only [vS]
  unfold numOf
  generalize (cutOf s a m).1 = b at hlen ⊢
  have key : ∀ (i n : Nat), i ≤ b.length → i < n → iter (fun v1 : Int × Int × Unit => bif decide (v1.2.1 ≥ 0) then ((idxS b v1.2.1).bind fun v2 => some (.inl (IntKind.u64.wrap ((IntKind.u64.wrap (256 * v1.1)) + (IntKind.u64.wrap v2)), (IntKind.i64.wrap (v1.2.1 - 1), ())))) else (some (.inr (v1.1, ())))) n ((leNum (b.drop i) : Int), ((i : Int) - 1, ())) = some ((leNum b : Int), ()) := by
    intro i
    induction i with
    | zero =>
      intro n hi hn
      obtain ⟨n, rfl⟩ : ∃ j, n = j + 1 := ⟨n - 1, by omega⟩
      exact iter_inr rfl
    | succ i ih =>
      intro n hi hn
      obtain ⟨n, rfl⟩ : ∃ j, n = j + 1 := ⟨n - 1, by omega⟩
      have hlt := leNum_lt (b.drop (i + 1))
      have hp : (256 : Nat) ^ (b.drop (i + 1)).length ≤ 256 ^ 7 := Nat.pow_le_pow_right (by omega) (by simp; omega)
      have hbt := (b[i]'(by omega)).toNat_lt
      refine (iter_inl ?_).trans (ih n (by omega) (by omega))
      have e1 : ((i + 1 : Nat) : Int) - 1 = (i : Int) := by omega
      have e2 : decide ((i : Int) ≥ 0) = true := decide_eq_true (by omega)
      simp only [e1, e2, vT, idxS_nat (show i < b.length by omega), vS]
      congr 3
      · rw [leNum_drop b i (by omega), wrap_u64, wrap_u64, wrap_u64]
        omega
      · rw [wrap_i64 (by omega) (by omega)]
  have := key b.length NF (Nat.le_refl _) (by rw [NF_eq]; omega)
  simp only [List.drop_length, leNum, Int.natCast_zero] at this
  rw [wrap_i64 (by omega) (by omega)]
  exact vB this rfl

theorem numOf_lt (s : List UInt8) (a : Int) (m : Nat) : 0 ≤ numOf s a m ∧ numOf s a m < ((256 ^ m : Nat) : Int) := by
  unfold numOf
  refine ⟨by omega, ?_⟩
  have h1 := leNum_lt (cutOf s a m).1
  have h2 := cut_length s a m
  have : (256 : Nat) ^ (cutOf s a m).1.length ≤ 256 ^ m := Nat.pow_le_pow_right (by omega) (by omega)
  omega
theorem numOf2 (s : List UInt8) (a : Int) : 0 ≤ numOf s a 2 ∧ numOf s a 2 < 65536 := numOf_lt s a 2
theorem numOf4 (s : List UInt8) (a : Int) : 0 ≤ numOf s a 4 ∧ numOf s a 4 < 4294967296 := numOf_lt s a 4
theorem numOf8 (s : List UInt8) (a : Int) : 0 ≤ numOf s a 8 ∧ numOf s a 8 < 18446744073709551616 := numOf_lt s a 8
theorem U16_eq (s : List UInt8) (a : Int) (hs : s.length < 1000000000) : F_field_U16 s a = some (numOf s a 2, (cutOf s a 2).2, ()) := by
  have := numOf2 s a
  unfold F_field_U16
  refine vB (number_eq s a 2 hs (by omega)) ?_
  simp only []
  rw [wrap_i64 (by omega) (by omega)]
theorem U32_eq (s : List UInt8) (a : Int) (hs : s.length < 1000000000) : F_field_U32 s a = some (numOf s a 4, (cutOf s a 4).2, ()) := by
  have := numOf4 s a
  unfold F_field_U32
  refine vB (number_eq s a 4 hs (by omega)) ?_
  simp only []
  rw [wrap_i64 (by omega) (by omega)]
theorem U64_eq (s : List UInt8) (a : Int) (hs : s.length < 1000000000) : F_field_U64 s a = some (numOf s a 8, (cutOf s a 8).2, ()) := by
  unfold F_field_U64
  exact vB (number_eq s a 8 hs (by omega)) rfl
theorem RU16_eq (s : List UInt8) (a : Int) (hs : s.length < 1000000000) : F_ref02_U16 s a = some (numOf s a 2, ()) := by
  have := numOf2 s a
  unfold F_ref02_U16
  refine vB (Num_eq s a 2 hs (by omega)) ?_
  simp only []
  rw [wrap_i64 (by omega) (by omega)]
theorem RU32_eq (s : List UInt8) (a : Int) (hs : s.length < 1000000000) : F_ref02_U32 s a = some (numOf s a 4, ()) := by
  have := numOf4 s a
  unfold F_ref02_U32
  refine vB (Num_eq s a 4 hs (by omega)) ?_
  simp only []
  rw [wrap_i64 (by omega) (by omega)]

/-! ### Numbers put -/
def putI (v : Int) (j : Nat) : Int := IntKind.u8.wrap (v.fdiv (2 ^ min (8 * j) 64))
theorem byt_putI (m i : Nat) (hi : i < 8) : byt (putI (m : Int) i) = bt m i := shr_byte m i hi
theorem put_eq (m k : Nat) (hk : k ≤ 8) : F_field_put (m : Int) (k : Int) = some (leB m k, ()) := by
  unfold F_field_put
  have h1 : chkSub (min (k : Int) 100000000) (k : Int) (k : Int) = some () := by unfold chkSub; rw [if_pos (by omega)]
  rw [show oMin (k : Int) 100000000 = min (k : Int) 100000000 from rfl, h1, vS]
  have hrep : ((oRep (k : Int) (0 : Int)).length : Int) = (k : Int) := by simp
  refine vB (iter_take (List.range k) (by simp; omega) (fun i p => ((i : Int), (p.map (putI (m : Int)) ++ List.replicate (k - i) 0, ()))) (r := ((List.range k).map (putI (m : Int)), ())) (fun i hi => ?_) ?_) ?_
  · have hi' : i < k := by simpa using hi
    have w8 : IntKind.i64.wrap (8 * (i : Int)) = ((8 * i : Nat) : Int) := by rw [wrap_i64 (by omega) (by omega)]; omega
    have h2 : shrI (m : Int) .u64 ((8 * i : Nat) : Int) = some ((m : Int).fdiv (2 ^ min (8 * i) 64)) := by unfold shrI; rw [if_neg (by omega)]; rfl
    have hlen : ((List.range k).take i).length = i := by simp; omega
    have h3 : idxL (((List.range k).take i).map (putI (m : Int)) ++ List.replicate (k - i) 0) (i : Int) = some 0 := by
      rw [idxL_nat (by simp; omega), List.getElem_append_right (by simp; omega)]
      simp
    have h4 : decide ((i : Int) < ((oRep (k : Int) (0 : Int)).length : Int)) = true := decide_eq_true (by rw [hrep]; omega)
    simp only [h4, vT, w8, h2, vS, h3, w1 (show i ≤ 1000000 by omega)]
    congr 3
    show ((((List.range k).take i).map (putI (m : Int)) ++ List.replicate (k - i) 0).set (i : Int).toNat (putI (m : Int) i), ()) = _
    have h5 : (List.range k)[i] = i := by simp
    rw [h5, Int.toNat_natCast, List.set_append_right _ _ (by simp; omega), List.length_map, hlen, Nat.sub_self, show k - i = (k - (i + 1)) + 1 by omega, List.replicate_succ, List.set_cons_zero]
    simp
  · have h4 : decide (((List.range k).length : Int) < ((oRep (k : Int) (0 : Int)).length : Int)) = false := decide_eq_false (by rw [hrep]; simp)
    simp only [h4, vF]
    simp
  · simp only []
    show some (((List.range k).map (putI (m : Int))).map byt, ()) = _
    rw [leB_bt, List.map_map]
    congr 2
    apply List.map_congr_left
    intro j hj
    rw [List.mem_range] at hj
    exact byt_putI m j (by omega)

/-- The lowest bytes of a number. -/
def put (v : Int) (k : Nat) : List UInt8 := leB (IntKind.u64.wrap v).toNat k
theorem put_len (v : Int) (k : Nat) : (put v k).length = k := leB_length _ _
theorem u64_nat (v : Int) : ((IntKind.u64.wrap v).toNat : Int) = IntKind.u64.wrap v := by rw [wrap_u64]; omega
theorem fput_eq (v : Int) (k : Nat) (hk : k ≤ 8) : F_field_put (IntKind.u64.wrap v) (k : Int) = some (put v k, ()) := by
  rw [← u64_nat v, put_eq _ k hk]; rfl
theorem P16_eq (v : Int) : F_field_P16 v = some (put v 2, ()) := by
  unfold F_field_P16; exact vB (fput_eq v 2 (by omega)) rfl
theorem P32_eq (v : Int) : F_field_P32 v = some (put v 4, ()) := by
  unfold F_field_P32; exact vB (fput_eq v 4 (by omega)) rfl
theorem P64_eq (v : Int) : F_field_P64 (IntKind.u64.wrap v) = some (put v 8, ()) := by
  unfold F_field_P64; exact vB (fput_eq v 8 (by omega)) rfl
theorem RPut_nat (v k : Nat) (hv : v < 2 ^ 64) (hk : k ≤ 8) : F_ref02_Put (v : Int) (k : Int) = some (leB v k, ()) := by
  unfold F_ref02_Put
  have key : ∀ (d i : Nat) (v : Nat) (acc : List Int) (n : Nat), i + d = k → v < 2 ^ 64 → acc.length ≤ i → d < n →
      ∃ r, iter (fun v0 : Int × Int × List Int × Unit => bif decide (v0.2.1 < (k : Int)) then ((remI v0.1 (256 : Int)).bind fun v1 => (app v0.2.2.1 [IntKind.u8.wrap v1]).bind fun v2 => (quoI .u64 v0.1 256).bind fun v3 => some (.inl (v3, (IntKind.i64.wrap (v0.2.1 + 1), (v2, ()))))) else (some (.inr v0.2.2))) n ((v : Int), ((i : Int), (acc, ()))) = some (r, ()) ∧ r.map byt = acc.map byt ++ leB v d := by
    intro d
    induction d with
    | zero =>
      intro i v acc n hi hv ha hn
      obtain ⟨n, rfl⟩ : ∃ j, n = j + 1 := ⟨n - 1, by omega⟩
      refine ⟨acc, iter_inr ?_, by simp [leB]⟩
      simp only [ge_c (show ¬ i < k by omega), vF]
    | succ d ih =>
      intro i v acc n hi hv ha hn
      obtain ⟨n, rfl⟩ : ∃ j, n = j + 1 := ⟨n - 1, by omega⟩
      have h1 : remI (v : Int) 256 = some ((v : Int).tmod 256) := by unfold remI; rw [if_neg (by omega)]
      have h3 : quoI .u64 (v : Int) 256 = some (((v / 256 : Nat) : Int)) := by unfold quoI; rw [if_neg (by omega), quo_byte v hv]
      obtain ⟨r, e1, e2⟩ := ih (i + 1) (v / 256) (acc ++ [IntKind.u8.wrap ((v : Int).tmod 256)]) n (by omega) (by omega) (by simp; omega) (by omega)
      refine ⟨r, (iter_inl ?_).trans e1, ?_⟩
      · simp only [lt_c (show i < k by omega), vT, h1, vS, app1 (show acc.length ≤ 1000000 by omega), h3, w1 (show i ≤ 1000000 by omega)]
      · rw [e2, List.map_append, List.append_assoc]
        congr 1
        simp only [List.map_cons, List.map_nil, List.singleton_append, leB]
        congr 1
        exact rem_byte v
  obtain ⟨r, e1, e2⟩ := key k 0 v [] NF (by omega) hv (by simp) (by rw [NF_eq]; omega)
  refine vB e1 ?_
  show some (r.map byt, ()) = _
  rw [e2]; rfl
theorem RPut_eq (v : Int) (k : Nat) (hk : k ≤ 8) : F_ref02_Put (IntKind.u64.wrap v) (k : Int) = some (put v k, ()) := by
  rw [← u64_nat v]
  exact RPut_nat _ k (by rw [wrap_u64]; omega) hk
theorem RPut2 (v : Int) : F_ref02_Put (IntKind.u64.wrap v) 2 = some (put v 2, ()) := RPut_eq v 2 (by omega)
theorem RPut4 (v : Int) : F_ref02_Put (IntKind.u64.wrap v) 4 = some (put v 4, ()) := RPut_eq v 4 (by omega)
theorem RPut8 (v : Int) : F_ref02_Put (IntKind.u64.wrap v) 8 = some (put v 8, ()) := RPut_eq v 8 (by omega)
end Go.Proofs.YtobhmahlenjheaaM
