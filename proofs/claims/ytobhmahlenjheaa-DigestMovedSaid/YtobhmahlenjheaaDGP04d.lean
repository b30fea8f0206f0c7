/- Layer 4 in plain terms: the document's roots. -/
import Derived.Test.YtobhmahlenjheaaDGP04
set_option linter.unusedSimpArgs false
set_option linter.unusedVariables false
namespace Go.Proofs.YtobhmahlenjheaaM
open Go Go.RowKit

/-- The number of digits to the base 2^16, the lowest first. -/
def dval : List Int → Nat
  | [] => 0
  | d :: l => d.toNat + 65536 * dval l
def DG (l : List Int) : Prop := ∀ d ∈ l, 0 ≤ d ∧ d < 65536
theorem DG.tail {d : Int} {l : List Int} (h : DG (d :: l)) : DG l := fun x hx => h x (List.mem_cons_of_mem _ hx)
theorem DG.head {d : Int} {l : List Int} (h : DG (d :: l)) : 0 ≤ d ∧ d < 65536 := h d (List.mem_cons_self ..)
theorem DG.get {l : List Int} (h : DG l) (j : Nat) : 0 ≤ l.getD j 0 ∧ l.getD j 0 < 65536 := by
  by_cases hj : j < l.length
  · have := h l[j] (List.getElem_mem _)
    rw [List.getD_eq_getElem?_getD, List.getElem?_eq_getElem hj]; exact this
  · rw [List.getD_eq_getElem?_getD, List.getElem?_eq_none (by omega)]; simp
theorem DG.set {l : List Int} (h : DG l) (j : Nat) {v : Int} (hv : 0 ≤ v ∧ v < 65536) : DG (l.set j v) := fun x hx => by
  rcases List.mem_or_eq_of_mem_set hx with h1 | rfl
  · exact h x h1
  · exact hv
theorem DG.rep (n : Nat) : DG (List.replicate n 0) := fun x hx => by rw [List.eq_of_mem_replicate hx]; omega
theorem dval_lt {l : List Int} (h : DG l) : dval l < 65536 ^ l.length := by
  induction l with
  | nil => simp [dval]
  | cons d l ih =>
    have h1 := ih h.tail
    have h2 := h.head
    rw [dval, List.length_cons, Nat.pow_succ]
    omega
theorem dval_rep (n : Nat) : dval (List.replicate n 0) = 0 := by
  induction n with
  | zero => rfl
  | succ n ih => rw [List.replicate_succ, dval, ih]; rfl
theorem dval_drop (l : List Int) (i : Nat) : dval (l.drop i) = (l.getD i 0).toNat + 65536 * dval (l.drop (i + 1)) := by
  by_cases hi : i < l.length
  · rw [List.drop_eq_getElem_cons hi, dval, List.getD_eq_getElem?_getD, List.getElem?_eq_getElem hi]; rfl
  · rw [List.drop_of_length_le (by omega), List.drop_of_length_le (by omega), List.getD_eq_getElem?_getD, List.getElem?_eq_none (by omega)]; rfl
theorem dval_split (l : List Int) : ∀ i, dval l = dval (l.take i) + 65536 ^ i * dval (l.drop i) := by
  induction l with
  | nil => intro i; simp [dval]
  | cons d l ih =>
    intro i
    cases i with
    | zero => simp [dval]
    | succ i =>
      simp only [List.take_succ_cons, List.drop_succ_cons, dval]
      have e : 65536 ^ (i + 1) * dval (l.drop i) = 65536 * (65536 ^ i * dval (l.drop i)) := by rw [Nat.pow_succ, Nat.mul_comm (65536 ^ i) 65536, Nat.mul_assoc]
      rw [ih i, e]
      omega
theorem dval_set (l : List Int) : ∀ (j : Nat) (v : Int), j < l.length → dval (l.set j v) + 65536 ^ j * (l.getD j 0).toNat = dval l + 65536 ^ j * v.toNat := by
  induction l with
  | nil => intro j v h; simp at h
  | cons d l ih =>
    intro j v h
    cases j with
    | zero => simp [dval]; omega
    | succ j =>
      have := ih j v (by simpa using h)
      simp only [List.set_cons_succ, dval, List.getD_cons_succ]
      have e : ∀ x : Nat, 65536 ^ (j + 1) * x = 65536 * (65536 ^ j * x) := fun x => by rw [Nat.pow_succ, Nat.mul_comm (65536 ^ j) 65536, Nat.mul_assoc]
      rw [e, e]
      omega
theorem idx_get' (l : List Int) (j : Nat) (z : Int) (hz : z = (j : Int)) (hj : j < l.length) : idxL l z = some (l.getD j 0) := by subst hz; exact idx_get l j hj
theorem set_get (l : List Int) (j : Nat) (z v : Int) (hz : z = (j : Int)) (hj : j < l.length) : setL l z v = some (l.set j v) := by
  subst hz; unfold setL; rw [if_pos (by omega), Int.toNat_natCast]

section
variable (a b : List Int) (ha : DG a) (hb : DG b) (hla : a.length ≤ 1000) (hlb : b.length ≤ 1000)
include ha hb hla hlb
theorem times_in (i : Nat) (hi : i < a.length) (T : Nat) (hT : T < 65536 ^ (i + b.length + 1)) : ∀ (n : Nat) (out : List Int) (k : Nat) (c : Nat), DG out → out.length = a.length + b.length + 1 → c < 65536 → k ≤ b.length + 1 → b.length + 2 - k < n →
    dval out + 65536 ^ (i + k) * (c + (a.getD i 0).toNat * dval (b.drop k)) = T →
    ∃ out', iter (L_ref04_times_2 b a) n (out, (i : Int), (c : Int), (k : Int)) = some (out', (i : Int)) ∧ DG out' ∧ out'.length = out.length ∧ dval out' = T := by
  intro n
  induction n with
  | zero => intro out k c _ _ _ _ h; omega
  | succ n ih =>
    intro out k c hd hl hc hk hn hv
    have hai := ha.get i
    have hbk := hb.get k
    by_cases hcond : k < b.length ∨ 0 < c
    · have hkb : k ≤ b.length := by
        rcases hcond with h | h
        · omega
        · rcases Nat.lt_or_ge b.length k with h2 | h2
          · exfalso
            have : 65536 ^ (i + b.length + 1) ≤ 65536 ^ (i + k) := Nat.pow_le_pow_right (by omega) (by omega)
            have h3 : 65536 ^ (i + k) * 1 ≤ 65536 ^ (i + k) * (c + (a.getD i 0).toNat * dval (b.drop k)) := Nat.mul_le_mul_left _ (by omega)
            omega
          · exact h2
      have hj : i + k < out.length := by omega
      have hok := hd.get (i + k)
      have hmul : (a.getD i 0).toNat * (b.getD k 0).toNat ≤ 65535 * 65535 := Nat.mul_le_mul (by omega) (by omega)
      generalize hx : (out.getD (i + k) 0).toNat + (a.getD i 0).toNat * (b.getD k 0).toNat + c = x at *
      have hx2 : x < 4294967296 := by omega
      have step : L_ref04_times_2 b a (out, (i : Int), (c : Int), (k : Int)) = some (.inl (out.set (i + k) ((x % 65536 : Nat) : Int), (i : Int), ((x / 65536 : Nat) : Int), ((k + 1 : Nat) : Int))) := by
        unfold L_ref04_times_2
        have hj1 : (((if (k : Int) < (b.length : Int) then some true else some (decide ((c : Int) > 0))) : Option Bool)) = some true := by
          by_cases h : k < b.length
          · rw [if_pos (by omega)]
          · rw [if_neg (by omega), decide_eq_true (by omega)]
        have hj2 : (((if (k : Int) < (b.length : Int) then (idxL b (k : Int)).bind fun x207 => some x207 else some 0) : Option Int)) = some (b.getD k 0) := by
          by_cases h : k < b.length
          · rw [if_pos (by omega), idx_get b k h]; rfl
          · rw [if_neg (by omega), List.getD_eq_getElem?_getD, List.getElem?_eq_none (by omega)]; rfl
        simp only
        rw [hj1, Option.bind_some, if_pos rfl, hj2, Option.bind_some, idx_get' out (i + k) _ (by rw [wrap_i64 (by omega) (by omega)]; omega) hj, Option.bind_some, idx_get a i hi, Option.bind_some]
        have e1 : IntKind.u64.wrap (a.getD i 0 * b.getD k 0) = (((a.getD i 0).toNat * (b.getD k 0).toNat : Nat) : Int) := by
          have : a.getD i 0 * b.getD k 0 = (((a.getD i 0).toNat * (b.getD k 0).toNat : Nat) : Int) := by
            push_cast; rw [Int.toNat_of_nonneg hai.1, Int.toNat_of_nonneg hbk.1]
          rw [this, wrap_u64]; omega
        have e2 : IntKind.u64.wrap (IntKind.u64.wrap (out.getD (i + k) 0 + IntKind.u64.wrap (a.getD i 0 * b.getD k 0)) + (c : Int)) = (x : Int) := by
          rw [e1, wrap_u64, wrap_u64]; omega
        rw [e2]
        have e3 : remI (x : Int) 65536 = some ((x % 65536 : Nat) : Int) := by unfold remI; rw [if_neg (by decide), Int.tmod_eq_emod_of_nonneg (by omega)]; congr 1
        have e4 : quoI .u64 (x : Int) 65536 = some ((x / 65536 : Nat) : Int) := by
          unfold quoI; rw [if_neg (by decide), Int.tdiv_eq_ediv_of_nonneg (by omega), wrap_u64]; congr 1; omega
        rw [e3, Option.bind_some, set_get out (i + k) _ _ (by rw [wrap_i64 (by omega) (by omega)]; omega) hj, Option.bind_some, e4, Option.bind_some, wrap_i64 (n := (k : Int) + 1) (by omega) (by omega)]
        rfl
      rw [iter_inl step]
      have hs := dval_set out (i + k) ((x % 65536 : Nat) : Int) hj
      rw [Int.toNat_natCast] at hs
      obtain ⟨o2, r1, r2, r3, r4⟩ := ih (out.set (i + k) ((x % 65536 : Nat) : Int)) (k + 1) (x / 65536) (hd.set _ ⟨by omega, by omega⟩) (by simpa using hl) (by omega) (by omega) (by omega) (by
        rw [← hv, dval_drop b k]
        have hp : 65536 ^ (i + (k + 1)) = 65536 * 65536 ^ (i + k) := by rw [← Nat.add_assoc, Nat.pow_succ, Nat.mul_comm]
        rw [hp]
        generalize 65536 ^ (i + k) = B at *
        generalize (a.getD i 0).toNat = A at *
        generalize (b.getD k 0).toNat = D at *
        generalize dval (b.drop (k + 1)) = V at *
        generalize (out.getD (i + k) 0).toNat = O at *
        have e5 : 65536 * B * (x / 65536 + A * V) = B * (65536 * (x / 65536)) + B * (65536 * (A * V)) := by simp only [Nat.mul_add, Nat.mul_comm, Nat.mul_left_comm]
        have e6 : A * (D + 65536 * V) = A * D + 65536 * (A * V) := by rw [Nat.mul_add, Nat.mul_left_comm]
        have e7 : B * (65536 * (x / 65536)) + B * (x % 65536) = B * x := by rw [← Nat.mul_add, Nat.div_add_mod]
        have e8 : B * x = B * O + B * (A * D) + B * c := by rw [← hx, Nat.mul_add, Nat.mul_add]
        have e9 : B * (c + (A * D + 65536 * (A * V))) = B * c + (B * (A * D) + B * (65536 * (A * V))) := by rw [Nat.mul_add, Nat.mul_add]
        rw [e5, e6, e9]
        omega)
      exact ⟨o2, r1, r2, by rw [r3]; simp, r4⟩
    · have hk2 : b.length ≤ k := by omega
      have hc0 : c = 0 := by omega
      subst hc0
      refine ⟨out, iter_inr ?_, hd, rfl, ?_⟩
      · unfold L_ref04_times_2
        simp only
        rw [if_neg (by omega), decide_eq_false (by omega), Option.bind_some, if_neg (by decide)]
      · rw [List.drop_of_length_le hk2] at hv
        simpa [dval] using hv
theorem times_out : ∀ (d i n : Nat) (out : List Int), i + d = a.length → d < n → DG out → out.length = a.length + b.length + 1 → dval out = dval (a.take i) * dval b →
    ∃ out', iter (L_ref04_times_1 a b) n (out, (i : Int)) = some out' ∧ DG out' ∧ out'.length = a.length + b.length + 1 ∧ dval out' = dval a * dval b := by
  intro d
  induction d with
  | zero =>
    intro i n out hi hn hd hl hv
    obtain ⟨n, rfl⟩ : ∃ j, n = j + 1 := ⟨n - 1, by omega⟩
    refine ⟨out, iter_inr ?_, hd, hl, by rw [hv, List.take_of_length_le (by omega)]⟩
    unfold L_ref04_times_1
    rw [if_neg (by simp only; omega)]
  | succ d ih =>
    intro i n out hi hn hd hl hv
    obtain ⟨n, rfl⟩ : ∃ j, n = j + 1 := ⟨n - 1, by omega⟩
    have hti : dval (a.take (i + 1)) = dval (a.take i) + 65536 ^ i * (a.getD i 0).toNat := by
      have h1 := dval_split (a.take (i + 1)) i
      rw [List.take_take, Nat.min_eq_left (by omega), dval_drop, List.drop_of_length_le (l := a.take (i + 1)) (by simp; omega), List.getD_eq_getElem?_getD, List.getElem?_take, if_pos (by omega), ← List.getD_eq_getElem?_getD] at h1
      simpa [dval] using h1
    have hT : dval (a.take (i + 1)) * dval b < 65536 ^ (i + b.length + 1) := by
      have hda : DG (a.take (i + 1)) := fun x hx => ha x (List.mem_of_mem_take hx)
      have h1 := dval_lt hda
      have h2 := dval_lt hb
      rw [List.length_take, Nat.min_eq_left (by omega)] at h1
      have : dval (a.take (i + 1)) * dval b < 65536 ^ (i + 1) * 65536 ^ b.length := Nat.mul_lt_mul'' h1 h2
      rw [← Nat.pow_add] at this
      rw [show i + b.length + 1 = i + 1 + b.length by omega]
      exact this
    obtain ⟨o2, r1, r2, r3, r4⟩ := times_in a b ha hb hla hlb i (by omega) _ hT NF out 0 0 hd hl (by omega) (by omega) (by rw [NF_eq]; omega) (by
      rw [hv, hti, Nat.add_mul, Nat.zero_add, Nat.add_zero, List.drop_zero, Nat.mul_assoc])
    have step : L_ref04_times_1 a b (out, (i : Int)) = some (.inl (o2, ((i + 1 : Nat) : Int))) := by
      unfold L_ref04_times_1
      simp only
      rw [if_pos (by omega)]
      erw [r1]
      rw [Option.bind_some, wrap_i64 (n := (i : Int) + 1) (by omega) (by omega)]
      rfl
    rw [iter_inl step]
    exact ih (i + 1) n o2 (by omega) (by omega) r2 (by omega) r4
theorem times_eq : ∃ r, F_ref04_times a b = some r ∧ DG r ∧ r.length = a.length + b.length + 1 ∧ dval r = dval a * dval b := by
  obtain ⟨o, r1, r2, r3, r4⟩ := times_out a b ha hb hla hlb a.length 0 NF (List.replicate (a.length + b.length + 1) 0) (by omega) (by rw [NF_eq]; omega) (DG.rep _) (by simp) (by rw [dval_rep, List.take_zero, dval, Nat.zero_mul])
  refine ⟨o, ?_, r2, r3, r4⟩
  unfold F_ref04_times
  have hm : mkL (0 : Int) (IntKind.i64.wrap (IntKind.i64.wrap ((a.length : Int) + (b.length : Int)) + 1)) = some (List.replicate (a.length + b.length + 1) 0) := by
    rw [wrap_i64 (n := (a.length : Int) + (b.length : Int)) (by omega) (by omega), wrap_i64 (by omega) (by omega)]
    unfold mkL
    rw [if_pos (by unfold capL; omega), show ((a.length : Int) + (b.length : Int) + 1).toNat = a.length + b.length + 1 by omega]
  rw [hm, Option.bind_some]
  erw [r1]
  rfl
end

theorem atMost_loop (a b : List Int) (ha : DG a) (hb : DG b) : ∀ (n i : Nat), i < n → i < 1000000 → dval (a.drop i) = dval (b.drop i) →
    ∃ q, iter (L_ref04_atMost_1 a b) n ((i : Int) - 1) = some q ∧ sumK q (fun t84 => some true) (fun t87 => some t87) = some (decide (dval a ≤ dval b)) := by
  intro n
  induction n with
  | zero => intro i h; omega
  | succ n ih =>
    intro i hn hm he
    cases i with
    | zero =>
      refine ⟨.inl (), iter_inr ?_, ?_⟩
      · unfold L_ref04_atMost_1
        rw [if_neg (by omega)]
      · rw [List.drop_zero, List.drop_zero] at he
        simp [sumK, he]
    | succ i =>
      have e1 : (((if (((i + 1 : Nat) : Int) - 1) < (a.length : Int) then (idxL a (((i + 1 : Nat) : Int) - 1)).bind fun x54 => some x54 else some 0) : Option Int)) = some (a.getD i 0) := by
        by_cases h : i < a.length
        · rw [if_pos (by omega), idx_get' a i _ (by omega) h]; rfl
        · rw [if_neg (by omega), List.getD_eq_getElem?_getD, List.getElem?_eq_none (by omega)]; rfl
      have e2 : (((if (((i + 1 : Nat) : Int) - 1) < (b.length : Int) then (idxL b (((i + 1 : Nat) : Int) - 1)).bind fun x67 => some x67 else some 0) : Option Int)) = some (b.getD i 0) := by
        by_cases h : i < b.length
        · rw [if_pos (by omega), idx_get' b i _ (by omega) h]; rfl
        · rw [if_neg (by omega), List.getD_eq_getElem?_getD, List.getElem?_eq_none (by omega)]; rfl
      by_cases hx : a.getD i 0 = b.getD i 0
      · have step : L_ref04_atMost_1 a b (((i + 1 : Nat) : Int) - 1) = some (.inl ((i : Int) - 1)) := by
          unfold L_ref04_atMost_1
          rw [if_pos (by omega), e1, Option.bind_some, e2, Option.bind_some, hx, if_neg (by simp), wrap_i64 (by omega) (by omega)]
          congr 2
          omega
        rw [iter_inl step]
        exact ih i (by omega) (by omega) (by rw [dval_drop a, dval_drop b, hx, he])
      · refine ⟨.inr (decide (a.getD i 0 < b.getD i 0)), iter_inr ?_, ?_⟩
        · unfold L_ref04_atMost_1
          rw [if_pos (by omega), e1, Option.bind_some, e2, Option.bind_some, if_pos (by simpa using hx)]
        · simp only [sumK]
          congr 1
          have h1 := dval_split a i
          have h2 := dval_split b i
          rw [dval_drop a i] at h1
          rw [dval_drop b i] at h2
          rw [he] at h1
          have l1 := dval_lt (l := a.take i) (fun x hx => ha x (List.mem_of_mem_take hx))
          have l2 := dval_lt (l := b.take i) (fun x hx => hb x (List.mem_of_mem_take hx))
          have p1 : 65536 ^ (a.take i).length ≤ 65536 ^ i := Nat.pow_le_pow_right (by omega) (by simp; omega)
          have p2 : 65536 ^ (b.take i).length ≤ 65536 ^ i := Nat.pow_le_pow_right (by omega) (by simp; omega)
          have ga := ha.get i
          have gb := hb.get i
          generalize dval (b.drop (i + 1)) = V at *
          generalize dval (a.take i) = la at *
          generalize dval (b.take i) = lb at *
          generalize 65536 ^ i = B at *
          obtain ⟨x, hxx⟩ : ∃ x : Nat, a.getD i 0 = x := ⟨(a.getD i 0).toNat, by omega⟩
          obtain ⟨y, hyy⟩ : ∃ y : Nat, b.getD i 0 = y := ⟨(b.getD i 0).toNat, by omega⟩
          rw [hxx, hyy] at hx
          rw [hxx, Int.toNat_natCast] at h1
          rw [hyy, Int.toNat_natCast] at h2
          rw [hxx, hyy, h1, h2]
          have key : ∀ u v : Nat, u < v → B * (u + 65536 * V) + B ≤ B * (v + 65536 * V) := fun u v huv => by
            have : B * (u + 65536 * V) + B = B * (u + 1 + 65536 * V) := by rw [show u + 1 + 65536 * V = (u + 65536 * V) + 1 by omega]; exact (Nat.mul_succ B _).symm
            rw [this]
            exact Nat.mul_le_mul_left _ (by omega)
          by_cases hlt : x < y
          · have := key x y hlt
            rw [decide_eq_true (by omega), decide_eq_true (by omega)]
          · have := key y x (by omega)
            rw [decide_eq_false (by omega), decide_eq_false (by omega)]
theorem atMost_eq (a b : List Int) (ha : DG a) (hb : DG b) (hl : a.length + b.length ≤ 10000) : F_ref04_atMost a b = some (decide (dval a ≤ dval b)) := by
  unfold F_ref04_atMost
  obtain ⟨q, h1, h2⟩ := atMost_loop a b ha hb NF (a.length + b.length + 1) (by rw [NF_eq]; omega) (by omega) (by rw [List.drop_of_length_le (by omega), List.drop_of_length_le (by omega)])
  rw [wrap_i64 (by omega) (by omega), show (a.length : Int) + (b.length : Int) = ((a.length + b.length + 1 : Nat) : Int) - 1 by omega, h1, Option.bind_some]
  exact h2
theorem digits_eq (n : Nat) (hn : n < 18446744073709551616) : ∃ r, F_ref04_digits (n : Int) = some r ∧ DG r ∧ r.length = 4 ∧ dval r = n := by
  refine ⟨[((n % 65536 : Nat) : Int), ((n / 65536 % 65536 : Nat) : Int), ((n / 4294967296 % 65536 : Nat) : Int), ((n / 281474976710656 : Nat) : Int)], ?_, ?_, rfl, ?_⟩
  · unfold F_ref04_digits
    have rem : ∀ m : Nat, remI (m : Int) 65536 = some ((m % 65536 : Nat) : Int) := fun m => by unfold remI; rw [if_neg (by decide), Int.tmod_eq_emod_of_nonneg (by omega)]; congr 1
    have quo : ∀ (m : Nat), m < 18446744073709551616 → ∀ d : Nat, 0 < d → quoI .u64 (m : Int) (d : Int) = some ((m / d : Nat) : Int) := fun m hm d hd => by
      unfold quoI
      rw [if_neg (by omega), Int.tdiv_eq_ediv_of_nonneg (by omega), wrap_u64, show ((m : Int) / (d : Int)) = ((m / d : Nat) : Int) from (Int.natCast_ediv m d).symm]
      have : m / d ≤ m := Nat.div_le_self _ _
      generalize m / d = q at *
      congr 1
      omega
    have q1 := quo n hn 65536 (by omega)
    have q2 := quo n hn 4294967296 (by omega)
    have q3 := quo n hn 281474976710656 (by omega)
    rw [rem, Option.bind_some]
    erw [q1]
    rw [Option.bind_some, rem, Option.bind_some]
    erw [q2]
    rw [Option.bind_some, rem, Option.bind_some]
    erw [q3]
    rfl
  · intro d hd
    simp only [List.mem_cons, List.mem_nil_iff, or_false] at hd
    rcases hd with rfl | rfl | rfl | rfl <;> omega
  · simp only [dval, Int.toNat_natCast]
    omega
end Go.Proofs.YtobhmahlenjheaaM
