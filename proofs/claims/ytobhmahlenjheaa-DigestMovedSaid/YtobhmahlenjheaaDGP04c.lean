/- Layer 4 in plain terms: the key of any bytes. -/
import Derived.Test.YtobhmahlenjheaaDGP04e
set_option linter.unusedSimpArgs false
set_option linter.unusedVariables false
namespace Go.Proofs.YtobhmahlenjheaaM
open Go Go.RowKit

/-- A number's bytes, the highest first. -/
def be (n size : Nat) : List UInt8 := (List.range size).map fun t => byt (((n / 256 ^ (size - 1 - t)) % 256 : Nat) : Int)
theorem be_length (n size : Nat) : (be n size).length = size := by simp [be]
theorem high_eq (n size : Nat) (hn : n < 18446744073709551616) (hs : size ≤ 8) : F_sha_high (n : Int) (size : Int) = some (be n size) := by
  unfold F_sha_high
  have hm : mkL (0 : Int) (size : Int) = some (List.replicate size 0) := by
    unfold mkL; rw [if_pos (by unfold capL; omega), Int.toNat_natCast]
  let f : Nat → Int := fun t => (((n / 256 ^ (size - 1 - t)) % 256 : Nat) : Int)
  have h1 := iter_nat (step := L_sha_high_1 (List.replicate size 0) (n : Int) (size : Int)) (fun i => ((List.range i).map f ++ List.replicate (size - i) 0, (i : Int))) (r := (List.range size).map f) size
    (by unfold L_sha_high_1; simp only; rw [if_neg (by simp), Nat.sub_self]; simp) size 0 NF (by omega) (fun i _ hi => by
      unfold L_sha_high_1
      simp only
      have e : size - i = (size - (i + 1)) + 1 := by omega
      have hsh : shrI (n : Int) .u64 ((8 * (size - 1 - i) : Nat) : Int) = some ((n / 256 ^ (size - 1 - i) : Nat) : Int) := by
        unfold shrI
        rw [if_neg (by omega), show min (((8 * (size - 1 - i) : Nat) : Int)).toNat (IntKind.u64).bits = 8 * (size - 1 - i) by simp only [IntKind.bits]; omega, show ((2 : Int) ^ (8 * (size - 1 - i))) = ((2 ^ (8 * (size - 1 - i)) : Nat) : Int) by push_cast; rfl, Int.fdiv_eq_ediv_of_nonneg _ (Int.natCast_nonneg _), Nat.pow_mul, show (2 ^ 8 : Nat) = 256 by decide]
        rfl
      rw [if_pos (by simp; omega), wrap_i64 (n := (size : Int) - 1) (by omega) (by omega), wrap_i64 (n := (size : Int) - 1 - (i : Int)) (by omega) (by omega), wrap_i64 (n := 8 * ((size : Int) - 1 - (i : Int))) (by omega) (by omega), show 8 * ((size : Int) - 1 - (i : Int)) = ((8 * (size - 1 - i) : Nat) : Int) by omega, hsh, Option.bind_some,
        idx_get _ i (by simp; omega), Option.bind_some, set_get _ i _ _ rfl (by simp; omega), Option.bind_some, wrap_i64 (n := (i : Int) + 1) (by omega) (by omega)]
      congr 3
      rw [List.set_append_right _ _ (by simp), e, List.replicate_succ, List.range_succ, List.map_append, List.append_assoc]
      simp only [List.length_map, List.length_range, Nat.sub_self, List.set_cons_zero, List.map_cons, List.map_nil, List.singleton_append]
      congr 2) (by rw [NF_eq]; omega)
  rw [hm, Option.bind_some]
  simp only [List.range_zero, List.map_nil, List.nil_append, Nat.sub_zero] at h1
  erw [h1]
  rw [Option.bind_some, List.map_map]
  rfl

/-- What comes behind: a one, zeros, how many bits. -/
def padZ (n : Nat) : Nat := (119 - n % 64) % 64
def pad (s : List UInt8) : List UInt8 := s ++ [128] ++ List.replicate (padZ s.length) 0 ++ be (8 * s.length) 8
theorem pad_length (s : List UInt8) : (pad s).length % 64 = 0 ∧ (pad s).length ≤ s.length + 73 := by
  unfold pad padZ; simp [be_length]; omega
theorem padded_eq (s : List UInt8) (hs : s.length ≤ 1000000) : F_ref04_padded s = some (pad s) := by
  unfold F_ref04_padded
  have h1 := iter_nat (step := L_ref04_padded_1) (fun j => s ++ [128] ++ List.replicate j 0) (r := s ++ [128] ++ List.replicate (padZ s.length) 0) (padZ s.length)
    (by
      unfold L_ref04_padded_1
      have : remI (((s ++ [128] ++ List.replicate (padZ s.length) 0).length : Nat) : Int) 64 = some 56 := by
        unfold remI
        rw [if_neg (by decide), Int.tmod_eq_emod_of_nonneg (by omega)]
        congr 1
        unfold padZ; simp; omega
      rw [this, Option.bind_some, if_neg (by decide)]) (padZ s.length) 0 NF (by omega) (fun j _ hj => by
      unfold L_ref04_padded_1
      have hj2 : (s.length + 1 + j) % 64 ≠ 56 := by unfold padZ at hj; omega
      have : remI (((s ++ [128] ++ List.replicate j 0).length : Nat) : Int) 64 = some (((s.length + 1 + j) % 64 : Nat) : Int) := by
        unfold remI
        rw [if_neg (by decide), Int.tmod_eq_emod_of_nonneg (by omega)]
        congr 1
        simp
        omega
      rw [this, Option.bind_some, if_pos (by simp; omega), cat_eq _ _ (by unfold padZ at hj; simp; omega), Option.bind_some, List.append_assoc _ _ [0], List.replicate_succ']) (by rw [NF_eq]; unfold padZ; omega)
  have hm : mkL (0 : Int) 8 = some (List.replicate 8 0) := rfl
  let N := 8 * s.length
  let f : Nat → Int := fun t => (((N / 256 ^ (7 - t)) % 256 : Nat) : Int)
  have h2 := iter_nat (step := L_ref04_padded_2) (fun j => (((N / 256 ^ j : Nat) : Int), List.replicate (8 - j) 0 ++ (List.range j).map (fun t => f (8 - j + t)), (7 : Int) - j)) (r := (List.range 8).map f) 8
    (by unfold L_ref04_padded_2; simp only; rw [if_neg (by decide)]; simp) 8 0 NF (by omega) (fun j _ hj => by
      unfold L_ref04_padded_2
      have e : 8 - j = (8 - (j + 1)) + 1 := by omega
      have hle : N / 256 ^ j ≤ N := Nat.div_le_self _ _
      have hN : N ≤ 8000000 := by show 8 * s.length ≤ 8000000; omega
      have hrem : remI ((N / 256 ^ j : Nat) : Int) 256 = some ((N / 256 ^ j % 256 : Nat) : Int) := by unfold remI; rw [if_neg (by decide), Int.tmod_eq_emod_of_nonneg (Int.natCast_nonneg _)]; rfl
      have hquo : quoI .u64 ((N / 256 ^ j : Nat) : Int) 256 = some ((N / 256 ^ (j + 1) : Nat) : Int) := by
        unfold quoI
        rw [if_neg (by decide), Int.tdiv_eq_ediv_of_nonneg (Int.natCast_nonneg _), wrap_u64, Nat.pow_succ, ← Nat.div_div_eq_div_mul]
        generalize N / 256 ^ j = q at *
        congr 1
        omega
      simp only
      rw [if_pos (by omega), hrem, Option.bind_some, idx_get' _ (7 - j) _ (by omega) (by simp; omega), Option.bind_some, set_get _ (7 - j) _ _ (by omega) (by simp; omega), Option.bind_some, hquo, Option.bind_some, wrap_i64 (by omega) (by omega)]
      congr 3
      · congr 1
        · rw [List.set_append_left _ _ (by simp; omega), show 8 - (j + 1) = 7 - j by omega, show 8 - j = (7 - j) + 1 by omega, List.replicate_succ', List.set_append_right _ _ (by simp)]
          simp only [List.length_replicate, Nat.sub_self, List.set_cons_zero, List.append_assoc]
          congr 1
          rw [List.range_succ_eq_map, List.map_cons, List.map_map, List.singleton_append]
          congr 1
          · rw [wrap_u8]
            show _ = (((N / 256 ^ (7 - (7 - j + 0))) % 256 : Nat) : Int)
            rw [show 7 - (7 - j + 0) = j by omega]
            omega
          · apply List.map_congr_left
            intro t _
            simp only [Function.comp]
            congr 1
            omega
        · omega) (by rw [NF_eq]; omega)
  have hw : IntKind.u64.wrap (IntKind.u64.wrap (s.length : Int) * 8) = ((N : Nat) : Int) := by
    rw [wrap_u64, wrap_u64]
    show _ = ((8 * s.length : Nat) : Int)
    omega
  rw [cat_eq _ _ (by simp; omega), Option.bind_some]
  simp only [List.replicate_zero, List.append_nil] at h1
  rw [h1, Option.bind_some, hm, Option.bind_some, hw]
  simp only [Nat.pow_zero, Nat.div_one, Nat.sub_zero, List.range_zero, List.map_nil, List.append_nil] at h2
  erw [h2]
  rw [Option.bind_some, cat_eq _ _ (by unfold padZ; simp; omega), Option.bind_some, List.map_map]
  rfl

/-- The eight numbers as bytes. -/
def outS (v : GA8_u32) : List UInt8 := (toL v).flatMap fun x => be x.toNat 4
theorem toL_get (v : GA8_u32) (hv : R8 v) (i : Nat) (hi : i < 8) : u32ok ((toL v).getD i 0) := by
  have : ∀ x ∈ toL v, u32ok x := by
    intro x hx
    simp only [toL, List.mem_cons, List.mem_nil_iff, or_false] at hx
    rcases hx with rfl | rfl | rfl | rfl | rfl | rfl | rfl | rfl
    · exact hv.h0
    · exact hv.h1
    · exact hv.h2
    · exact hv.h3
    · exact hv.h4
    · exact hv.h5
    · exact hv.h6
    · exact hv.h7
  have hl : i < (toL v).length := hi
  rw [List.getD_eq_getElem?_getD, List.getElem?_eq_getElem hl]
  exact this _ (List.getElem_mem _)
theorem flat_take (l : List Int) (g : Int → List UInt8) (i : Nat) (hi : i < l.length) : (l.take (i + 1)).flatMap g = (l.take i).flatMap g ++ g (l.getD i 0) := by
  rw [List.take_add_one, List.flatMap_append, List.getElem?_eq_getElem hi, List.getD_eq_getElem?_getD, List.getElem?_eq_getElem hi]
  simp
theorem flat_len4 (l : List Int) : (l.flatMap fun x => be x.toNat 4).length = 4 * l.length := by
  induction l with
  | nil => rfl
  | cons x l ih => rw [List.flatMap_cons, List.length_append, ih, be_length, List.length_cons]; omega
theorem out_eq (v : GA8_u32) (hv : R8 v) : iter (L_sha_Of_1 v) NF (([] : List UInt8), 0) = some (outS v) := by
  have := iter_nat (step := L_sha_Of_1 v) (fun i => (((toL v).take i).flatMap (fun x => be x.toNat 4), (i : Int))) (r := outS v) 8
    (by unfold L_sha_Of_1; simp only; rw [if_neg (by decide)]; rfl) 8 0 NF (by omega) (fun i _ hi => by
      have hx := toL_get v hv i hi
      have hl : i < (toL v).length := hi
      unfold L_sha_Of_1
      simp only
      have g : idxA 8 [v.x0, v.x1, v.x2, v.x3, v.x4, v.x5, v.x6, v.x7] (i : Int) = some ((toL v).getD i 0) := by
        have := idxA_get (toL v) [] 8 i hl hi
        rw [List.append_nil] at this; exact this
      have hw : IntKind.u64.wrap ((toL v).getD i 0) = ((((toL v).getD i 0).toNat : Nat) : Int) := by rw [wrap_u64]; have := hx.1; have := hx.2; omega
      have hh := high_eq ((toL v).getD i 0).toNat 4 (by have := hx.1; have := hx.2; omega) (by omega)
      rw [if_pos (by omega), g, Option.bind_some, hw]
      erw [hh]
      rw [Option.bind_some]
      unfold app
      rw [if_pos (by rw [flat_len4, be_length, List.length_take]; unfold capL; omega), Option.bind_some, wrap_i64 (n := (i : Int) + 1) (by omega) (by omega), flat_take _ _ i hl]
      rfl) (by rw [NF_eq]; omega)
  simpa using this
theorem rout_eq (v : GA8_u32) (hv : R8 v) : ∃ l, iter (L_ref04_Of_4 (toL v)) NF (([] : List Int), 0) = some l ∧ l.map byt = outS v := by
  let g : Int → List Int := fun x => [IntKind.u8.wrap (x.fdiv (2 ^ 24)), IntKind.u8.wrap (x.fdiv (2 ^ 16)), IntKind.u8.wrap (x.fdiv (2 ^ 8)), IntKind.u8.wrap x]
  have hgl : ∀ l : List Int, (l.flatMap g).length = 4 * l.length := fun l => by
    induction l with
    | nil => rfl
    | cons x l ih => rw [List.flatMap_cons, List.length_append, ih]; show 4 + 4 * l.length = 4 * (l.length + 1); omega
  refine ⟨(toL v).flatMap g, ?_, ?_⟩
  · have := iter_nat (step := L_ref04_Of_4 (toL v)) (fun i => (((toL v).take i).flatMap g, (i : Int))) (r := (toL v).flatMap g) 8
      (by unfold L_ref04_Of_4; simp only; rw [if_neg (by decide)]; rfl) 8 0 NF (by omega) (fun i _ hi => by
        have hl : i < (toL v).length := hi
        unfold L_ref04_Of_4
        simp only
        rw [if_pos (by omega), idx_get _ i hl, Option.bind_some, shr32 _ _ (by decide) (by decide), Option.bind_some, shr32 _ _ (by decide) (by decide), Option.bind_some, shr32 _ _ (by decide) (by decide), Option.bind_some]
        unfold app
        rw [if_pos (by rw [hgl, List.length_take]; simp [capL]; omega), Option.bind_some, wrap_i64 (n := (i : Int) + 1) (by omega) (by omega)]
        congr 3
        rw [List.take_add_one, List.flatMap_append, List.getElem?_eq_getElem hl, List.getD_eq_getElem?_getD, List.getElem?_eq_getElem hl]
        simp only [Option.toList_some, List.flatMap_cons, List.flatMap_nil, List.append_nil, Option.getD_some]
        rfl) (by rw [NF_eq]; omega)
    simpa using this
  · have hx : ∀ l : List Int, (∀ x ∈ l, u32ok x) → (l.flatMap g).map byt = l.flatMap fun x => be x.toNat 4 := by
      intro l
      induction l with
      | nil => intro _; rfl
      | cons x l ih =>
        intro h
        rw [List.flatMap_cons, List.flatMap_cons, List.map_append, ih (fun y hy => h y (List.mem_cons_of_mem _ hy))]
        congr 1
        obtain ⟨h0, h1⟩ := h x (List.mem_cons_self ..)
        obtain ⟨n, rfl⟩ : ∃ n : Nat, x = n := ⟨x.toNat, by omega⟩
        have fd : ∀ d : Nat, (n : Int).fdiv (2 ^ d) = ((n / 2 ^ d : Nat) : Int) := fun d => by
          rw [show ((2 : Int) ^ d) = ((2 ^ d : Nat) : Int) by push_cast; rfl, Int.fdiv_eq_ediv_of_nonneg _ (Int.natCast_nonneg _)]; rfl
        show [byt (IntKind.u8.wrap ((n : Int).fdiv (2 ^ 24))), byt (IntKind.u8.wrap ((n : Int).fdiv (2 ^ 16))), byt (IntKind.u8.wrap ((n : Int).fdiv (2 ^ 8))), byt (IntKind.u8.wrap (n : Int))] = be n 4
        rw [fd, fd, fd]
        simp only [wrap_u8, be, show List.range 4 = [0, 1, 2, 3] from rfl, List.map_cons, List.map_nil, Int.toNat_natCast, show (256 : Nat) ^ (4 - 1 - 0) = 2 ^ 24 by decide, show (256 : Nat) ^ (4 - 1 - 1) = 2 ^ 16 by decide, show (256 : Nat) ^ (4 - 1 - 2) = 2 ^ 8 by decide, show (256 : Nat) ^ (4 - 1 - 3) = 1 by decide, Nat.div_one]
        rfl
    refine hx _ fun x hx => ?_
    simp only [toL, List.mem_cons, List.mem_nil_iff, or_false] at hx
    rcases hx with rfl | rfl | rfl | rfl | rfl | rfl | rfl | rfl
    · exact hv.h0
    · exact hv.h1
    · exact hv.h2
    · exact hv.h3
    · exact hv.h4
    · exact hv.h5
    · exact hv.h6
    · exact hv.h7

/-- The key. -/
def keyOf (s : List UInt8) : List UInt8 := outS (blk first8 (pad s))
theorem keyOf_length (s : List UInt8) : (keyOf s).length = 32 := by unfold keyOf outS; rw [flat_len4]; rfl
theorem R8_blk : ∀ (n : Nat) (v : GA8_u32) (s : List UInt8), R8 v → R8 (blks n v s) := by
  intro n
  induction n with
  | zero => intro v s h; exact h
  | succ n ih => intro v s h; exact ih _ _ (R8.one _ _)
theorem ROf_eq (s : List UInt8) (hs : s.length ≤ 1000000) : F_ref04_Of s = some (keyOf s) := by
  unfold F_ref04_Of
  have hp := pad_length s
  have h1 := rOf_loop (pad s) (by omega) NF ((pad s).length / 64) first8 0 (by omega) (by rw [NF_eq]; omega) R8_first
  rw [List.drop_zero] at h1
  obtain ⟨l, e1, e2⟩ := rout_eq (blk first8 (pad s)) (R8_blk _ _ _ R8_first)
  rw [roots8, Option.bind_some, roots64, Option.bind_some, padded_eq s hs, Option.bind_some]
  erw [h1]
  rw [Option.bind_some, e1, Option.bind_some, e2]
  rfl
theorem rep_zero (n : Nat) : Lib.repeatL [0] n = List.replicate n 0 := by
  have := Lib.repeatL_replicate 0 1 n
  simpa using this
theorem Of_eq (s : List UInt8) (hs : s.length ≤ 1000000) : F_sha_Of s = some (keyOf s) := by
  unfold F_sha_Of
  have q1 : quoI .i64 (s.length : Int) 64 = some ((s.length / 64 : Nat) : Int) := by
    unfold quoI
    rw [if_neg (by decide), Int.tdiv_eq_ediv_of_nonneg (by omega), wrap_i64 (by omega) (by omega)]
    rfl
  have w1 : IntKind.i64.wrap (((s.length / 64 : Nat) : Int) * 64) = ((s.length / 64 * 64 : Nat) : Int) := by rw [wrap_i64 (by omega) (by omega)]; omega
  have s1 : subS s 0 ((s.length / 64 * 64 : Nat) : Int) = some (s.take (s.length / 64 * 64)) := by
    have := sub_mid s 0 (s.length / 64 * 64) (by omega)
    simpa using this
  have s2 := sub_drop s (s.length / 64 * 64) (by omega)
  have r1 : remI (IntKind.i64.wrap (120 - (((s.drop (s.length / 64 * 64) ++ [128]).length : Nat) : Int))) 64 = some ((padZ s.length : Nat) : Int) := by
    rw [wrap_i64 (by simp; omega) (by simp; omega)]
    unfold remI padZ
    rw [if_neg (by decide), Int.tmod_eq_emod_of_nonneg (by simp; omega)]
    congr 1
    simp
    omega
  have z1 : F_strings_Repeat [0] ((padZ s.length : Nat) : Int) = some (List.replicate (padZ s.length) 0) := by
    unfold F_strings_Repeat
    rw [if_pos (by unfold padZ; simp; omega), Int.toNat_natCast, rep_zero]
  have w2 : IntKind.u64.wrap (8 * IntKind.u64.wrap (s.length : Int)) = ((8 * s.length : Nat) : Int) := by rw [wrap_u64, wrap_u64]; omega
  have hh := high_eq (8 * s.length) 8 (by omega) (by omega)
  have hpad : s.take (s.length / 64 * 64) ++ (s.drop (s.length / 64 * 64) ++ [128] ++ (List.replicate (padZ s.length) 0 ++ be (8 * s.length) 8)) = pad s := by
    unfold pad
    rw [← List.append_assoc, ← List.append_assoc, ← List.append_assoc, List.take_append_drop]
  have hb := blk_append (s.length / 64) first8 (s.take (s.length / 64 * 64)) (s.drop (s.length / 64 * 64) ++ [128] ++ (List.replicate (padZ s.length) 0 ++ be (8 * s.length) 8)) (by simp; omega)
  rw [hpad] at hb
  rw [q1, Option.bind_some, first_eq, Option.bind_some, w1, s1, Option.bind_some, blocks_eq _ _ (by simp; omega), Option.bind_some, l8, Option.bind_some, l8, Option.bind_some, s2, Option.bind_some, cat_eq _ _ (by simp; omega), Option.bind_some, r1, Option.bind_some, z1, Option.bind_some, w2]
  erw [hh]
  rw [Option.bind_some, cat_eq _ _ (by rw [be_length]; unfold padZ; simp; omega), Option.bind_some, cat_eq _ _ (by simp [be_length]; unfold padZ; omega), Option.bind_some, blocks_eq _ _ (by simp [be_length]; unfold padZ; omega), Option.bind_some, ← hb, out_eq _ (show R8 (blk first8 (pad s)) from R8_blk _ _ _ R8_first), Option.bind_some]
  unfold chkCap
  have := keyOf_length s
  unfold keyOf at this
  rw [if_pos (by rw [this]; unfold capL; omega), Option.bind_some]
  rfl

end Go.Proofs.YtobhmahlenjheaaM
