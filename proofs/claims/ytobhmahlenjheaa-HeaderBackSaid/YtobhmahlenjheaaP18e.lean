/- Layer 18 in plain terms: headers read; HeaderAny. -/
import Derived.Test.YtobhmahlenjheaaP18d
set_option linter.unusedSimpArgs false
set_option linter.unusedVariables false
namespace Go.Proofs.YtobhmahlenjheaaM
open Go Go.RowKit

set_option maxHeartbeats 2000000 in
theorem RResolve_eq (l : List XT) (a b c : Int) (hl : l.length ≤ 100000) (hd : ∀ x ∈ l, x.2.1.length ≤ 100000) : F_ref17_Resolve l (a, b, c, ()) = some ((resS ((fnd l 1).getD []) a b c).1, ((resS ((fnd l 1).getD []) a b c).2, ())) := by
  have hdl := fnd_len (l := l) (id := 1) hd
  obtain ⟨q0, q1, q2⟩ := wr8
  unfold F_ref17_Resolve resS
  refine vB (RFind_eq l 1 hl) ?_
  simp only []
  generalize (fnd l 1).getD [] = d at hdl
  have U := fun p => Num_eq d p 8 (by omega : d.length < 1000000000) (by omega)
  cases hA : (a != 4294967295) <;> (try simp only [hA, vT, vF, vS, vJ, vK, U, q0])
  · cases hA2 : ((cutOf d 0 8).2 != 0) <;> (try simp only [hA2, vT, vF, vS, vJ, vK])
    · simp only [rs1_ok hA hA2]
      cases hA3 : decide (numOf d 0 8 > 1099511627776) <;> (try simp only [hA3, vT, vF, vS, vJ, vK])
      all_goals
        cases hB : (b != 4294967295) <;> (try simp only [hB, vT, vF, vS, vJ, vK, U, q1])
        · cases hB2 : ((cutOf d 8 8).2 != 0) <;> (try simp only [hB2, vT, vF, vS, vJ, vK])
          · simp only [show (0 : Int) + 8 = 8 from rfl, rs1_ok hB hB2]
            cases hB3 : decide (numOf d 8 8 > 1099511627776) <;> (try simp only [hB3, vT, vF, vS, vJ, vK])
            all_goals
              cases hC : (c != 4294967295) <;> (try simp only [hC, vT, vF, vS, vJ, vK, U, q2])
              · cases hC2 : ((cutOf d 16 8).2 != 0) <;> (try simp only [hC2, vT, vF, vS, vJ, vK])
                · simp only [show (8 : Int) + 8 = 16 from rfl, rs1_ok hC hC2]
                  cases hC3 : decide (numOf d 16 8 > 1099511627776) <;> (try simp only [hC3, vT, vF, vS, vJ, vK]) <;> rfl
                · simp only [show (8 : Int) + 8 = 16 from rfl, rs1_er hC hC2]
              · simp only [rs1_no hC]; rfl
          · simp only [show (0 : Int) + 8 = 8 from rfl, rs1_er hB hB2]
        · simp only [rs1_no hB]
          cases hC : (c != 4294967295) <;> (try simp only [hC, vT, vF, vS, vJ, vK, U, q1])
          · cases hC2 : ((cutOf d 8 8).2 != 0) <;> (try simp only [hC2, vT, vF, vS, vJ, vK])
            · simp only [show (0 : Int) + 8 = 8 from rfl, rs1_ok hC hC2]
              cases hC3 : decide (numOf d 8 8 > 1099511627776) <;> (try simp only [hC3, vT, vF, vS, vJ, vK]) <;> rfl
            · simp only [show (0 : Int) + 8 = 8 from rfl, rs1_er hC hC2]
          · simp only [rs1_no hC]; rfl
    · simp only [rs1_er hA hA2]
  · simp only [rs1_no hA]
    cases hB : (b != 4294967295) <;> (try simp only [hB, vT, vF, vS, vJ, vK, U, q0])
    · cases hB2 : ((cutOf d 0 8).2 != 0) <;> (try simp only [hB2, vT, vF, vS, vJ, vK])
      · simp only [rs1_ok hB hB2]
        cases hB3 : decide (numOf d 0 8 > 1099511627776) <;> (try simp only [hB3, vT, vF, vS, vJ, vK])
        all_goals
          cases hC : (c != 4294967295) <;> (try simp only [hC, vT, vF, vS, vJ, vK, U, q1])
          · cases hC2 : ((cutOf d 8 8).2 != 0) <;> (try simp only [hC2, vT, vF, vS, vJ, vK])
            · simp only [show (0 : Int) + 8 = 8 from rfl, rs1_ok hC hC2]
              cases hC3 : decide (numOf d 8 8 > 1099511627776) <;> (try simp only [hC3, vT, vF, vS, vJ, vK]) <;> rfl
            · simp only [show (0 : Int) + 8 = 8 from rfl, rs1_er hC hC2]
          · simp only [rs1_no hC]; rfl
      · simp only [rs1_er hB hB2]
    · simp only [rs1_no hB]
      cases hC : (c != 4294967295) <;> (try simp only [hC, vT, vF, vS, vJ, vK, U, q0])
      · cases hC2 : ((cutOf d 0 8).2 != 0) <;> (try simp only [hC2, vT, vF, vS, vJ, vK])
        · simp only [rs1_ok hC hC2]
          cases hC3 : decide (numOf d 0 8 > 1099511627776) <;> (try simp only [hC3, vT, vF, vS, vJ, vK]) <;> rfl
        · simp only [rs1_er hC hC2]
      · simp only [rs1_no hC]; rfl

/-! ### What stands in a field 1, of a header -/
def z0 : HdT := (0, 0, 0, 0, 0, 0, 0, 0, 0, 0, 0, [], [], [], ())
def finS (made need flags method time crc packed size inner outer offset : Int) (name extra comment : List UInt8) : HdT × Int :=
  match pzS extra with
  | none => (z0, 2)
  | some l => if (resS ((fnd l 1).getD []) size packed offset).2 = 0 then
      ((made, need, flags, method, time, crc, (resS ((fnd l 1).getD []) size packed offset).1.2.1, (resS ((fnd l 1).getD []) size packed offset).1.1, inner, outer, (resS ((fnd l 1).getD []) size packed offset).1.2.2.1, name, extra, comment, ()), 0)
    else (z0, (resS ((fnd l 1).getD []) size packed offset).2)
theorem pzS_small {s : List UInt8} {l : List XT} (hs : s.length ≤ 100000) (h : pzS s = some l) : l.length ≤ 100000 ∧ ∀ x ∈ l, x.2.1.length ≤ 100000 := by
  obtain ⟨h1, h2⟩ := pz_small _ _ _ h
  exact ⟨by omega, fun x hx => by have := h2 x hx; omega⟩
theorem resolve_eq (made need flags method time crc packed size inner outer offset : Int) (name extra comment : List UInt8) (hx : extra.length ≤ 100000) :
    ∃ e x, F_header_resolve made need flags method time crc packed size inner outer offset name extra comment = some (e, x) ∧ e = (finS made need flags method time crc packed size inner outer offset name extra comment).2 ∧ (e = 0 → x = (finS made need flags method time crc packed size inner outer offset name extra comment).1) := by
  unfold F_header_resolve finS
  rw [Parse_eq extra hx, vS]
  cases hp : pzS extra with
  | none => exact ⟨2, _, rfl, rfl, fun h => by cases h⟩
  | some l =>
    obtain ⟨h1, h2⟩ := pzS_small hx hp
    simp only [bne_self_eq_false, vF, Resolve_eq l size packed offset h1 h2, vS]
    refine ⟨_, _, rfl, ?_, fun h => ?_⟩
    · split
      · assumption
      · rfl
    · rw [if_pos h]
theorem finish_eq (made need flags method time crc packed size inner outer offset : Int) (name extra comment : List UInt8) (hx : extra.length ≤ 100000) :
    F_ref18_finish (made, need, flags, method, time, crc, packed, size, inner, outer, offset, name, extra, comment, ()) = some ((finS made need flags method time crc packed size inner outer offset name extra comment).1, ((finS made need flags method time crc packed size inner outer offset name extra comment).2, ())) := by
  unfold F_ref18_finish finS
  simp only [RParse_eq extra hx, vS]
  cases hp : pzS extra with
  | none => rfl
  | some l =>
    obtain ⟨h1, h2⟩ := pzS_small hx hp
    simp only [bne_self_eq_false, vF, RResolve_eq l size packed offset h1 h2, vS]
    by_cases h : (resS ((fnd l 1).getD []) size packed offset).2 = 0
    · simp only [ne_c h, vF, if_pos h]
    · simp only [ne_t h, vT, if_neg h]; rfl

/-! ### Texts, by their lengths -/
def txs (s : List UInt8) : Nat → List Nat → Option (Nat × List (List UInt8))
  | a, [] => some (a, [])
  | a, n :: r => if s.length < a + n then none else (txs s (a + n) r).map fun x => (x.1, (s.drop a).take n :: x.2)
theorem rtexts_eq (s : List UInt8) (hs : s.length ≤ 100000) (a : Nat) (ls : List Nat) (ha : a ≤ s.length) (hl : ls.length ≤ 100) :
    F_ref18_texts s (a : Int) (ls.map fun n : Nat => (n : Int)) = some (match txs s a ls with | some x => ((x.1 : Int), (x.2, ())) | none => (-1, ([], ()))) := by
  unfold F_ref18_texts
  have key : ∀ (r pre : List Nat) (a : Nat) (out : List (List UInt8)) (n : Nat), ls = pre ++ r → a ≤ s.length → out.length ≤ pre.length → r.length < n →
      iter (fun v0 : Int × Int × List (List UInt8) × Unit => bif decide (v0.2.1 < ((ls.map fun n : Nat => (n : Int)).length : Int)) then ((idxL (ls.map fun n : Nat => (n : Int)) v0.2.1).bind fun v1 => (F_ref02_Cut s v0.1 v1).bind fun v2 => bif v2.2.1 != 0 then (some (.inr (.inl (((-1) : Int), ())))) else ((app v0.2.2.1 [v2.1]).bind fun v3 => (idxL (ls.map fun n : Nat => (n : Int)) v0.2.1).bind fun v4 => some (.inl (IntKind.i64.wrap (v0.1 + v4), (IntKind.i64.wrap (v0.2.1 + 1), (v3, ())))))) else (some (.inr (.inr (v0.1, v0.2.2)) : (Int × Int × List (List UInt8) × Unit) ⊕ ((Int × Unit) ⊕ (Int × List (List UInt8) × Unit))))) n ((a : Int), ((pre.length : Int), (out, ()))) =
        some (match txs s a r with | some x => .inr ((x.1 : Int), (out ++ x.2, ())) | none => .inl (-1, ())) := by
    intro r
    induction r with
    | nil =>
      intro pre a out n hls ha ho hn
      obtain ⟨n, rfl⟩ : ∃ j, n = j + 1 := ⟨n - 1, by omega⟩
      refine (iter_inr (r := .inr ((a : Int), (out, ()))) ?_).trans (by simp [txs])
      have : ¬ pre.length < (ls.map fun n : Nat => (n : Int)).length := by rw [hls]; simp
      simp only [ge_c this, vF]
    | cons m r ih =>
      intro pre a out n hls ha ho hn
      obtain ⟨n, rfl⟩ : ∃ j, n = j + 1 := ⟨n - 1, by omega⟩
      have hlt : pre.length < (ls.map fun n : Nat => (n : Int)).length := by rw [hls]; simp
      have hix : idxL (ls.map fun n : Nat => (n : Int)) (pre.length : Int) = some (m : Int) := by
        rw [idxL_nat hlt]; simp [hls]
      have hls' := congrArg List.length hls
      simp only [List.length_append, List.length_cons] at hls'
      unfold txs
      by_cases hb : s.length < a + m
      · rw [if_pos hb]
        refine iter_inr ?_
        have : (cutOf s (a : Int) (m : Int)).2 = 3 := cut_er hb
        simp only [lt_c hlt, vT, hix, vS, RCut_eq s _ _ (by omega : s.length < 1000000000), this]; rfl
      · rw [if_neg hb]
        have hcut := cut_nat (s := s) (i := a) (k := m) (by omega)
        have w0 : IntKind.i64.wrap ((a : Int) + (m : Int)) = ((a + m : Nat) : Int) := by rw [w64 (by omega) (by omega)]; rfl
        refine (iter_inl ?_).trans ((ih (pre ++ [m]) (a + m) (out ++ [(s.drop a).take m]) n (by rw [hls]; simp) (by omega) (by simp; omega) (by simp at hn; omega)).trans ?_)
        · simp only [lt_c hlt, vT, hix, vS, RCut_eq s _ _ (by omega : s.length < 1000000000), hcut, bne_self_eq_false, vF, app1 (show out.length ≤ 1000000 by omega), w0, w1 (show pre.length ≤ 1000000 by omega), List.length_append, List.length_singleton]
        · cases txs s (a + m) r with
          | none => rfl
          | some x => simp only [Option.map_some, List.append_assoc, List.singleton_append]
  refine vB (key ls [] a [] NF rfl ha (by simp) (by rw [NF_eq]; omega)) ?_
  cases txs s a ls with
  | none => exact vJ
  | some x => exact vK

theorem add_w {a n : Nat} (ha : a ≤ 1000000) (hn : n ≤ 1000000) : IntKind.i64.wrap ((a : Int) + (n : Int)) = ((a + n : Nat) : Int) := by rw [w64 (by omega) (by omega)]; rfl
theorem wr3 : IntKind.i64.wrap (0 + 1) = 1 ∧ IntKind.i64.wrap (1 + 1) = 2 ∧ IntKind.i64.wrap (2 + 1) = 3 := by decide +kernel
theorem texts3_eq (s : List UInt8) (hs : s.length ≤ 100000) (a l1 l2 l3 : Nat) (ha : a ≤ s.length) (h1 : l1 ≤ 65535) (h2 : l2 ≤ 65535) (h3 : l3 ≤ 65535) (a3 a4 a5 a6 a7 a8 a9 a10 a11 a12 a13 : Int) :
    (txs s a [l1, l2, l3] = none ∧ ∃ x, F_header_reader_texts_2 [(l1 : Int), (l2 : Int), (l3 : Int)] s (a : Int) a3 a4 a5 a6 a7 a8 a9 a10 a11 a12 a13 [] [] [] = some ((3 : Int), x)) ∨
    (∃ b t1 t2 t3, txs s a [l1, l2, l3] = some (b, [t1, t2, t3]) ∧ b ≤ s.length ∧ t2.length ≤ s.length ∧ F_header_reader_texts_2 [(l1 : Int), (l2 : Int), (l3 : Int)] s (a : Int) a3 a4 a5 a6 a7 a8 a9 a10 a11 a12 a13 [] [] [] = some ((0 : Int), (s, ((b : Int), (a3, (a4, (a5, (a6, (a7, (a8, (a9, (a10, (a11, (a12, (a13, (t1, (t2, (t3, ())))))))))))))))))) := by
  obtain ⟨q0, q1, q2⟩ := wr3
  unfold F_header_reader_texts_2
  have c0 : decide ((0 : Int) < (([(l1 : Int), (l2 : Int), (l3 : Int)].length : Nat) : Int)) = true := rfl
  have c1 : decide ((1 : Int) < (([(l1 : Int), (l2 : Int), (l3 : Int)].length : Nat) : Int)) = true := rfl
  have c2 : decide ((2 : Int) < (([(l1 : Int), (l2 : Int), (l3 : Int)].length : Nat) : Int)) = true := rfl
  have c3 : decide ((3 : Int) < (([(l1 : Int), (l2 : Int), (l3 : Int)].length : Nat) : Int)) = false := rfl
  have i0 : idxL [(l1 : Int), (l2 : Int), (l3 : Int)] (0 : Int) = some (l1 : Int) := rfl
  have i1 : idxL [(l1 : Int), (l2 : Int), (l3 : Int)] (1 : Int) = some (l2 : Int) := rfl
  have i2 : idxL [(l1 : Int), (l2 : Int), (l3 : Int)] (2 : Int) = some (l3 : Int) := rfl
  have C := fun (p n : Nat) => Cut_eq s (p : Int) (n : Int) (by omega : s.length < 1000000000)
  simp only [c0, vT, i0, vS, C]
  by_cases b1 : s.length < a + l1
  · left
    refine ⟨by unfold txs; rw [if_pos b1], ?_⟩
    simp only [cut_er b1, show ((3 : Int) != 0) = true from rfl, vT, vS, vJ]
    exact ⟨_, rfl⟩
  simp only [cut_nat (Nat.le_of_not_lt b1), bne_self_eq_false, vF, q0, c1, vT, i1, vS, add_w (show a ≤ 1000000 by omega) (show l1 ≤ 1000000 by omega), C]
  by_cases b2 : s.length < a + l1 + l2
  · left
    refine ⟨by unfold txs; rw [if_neg b1]; unfold txs; rw [if_pos b2]; rfl, ?_⟩
    simp only [cut_er b2, show ((3 : Int) != 0) = true from rfl, vT, vS, vJ]
    exact ⟨_, rfl⟩
  simp only [cut_nat (Nat.le_of_not_lt b2), bne_self_eq_false, vF, q1, c2, vT, i2, vS, add_w (show a + l1 ≤ 1000000 by omega) (show l2 ≤ 1000000 by omega), C]
  by_cases b3 : s.length < a + l1 + l2 + l3
  · left
    refine ⟨by unfold txs; rw [if_neg b1]; unfold txs; rw [if_neg b2]; unfold txs; rw [if_pos b3]; rfl, ?_⟩
    simp only [cut_er b3, show ((3 : Int) != 0) = true from rfl, vT, vS, vJ]
    exact ⟨_, rfl⟩
  right
  refine ⟨a + l1 + l2 + l3, (s.drop a).take l1, (s.drop (a + l1)).take l2, (s.drop (a + l1 + l2)).take l3, by unfold txs; rw [if_neg b1]; unfold txs; rw [if_neg b2]; unfold txs; rw [if_neg b3]; rfl, by omega, by simp; omega, ?_⟩
  simp only [cut_nat (Nat.le_of_not_lt b3), bne_self_eq_false, vF, q2, c3, add_w (show a + l1 + l2 ≤ 1000000 by omega) (show l3 ≤ 1000000 by omega), vS, vK]
theorem texts2_eq (s : List UInt8) (hs : s.length ≤ 100000) (a l1 l2 : Nat) (ha : a ≤ s.length) (h1 : l1 ≤ 65535) (h2 : l2 ≤ 65535) (a3 a4 a5 a6 a7 a8 a9 a10 a11 a12 a13 : Int) :
    (txs s a [l1, l2] = none ∧ ∃ x, F_header_reader_texts [(l1 : Int), (l2 : Int)] s (a : Int) a3 a4 a5 a6 a7 a8 a9 a10 a11 a12 a13 [] [] [] = some ((3 : Int), x)) ∨
    (∃ b t1 t2, txs s a [l1, l2] = some (b, [t1, t2]) ∧ b ≤ s.length ∧ t2.length ≤ s.length ∧ F_header_reader_texts [(l1 : Int), (l2 : Int)] s (a : Int) a3 a4 a5 a6 a7 a8 a9 a10 a11 a12 a13 [] [] [] = some ((0 : Int), (s, ((b : Int), (a3, (a4, (a5, (a6, (a7, (a8, (a9, (a10, (a11, (a12, (a13, (t1, (t2, ([], ())))))))))))))))))) := by
  obtain ⟨q0, q1, q2⟩ := wr3
  unfold F_header_reader_texts
  have c0 : decide ((0 : Int) < (([(l1 : Int), (l2 : Int)].length : Nat) : Int)) = true := rfl
  have c1 : decide ((1 : Int) < (([(l1 : Int), (l2 : Int)].length : Nat) : Int)) = true := rfl
  have c2 : decide ((2 : Int) < (([(l1 : Int), (l2 : Int)].length : Nat) : Int)) = false := rfl
  have i0 : idxL [(l1 : Int), (l2 : Int)] (0 : Int) = some (l1 : Int) := rfl
  have i1 : idxL [(l1 : Int), (l2 : Int)] (1 : Int) = some (l2 : Int) := rfl
  have C := fun (p n : Nat) => Cut_eq s (p : Int) (n : Int) (by omega : s.length < 1000000000)
  simp only [c0, vT, i0, vS, C]
  by_cases b1 : s.length < a + l1
  · left
    refine ⟨by unfold txs; rw [if_pos b1], ?_⟩
    simp only [cut_er b1, show ((3 : Int) != 0) = true from rfl, vT, vS, vJ]
    exact ⟨_, rfl⟩
  simp only [cut_nat (Nat.le_of_not_lt b1), bne_self_eq_false, vF, q0, c1, vT, i1, vS, add_w (show a ≤ 1000000 by omega) (show l1 ≤ 1000000 by omega), C]
  by_cases b2 : s.length < a + l1 + l2
  · left
    refine ⟨by unfold txs; rw [if_neg b1]; unfold txs; rw [if_pos b2]; rfl, ?_⟩
    simp only [cut_er b2, show ((3 : Int) != 0) = true from rfl, vT, vS, vJ]
    exact ⟨_, rfl⟩
  right
  refine ⟨a + l1 + l2, (s.drop a).take l1, (s.drop (a + l1)).take l2, by unfold txs; rw [if_neg b1]; unfold txs; rw [if_neg b2]; rfl, by omega, by simp; omega, ?_⟩
  simp only [cut_nat (Nat.le_of_not_lt b2), bne_self_eq_false, vF, q1, c2, add_w (show a + l1 ≤ 1000000 by omega) (show l2 ≤ 1000000 by omega), vS, vK]

/-! ### Headers -/
section
variable (s : List UInt8) (hs : s.length ≤ 100000) (k : Nat)
include hs
theorem r16 (p : Nat) (hp : p ≤ 1000000) : F_header_reader_u16_2 s (p : Int) = some (numOf s (p : Int) 2, (s, (((p + 2 : Nat) : Int), ()))) := by
  unfold F_header_reader_u16_2
  refine vB (U16_eq s _ (by omega)) ?_
  rw [show (2 : Int) = ((2 : Nat) : Int) from rfl, add_w hp (by omega)]
theorem r32 (p : Nat) (hp : p ≤ 1000000) : F_header_reader_u32 s (p : Int) = some (numOf s (p : Int) 4, (s, (((p + 4 : Nat) : Int), ()))) := by
  unfold F_header_reader_u32
  refine vB (U32_eq s _ (by omega)) ?_
  rw [show (4 : Int) = ((4 : Nat) : Int) from rfl, add_w hp (by omega)]
theorem begin_no (at_ : Int) (size : Nat) (sign : Int) (h : ¬ (0 ≤ at_ ∧ at_ + size ≤ s.length)) : F_header_begin s at_ (size : Int) sign = some (.inl (3, ())) := by
  unfold F_header_begin
  rw [Cut_eq s _ _ (by omega), vS, cut_no (by omega)]
  rfl
theorem begin_eq (size : Nat) (sign : Int) (h : k + size ≤ s.length) : F_header_begin s (k : Int) (size : Int) sign = if numOf s (k : Int) 4 = sign then some (.inr (0, (s, (((k + 4 : Nat) : Int), ())))) else some (.inl (2, ())) := by
  unfold F_header_begin
  rw [Cut_eq s _ _ (by omega), vS, cut_nat h]
  simp only [bne_self_eq_false, vF, r32 s hs k (by omega), vS]
  by_cases hg : numOf s (k : Int) 4 = sign
  · rw [if_pos hg, show (numOf s (k : Int) 4 != sign) = false by simpa using hg, vF]
  · rw [if_neg hg, show (numOf s (k : Int) 4 != sign) = true by simpa using hg, vT]
end
theorem num_cut {s : List UInt8} {k size p m : Nat} (h : k + size ≤ s.length) (hp : p + m ≤ size) : numOf (cutOf s (k : Int) (size : Int)).1 (p : Int) (m : Int) = numOf s ((k + p : Nat) : Int) (m : Int) := by
  rw [cut_nat h]
  simp only
  rw [cut_num (by simp; omega), cut_num (by omega), List.drop_take, List.take_take, Nat.min_eq_left (by omega), List.drop_drop]
theorem toN (s : List UInt8) (a : Int) : ∃ n : Nat, n ≤ 65535 ∧ numOf s a 2 = (n : Int) := by
  have := numOf2 s a
  exact ⟨(numOf s a 2).toNat, by omega, by omega⟩

def cenS (s : List UInt8) (k : Nat) : HdT × Int × Int :=
  if numOf s ((k + 0 : Nat) : Int) 4 ≠ 33639248 ∨ numOf s ((k + 34 : Nat) : Int) 2 ≠ 0 then (z0, 0, 2) else
    match txs s (k + 46) [(numOf s ((k + 28 : Nat) : Int) 2).toNat, (numOf s ((k + 30 : Nat) : Int) 2).toNat, (numOf s ((k + 32 : Nat) : Int) 2).toNat] with
    | some (b, [t1, t2, t3]) =>
      if (finS (numOf s ((k + 4 : Nat) : Int) 2) (numOf s ((k + 6 : Nat) : Int) 2) (numOf s ((k + 8 : Nat) : Int) 2) (numOf s ((k + 10 : Nat) : Int) 2) (numOf s ((k + 12 : Nat) : Int) 4) (numOf s ((k + 16 : Nat) : Int) 4) (numOf s ((k + 20 : Nat) : Int) 4) (numOf s ((k + 24 : Nat) : Int) 4) (numOf s ((k + 36 : Nat) : Int) 2) (numOf s ((k + 38 : Nat) : Int) 4) (numOf s ((k + 42 : Nat) : Int) 4) t1 t2 t3).2 = 0 then
        ((finS (numOf s ((k + 4 : Nat) : Int) 2) (numOf s ((k + 6 : Nat) : Int) 2) (numOf s ((k + 8 : Nat) : Int) 2) (numOf s ((k + 10 : Nat) : Int) 2) (numOf s ((k + 12 : Nat) : Int) 4) (numOf s ((k + 16 : Nat) : Int) 4) (numOf s ((k + 20 : Nat) : Int) 4) (numOf s ((k + 24 : Nat) : Int) 4) (numOf s ((k + 36 : Nat) : Int) 2) (numOf s ((k + 38 : Nat) : Int) 4) (numOf s ((k + 42 : Nat) : Int) 4) t1 t2 t3).1, (b : Int), 0)
      else (z0, 0, (finS (numOf s ((k + 4 : Nat) : Int) 2) (numOf s ((k + 6 : Nat) : Int) 2) (numOf s ((k + 8 : Nat) : Int) 2) (numOf s ((k + 10 : Nat) : Int) 2) (numOf s ((k + 12 : Nat) : Int) 4) (numOf s ((k + 16 : Nat) : Int) 4) (numOf s ((k + 20 : Nat) : Int) 4) (numOf s ((k + 24 : Nat) : Int) 4) (numOf s ((k + 36 : Nat) : Int) 2) (numOf s ((k + 38 : Nat) : Int) 4) (numOf s ((k + 42 : Nat) : Int) 4) t1 t2 t3).2)
    | _ => (z0, 0, 3)
def flatH (x : HdT × Int × Int) : HdT × (Int × (Int × Unit)) := (x.1, (x.2.1, (x.2.2, ())))
theorem Central_no (s : List UInt8) (hs : s.length ≤ 100000) (a : Int) (h : ¬ (0 ≤ a ∧ a + 46 ≤ s.length)) : F_header_Central s a = some (flatH (z0, 0, 3)) := by
  unfold F_header_Central
  exact vB (begin_no s hs a 46 _ h) rfl
theorem Central_eq (s : List UInt8) (hs : s.length ≤ 100000) (k : Nat) (h : k + 46 ≤ s.length) : F_header_Central s (k : Int) = some (flatH (cenS s k)) := by
  unfold F_header_Central cenS
  have hb := begin_eq s hs k 46 33639248 h
  by_cases hg : numOf s ((k + 0 : Nat) : Int) 4 = 33639248
  rotate_left
  · rw [if_neg (show ¬ numOf s (k : Int) 4 = 33639248 from hg)] at hb
    rw [if_pos (.inl hg)]
    exact vB hb rfl
  rw [if_pos (show numOf s (k : Int) 4 = 33639248 from hg)] at hb
  refine vB hb ?_
  simp only [vK, bne_self_eq_false, vF]
  have R16 := fun p hp => r16 s hs p hp
  have R32 := fun p hp => r32 s hs p hp
  refine vB (R16 (k + 4) (by omega)) (vB (R16 (k + 6) (by omega)) (vB (R16 (k + 8) (by omega)) (vB (R16 (k + 10) (by omega)) (vB (R32 (k + 12) (by omega)) (vB (R32 (k + 16) (by omega)) (vB (R32 (k + 20) (by omega)) (vB (R32 (k + 24) (by omega)) (vB (R16 (k + 28) (by omega)) (vB (R16 (k + 30) (by omega)) (vB (R16 (k + 32) (by omega)) (vB (R16 (k + 34) (by omega)) (vB (R16 (k + 36) (by omega)) (vB (R32 (k + 38) (by omega)) (vB (R32 (k + 42) (by omega)) ?_))))))))))))))
  simp only []
  by_cases hd : numOf s ((k + 34 : Nat) : Int) 2 = 0
  rotate_left
  · rw [if_pos (.inr hd), ne_t hd, vT]; rfl
  rw [if_neg (by rintro (h1 | h1); exact h1 hg; exact h1 hd), ne_c hd, vF]
  obtain ⟨n1, m1, e1⟩ := toN s ((k + 28 : Nat) : Int)
  obtain ⟨n2, m2, e2⟩ := toN s ((k + 30 : Nat) : Int)
  obtain ⟨n3, m3, e3⟩ := toN s ((k + 32 : Nat) : Int)
  rw [e1, e2, e3, Int.toNat_natCast, Int.toNat_natCast, Int.toNat_natCast]
  generalize numOf s ((k + 4 : Nat) : Int) 2 = made
  generalize numOf s ((k + 6 : Nat) : Int) 2 = need
  generalize numOf s ((k + 8 : Nat) : Int) 2 = flags
  generalize numOf s ((k + 10 : Nat) : Int) 2 = method
  generalize numOf s ((k + 12 : Nat) : Int) 4 = time
  generalize numOf s ((k + 16 : Nat) : Int) 4 = crc
  generalize numOf s ((k + 20 : Nat) : Int) 4 = packed
  generalize numOf s ((k + 24 : Nat) : Int) 4 = size
  generalize numOf s ((k + 36 : Nat) : Int) 2 = inner
  generalize numOf s ((k + 38 : Nat) : Int) 4 = outer
  generalize numOf s ((k + 42 : Nat) : Int) 4 = offset
  rcases texts3_eq s hs (k + 46) n1 n2 n3 (by omega) m1 m2 m3 made need flags method time crc packed size inner outer offset with ⟨ht, x, hx⟩ | ⟨b, t1, t2, t3, ht, hb2, hl2, hx⟩
  · rw [ht]
    exact vB hx rfl
  · rw [ht]
    refine vB hx ?_
    simp only [bne_self_eq_false, vF]
    obtain ⟨e, y, hr, he, hy⟩ := resolve_eq made need flags method time crc packed size inner outer offset t1 t2 t3 (by omega)
    refine vB hr ?_
    by_cases hz : e = 0
    · have hz2 := hz; rw [he] at hz2
      simp only [ne_c hz, vF, if_pos hz2, hy hz]; rfl
    · have hz2 := hz; rw [he] at hz2
      simp only [ne_t hz, vT, if_neg hz2]; rw [he]; rfl
theorem RCentral_no (s : List UInt8) (hs : s.length ≤ 100000) (a : Int) (h : ¬ (0 ≤ a ∧ a + 46 ≤ s.length)) : F_ref18_Central s a = some (flatH (z0, 0, 3)) := by
  unfold F_ref18_Central
  refine vB (RCut_eq s a 46 (by omega)) ?_
  rw [cut_no (by omega)]
  rfl
theorem RCentral_eq (s : List UInt8) (hs : s.length ≤ 100000) (k : Nat) (h : k + 46 ≤ s.length) : F_ref18_Central s (k : Int) = some (flatH (cenS s k)) := by
  unfold F_ref18_Central cenS
  have hbl : (cutOf s (k : Int) (46 : Nat)).1.length < 1000000000 := by have := cut_length s (k : Int) (46 : Nat); omega
  have he0 : (cutOf s (k : Int) (46 : Nat)).2 = 0 := by rw [cut_nat h]
  have N16 : ∀ p : Nat, p + 2 ≤ 46 → F_ref02_U16 (cutOf s (k : Int) (46 : Nat)).1 (p : Int) = some (numOf s ((k + p : Nat) : Int) 2, ()) := fun p hp => by
    rw [RU16_eq _ _ hbl]
    have := num_cut (m := 2) h hp
    simp only [Int.cast_ofNat_Int] at this ⊢
    rw [this]
  have N32 : ∀ p : Nat, p + 4 ≤ 46 → F_ref02_U32 (cutOf s (k : Int) (46 : Nat)).1 (p : Int) = some (numOf s ((k + p : Nat) : Int) 4, ()) := fun p hp => by
    rw [RU32_eq _ _ hbl]
    have := num_cut (m := 4) h hp
    simp only [Int.cast_ofNat_Int] at this ⊢
    rw [this]
  refine vB (RCut_eq s (k : Int) (46 : Nat) (by omega)) ?_
  simp only [ne_c he0, vF]
  have n0 : F_ref02_U32 (cutOf s (k : Int) (46 : Nat)).1 0 = some (numOf s ((k + 0 : Nat) : Int) 4, ()) := N32 0 (by omega)
  have n34 : F_ref02_U16 (cutOf s (k : Int) (46 : Nat)).1 34 = some (numOf s ((k + 34 : Nat) : Int) 2, ()) := N16 34 (by omega)
  rw [n0, vS]
  simp only []
  by_cases hg : numOf s ((k + 0 : Nat) : Int) 4 = 33639248
  rotate_left
  · rw [if_pos (.inl hg), show (numOf s ((k + 0 : Nat) : Int) 4 != 33639248) = true by simpa using hg, vT, vS]; rfl
  rw [show (numOf s ((k + 0 : Nat) : Int) 4 != 33639248) = false by simpa using hg, vF, n34, vS]
  simp only []
  by_cases hd : numOf s ((k + 34 : Nat) : Int) 2 = 0
  rotate_left
  · rw [if_pos (.inr hd), ne_t hd, vS]; rfl
  rw [if_neg (by rintro (h1 | h1); exact h1 hg; exact h1 hd), ne_c hd, vS]
  simp only [vF]
  obtain ⟨n1, m1, e1⟩ := toN s ((k + 28 : Nat) : Int)
  obtain ⟨n2, m2, e2⟩ := toN s ((k + 30 : Nat) : Int)
  obtain ⟨n3, m3, e3⟩ := toN s ((k + 32 : Nat) : Int)
  refine vB (N16 28 (by omega)) (vB (N16 30 (by omega)) (vB (N16 32 (by omega)) ?_))
  simp only []
  rw [e1, e2, e3, Int.toNat_natCast, Int.toNat_natCast, Int.toNat_natCast]
  have ht := rtexts_eq s hs (k + 46) [n1, n2, n3] (by omega) (by simp)
  have w46 : IntKind.i64.wrap ((k : Int) + 46) = ((k + 46 : Nat) : Int) := add_w (a := k) (n := 46) (by omega) (by omega)
  rw [w46]
  refine vB ht ?_
  rcases texts3_eq s hs (k + 46) n1 n2 n3 (by omega) m1 m2 m3 0 0 0 0 0 0 0 0 0 0 0 with ⟨ht, x, hx⟩ | ⟨b, t1, t2, t3, ht, hb2, hl2, hx⟩
  · rw [ht]; rfl
  · rw [ht]
    simp only [decide_eq_false (show ¬ (b : Int) < 0 by omega), vF]
    refine vB (N16 4 (by omega)) (vB (N16 6 (by omega)) (vB (N16 8 (by omega)) (vB (N16 10 (by omega)) (vB (N32 12 (by omega)) (vB (N32 16 (by omega)) (vB (N32 20 (by omega)) (vB (N32 24 (by omega)) (vB (N16 36 (by omega)) (vB (N32 38 (by omega)) (vB (N32 42 (by omega)) ?_))))))))))
    refine vB (r := t1) rfl (vB (r := t1) rfl (vB (r := t2) rfl (vB (r := t2) rfl (vB (r := t3) rfl (vB (r := t3) rfl ?_)))))
    refine vB (finish_eq _ _ _ _ _ _ _ _ _ _ _ t1 t2 t3 (by omega)) ?_
    simp only []
    generalize hf : finS _ _ _ _ _ _ _ _ _ _ _ t1 t2 t3 = f
    by_cases hz : f.2 = 0
    · simp only [ne_c hz, vF, if_pos hz]; rfl
    · simp only [ne_t hz, vT, if_neg hz]; rfl
end Go.Proofs.YtobhmahlenjheaaM
