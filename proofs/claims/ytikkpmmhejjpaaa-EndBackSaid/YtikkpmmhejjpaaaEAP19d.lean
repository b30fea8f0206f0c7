/- Layer 19 in plain terms: end records that may be have the document's bytes, and are found again. -/
import Derived.Test.YtikkpmmhejjpaaaEAP19c
import Derived.Test.YtikkpmmhejjpaaaOP
set_option linter.unusedSimpArgs false
set_option linter.unusedVariables false
namespace Go.Proofs.YtikkpmmhejjpaaaM
open Go Go.RowKit

section
variable (p m : List UInt8) (hm : m.length ≤ 100) (hp : p.length ≤ 1000)
include hm hp
/-- The rest of the search, from where the record is. -/
theorem Find_at (c n o : Int) (hl : lastE (p ++ rec22 c n o m) = some p.length) (r : Gapi_End) (hcase : (IntKind.u64.wrap c).toNat % 65536 ≠ 65535 ∧ (IntKind.u64.wrap n).toNat % 4294967296 ≠ 4294967295 ∧ (IntKind.u64.wrap o).toNat % 4294967296 ≠ 4294967295 ∧
      r = ⟨(p.length : Int), ((IntKind.u64.wrap c).toNat % 65536 : Nat), ((IntKind.u64.wrap n).toNat % 4294967296 : Nat), ((IntKind.u64.wrap o).toNat % 4294967296 : Nat), [], false⟩ ∨
      (IntKind.u64.wrap c).toNat % 65536 = 65535 ∧ F_ref19_wide (p ++ rec22 c n o m) p.length = some (r, 0))
    (hat : IntKind.i64.wrap (r.xOffset + r.xSize) = r.xAt) :
    F_ref19_Find (p ++ rec22 c n o m) = some (⟨r.xAt, r.xCount, r.xSize, r.xOffset, m, r.xWide⟩, 0) := by
  have hlen := rec_len m c n o
  have hz : (p ++ rec22 c n o m).length = p.length + 22 + m.length := by rw [List.length_append, hlen]; omega
  have ww : ∀ k : Int, 0 ≤ k → k ≤ 1000 → IntKind.i64.wrap ((p.length : Int) + k) = (p.length : Int) + k := fun k h0 h1 => wrap_i64 (by omega) (by omega)
  have hs' : (p ++ rec22 c n o m).length < 1000000000 := by omega
  have g4 := rec_num p m c n o 4 2
  have g6 := rec_num p m c n o 6 2
  have g8 := rec_num p m c n o 8 2
  have g10 := rec_num p m c n o 10 2
  have g12 := rec_num p m c n o 12 4
  have g16 := rec_num p m c n o 16 4
  simp only [show ((4 : Nat) : Int) = 4 from rfl, show ((6 : Nat) : Int) = 6 from rfl, show ((8 : Nat) : Int) = 8 from rfl, show ((10 : Nat) : Int) = 10 from rfl, show ((12 : Nat) : Int) = 12 from rfl, show ((16 : Nat) : Int) = 16 from rfl] at g4 g6 g8 g10 g12 g16
  have sb : subS (p ++ rec22 c n o m) ((p.length : Int) + 22) (p ++ rec22 c n o m).length = some m := by
    unfold subS
    rw [if_pos (by omega), Int.toNat_natCast, List.take_length, show ((p.length : Int) + 22).toNat = p.length + 22 by omega, ← List.drop_drop, rec_drop]
    congr 1
  unfold F_ref19_Find
  rw [record_eq _ (by omega), hl]
  simp only [Option.bind_some]
  rw [if_neg (by omega : ¬ (p.length : Int) < 0)]
  simp only [RU16_eq _ _ hs', RU32_eq _ _ hs', ww 4 (by omega) (by omega), ww 6 (by omega) (by omega), ww 8 (by omega) (by omega), ww 10 (by omega) (by omega), ww 12 (by omega) (by omega), ww 16 (by omega) (by omega), ww 22 (by omega) (by omega),
    g4, g6, g8, g10, g12, g16, f4, f6, f8, f10, f12, f16, bne_self_eq_false, Bool.false_eq_true, if_false, Option.bind_some, sb]
  rcases hcase with ⟨h1, h2, h3, rfl⟩ | ⟨h1, h2⟩
  · have b1 : ((((IntKind.u64.wrap c).toNat % 65536 : Nat) : Int) == 65535) = false := by simp; omega
    have b2 : ((((IntKind.u64.wrap n).toNat % 4294967296 : Nat) : Int) == 4294967295) = false := by simp; omega
    have b3 : ((((IntKind.u64.wrap o).toNat % 4294967296 : Nat) : Int) == 4294967295) = false := by simp; omega
    simp only [b1, b2, b3, Bool.false_eq_true, if_false, Option.bind_some, sumK_inl]
    simp only at hat
    simp only [hat, bne_self_eq_false, Bool.false_eq_true, if_false]
  · have b1 : ((((IntKind.u64.wrap c).toNat % 65536 : Nat) : Int) == 65535) = true := by rw [h1]; rfl
    simp only [b1, if_true, Option.bind_some, h2, bne_self_eq_false, Bool.false_eq_true, if_false, sumK_inl, hat]
end

theorem w65535 : (IntKind.u64.wrap (65535 : Int)).toNat % 65536 = 65535 := by decide

/-- The wide end ahead of a record. -/
theorem wide_at (q m : List UInt8) (x : Gapi_End) (hq : q.length = x.xAt.toNat) (h0 : 0 ≤ x.xAt) (hA : x.xAt ≤ 1000) (hm : m.length ≤ 100) (hc : 0 ≤ x.xCount ∧ x.xCount ≤ 1099511627776) (hn : 0 ≤ x.xSize ∧ x.xSize ≤ 1099511627776) (ho : 0 ≤ x.xOffset ∧ x.xOffset ≤ 1099511627776) :
    F_ref19_wide ((q ++ rec76 x) ++ rec22 65535 4294967295 4294967295 m) ((q ++ rec76 x).length : Nat) = some (⟨x.xAt, x.xCount, x.xSize, x.xOffset, [], true⟩, 0) := by
  have hl76 : (rec76 x).length = 76 := by unfold rec76; simp [put_len]
  have hqr : (q ++ rec76 x).length = q.length + 76 := by rw [List.length_append, hl76]
  have hl22 := rec_len m 65535 4294967295 4294967295
  rw [hqr]
  generalize hR : rec22 65535 4294967295 4294967295 m = R at *
  have hz : (q ++ rec76 x ++ R).length = q.length + 76 + 22 + m.length := by rw [List.length_append, hqr, hl22]; omega
  have w0 : IntKind.i64.wrap (((q.length + 76 : Nat) : Int) - 20) = (q.length : Int) + 56 := by rw [wrap_i64 (by omega) (by omega)]; omega
  have w1 : IntKind.i64.wrap (((q.length + 76 : Nat) : Int) - 76) = (q.length : Int) := by rw [wrap_i64 (by omega) (by omega)]; omega
  -- the two pieces
  have hW : rec76 x = (put 101075792 4 ++ (put 44 8 ++ (put 45 2 ++ (put 45 2 ++ (put 0 8 ++ (put x.xCount 8 ++ (put x.xCount 8 ++ (put x.xSize 8 ++ put x.xOffset 8)))))))) ++ (put 117853008 4 ++ (put 0 4 ++ (put x.xAt 8 ++ put 1 4))) := by
    unfold rec76; simp only [List.append_assoc]
  generalize hw : (put 101075792 4 ++ (put 44 8 ++ (put 45 2 ++ (put 45 2 ++ (put 0 8 ++ (put x.xCount 8 ++ (put x.xCount 8 ++ (put x.xSize 8 ++ put x.xOffset 8)))))))) = w at hW
  generalize hl : (put 117853008 4 ++ (put 0 4 ++ (put x.xAt 8 ++ put 1 4))) = l at hW
  have lw : w.length = 56 := by rw [← hw]; simp [put_len]
  have ll : l.length = 20 := by rw [← hl]; simp [put_len]
  have s1 : subS (q ++ rec76 x ++ R) ((q.length : Int) + 56) ((q.length + 76 : Nat) : Int) = some l := by
    unfold subS
    rw [if_pos (by omega), hW, show (((q.length + 76 : Nat) : Int)).toNat = q.length + 76 by omega, show ((q.length : Int) + 56).toNat = q.length + 56 by omega]
    congr 1
    rw [List.append_assoc, List.append_assoc, List.take_length_add_append, ← List.append_assoc, List.take_append_of_le_length (by rw [List.length_append]; omega), List.take_of_length_le (by rw [List.length_append]; omega)]
    rw [← lw, ← List.length_append, ← List.append_assoc, List.drop_left]
  have s2 : subS (q ++ rec76 x ++ R) (q.length : Int) ((q.length : Int) + 56) = some w := by
    unfold subS
    rw [if_pos (by omega), hW, Int.toNat_natCast, show ((q.length : Int) + 56).toNat = q.length + 56 by omega]
    congr 1
    rw [List.append_assoc, List.append_assoc, List.take_length_add_append, List.take_append_of_le_length (by omega), List.take_of_length_le (by omega), List.drop_left]
  have h1 : l.length < 1000000000 := by omega
  have h2 : w.length < 1000000000 := by omega
  have k1 : numOf l 0 4 = 117853008 := num_at' [] _ 117853008 4 hl.symm rfl
  have k2 : numOf l 4 4 = 0 := num_at' (put 117853008 4) _ 0 4 hl.symm rfl
  have k3 : numOf l 8 8 = x.xAt := by
    refine (num_at' (put 117853008 4 ++ put 0 4) (put 1 4) x.xAt 8 (by rw [← hl]; simp only [List.append_assoc]) rfl).trans ?_
    rw [wrap_u64]; omega
  have k4 : numOf l 16 4 = 1 := num_at' (put 117853008 4 ++ (put 0 4 ++ put x.xAt 8)) [] 1 4 (by rw [← hl]; simp only [List.append_assoc, List.append_nil]) rfl
  have m1 : numOf w 0 4 = 101075792 := num_at' [] _ 101075792 4 hw.symm rfl
  have m2 : numOf w 4 8 = 44 := num_at' (put 101075792 4) _ 44 8 hw.symm rfl
  have m3 : numOf w 16 4 = 0 := by
    have e : put 0 8 = put 0 4 ++ put 0 4 := by decide
    exact num_at' (put 101075792 4 ++ (put 44 8 ++ (put 45 2 ++ put 45 2))) _ 0 4 (by rw [← hw, e]; simp only [List.append_assoc]; rfl) rfl
  have m4 : numOf w 20 4 = 0 := by
    have e : put 0 8 = put 0 4 ++ put 0 4 := by decide
    exact num_at' (put 101075792 4 ++ (put 44 8 ++ (put 45 2 ++ (put 45 2 ++ put 0 4)))) _ 0 4 (by rw [← hw, e]; simp only [List.append_assoc]; rfl) rfl
  have m5 : numOf w 24 8 = x.xCount := by
    refine (num_at' (put 101075792 4 ++ (put 44 8 ++ (put 45 2 ++ (put 45 2 ++ put 0 8)))) _ x.xCount 8 (by rw [← hw]; simp only [List.append_assoc]; rfl) rfl).trans ?_
    rw [wrap_u64]; omega
  have m6 : numOf w 32 8 = x.xCount := by
    refine (num_at' (put 101075792 4 ++ (put 44 8 ++ (put 45 2 ++ (put 45 2 ++ (put 0 8 ++ put x.xCount 8))))) _ x.xCount 8 (by rw [← hw]; simp only [List.append_assoc]; rfl) rfl).trans ?_
    rw [wrap_u64]; omega
  have m7 : numOf w 40 8 = x.xSize := by
    refine (num_at' (put 101075792 4 ++ (put 44 8 ++ (put 45 2 ++ (put 45 2 ++ (put 0 8 ++ (put x.xCount 8 ++ put x.xCount 8)))))) _ x.xSize 8 (by rw [← hw]; simp only [List.append_assoc]; rfl) rfl).trans ?_
    rw [wrap_u64]; omega
  have m8 : numOf w 48 8 = x.xOffset := by
    refine (num_at' (put 101075792 4 ++ (put 44 8 ++ (put 45 2 ++ (put 45 2 ++ (put 0 8 ++ (put x.xCount 8 ++ (put x.xCount 8 ++ put x.xSize 8))))))) [] x.xOffset 8 (by rw [← hw]; simp only [List.append_assoc, List.append_nil]) rfl).trans ?_
    rw [wrap_u64]; omega
  have hx : (q.length : Int) = x.xAt := by omega
  have wu : IntKind.u64.wrap x.xAt = x.xAt := by rw [wrap_u64]; omega
  have wc : IntKind.i64.wrap x.xCount = x.xCount := wrap_i64 (by omega) (by omega)
  have wn : IntKind.i64.wrap x.xSize = x.xSize := wrap_i64 (by omega) (by omega)
  have wo : IntKind.i64.wrap x.xOffset = x.xOffset := wrap_i64 (by omega) (by omega)
  have mx : ¬ maxI (maxI x.xCount x.xSize) x.xOffset > 1099511627776 := by unfold maxI; split <;> split <;> omega
  unfold F_ref19_wide
  simp only [w0, w1, s1, s2, Option.bind_some, RU32_eq l _ h1, RU32_eq w _ h2, rlong l _ h1, rlong w _ h2, k1, k2, k3, k4, m1, m2, m3, m4, m5, m6, m7, m8]
  rw [if_neg (by omega)]
  simp only [hx, wu, wc, wn, wo, mx, bne_self_eq_false, Bool.false_eq_true, if_false, Option.bind_some]

theorem L_sig (x : Gapi_End) (hc : x.xComment.length ≤ 100) : ∀ (k i n : Nat), i + k = x.xComment.length + 1 → k < n → ∃ r, iter (L_law19_EndBack_1 x) n (i : Int) = some r ∧ (r = .inl () → ∀ j, i ≤ j → j + 4 ≤ x.xComment.length → (x.xComment.drop j).take 4 ≠ [80, 75, 5, 6]) := by
  intro k
  induction k with
  | zero =>
    intro i n hi hn
    obtain ⟨n, rfl⟩ : ∃ j, n = j + 1 := ⟨n - 1, by omega⟩
    have w4 : IntKind.i64.wrap ((i : Int) + 4) = (i : Int) + 4 := wrap_i64 (by omega) (by omega)
    refine ⟨.inl (), iter_inr ?_, fun _ j h1 h2 => by omega⟩
    unfold L_law19_EndBack_1
    rw [w4, if_neg (by omega)]
  | succ k ih =>
    intro i n hi hn
    obtain ⟨n, rfl⟩ : ∃ j, n = j + 1 := ⟨n - 1, by omega⟩
    have w4 : IntKind.i64.wrap ((i : Int) + 4) = (i : Int) + 4 := wrap_i64 (by omega) (by omega)
    have w1 : IntKind.i64.wrap ((i : Int) + 1) = ((i + 1 : Nat) : Int) := by rw [wrap_i64 (by omega) (by omega)]; omega
    by_cases c : (i : Int) + 4 ≤ x.xComment.length
    · have sb : subS x.xComment (i : Int) ((i : Int) + 4) = some ((x.xComment.drop i).take 4) := by
        unfold subS
        rw [if_pos (by omega), show ((i : Int) + 4).toNat = 4 + i by omega, Int.toNat_natCast, List.drop_take, show 4 + i - i = 4 by omega]
      by_cases e : (x.xComment.drop i).take 4 = [80, 75, 5, 6]
      · refine ⟨.inr (), iter_inr ?_, fun h => by cases h⟩
        unfold L_law19_EndBack_1
        rw [w4, if_pos c, sb]
        simp [e]
      · obtain ⟨r, h1, h2⟩ := ih (i + 1) n (by omega) (by omega)
        have step : L_law19_EndBack_1 x (i : Int) = some (.inl ((i + 1 : Nat) : Int)) := by
          unfold L_law19_EndBack_1
          rw [w4, if_pos c, sb]
          simp [e, w1]
        refine ⟨r, by rw [iter_inl step, h1], fun hr j h3 h4 => ?_⟩
        rcases Nat.eq_or_lt_of_le h3 with rfl | h5
        · exact e
        · exact h2 hr j h5 h4
    · refine ⟨.inl (), iter_inr ?_, fun _ j h1 h2 => by omega⟩
      unfold L_law19_EndBack_1
      rw [w4, if_neg c]

theorem rep_byt (n : Nat) : (List.replicate n (0 : Int)).map byt = List.replicate n 0 := by rw [List.map_replicate]; rfl

theorem okB4 (v : Int) (h0 : 0 ≤ v) (h1 : v < 256) : ∃ a b d e, put v 4 = [a, b, d, e] ∧ okB b ∧ okB d ∧ okB e := by
  obtain ⟨a, h⟩ := put4_small v h0 h1
  exact ⟨a, 0, 0, 0, h, .inl rfl, .inl rfl, .inl rfl⟩

/-- Found again. -/
theorem Find_back (x : Gapi_End) (hok : endOK x) (hc : x.xComment.length ≤ 100) (hA : x.xAt ≤ 200) (hb : -9223372036854775808 ≤ x.xOffset + x.xSize ∧ x.xOffset + x.xSize < 9223372036854775808)
    (hsig : ∀ j, j + 4 ≤ x.xComment.length → (x.xComment.drop j).take 4 ≠ [80, 75, 5, 6]) : F_ref19_Find (List.replicate x.xAt.toNat 0 ++ endB x) = some (x, 0) := by
  obtain ⟨⟨c1, c2⟩, ⟨n1, n2⟩, ⟨o1, o2⟩, hat, _⟩ := hok
  rw [wrap_i64 hb.1 hb.2] at hat
  have hl : (List.replicate x.xAt.toNat (0 : UInt8)).length = x.xAt.toNat := List.length_replicate
  unfold endB
  cases hw : x.xWide
  · rw [hw] at c2 n2 o2
    simp only [Bool.false_eq_true, if_false] at c2 n2 o2 ⊢
    have h1 := rec_last (List.replicate x.xAt.toNat 0) x.xComment x.xCount x.xSize x.xOffset hc (by omega) (okB4 _ n1 (by omega)) (okB4 _ o1 (by omega)) hsig
    have e1 : (((IntKind.u64.wrap x.xCount).toNat % 65536 : Nat) : Int) = x.xCount := by rw [wrap_u64]; omega
    have e2 : (((IntKind.u64.wrap x.xSize).toNat % 4294967296 : Nat) : Int) = x.xSize := by rw [wrap_u64]; omega
    have e3 : (((IntKind.u64.wrap x.xOffset).toNat % 4294967296 : Nat) : Int) = x.xOffset := by rw [wrap_u64]; omega
    have := Find_at (List.replicate x.xAt.toNat 0) x.xComment hc (by omega) x.xCount x.xSize x.xOffset h1 _ (.inl ⟨by omega, by omega, by omega, rfl⟩) (by
      simp only [hl, e2, e3]
      rw [wrap_i64 hb.1 hb.2]; omega)
    rw [this]
    simp only [hl, e1, e2, e3]
    congr 2
    cases x
    simp only [Gapi_End.mk.injEq] at *
    refine ⟨by omega, trivial, trivial, trivial, trivial, hw.symm⟩
  · rw [hw] at c2 n2 o2
    simp only [if_true] at c2 n2 o2 ⊢
    have hl76 : (rec76 x).length = 76 := by unfold rec76; simp [put_len]
    have hff : ∃ a b d e, put 4294967295 4 = [a, b, d, e] ∧ okB b ∧ okB d ∧ okB e := ⟨255, 255, 255, 255, by decide, .inr rfl, .inr rfl, .inr rfl⟩
    have hp : (List.replicate x.xAt.toNat 0 ++ rec76 x).length ≤ 1000 := by rw [List.length_append, hl, hl76]; omega
    have h1 := rec_last (List.replicate x.xAt.toNat 0 ++ rec76 x) x.xComment 65535 4294967295 4294967295 hc hp hff hff hsig
    have h2 := wide_at (List.replicate x.xAt.toNat 0) x.xComment x hl (by omega) (by omega) hc ⟨c1, c2⟩ ⟨n1, n2⟩ ⟨o1, o2⟩
    have := Find_at (List.replicate x.xAt.toNat 0 ++ rec76 x) x.xComment hc hp 65535 4294967295 4294967295 h1 _ (.inr ⟨w65535, h2⟩) (by
      simp only
      rw [wrap_i64 hb.1 hb.2]; omega)
    rw [← List.append_assoc, this]
    congr 2
    cases x
    simp only [Gapi_End.mk.injEq] at *
    refine ⟨trivial, trivial, trivial, trivial, trivial, hw.symm⟩

theorem endB_len (x : Gapi_End) (hc : x.xComment.length ≤ 100) : (endB x).length ≤ 98 + 100 := by
  have hl76 : (rec76 x).length = 76 := by unfold rec76; simp [put_len]
  unfold endB
  split
  · rw [List.length_append, hl76, rec_len]; omega
  · rw [rec_len]; omega

theorem true_law19_EndBack (x : Gapi_End) (wA : (Lit.int .i64 x.xAt).wf = true) (wC : (Lit.int .i64 x.xCount).wf = true) (wS : (Lit.int .i64 x.xSize).wf = true) (wO : (Lit.int .i64 x.xOffset).wf = true) : F_law19_EndBack x = some true := by
  have bS := wf_i64 wS
  have bO := wf_i64 wO
  unfold F_law19_EndBack
  rw [awake19]
  simp only [Option.bind_some, Bool.not_true, Bool.false_eq_true, if_false]
  by_cases c : (x.xComment.length : Int) > 100
  · rw [if_pos c]
  rw [if_neg c, EPut_eq x (by omega), RefPut_eq x (by omega)]
  by_cases hok : endOK x
  · simp only [if_pos hok, Option.bind_some, bne_self_eq_false, Bool.false_eq_true, if_false, beq_self_eq_true, Bool.not_true, if_true]
    by_cases cA : x.xAt > 200
    · simp [cA]
    · simp only [cA, decide_false, Bool.false_eq_true, if_false, Option.bind_some]
      have hb : -9223372036854775808 ≤ x.xOffset + x.xSize ∧ x.xOffset + x.xSize < 9223372036854775808 := by
        obtain ⟨_, ⟨n1, n2⟩, ⟨o1, o2⟩, _, _⟩ := hok
        cases hw : x.xWide <;> rw [hw] at n2 o2 <;> simp at n2 o2 <;> omega
      have h0 : 0 ≤ x.xAt := by
        obtain ⟨_, ⟨n1, n2⟩, ⟨o1, o2⟩, hat, _⟩ := hok
        rw [wrap_i64 hb.1 hb.2] at hat; omega
      have hmk : mkL (0 : Int) x.xAt = some (List.replicate x.xAt.toNat 0) := by unfold mkL; rw [if_pos (by unfold capL; omega)]
      have hbl := endB_len x (by omega)
      rw [hmk]
      simp only [Option.bind_some, rep_byt]
      rw [cat_eq _ _ (by rw [List.length_replicate]; omega)]
      simp only [Option.bind_some]
      have hz : (List.replicate x.xAt.toNat 0 ++ endB x).length ≤ 60000 := by rw [List.length_append, List.length_replicate]; omega
      obtain ⟨y, hy⟩ := Find_some _ hz
      rw [Find_eq _ hz, hy]
      simp only [Option.bind_some, beq_self_eq_true, Bool.and_self, Bool.not_true, Bool.false_eq_true, if_false, bne_self_eq_false]
      obtain ⟨r, h1, h2⟩ := L_sig x (by omega) (x.xComment.length + 1) 0 NF (by omega) (by rw [NF_eq]; omega)
      rw [show ((0 : Nat) : Int) = 0 from rfl] at h1
      rw [h1]
      simp only [Option.bind_some]
      cases r with
      | inr u => rfl
      | inl u =>
        have hf := Find_back x hok (by omega) (by omega) hb fun j hj => h2 rfl j (by omega) hj
        rw [hy] at hf
        cases hf
        simp [sumK]
  · simp [if_neg hok]
end Go.Proofs.YtikkpmmhejjpaaaM
