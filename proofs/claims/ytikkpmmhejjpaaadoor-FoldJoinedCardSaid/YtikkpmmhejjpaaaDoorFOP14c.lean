/- Layer 14 in plain terms: what is folded stays; the laws. -/
import Derived.Test.YtikkpmmhejjpaaaDoorFOP14b
set_option linter.unusedSimpArgs false
set_option linter.unusedVariables false
namespace Go.Proofs.YtikkpmmhejjpaaaDoorM
open Go Go.RowKit

/-- What is behind a letter doesn't matter. -/
theorem dec_take (l x : List UInt8) (h : dec l ≠ (0, 0)) : dec (l.take (dec l).2.toNat ++ x) = dec l := by
  rcases l with _ | ⟨b0, r⟩
  · exact absurd rfl h
  by_cases h1 : b0.toNat < 128
  · simp [dec, h1]
  by_cases h2 : b0.toNat < 194
  · exact absurd (by simp [dec, h1, h2]) h
  rcases r with _ | ⟨b1, r⟩
  · exact absurd (by simp [dec, h1]) h
  cases c1 : cont b1 with
  | false => exact absurd (by simp [dec, h1, c1]) h
  | true =>
  by_cases h3 : b0.toNat < 224
  · have e : dec (b0 :: b1 :: r) = (64 * ((b0.toNat : Int) - 192) + ((b1.toNat : Int) - 128), 2) := by simp [dec, h1, h2, h3, c1]
    rw [e]; simp [dec, h1, h2, h3, c1]
  rcases r with _ | ⟨b2, r⟩
  · exact absurd (by simp [dec, h1, h3]) h
  cases c2 : cont b2 with
  | false => exact absurd (by simp [dec, h1, h3, c2]) h
  | true =>
  by_cases h4 : b0.toNat < 240
  · have e : ∀ r, dec (b0 :: b1 :: b2 :: r) = ok3 (64 * (64 * ((b0.toNat : Int) - 224) + ((b1.toNat : Int) - 128)) + ((b2.toNat : Int) - 128)) := fun r => by simp [dec, h1, h2, h3, h4, c1, c2]
    rw [e] at h ⊢
    have e2 : (ok3 (64 * (64 * ((b0.toNat : Int) - 224) + ((b1.toNat : Int) - 128)) + ((b2.toNat : Int) - 128))).2 = 3 := by rw [(ok3_or _).resolve_left h]
    rw [e2]
    exact e x
  rcases r with _ | ⟨b3, r⟩
  · exact absurd (by simp [dec, h1, h3, h4]) h
  cases c3 : cont b3 with
  | false => exact absurd (by simp [dec, h1, h3, h4, c3]) h
  | true =>
  by_cases h5 : b0.toNat < 248
  · have e : ∀ r, dec (b0 :: b1 :: b2 :: b3 :: r) = ok4 (64 * (64 * (64 * ((b0.toNat : Int) - 240) + ((b1.toNat : Int) - 128)) + ((b2.toNat : Int) - 128)) + ((b3.toNat : Int) - 128)) := fun r => by simp [dec, h1, h2, h3, h4, h5, c1, c2, c3]
    rw [e] at h ⊢
    have e2 : (ok4 (64 * (64 * (64 * ((b0.toNat : Int) - 240) + ((b1.toNat : Int) - 128)) + ((b2.toNat : Int) - 128)) + ((b3.toNat : Int) - 128))).2 = 4 := by rw [(ok4_or _).resolve_left h]
    rw [e2]
    exact e x
  · exact absurd (by simp [dec, h1, h2, h3, h4, h5]) h

theorem dec_enc {c : Int} (h0 : 0 ≤ c) (h : c < 2048) (x : List UInt8) : dec (enc14 c ++ x) = (c, ((enc14 c).length : Int)) := by
  obtain ⟨n, rfl⟩ := fin_of h0 h
  have hd := (enc_fin n).2.2.2.2
  have hp := enc_pos ((n.val : Nat) : Int)
  have hne : dec (enc14 ((n.val : Nat) : Int)) ≠ (0, 0) := fun hh => by rw [hd] at hh; have := congrArg Prod.snd hh; simp only at this; omega
  have := dec_take _ x hne
  rw [hd] at this
  simpa using this

/-- The first byte of a folded text goes on where it did, and then it is the same. -/
theorem fold_cont (b : UInt8) (r : List UInt8) (h : cont b = true) : fold (b :: r) = b :: fold r := by
  have := cont_lt h
  have hd : dec (b :: r) = (0, 0) := by simp [dec, show ¬ b.toNat < 128 by omega, show b.toNat < 194 by omega]
  rw [fold_cons _ (by simp)]
  unfold piece adv
  rw [hd]
  simp
theorem enc_head {c : Int} (h0 : 0 ≤ c) (h : c < 2048) : ∃ b t, enc14 c = b :: t ∧ cont b = false := by
  have hf : ∀ n : Fin 2048, ((enc14 ((n.val : Nat) : Int)).head?.map cont) = some false := by decide +kernel
  obtain ⟨n, rfl⟩ := fin_of h0 h
  have := hf n
  cases he : enc14 ((n.val : Nat) : Int) with
  | nil => rw [he] at this; cases this
  | cons b t => rw [he] at this; exact ⟨b, t, rfl, by simpa using this⟩
theorem fold_not (b : UInt8) (r : List UInt8) (h : cont b = false) : ∃ b' t, fold (b :: r) = b' :: t ∧ cont b' = false := by
  rw [fold_cons _ (by simp)]
  unfold piece
  rcases dec_size (b :: r) with hd | hd
  · rw [hd]; exact ⟨b, _, rfl, h⟩
  · have h2 : ¬ (dec (b :: r)).2 = 0 := by omega
    rw [if_neg h2]
    split
    · obtain ⟨k, hk⟩ : ∃ k, (dec (b :: r)).2.toNat = k + 1 := ⟨(dec (b :: r)).2.toNat - 1, by omega⟩
      rw [hk]
      exact ⟨b, _, rfl, h⟩
    · rename_i hs
      have hm := sm_lo hs
      obtain ⟨b', t, e, hc⟩ := enc_head hm.2.2.2.1 hm.2.2.2.2.1
      rw [e]
      exact ⟨b', _, rfl, hc⟩
theorem dec_not2 (b0 b1 : UInt8) (r : List UInt8) (h1 : ¬ b0.toNat < 128) (hc : cont b1 = false) : dec (b0 :: b1 :: r) = (0, 0) := by simp [dec, h1, hc]
theorem dec_not3 (b0 b1 b2 : UInt8) (r : List UInt8) (h1 : ¬ b0.toNat < 224) (hc : cont b2 = false) : dec (b0 :: b1 :: b2 :: r) = (0, 0) := by simp [dec, show ¬ b0.toNat < 128 by omega, show ¬ b0.toNat < 194 by omega, h1, hc]
theorem dec_not4 (b0 b1 b2 b3 : UInt8) (r : List UInt8) (h1 : ¬ b0.toNat < 240) (hc : cont b3 = false) : dec (b0 :: b1 :: b2 :: b3 :: r) = (0, 0) := by simp [dec, show ¬ b0.toNat < 128 by omega, show ¬ b0.toNat < 194 by omega, show ¬ b0.toNat < 224 by omega, h1, hc]
theorem dec_bad_fold (b0 : UInt8) (r : List UInt8) (h : dec (b0 :: r) = (0, 0)) : dec (b0 :: fold r) = (0, 0) := by
  by_cases h1 : b0.toNat < 128
  · exact absurd h (by simp [dec, h1])
  by_cases h2 : b0.toNat < 194
  · simp [dec, h1, h2]
  rcases r with _ | ⟨b1, r⟩
  · rw [fold_nil]; exact h
  cases c1 : cont b1 with
  | false =>
    obtain ⟨b', t, e, hc⟩ := fold_not b1 r c1
    rw [e]; exact dec_not2 _ _ _ h1 hc
  | true =>
  rw [fold_cont _ _ c1]
  by_cases h3 : b0.toNat < 224
  · exact absurd h (by simp [dec, h1, h2, h3, c1])
  rcases r with _ | ⟨b2, r⟩
  · rw [fold_nil]; exact h
  cases c2 : cont b2 with
  | false =>
    obtain ⟨b', t, e, hc⟩ := fold_not b2 r c2
    rw [e]; exact dec_not3 _ _ _ _ h3 hc
  | true =>
  rw [fold_cont _ _ c2]
  by_cases h4 : b0.toNat < 240
  · have e : ∀ r, dec (b0 :: b1 :: b2 :: r) = ok3 (64 * (64 * ((b0.toNat : Int) - 224) + ((b1.toNat : Int) - 128)) + ((b2.toNat : Int) - 128)) := fun r => by simp [dec, h1, h2, h3, h4, c1, c2]
    rw [e] at h ⊢; exact h
  rcases r with _ | ⟨b3, r⟩
  · rw [fold_nil]; exact h
  cases c3 : cont b3 with
  | false =>
    obtain ⟨b', t, e, hc⟩ := fold_not b3 r c3
    rw [e]; exact dec_not4 _ _ _ _ _ h4 hc
  | true =>
  rw [fold_cont _ _ c3]
  have e : ∀ r r', dec (b0 :: b1 :: b2 :: b3 :: r) = dec (b0 :: b1 :: b2 :: b3 :: r') := fun r r' => by simp [dec, h1, h2, h3, h4, c1, c2, c3]
  rw [e _ r]; exact h

theorem fold_at (l : List UInt8) (p : List UInt8) (x : List UInt8) (e : l = p ++ x) (ha : adv l = p.length) (hl : l ≠ []) : fold l = piece l ++ fold x := by
  rw [fold_cons l hl, ha]
  congr 2
  rw [e, List.drop_left]
theorem piece_same {l : List UInt8} {c n : Int} (hd : dec l = (c, n)) (hn : n ≠ 0) (hs : sm c = c) : piece l = l.take n.toNat := by
  unfold piece; rw [hd, if_neg hn, if_pos hs]
theorem adv_of {l : List UInt8} {c n : Int} (hd : dec l = (c, n)) (hn : n ≠ 0) : adv l = n.toNat := by
  unfold adv; rw [hd, if_neg hn]
theorem fold_fold_n : ∀ (n : Nat) (l : List UInt8), l.length ≤ n → fold (fold l) = fold l := by
  intro n
  induction n with
  | zero => intro l h; obtain rfl := List.eq_nil_of_length_eq_zero (show l.length = 0 by omega); rw [fold_nil, fold_nil]
  | succ n ih =>
    intro l h
    by_cases hl : l = []
    · rw [hl, fold_nil, fold_nil]
    have h1 := adv_pos l
    have h2 := adv_le l hl
    have hi := ih (l.drop (adv l)) (by simp; omega)
    have hpl := piece_len l hl
    have key : piece (fold l) = piece l ∧ adv (fold l) = adv l := by
      rw [fold_cons l hl]
      obtain ⟨b0, r, rfl⟩ : ∃ b r, l = b :: r := by
        cases l with
        | nil => exact absurd rfl hl
        | cons b r => exact ⟨b, r, rfl⟩
      rcases dec_size (b0 :: r) with hd | hd
      · have ea : adv (b0 :: r) = 1 := by unfold adv; rw [hd]; rfl
        have ep : piece (b0 :: r) = [b0] := by unfold piece; rw [hd]; rfl
        have e2 := dec_bad_fold b0 r hd
        rw [ep, ea]
        simp only [List.drop_one, List.tail_cons, List.singleton_append]
        unfold piece adv
        rw [e2]
        exact ⟨rfl, rfl⟩
      · have hz : ¬ (dec (b0 :: r)).2 = 0 := by omega
        have hne : dec (b0 :: r) ≠ (0, 0) := fun hh => hz (by rw [hh])
        have ea : adv (b0 :: r) = (dec (b0 :: r)).2.toNat := by unfold adv; rw [if_neg hz]
        by_cases hs : sm (dec (b0 :: r)).1 = (dec (b0 :: r)).1
        · have ep : piece (b0 :: r) = (b0 :: r).take (dec (b0 :: r)).2.toNat := by unfold piece; rw [if_neg hz, if_pos hs]
          have hdt := dec_take (b0 :: r) (fold ((b0 :: r).drop (adv (b0 :: r)))) hne
          rw [← ep] at hdt
          rw [piece_same (c := (dec (b0 :: r)).1) (n := (dec (b0 :: r)).2) hdt hz hs, adv_of (c := (dec (b0 :: r)).1) (n := (dec (b0 :: r)).2) hdt hz, ea]
          refine ⟨?_, rfl⟩
          rw [List.take_append_of_le_length (by omega), List.take_of_length_le (by omega)]
        · have hm := sm_lo hs
          have ep : piece (b0 :: r) = enc14 (sm (dec (b0 :: r)).1) := by unfold piece; rw [if_neg hz, if_neg hs]
          have hde := dec_enc hm.2.2.2.1 hm.2.2.2.2.1 (fold ((b0 :: r).drop (adv (b0 :: r))))
          rw [← ep] at hde
          generalize fold ((b0 :: r).drop (adv (b0 :: r))) = x at *
          have hp0 : ¬ (((piece (b0 :: r)).length : Int)) = 0 := by omega
          rw [piece_same hde hp0 hm.2.2.1, adv_of hde hp0, Int.toNat_natCast, List.take_left]
          exact ⟨rfl, hpl⟩
    have hfl := fold_length l
    have hfne : fold l ≠ [] := fun hh => by rw [hh] at hfl; simp at hfl; omega
    rw [fold_at (fold l) (piece l) (fold (l.drop (adv l))) (fold_cons l hl) (by rw [key.2, hpl]) hfne, hi, key.1, ← fold_cons l hl]
theorem fold_fold (l : List UInt8) : fold (fold l) = fold l := fold_fold_n l.length l (Nat.le_refl _)

/-- A slash parts a text. -/
theorem dec_slash (b0 : UInt8) (r x : List UInt8) : dec (b0 :: r ++ 47 :: x) = dec (b0 :: r) := by
  have hc : cont 47 = false := by decide
  simp only [List.cons_append]
  by_cases h1 : b0.toNat < 128
  · simp [dec, h1]
  by_cases h2 : b0.toNat < 194
  · simp [dec, h1, h2]
  rcases r with _ | ⟨b1, r⟩
  · simp [dec, h1, h2, hc]
  cases c1 : cont b1 with
  | false => simp [dec, h1, h2, c1]
  | true =>
  by_cases h3 : b0.toNat < 224
  · simp [dec, h1, h2, h3, c1]
  rcases r with _ | ⟨b2, r⟩
  · simp [dec, h1, h2, h3, c1, hc]
  cases c2 : cont b2 with
  | false => simp [dec, h1, h2, h3, c1, c2]
  | true =>
  by_cases h4 : b0.toNat < 240
  · simp [dec, h1, h2, h3, h4, c1, c2]
  rcases r with _ | ⟨b3, r⟩
  · simp [dec, h1, h2, h3, h4, c1, c2, hc]
  · simp [dec, h1, h2, h3, h4, c1, c2]
theorem fold_slash (x : List UInt8) : fold (47 :: x) = 47 :: fold x := by
  have hd : dec (47 :: x) = (47, 1) := by simp [dec]
  rw [fold_cons _ (by simp)]
  unfold piece adv
  rw [hd]
  simp [show sm 47 = 47 by decide]
theorem fold_join_n : ∀ (n : Nat) (l x : List UInt8), l.length ≤ n → fold (l ++ 47 :: x) = fold l ++ 47 :: fold x := by
  intro n
  induction n with
  | zero => intro l x h; obtain rfl := List.eq_nil_of_length_eq_zero (show l.length = 0 by omega); rw [fold_nil, List.nil_append, List.nil_append, fold_slash]
  | succ n ih =>
    intro l x h
    cases l with
    | nil => rw [fold_nil, List.nil_append, List.nil_append, fold_slash]
    | cons b0 r =>
      have h1 := adv_pos (b0 :: r)
      have h2 := adv_le (b0 :: r) (by simp)
      have hd := dec_slash b0 r x
      have ea : adv (b0 :: r ++ 47 :: x) = adv (b0 :: r) := by unfold adv; rw [hd]
      have ep : piece (b0 :: r ++ 47 :: x) = piece (b0 :: r) := by
        unfold adv at h2
        unfold piece
        rw [hd]
        split
        · simp
        · rename_i hz
          rw [if_neg hz] at h2
          split
          · rw [List.take_append_of_le_length h2]
          · rfl
      rw [fold_cons _ (by simp), fold_cons (b0 :: r) (by simp), ea, ep, List.drop_append_of_le_length h2, ih _ x (by simp only [List.length_drop, List.length_cons] at h ⊢; omega), List.append_assoc]
theorem fold_join (l x : List UInt8) : fold (l ++ 47 :: x) = fold l ++ 47 :: fold x := fold_join_n l.length l x (Nat.le_refl _)

theorem Alike_eq (a b : List UInt8) (ha : a.length ≤ 10000) (hb : b.length ≤ 10000) : F_fold_Alike a b = some (fold a == fold b) := by
  unfold F_fold_Alike
  rw [Fold_eq a ha, Option.bind_some, Fold_eq b hb, Option.bind_some]
theorem true_law14_FoldTexts (s : List UInt8) : F_law14_FoldTexts s = some true := by
  unfold F_law14_FoldTexts
  rw [awake14, Option.bind_some, if_neg (by decide)]
  by_cases h : (s.length : Int) > 200
  · rw [if_pos h]
  have hl := fold_length s
  rw [if_neg h, Fold_eq s (by omega), Option.bind_some, RFold_eq s (by omega), Option.bind_some, if_pos (by simp), Fold_eq _ (by omega), Option.bind_some, if_pos (by rw [fold_fold]; simp), Alike_eq _ _ (by omega) (by omega), fold_fold]
  simp
theorem true_law14_FoldJoined (a b : List UInt8) : F_law14_FoldJoined a b = some true := by
  unfold F_law14_FoldJoined
  rw [awake14, Option.bind_some, if_neg (by decide)]
  by_cases h : (a.length : Int) > 100
  · rw [if_pos h]; rfl
  rw [if_neg h, Option.bind_some]
  by_cases h2 : (b.length : Int) > 100
  · rw [if_pos (by simpa using h2)]
  have hl := fold_length a
  have hl2 := fold_length b
  rw [if_neg (by simpa using h2), Alike_eq _ _ (by omega) (by omega), Option.bind_some, RFold_eq a (by omega), Option.bind_some, RFold_eq b (by omega), Option.bind_some, if_neg (by simp), cat_eq _ _ (by simp; omega), Option.bind_some, cat_eq _ _ (by simp; omega), Option.bind_some, Fold_eq b (by omega), Option.bind_some,
    cat_eq _ _ (by simp; omega), Option.bind_some, Fold_eq a (by omega), Option.bind_some, cat_eq _ _ (by simp; omega), Option.bind_some, Alike_eq _ _ (by simp; omega) (by simp; omega), Option.bind_some]
  rw [List.append_assoc, List.append_assoc, List.singleton_append, List.singleton_append, fold_join, fold_join, fold_fold, fold_fold]
  simp
end Go.Proofs.YtikkpmmhejjpaaaDoorM
