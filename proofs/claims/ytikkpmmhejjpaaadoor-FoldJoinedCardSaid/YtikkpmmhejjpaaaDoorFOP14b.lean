/- Layer 14 in plain terms: texts folded. -/
import Derived.Test.YtikkpmmhejjpaaaDoorFOP14
set_option linter.unusedSimpArgs false
set_option linter.unusedVariables false
namespace Go.Proofs.YtikkpmmhejjpaaaDoorM
open Go Go.RowKit

def enc14 (c : Int) : List UInt8 := if c < 128 then [byt c] else [byt (192 + c / 64), byt (128 + c % 64)]
def encI (c : Int) : List Int := if c < 128 then [c] else [192 + c / 64, 128 + c % 64]
theorem enc_map (c : Int) : (encI c).map byt = enc14 c := by unfold encI enc14; split <;> rfl
theorem enc_fin : ∀ n : Fin 2048, F_ref14_utf8 ((n.val : Nat) : Int) = some (enc14 n.val) ∧ (∀ z ∈ encI n.val, 0 ≤ z ∧ z < 256) ∧ IntKind.i32.wrap ((n.val : Nat) : Int) = n.val ∧
    (if (IntKind.u32.wrap ((n.val : Nat) : Int)) ≤ 127 then some [IntKind.u8.wrap ((n.val : Nat) : Int)] else if (IntKind.u32.wrap ((n.val : Nat) : Int)) ≤ 2047 then (shrI ((n.val : Nat) : Int) .i32 6).map fun y => [orI .u8 192 (IntKind.u8.wrap y), orI .u8 128 (andI .u8 (IntKind.u8.wrap ((n.val : Nat) : Int)) 63)] else none) = some (encI n.val) ∧
    dec (enc14 n.val) = ((n.val : Int), ((enc14 n.val).length : Int)) := by decide +kernel
theorem fin_of {c : Int} (h0 : 0 ≤ c) (h : c < 2048) : ∃ n : Fin 2048, c = ((n.val : Nat) : Int) := ⟨⟨c.toNat, by omega⟩, by simp only; omega⟩
theorem rutf8_eq {c : Int} (h0 : 0 ≤ c) (h : c < 2048) : F_ref14_utf8 c = some (enc14 c) := by
  obtain ⟨n, rfl⟩ := fin_of h0 h
  exact (enc_fin n).1
theorem append_eq {c : Int} (h0 : 0 ≤ c) (h : c < 2048) (p : List Int) : F_unicode_utf8_AppendRune p (IntKind.i32.wrap c) = app p (encI c) := by
  obtain ⟨n, rfl⟩ := fin_of h0 h
  obtain ⟨-, -, h3, h4, -⟩ := enc_fin n
  rw [h3]
  unfold F_unicode_utf8_AppendRune
  by_cases c1 : IntKind.u32.wrap ((n.val : Nat) : Int) ≤ 127
  · rw [if_pos c1] at h4 ⊢
    rw [Option.some.inj h4]
    cases app p (encI n.val) <;> rfl
  · rw [if_neg c1] at h4 ⊢
    unfold F_unicode_utf8_appendRuneNonASCII
    split at h4
    rotate_left
    · cases h4
    rename_i c2
    rw [if_pos c2]
    cases hs : shrI ((n.val : Nat) : Int) .i32 6 with
    | none => rw [hs] at h4; cases h4
    | some y =>
      rw [hs] at h4
      simp only [Option.map_some] at h4
      rw [Option.bind_some, Option.some.inj h4]
      cases app p (encI n.val) <;> rfl
theorem enc_pos (c : Int) : 0 < (enc14 c).length := by unfold enc14; split <;> simp
theorem rune_eq {c : Int} (h0 : 0 ≤ c) (h : c < 2048) (bs : List UInt8) (hb : bs.length ≤ 100000) :
    (F_unicode_utf8_AppendRune (bs.map fun b => (b.toNat : Int)) (IntKind.i32.wrap c)).bind (fun y => (runeOf bs y).bind fun b => some b) = some (bs ++ enc14 c) := by
  have hl : (encI c).length ≤ 2 := by unfold encI; split <;> simp
  have hp : 0 < (encI c).length := by unfold encI; split <;> simp
  have hz : ∀ z ∈ encI c, 0 ≤ z ∧ z < 256 := by obtain ⟨n, rfl⟩ := fin_of h0 h; exact (enc_fin n).2.1
  have hm : (bs.map fun b => (b.toNat : Int)).map byt = bs := by
    rw [List.map_map]
    conv => rhs; rw [← List.map_id bs]
    apply List.map_congr_left
    intro b _
    simp [byt]
  rw [append_eq h0 h]
  unfold app
  rw [if_pos (by unfold capL; simp; omega), Option.bind_some]
  unfold runeOf
  rw [if_pos, Option.bind_some, List.map_append, hm, enc_map]
  refine ⟨fun z hz' => ?_, by simp; omega, by rw [List.map_append, hm, List.take_left], by simp [capL]; omega⟩
  rcases List.mem_append.1 hz' with h1 | h1
  · obtain ⟨b, _, rfl⟩ := List.mem_map.1 h1
    have := b.toNat_lt
    omega
  · exact hz z h1

def adv (l : List UInt8) : Nat := if (dec l).2 = 0 then 1 else (dec l).2.toNat
def piece (l : List UInt8) : List UInt8 := if (dec l).2 = 0 then l.take 1 else if sm (dec l).1 = (dec l).1 then l.take (dec l).2.toNat else enc14 (sm (dec l).1)
theorem adv_pos (l : List UInt8) : 1 ≤ adv l := by
  unfold adv
  rcases dec_size l with h | h
  · simp [h]
  · split <;> omega
theorem adv_le (l : List UInt8) (hl : l ≠ []) : adv l ≤ l.length := by
  unfold adv
  have : 0 < l.length := List.length_pos_iff.2 hl
  rcases dec_size l with h | h
  · simp [h]; omega
  · split <;> omega
/-- A text, folded. -/
def fold (l : List UInt8) : List UInt8 := if h : l = [] then [] else piece l ++ fold (l.drop (adv l))
termination_by l.length
decreasing_by
  have h1 := adv_pos l
  have h2 : 0 < l.length := List.length_pos_iff.2 h
  simp only [List.length_drop]; omega
theorem fold_nil : fold [] = [] := by rw [fold, dif_pos rfl]
theorem fold_cons (l : List UInt8) (h : l ≠ []) : fold l = piece l ++ fold (l.drop (adv l)) := by rw [fold, dif_neg h]

/-- How many bytes a letter takes. -/
theorem dec_one (l : List UInt8) (h : dec l ≠ (0, 0)) : (dec l).2 = 1 ∧ (dec l).1 < 128 ∧ 0 ≤ (dec l).1 ∨ (dec l).2 = 2 ∧ 128 ≤ (dec l).1 ∧ (dec l).1 < 2048 ∨ 3 ≤ (dec l).2 ∧ 2048 ≤ (dec l).1 := by
  rcases l with _ | ⟨b0, r⟩
  · exact absurd rfl h
  have hb0 := b0.toNat_lt
  by_cases h1 : b0.toNat < 128
  · left; simp [dec, h1]; omega
  by_cases h2 : b0.toNat < 194
  · exact absurd (by simp [dec, h1, h2]) h
  rcases r with _ | ⟨b1, r⟩
  · exact absurd (by simp [dec, h1]) h
  cases c1 : cont b1 with
  | false => exact absurd (by simp [dec, h1, c1]) h
  | true =>
  have := cont_lt c1
  by_cases h3 : b0.toNat < 224
  · right; left; simp [dec, h1, h2, h3, c1]; omega
  rcases r with _ | ⟨b2, r⟩
  · exact absurd (by simp [dec, h1, h3]) h
  cases c2 : cont b2 with
  | false => exact absurd (by simp [dec, h1, h3, c2]) h
  | true =>
  have := cont_lt c2
  right; right
  by_cases h4 : b0.toNat < 240
  · simp only [dec, if_neg h1, if_neg h2, c1, if_neg h3, c2, if_pos h4, Bool.true_eq_false, if_false] at h ⊢
    have hn := (not_congr (ok3_bad _)).1 h
    rw [(ok3_or _).resolve_left h]
    simp only; omega
  rcases r with _ | ⟨b3, r⟩
  · exact absurd (by simp [dec, h1, h3, h4]) h
  cases c3 : cont b3 with
  | false => exact absurd (by simp [dec, h1, h3, h4, c3]) h
  | true =>
  by_cases h5 : b0.toNat < 248
  · simp only [dec, if_neg h1, if_neg h2, c1, if_neg h3, c2, if_neg h4, c3, if_pos h5, Bool.true_eq_false, if_false] at h ⊢
    have hn := (not_congr (ok4_bad _)).1 h
    rw [(ok4_or _).resolve_left h]
    simp only; omega
  · exact absurd (by simp [dec, h1, h2, h3, h4, h5]) h
theorem enc_len (c : Int) : (enc14 c).length = if c < 128 then 1 else 2 := by unfold enc14; split <;> rfl
theorem piece_len (l : List UInt8) (hl : l ≠ []) : (piece l).length = adv l := by
  have h0 : 0 < l.length := List.length_pos_iff.2 hl
  unfold piece adv
  rcases dec_size l with h | h
  · simp [h]; omega
  · have h2 : ¬ (dec l).2 = 0 := by omega
    rw [if_neg h2, if_neg h2]
    split
    · rw [List.length_take]; omega
    · rename_i hs
      have hm := sm_lo hs
      rw [enc_len]
      have hne : dec l ≠ (0, 0) := fun hh => by rw [hh] at h; simp at h
      rcases dec_one l hne with k | k | k
      · rw [if_pos (by omega), k.1]; rfl
      · rw [if_neg (by omega), k.1]; rfl
      · omega
theorem fold_len : ∀ (n : Nat) (l : List UInt8), l.length ≤ n → (fold l).length = l.length := by
  intro n
  induction n with
  | zero => intro l h; obtain rfl := List.eq_nil_of_length_eq_zero (show l.length = 0 by omega); rw [fold_nil]
  | succ n ih =>
    intro l h
    by_cases hl : l = []
    · rw [hl, fold_nil]
    · have h1 := adv_pos l
      have h2 := adv_le l hl
      rw [fold_cons l hl, List.length_append, piece_len l hl, ih _ (by simp; omega), List.length_drop]
      omega
theorem fold_length (l : List UInt8) : (fold l).length = l.length := fold_len l.length l (Nat.le_refl _)

theorem sub_at (s : List UInt8) (a n : Nat) (h : a + n ≤ s.length) : subS s (a : Int) ((a + n : Nat) : Int) = some ((s.drop a).take n) := by
  unfold subS
  rw [if_pos (by omega), Int.toNat_natCast, Int.toNat_natCast, List.drop_take, show a + n - a = n by omega]
theorem sub_end (s : List UInt8) (a : Nat) (h : a ≤ s.length) : subS s (a : Int) s.length = some (s.drop a) := by
  unfold subS
  rw [if_pos (by omega), Int.toNat_natCast, Int.toNat_natCast, List.take_length]
theorem app_eq {α : Type} (a b : List α) (h : a.length + b.length ≤ 100000000) : app a b = some (a ++ b) := by
  unfold app; rw [if_pos (by unfold capL; omega)]

theorem Fold_step (s : List UInt8) (a : Nat) (out : List UInt8) (ha : a < s.length) (hs : s.length ≤ 10000) (ho : out.length = a) :
    L_fold_Fold_1 s (out, (a : Int)) = some (.inl (out ++ piece (s.drop a), ((a + adv (s.drop a) : Nat) : Int))) := by
  have hne : s.drop a ≠ [] := fun hh => by have := congrArg List.length hh; simp at this; omega
  have hle := adv_le _ hne
  have hl : (s.drop a).length = s.length - a := by simp
  obtain ⟨b0, r, he⟩ : ∃ b r, s.drop a = b :: r := by
    cases hd : s.drop a with
    | nil => exact absurd hd hne
    | cons b r => exact ⟨b, r, rfl⟩
  have hD : F_unicode_utf8_DecodeRuneInString (s.drop a) = some (decG (s.drop a)) := by rw [he]; exact Decode_eq b0 r
  generalize hL : s.drop a = l at *
  unfold L_fold_Fold_1
  simp only
  rw [if_pos (by omega), sub_end s a (by omega), hL, Option.bind_some, hD, Option.bind_some, small_eq, Option.bind_some]
  rcases dec_size l with h | h
  · have hG : decG l = (65533, 1) := decG_bad h
    have hp : piece l = l.take 1 := by unfold piece; rw [h]; rfl
    have hadv : adv l = 1 := by unfold adv; rw [h]; rfl
    rw [hG, hp, hadv]
    simp only
    rw [wrap_i64 (n := 65533) (by decide) (by decide), sm_out (by decide), if_neg (by simp), wrap_i64 (n := (a : Int) + 1) (by omega) (by omega), show (a : Int) + 1 = ((a + 1 : Nat) : Int) by omega, sub_at s a 1 (by omega), hL, Option.bind_some, app_eq _ _ (by simp; omega), Option.bind_some, Option.bind_some]
  · have h2 : (dec l).2 ≠ 0 := by omega
    have hG : decG l = dec l := by unfold decG; rw [if_neg h2]
    have hadv : adv l = (dec l).2.toNat := by unfold adv; rw [if_neg h2]
    have hle' : (dec l).2.toNat ≤ l.length := by omega
    rw [hG, wrap_i64 (n := (dec l).1) (by omega) (by omega), wrap_i64 (n := (a : Int) + (dec l).2) (by omega) (by omega), show (a : Int) + (dec l).2 = ((a + adv l : Nat) : Int) by omega]
    by_cases hs' : sm (dec l).1 = (dec l).1
    · have hp : piece l = l.take (adv l) := by unfold piece; rw [if_neg h2, if_pos hs', hadv]
      rw [hs', if_neg (by simp), sub_at s a _ (by omega), hL, Option.bind_some, app_eq _ _ (by rw [List.length_take]; omega), Option.bind_some, Option.bind_some, hp]
    · have hp : piece l = enc14 (sm (dec l).1) := by unfold piece; rw [if_neg h2, if_neg hs']
      have hm := sm_lo hs'
      rw [if_pos (by simpa using hs'), rune_eq (by omega) (by omega) _ (by omega), Option.bind_some, hp]
theorem drop_more (s : List UInt8) (a n : Nat) : (s.drop a).drop n = s.drop (a + n) := by rw [List.drop_drop]
theorem Fold_loop (s : List UInt8) (hs : s.length ≤ 10000) : ∀ (n a : Nat) (out : List UInt8), a ≤ s.length → s.length - a < n → out.length = a → iter (L_fold_Fold_1 s) n (out, (a : Int)) = some (out ++ fold (s.drop a)) := by
  intro n
  induction n with
  | zero => intro a out _ h; omega
  | succ n ih =>
    intro a out ha hn ho
    by_cases hlt : a < s.length
    · have hne : s.drop a ≠ [] := fun hh => by have := congrArg List.length hh; simp at this; omega
      have h1 := adv_pos (s.drop a)
      have h2 := adv_le _ hne
      have hl : (s.drop a).length = s.length - a := by simp
      rw [iter_inl (Fold_step s a out hlt hs ho), ih _ _ (by omega) (by omega) (by rw [List.length_append, piece_len _ hne]; omega), fold_cons _ hne, drop_more, List.append_assoc]
    · rw [List.drop_of_length_le (by omega), fold_nil, List.append_nil]
      refine iter_inr ?_
      unfold L_fold_Fold_1
      rw [if_neg (by simp only; omega)]
theorem Fold_eq (s : List UInt8) (hs : s.length ≤ 10000) : F_fold_Fold s = some (fold s) := by
  unfold F_fold_Fold
  have := Fold_loop s hs NF 0 [] (by omega) (by rw [NF_eq]; omega) rfl
  rw [show ((0 : Nat) : Int) = 0 from rfl] at this
  rw [this, List.nil_append, List.drop_zero, Option.bind_some]
  unfold chkCap
  rw [if_pos (by rw [fold_length]; unfold capL; omega), Option.bind_some]

theorem RFold_step (s : List UInt8) (a : Nat) (out : List UInt8) (ha : a < s.length) (hs : s.length ≤ 10000) (ho : out.length = a) :
    L_ref14_Fold_1 s (out, (a : Int)) = some (.inl (out ++ piece (s.drop a), ((a + adv (s.drop a) : Nat) : Int))) := by
  have hne : s.drop a ≠ [] := fun hh => by have := congrArg List.length hh; simp at this; omega
  have hle := adv_le _ hne
  have hpl := piece_len _ hne
  have hl : (s.drop a).length = s.length - a := by simp
  unfold L_ref14_Fold_1
  simp only
  rw [if_pos (by omega), Next_eq s a ha (by omega), Option.bind_some]
  generalize hL : s.drop a = l at *
  rcases dec_size l with h | h
  · have hp : piece l = l.take 1 := by unfold piece; rw [h]; rfl
    have hadv : adv l = 1 := by unfold adv; rw [h]; rfl
    rw [h, hp, hadv]
    simp only
    rw [if_pos (by decide), wrap_i64 (n := (a : Int) + 1) (by omega) (by omega), show (a : Int) + 1 = ((a + 1 : Nat) : Int) by omega, sub_at s a 1 (by omega), hL, Option.bind_some, cat_eq _ _ (by simp; omega), Option.bind_some]
  · have h2 : (dec l).2 ≠ 0 := by omega
    have hadv : adv l = (dec l).2.toNat := by unfold adv; rw [if_neg h2]
    rw [if_neg (by simpa using h2), rsmall_eq, Option.bind_some, wrap_i64 (n := (a : Int) + (dec l).2) (by omega) (by omega), show (a : Int) + (dec l).2 = ((a + adv l : Nat) : Int) by omega]
    by_cases hs' : sm (dec l).1 = (dec l).1
    · have hp : piece l = l.take (adv l) := by unfold piece; rw [if_neg h2, if_pos hs', hadv]
      rw [hs', if_pos (by simp), sub_at s a _ (by omega), hL, Option.bind_some, cat_eq _ _ (by rw [List.length_take]; omega), Option.bind_some, Option.bind_some, hp]
    · have hp : piece l = enc14 (sm (dec l).1) := by unfold piece; rw [if_neg h2, if_neg hs']
      have hm := sm_lo hs'
      rw [if_neg (by simpa using hs'), rutf8_eq (by omega) (by omega), Option.bind_some, cat_eq _ _ (by rw [← hp]; omega), Option.bind_some, Option.bind_some, hp]
theorem RFold_loop (s : List UInt8) (hs : s.length ≤ 10000) : ∀ (n a : Nat) (out : List UInt8), a ≤ s.length → s.length - a < n → out.length = a → iter (L_ref14_Fold_1 s) n (out, (a : Int)) = some (out ++ fold (s.drop a)) := by
  intro n
  induction n with
  | zero => intro a out _ h; omega
  | succ n ih =>
    intro a out ha hn ho
    by_cases hlt : a < s.length
    · have hne : s.drop a ≠ [] := fun hh => by have := congrArg List.length hh; simp at this; omega
      have h1 := adv_pos (s.drop a)
      have h2 := adv_le _ hne
      have hl : (s.drop a).length = s.length - a := by simp
      rw [iter_inl (RFold_step s a out hlt hs ho), ih _ _ (by omega) (by omega) (by rw [List.length_append, piece_len _ hne]; omega), fold_cons _ hne, drop_more, List.append_assoc]
    · rw [List.drop_of_length_le (by omega), fold_nil, List.append_nil]
      refine iter_inr ?_
      unfold L_ref14_Fold_1
      rw [if_neg (by simp only; omega)]
theorem RFold_eq (s : List UInt8) (hs : s.length ≤ 10000) : F_ref14_Fold s = some (fold s) := by
  unfold F_ref14_Fold
  have := RFold_loop s hs NF 0 [] (by omega) (by rw [NF_eq]; omega) rfl
  rw [show ((0 : Nat) : Int) = 0 from rfl] at this
  rw [this, List.nil_append, List.drop_zero, Option.bind_some]
end Go.Proofs.YtikkpmmhejjpaaaDoorM
