/- Layer 19 in plain terms: an end record that has been put is found behind as many bytes as it says. -/
import Derived.Test.YtikkpmmhejjpaaaEAP19b
set_option linter.unusedSimpArgs false
set_option linter.unusedVariables false
namespace Go.Proofs.YtikkpmmhejjpaaaM
open Go Go.RowKit

theorem num_at (a b : List UInt8) (v : Int) (k : Nat) : numOf (a ++ (put v k ++ b)) a.length k = ((IntKind.u64.wrap v).toNat % 256 ^ k : Nat) := by
  have hl := put_len v k
  unfold numOf
  rw [cut_is (by omega) (by omega) (by simp; omega)]
  have : ((a ++ (put v k ++ b)).take ((a.length : Int) + k).toNat).drop (a.length : Int).toNat = put v k := by
    rw [show ((a.length : Int) + k).toNat = a.length + k by omega, Int.toNat_natCast, List.take_length_add_append, List.drop_left, List.take_append_of_le_length (by omega), List.take_of_length_le (by omega)]
  simp only [this]
  unfold put
  rw [leNum_leB]
theorem num_at' {s : List UInt8} (a b : List UInt8) (v : Int) (k : Nat) {d : Int} (hs : s = a ++ (put v k ++ b)) (hd : d = a.length) : numOf s d k = ((IntKind.u64.wrap v).toNat % 256 ^ k : Nat) := by
  subst hs; subst hd; exact num_at a b v k

theorem sig_bytes (s : List UInt8) (i : Nat) (hi : i + 4 ≤ s.length) (h : numOf s i 4 = 101010256) : s[i]? = some 80 ∧ s[i + 1]? = some 75 ∧ s[i + 2]? = some 5 ∧ s[i + 3]? = some 6 := by
  unfold numOf at h
  rw [cut_is (by omega) (by omega) (by omega)] at h
  obtain ⟨a, b, c, d, e1, e2, e3, e4⟩ : ∃ a b c d, s[i]? = some a ∧ s[i + 1]? = some b ∧ s[i + 2]? = some c ∧ s[i + 3]? = some d :=
    ⟨_, _, _, _, List.getElem?_eq_getElem (by omega), List.getElem?_eq_getElem (by omega), List.getElem?_eq_getElem (by omega), List.getElem?_eq_getElem (by omega)⟩
  have e : ((s.take ((i : Int) + 4).toNat).drop (i : Int).toNat) = [a, b, c, d] := by
    rw [show ((i : Int) + 4).toNat = i + 4 by omega, Int.toNat_natCast]
    apply List.ext_getElem?
    intro j
    rw [List.getElem?_drop, List.getElem?_take]
    match j with
    | 0 => simp [e1]
    | 1 => simp [e2]
    | 2 => simp [e3]
    | 3 => simp [e4]
    | j + 4 => rw [if_neg (by omega)]; simp
  simp only [e, leNum] at h
  have ha := a.toNat_lt
  have hb := b.toNat_lt
  have hc := c.toNat_lt
  have hd := d.toNat_lt
  have key : a.toNat = 80 ∧ b.toNat = 75 ∧ c.toNat = 5 ∧ d.toNat = 6 := by omega
  rw [e1, e2, e3, e4]
  refine ⟨?_, ?_, ?_, ?_⟩ <;> congr 1 <;> apply UInt8.toNat_inj.1 <;> simp [key]

theorem lastR_is (s : List UInt8) (p : Nat) (hp : recAt s p) : ∀ k, p < k → (∀ i, p < i → i < k → ¬ recAt s i) → lastR s k = some p
  | 0, h, _ => by omega
  | k + 1, h, hn => by
    rw [lastR]
    by_cases hk : k = p
    · subst hk; rw [if_pos hp]
    · rw [if_neg (hn k (by omega) (by omega))]
      exact lastR_is s p hp k (by omega) fun i h1 h2 => hn i h1 (by omega)

def okB (b : UInt8) : Prop := b = 0 ∨ b = 255
theorem okB_ne {b : UInt8} (h : okB b) : b ≠ 80 ∧ b ≠ 75 ∧ b ≠ 5 ∧ b ≠ 6 := by
  rcases h with rfl | rfl <;> decide

/-- A record, byte by byte. -/
def recL (c0 c1 n0 n1 n2 n3 o0 o1 o2 o3 l0 l1 : UInt8) (m : List UInt8) : List UInt8 := 80 :: 75 :: 5 :: 6 :: 0 :: 0 :: 0 :: 0 :: c0 :: c1 :: c0 :: c1 :: n0 :: n1 :: n2 :: n3 :: o0 :: o1 :: o2 :: o3 :: l0 :: l1 :: m

theorem put2 (v : Int) : ∃ a b, put v 2 = [a, b] := ⟨_, _, rfl⟩
theorem put4 (v : Int) : ∃ a b c d, put v 4 = [a, b, c, d] := ⟨_, _, _, _, rfl⟩
theorem put4_small (v : Int) (h0 : 0 ≤ v) (h1 : v < 256) : ∃ a, put v 4 = [a, 0, 0, 0] := by
  refine ⟨UInt8.ofNat (IntKind.u64.wrap v).toNat, ?_⟩
  have : (IntKind.u64.wrap v).toNat / 256 = 0 := by rw [wrap_u64]; omega
  unfold put
  simp only [leB, this]
  rfl
theorem put2_small (v : Int) (h0 : 0 ≤ v) (h1 : v < 256) : ∃ a, put v 2 = [a, 0] := by
  refine ⟨UInt8.ofNat (IntKind.u64.wrap v).toNat, ?_⟩
  have : (IntKind.u64.wrap v).toNat / 256 = 0 := by rw [wrap_u64]; omega
  unfold put
  simp only [leB, this]
  rfl

theorem rec22_parts (c n o : Int) (m : List UInt8) : rec22 c n o m = put 101010256 4 ++ (put 0 2 ++ (put 0 2 ++ (put c 2 ++ (put c 2 ++ (put n 4 ++ (put o 4 ++ (put m.length 2 ++ m))))))) := by
  have : put 0 4 = put 0 2 ++ put 0 2 := by decide
  unfold rec22
  rw [this, List.append_assoc]

section
variable (p m : List UInt8) (c n o : Int) (hm : m.length ≤ 100) (hp : p.length ≤ 1000)
  (hn : ∃ a b d e, put n 4 = [a, b, d, e] ∧ okB b ∧ okB d ∧ okB e) (ho : ∃ a b d e, put o 4 = [a, b, d, e] ∧ okB b ∧ okB d ∧ okB e)
  (hsig : ∀ i, i + 4 ≤ m.length → (m.drop i).take 4 ≠ [80, 75, 5, 6])

theorem rec_drop : (p ++ rec22 c n o m).drop p.length = rec22 c n o m := List.drop_left
theorem rec_len : (rec22 c n o m).length = 22 + m.length := by
  unfold rec22; simp [put_len]; omega
theorem rec_num (d : Nat) (k : Int) : numOf (p ++ rec22 c n o m) ((p.length : Int) + d) k = numOf (rec22 c n o m) d k := by
  have := num_drop (p ++ rec22 c n o m) p.length (d : Int) k (by simp) (by omega)
  rw [rec_drop] at this
  exact this.symm

theorem f0 : numOf (rec22 c n o m) 0 4 = 101010256 := by
  rw [rec22_parts]; exact num_at' [] _ 101010256 4 rfl rfl
theorem f4 : numOf (rec22 c n o m) 4 2 = 0 := by
  rw [rec22_parts]; exact num_at' (put 101010256 4) _ 0 2 rfl rfl
theorem f6 : numOf (rec22 c n o m) 6 2 = 0 := by
  rw [rec22_parts]; exact num_at' (put 101010256 4 ++ put 0 2) _ 0 2 (by simp only [List.append_assoc]; rfl) rfl
theorem f8 : numOf (rec22 c n o m) 8 2 = ((IntKind.u64.wrap c).toNat % 65536 : Nat) := by
  rw [rec22_parts]; exact num_at' (put 101010256 4 ++ (put 0 2 ++ put 0 2)) _ c 2 (by simp only [List.append_assoc]; rfl) rfl
theorem f10 : numOf (rec22 c n o m) 10 2 = ((IntKind.u64.wrap c).toNat % 65536 : Nat) := by
  rw [rec22_parts]; exact num_at' (put 101010256 4 ++ (put 0 2 ++ (put 0 2 ++ put c 2))) _ c 2 (by simp only [List.append_assoc]; rfl) rfl
theorem f12 : numOf (rec22 c n o m) 12 4 = ((IntKind.u64.wrap n).toNat % 4294967296 : Nat) := by
  rw [rec22_parts]; exact num_at' (put 101010256 4 ++ (put 0 2 ++ (put 0 2 ++ (put c 2 ++ put c 2)))) _ n 4 (by simp only [List.append_assoc]; rfl) rfl
theorem f16 : numOf (rec22 c n o m) 16 4 = ((IntKind.u64.wrap o).toNat % 4294967296 : Nat) := by
  rw [rec22_parts]; exact num_at' (put 101010256 4 ++ (put 0 2 ++ (put 0 2 ++ (put c 2 ++ (put c 2 ++ put n 4))))) _ o 4 (by simp only [List.append_assoc]; rfl) rfl
include hm in
theorem f20 : numOf (rec22 c n o m) 20 2 = m.length := by
  rw [rec22_parts]
  refine (num_at' (put 101010256 4 ++ (put 0 2 ++ (put 0 2 ++ (put c 2 ++ (put c 2 ++ (put n 4 ++ put o 4)))))) _ m.length 2 (by simp only [List.append_assoc]; rfl) rfl).trans ?_
  rw [wrap_u64]; omega

include hm hp hn ho hsig in
theorem rec_last : lastE (p ++ rec22 c n o m) = some p.length := by
  have hl := rec_len m c n o
  have hz : (p ++ rec22 c n o m).length = p.length + 22 + m.length := by rw [List.length_append, hl]; omega
  unfold lastE
  rw [if_pos (by omega)]
  refine lastR_is _ _ ?_ _ (by omega) fun i h1 h2 hr => ?_
  · unfold recAt
    have e0 := rec_num p m c n o 0 4
    have e20 := rec_num p m c n o 20 2
    simp only [Int.natCast_zero, Int.add_zero] at e0
    rw [show ((20 : Nat) : Int) = 20 from rfl] at e20
    rw [e0, e20, f0, f20 m c n o hm, hz]
    exact ⟨rfl, by omega⟩
  · obtain ⟨d, rfl⟩ : ∃ d, i = p.length + d := ⟨i - p.length, by omega⟩
    have hs := hr.1
    rw [show ((p.length + d : Nat) : Int) = (p.length : Int) + d by omega, rec_num] at hs
    obtain ⟨b0, b1, b2, b3⟩ := sig_bytes _ d (by omega) hs
    obtain ⟨c0, c1, hc⟩ := put2 c
    obtain ⟨n0, n1, n2, n3, hn', kn1, kn2, kn3⟩ := hn
    obtain ⟨o0, o1, o2, o3, ho', ko1, ko2, ko3⟩ := ho
    obtain ⟨l0, hl'⟩ := put2_small m.length (by omega) (by omega)
    have hR : rec22 c n o m = recL c0 c1 n0 n1 n2 n3 o0 o1 o2 o3 l0 0 m := by
      unfold rec22 recL
      rw [hc, hn', ho', hl', show put 101010256 4 = [80, 75, 5, 6] by decide, show put 0 4 = [0, 0, 0, 0] by decide]
      rfl
    rw [hR] at b0 b1 b2 b3
    have q1 := okB_ne kn1
    have q2 := okB_ne kn2
    have q3 := okB_ne kn3
    have r1 := okB_ne ko1
    have r2 := okB_ne ko2
    have r3 := okB_ne ko3
    have hd : d = 1 ∨ d = 2 ∨ d = 3 ∨ d = 4 ∨ d = 5 ∨ d = 6 ∨ d = 7 ∨ d = 8 ∨ d = 9 ∨ d = 10 ∨ d = 11 ∨ d = 12 ∨ d = 13 ∨ d = 14 ∨ d = 15 ∨ d = 16 ∨ d = 17 ∨ d = 18 ∨ d = 19 ∨ d = 20 ∨ d = 21 ∨ 22 ≤ d := by omega
    have w : ∀ {a b : UInt8}, some a = some b → a = b := fun h => Option.some.inj h
    rcases hd with rfl | rfl | rfl | rfl | rfl | rfl | rfl | rfl | rfl | rfl | rfl | rfl | rfl | rfl | rfl | rfl | rfl | rfl | rfl | rfl | rfl | hd
    · exact absurd (w b0) (by decide)
    · exact absurd (w b0) (by decide)
    · exact absurd (w b0) (by decide)
    · exact absurd (w b0) (by decide)
    · exact absurd (w b0) (by decide)
    · exact absurd (w b0) (by decide)
    · exact absurd (w b0) (by decide)
    · have e1 : c0 = 80 := w b0; have e2 : c0 = 5 := w b2; rw [e1] at e2; exact absurd e2 (by decide)
    · have e1 : c1 = 80 := w b0; have e2 : c1 = 5 := w b2; rw [e1] at e2; exact absurd e2 (by decide)
    · exact q1.2.2.2 (w b3)
    · exact q1.2.2.1 (w b2)
    · exact q1.2.1 (w b1)
    · exact q1.1 (w b0)
    · exact q2.1 (w b0)
    · exact q3.1 (w b0)
    · exact r1.2.1 (w b1)
    · exact r1.1 (w b0)
    · exact r2.1 (w b0)
    · exact r3.1 (w b0)
    · exact absurd (w b1) (by decide)
    · exact absurd (w b0) (by decide)
    · obtain ⟨q, rfl⟩ : ∃ q, d = q + 22 := ⟨d - 22, by omega⟩
      have sh : ∀ j, (recL c0 c1 n0 n1 n2 n3 o0 o1 o2 o3 l0 0 m)[j + 22]? = m[j]? := fun j => rfl
      rw [sh] at b0
      rw [show q + 22 + 1 = (q + 1) + 22 by omega, sh] at b1
      rw [show q + 22 + 2 = (q + 2) + 22 by omega, sh] at b2
      rw [show q + 22 + 3 = (q + 3) + 22 by omega, sh] at b3
      refine hsig q (by omega) ?_
      apply List.ext_getElem?
      intro j
      rw [List.getElem?_take, List.getElem?_drop]
      match j with
      | 0 => simpa using b0
      | 1 => simpa using b1
      | 2 => simpa using b2
      | 3 => simpa using b3
      | j + 4 => rw [if_neg (by omega)]; simp
end
end Go.Proofs.YtikkpmmhejjpaaaM
