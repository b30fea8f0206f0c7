/- What is parsed is put again as it was. -/
import Derived.Test.YtikkpmmhejjpaaaP17
set_option linter.unusedSimpArgs false
set_option linter.unusedVariables false
namespace Go.Proofs.YtikkpmmhejjpaaaM
open Go Go.RowKit

theorem leB_leNum : ∀ l : List UInt8, leB (leNum l) l.length = l
  | [] => rfl
  | b :: l => by
    have hb : b.toNat < 256 := b.toNat_lt
    simp only [leNum, List.length_cons, leB]
    have h1 : (b.toNat + 256 * leNum l) / 256 = leNum l := by omega
    have h2 : UInt8.ofNat (b.toNat + 256 * leNum l) = b := by
      apply UInt8.toNat_inj.1
      simp only [UInt8.toNat_ofNat']
      omega
    rw [h1, h2, leB_leNum l]

theorem two_num (m : Nat) (h : m < 18446744073709551616) : two (m : Int) = leB m 2 := by
  unfold two
  have : IntKind.u64.wrap (m : Int) = (m : Int) := by rw [wrap_u64]; omega
  rw [this, pb2]

theorem cut_list {s : List UInt8} {a m : Nat} (h : (cutOf s a m).2 = 0) : (cutOf s a m).1 = (s.drop a).take m ∧ a + m ≤ s.length := by
  have hok := cut_ok h
  refine ⟨?_, by omega⟩
  unfold cutOf
  rw [if_neg (by omega)]
  simp only
  rw [show ((a : Int) + (m : Int)).toNat = a + m by omega, Int.toNat_natCast, List.drop_take]
  congr 1
  omega

theorem two_cut {s : List UInt8} {a : Nat} (h : (cutOf s a (2 : Nat)).2 = 0) : two (leNum (cutOf s a (2 : Nat)).1 : Int) = (s.drop a).take 2 := by
  obtain ⟨h1, h2⟩ := cut_list h
  have h3 := leNum_lt (cutOf s a (2 : Nat)).1
  have hl : (cutOf s a (2 : Nat)).1.length = 2 := by rw [h1]; simp; omega
  rw [hl] at h3
  rw [two_num _ (by omega)]
  have := leB_leNum (cutOf s a (2 : Nat)).1
  rw [hl] at this
  rw [this, h1]

theorem drop_split (s : List UInt8) (a k : Nat) : s.drop a = (s.drop a).take k ++ s.drop (a + k) := by
  rw [← List.drop_drop, List.take_append_drop]

theorem pt_pz (s : List UInt8) (hs : s.length ≤ 60000) : ∀ (f a : Nat) (l : List (Int × List UInt8)) (acc : List UInt8), pz s f a = some l → a ≤ s.length → s.length < f + a → acc.length + (s.length - a) ≤ 65535 → pt l acc = (acc ++ s.drop a, 0)
  | 0, a, l, acc, h, ha, hf, hacc => by omega
  | f + 1, a, l, acc, h, ha, hf, hacc => by
    rw [pz] at h
    split at h
    · cases h
      rw [pt, if_neg (by omega), List.drop_of_length_le (by omega), List.append_nil]
    · split at h
      · rename_i hlt hq
        obtain ⟨q1, q2⟩ := hq
        cases hl : pz s f (a + 4 + leNum (cutOf s (a + 2 : Nat) 2).1) with
        | none => rw [hl] at h; cases h
        | some l' =>
          rw [hl] at h
          cases h
          have c2 := cut_list (m := 2) q1
          have c3 := cut_list q2
          have q0 : (cutOf s (a : Nat) (2 : Nat)).2 = 0 := by unfold cutOf; rw [if_neg (by omega)]
          have b0 := cut_num s (a : Nat) 2
          have b2 := cut_num s (a + 2 : Nat) 2
          have e0 := two_cut q0
          have e2 := two_cut (s := s) (a := a + 2) q1
          have hlen : (cutOf s (a + 4 : Nat) (leNum (cutOf s (a + 2 : Nat) 2).1)).1.length = leNum (cutOf s (a + 2 : Nat) 2).1 := by rw [c3.1, List.length_take, List.length_drop]; omega
          have henc : enc ((leNum (cutOf s (a : Nat) 2).1 : Int), (cutOf s (a + 4 : Nat) (leNum (cutOf s (a + 2 : Nat) 2).1)).1) ++ s.drop (a + 4 + leNum (cutOf s (a + 2 : Nat) 2).1) = s.drop a := by
            unfold enc
            simp only
            rw [hlen]
            have e0' : two (leNum (cutOf s (a : Nat) 2).1 : Int) = (s.drop a).take 2 := e0
            have e2' : two (leNum (cutOf s (a + 2 : Nat) 2).1 : Int) = (s.drop (a + 2)).take 2 := e2
            rw [e0', e2', c3.1, List.append_assoc, List.append_assoc, ← drop_split s (a + 4), show a + 4 = a + 2 + 2 by omega, ← drop_split s (a + 2), ← drop_split s a]
          have hle : (enc ((leNum (cutOf s (a : Nat) 2).1 : Int), (cutOf s (a + 4 : Nat) (leNum (cutOf s (a + 2 : Nat) 2).1)).1)).length = 4 + leNum (cutOf s (a + 2 : Nat) 2).1 := by
            unfold enc two
            simp only [List.length_append, List.length_cons, List.length_nil, hlen]
          have b0' : leNum (cutOf s (a : Nat) 2).1 < 65536 := Nat.lt_of_lt_of_eq b0 (by decide)
          have b2' : leNum (cutOf s (a + 2 : Nat) 2).1 < 65536 := Nat.lt_of_lt_of_eq b2 (by decide)
          rw [pt, if_neg (by simp only; rw [hlen]; omega), pt_pz s hs f _ l' _ hl (by omega) (by omega) (by rw [List.length_append, hle]; omega), List.append_assoc, henc]
      · cases h
end Go.Proofs.YtikkpmmhejjpaaaM
