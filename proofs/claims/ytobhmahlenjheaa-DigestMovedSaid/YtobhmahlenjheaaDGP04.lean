/- Layer 4 in plain terms: what a block makes of the eight numbers. -/
import Derived.Test.YtobhmahlenjheaaDGF
import Derived.Test.YtobhmahlenjheaaFieldNum
import Derived.Test.YtobhmahlenjheaaPB
import Derived.KernelRfl
set_option linter.unusedSimpArgs false
set_option linter.unusedVariables false
namespace Go.Proofs.YtobhmahlenjheaaM
open Go Go.RowKit

theorem orI_comm (k : IntKind) (a b : Int) : orI k a b = orI k b a := by unfold orI; rw [BitVec.or_comm]
/-- Turned right. -/
def rot (a : Int) (n : Nat) : Int := orI .u32 (IntKind.u32.wrap (a * 2 ^ (32 - n))) (a.fdiv (2 ^ n))
theorem rot_fin : ∀ n : Fin 32, 1 ≤ n.val → andI .u64 (IntKind.u64.wrap (IntKind.i64.wrap (0 - ((n.val : Nat) : Int)))) 31 = 32 - ((n.val : Nat) : Int) := by decide +kernel
theorem sright (a n : Int) (h1 : 1 ≤ n) (h2 : n ≤ 31) : F_sha_right a n = some (rot a n.toNat) := by
  have hf := rot_fin ⟨n.toNat, by omega⟩ (by simp only; omega)
  simp only [show ((n.toNat : Nat) : Int) = n by omega] at hf
  unfold F_sha_right F_math_bits_RotateLeft32
  rw [hf]
  have e1 : shlI .u32 a (32 - n) = some (IntKind.u32.wrap (a * 2 ^ (32 - n.toNat))) := by
    unfold shlI
    rw [if_neg (by omega), show min (32 - n).toNat (IntKind.u32).bits = 32 - n.toNat by simp only [IntKind.bits]; omega]
  have e2 : shrI a .u32 (IntKind.u64.wrap (32 - (32 - n))) = some (a.fdiv (2 ^ n.toNat)) := by
    rw [wrap_u64, show (32 - (32 - n)) % 18446744073709551616 = n by omega]
    unfold shrI
    rw [if_neg (by omega), show min n.toNat (IntKind.u32).bits = n.toNat by simp only [IntKind.bits]; omega]
  rw [e1, Option.bind_some, e2]
  rfl
theorem rright (a n : Int) (h1 : 1 ≤ n) (h2 : n ≤ 31) : F_ref04_right a n = some (rot a n.toNat) := by
  unfold F_ref04_right
  have e2 : shrI a .u32 n = some (a.fdiv (2 ^ n.toNat)) := by
    unfold shrI
    rw [if_neg (by omega), show min n.toNat (IntKind.u32).bits = n.toNat by simp only [IntKind.bits]; omega]
  have e1 : shlI .u32 a (IntKind.i64.wrap (32 - n)) = some (IntKind.u32.wrap (a * 2 ^ (32 - n.toNat))) := by
    rw [wrap_i64 (by omega) (by omega)]
    unfold shlI
    rw [if_neg (by omega), show min (32 - n).toNat (IntKind.u32).bits = 32 - n.toNat by simp only [IntKind.bits]; omega]
  rw [e2, Option.bind_some, e1, Option.bind_some, orI_comm]
  rfl
theorem shr32 (a n : Int) (h1 : 0 ≤ n) (h2 : n ≤ 32) : shrI a .u32 n = some (a.fdiv (2 ^ n.toNat)) := by
  unfold shrI
  rw [if_neg (by omega), show min n.toNat (IntKind.u32).bits = n.toNat by simp only [IntKind.bits]; omega]
theorem shl32 (a n : Int) (h1 : 0 ≤ n) (h2 : n ≤ 32) : shlI .u32 a n = some (IntKind.u32.wrap (a * 2 ^ n.toNat)) := by
  unfold shlI
  rw [if_neg (by omega), show min n.toNat (IntKind.u32).bits = n.toNat by simp only [IntKind.bits]; omega]
theorem not32 (x : Int) (h0 : 0 ≤ x) (h1 : x < 4294967296) : xorI .u32 4294967295 x = IntKind.u32.wrap (4294967295 - x) := by
  obtain ⟨n, rfl⟩ : ∃ n : Nat, x = n := ⟨x.toNat, by omega⟩
  unfold xorI
  show IntKind.u32.wrap ((BitVec.ofInt 32 4294967295 ^^^ BitVec.ofInt 32 (n : Int)).toNat : Int) = _
  have e : BitVec.ofInt 32 4294967295 ^^^ BitVec.ofInt 32 (n : Int) = ~~~ (BitVec.ofNat 32 n) := by
    rw [BitVec.ofInt_natCast, show BitVec.ofInt 32 4294967295 = BitVec.allOnes 32 by decide, BitVec.allOnes_xor]
  rw [e, BitVec.toNat_not, BitVec.toNat_ofNat, Nat.mod_eq_of_lt (by omega)]
  congr 1
  omega
theorem oru32 (a b k : Nat) (hb : b < 2 ^ k) (hs : 2 ^ k * a + b < 4294967296) : orI .u32 ((2 ^ k * a : Nat) : Int) ((b : Nat) : Int) = ((2 ^ k * a + b : Nat) : Int) := by
  unfold orI
  have e : (BitVec.ofInt 32 ((2 ^ k * a : Nat) : Int) ||| BitVec.ofInt 32 ((b : Nat) : Int)).toNat = 2 ^ k * a ||| b := by
    rw [BitVec.toNat_or]
    simp only [BitVec.ofInt_natCast, BitVec.toNat_ofNat]
    rw [Nat.mod_eq_of_lt (by omega), Nat.mod_eq_of_lt (by omega)]
  show IntKind.u32.wrap ((BitVec.ofInt 32 ((2 ^ k * a : Nat) : Int) ||| BitVec.ofInt 32 ((b : Nat) : Int)).toNat : Int) = _
  rw [e, ← Nat.two_pow_add_eq_or_of_lt hb, wrap_u32]
  omega

/-! ### Words -/
def by4 (s : List UInt8) (j : Nat) : Nat := (s.getD j 0).toNat * 16777216 + (s.getD (j + 1) 0).toNat * 65536 + (s.getD (j + 2) 0).toNat * 256 + (s.getD (j + 3) 0).toNat
def base (s : List UInt8) : List Int := (List.range 16).map fun i => ((by4 s (4 * i) : Nat) : Int)
theorem base_length (s : List UInt8) : (base s).length = 16 := by simp [base]
theorem base_take (s : List UInt8) (i : Nat) (hi : i < 16) : (base s).take (i + 1) = (base s).take i ++ [((by4 s (4 * i) : Nat) : Int)] := by
  rw [List.take_add_one]
  congr 1
  simp [base, hi]
theorem idx_b (s : List UInt8) (j : Nat) (hj : j < s.length) : idxS s (j : Int) = some ((s.getD j 0).toNat : Int) := by
  unfold idxS; rw [if_pos (by omega)]; rfl
theorem set_at (l : List Int) (i n : Nat) (v : Int) (hl : l.length = i) (hn : i < n) : setA n (l ++ List.replicate (n - i) 0) (i : Int) v = some ((l ++ [v]) ++ List.replicate (n - (i + 1)) 0) := by
  unfold setA
  have e : n - i = (n - (i + 1)) + 1 := by omega
  rw [if_pos (by simp [hl]; omega), Int.toNat_natCast, List.set_append_right _ _ (by omega), e, List.replicate_succ]
  simp [hl]
theorem set64 (l : List Int) (i : Nat) (v : Int) (hl : l.length = i) (hn : i < 64) : setA 64 (l ++ List.replicate (64 - i) 0) (i : Int) v = some ((l ++ [v]) ++ List.replicate (64 - (i + 1)) 0) := set_at l i 64 v hl hn
theorem chk_at (i n : Nat) (h : i < n) : chkIdx (n : Int) (i : Int) = some () := by unfold chkIdx; rw [if_pos (by omega)]

theorem word_step (s : List UInt8) (hs : 64 ≤ s.length) (i : Nat) (hi : i < 16) : L_sha_words_1 s ((base s).take i ++ List.replicate (64 - i) 0, (i : Int)) = some (.inl ((base s).take (i + 1) ++ List.replicate (64 - (i + 1)) 0, ((i + 1 : Nat) : Int))) := by
  have b0 := (s.getD (4 * i) 0).toNat_lt
  have b1 := (s.getD (4 * i + 1) 0).toNat_lt
  have b2 := (s.getD (4 * i + 2) 0).toNat_lt
  have b3 := (s.getD (4 * i + 3) 0).toNat_lt
  unfold L_sha_words_1
  simp only
  rw [if_pos (by omega), wrap_i64 (n := 4 * (i : Int)) (by omega) (by omega), wrap_i64 (n := 4 * (i : Int) + 1) (by omega) (by omega), wrap_i64 (n := 4 * (i : Int) + 2) (by omega) (by omega), wrap_i64 (n := 4 * (i : Int) + 3) (by omega) (by omega), wrap_i64 (n := (i : Int) + 1) (by omega) (by omega),
    show (4 * (i : Int)) = ((4 * i : Nat) : Int) by omega, show (((4 * i : Nat) : Int) + 1) = ((4 * i + 1 : Nat) : Int) by omega, show (((4 * i : Nat) : Int) + 2) = ((4 * i + 2 : Nat) : Int) by omega, show (((4 * i : Nat) : Int) + 3) = ((4 * i + 3 : Nat) : Int) by omega,
    idx_b s _ (by omega), Option.bind_some, shl32 _ _ (by decide) (by decide), Option.bind_some, idx_b s _ (by omega), Option.bind_some, shl32 _ _ (by decide) (by decide), Option.bind_some, idx_b s _ (by omega), Option.bind_some, shl32 _ _ (by decide) (by decide), Option.bind_some, idx_b s _ (by omega), Option.bind_some]
  have hc : chkIdx 64 (i : Int) = some () := chk_at i 64 (by omega)
  rw [hc, Option.bind_some]
  simp only [wrap_u32]
  have e0 : (((s.getD (4 * i) 0).toNat : Int) % 4294967296 * 2 ^ (24 : Int).toNat) % 4294967296 = ((2 ^ 24 * (s.getD (4 * i) 0).toNat : Nat) : Int) := by rw [show (2 : Int) ^ (24 : Int).toNat = 16777216 by decide]; omega
  have e1 : (((s.getD (4 * i + 1) 0).toNat : Int) % 4294967296 * 2 ^ (16 : Int).toNat) % 4294967296 = ((2 ^ 16 * (s.getD (4 * i + 1) 0).toNat : Nat) : Int) := by rw [show (2 : Int) ^ (16 : Int).toNat = 65536 by decide]; omega
  have e2 : (((s.getD (4 * i + 2) 0).toNat : Int) % 4294967296 * 2 ^ (8 : Int).toNat) % 4294967296 = ((2 ^ 8 * (s.getD (4 * i + 2) 0).toNat : Nat) : Int) := by rw [show (2 : Int) ^ (8 : Int).toNat = 256 by decide]; omega
  have e3 : ((s.getD (4 * i + 3) 0).toNat : Int) % 4294967296 = (((s.getD (4 * i + 3) 0).toNat : Nat) : Int) := by omega
  rw [e0, e1, e2, e3, oru32 _ _ 24 (by omega) (by omega), show 2 ^ 24 * (s.getD (4 * i) 0).toNat + 2 ^ 16 * (s.getD (4 * i + 1) 0).toNat = 2 ^ 16 * (256 * (s.getD (4 * i) 0).toNat + (s.getD (4 * i + 1) 0).toNat) by omega, oru32 _ _ 16 (by omega) (by omega),
    show 2 ^ 16 * (256 * (s.getD (4 * i) 0).toNat + (s.getD (4 * i + 1) 0).toNat) + 2 ^ 8 * (s.getD (4 * i + 2) 0).toNat = 2 ^ 8 * (65536 * (s.getD (4 * i) 0).toNat + 256 * (s.getD (4 * i + 1) 0).toNat + (s.getD (4 * i + 2) 0).toNat) by omega, oru32 _ _ 8 (by omega) (by omega),
    set64 _ i _ (by simp [base_length]; omega) (by omega), Option.bind_some, base_take s i hi]
  congr 6
  unfold by4
  omega
theorem rword_step (s : List UInt8) (hs : 64 ≤ s.length) (i : Nat) (hi : i < 16) : L_ref04_words_1 s ((base s).take i, ((4 * i : Nat) : Int)) = some (.inl ((base s).take (i + 1), ((4 * (i + 1) : Nat) : Int))) := by
  have b0 := (s.getD (4 * i) 0).toNat_lt
  have b1 := (s.getD (4 * i + 1) 0).toNat_lt
  have b2 := (s.getD (4 * i + 2) 0).toNat_lt
  have b3 := (s.getD (4 * i + 3) 0).toNat_lt
  unfold L_ref04_words_1
  simp only
  rw [if_pos (by omega), wrap_i64 (n := ((4 * i : Nat) : Int) + 1) (by omega) (by omega), wrap_i64 (n := ((4 * i : Nat) : Int) + 2) (by omega) (by omega), wrap_i64 (n := ((4 * i : Nat) : Int) + 3) (by omega) (by omega), wrap_i64 (n := ((4 * i : Nat) : Int) + 4) (by omega) (by omega),
    show (((4 * i : Nat) : Int) + 1) = ((4 * i + 1 : Nat) : Int) by omega, show (((4 * i : Nat) : Int) + 2) = ((4 * i + 2 : Nat) : Int) by omega, show (((4 * i : Nat) : Int) + 3) = ((4 * i + 3 : Nat) : Int) by omega, show (((4 * i : Nat) : Int) + 4) = ((4 * (i + 1) : Nat) : Int) by omega,
    idx_b s _ (by omega), Option.bind_some, shl32 _ _ (by decide) (by decide), Option.bind_some, idx_b s _ (by omega), Option.bind_some, shl32 _ _ (by decide) (by decide), Option.bind_some, idx_b s _ (by omega), Option.bind_some, shl32 _ _ (by decide) (by decide), Option.bind_some, idx_b s _ (by omega), Option.bind_some]
  simp only [wrap_u32]
  rw [show (2 : Int) ^ (24 : Int).toNat = 16777216 by decide, show (2 : Int) ^ (16 : Int).toNat = 65536 by decide, show (2 : Int) ^ (8 : Int).toNat = 256 by decide]
  unfold app
  rw [if_pos (by simp [base_length, capL]; omega), Option.bind_some, base_take s i hi]
  congr 5
  unfold by4
  omega

def sig0 (a : Int) : Int := xorI .u32 (xorI .u32 (rot a 7) (rot a 18)) (a.fdiv (2 ^ 3))
def sig1 (a : Int) : Int := xorI .u32 (xorI .u32 (rot a 17) (rot a 19)) (a.fdiv (2 ^ 10))
/-- The word behind those that there are. -/
def ext (l : List Int) : Int := IntKind.u32.wrap (IntKind.u32.wrap (IntKind.u32.wrap (l.getD (l.length - 16) 0 + l.getD (l.length - 7) 0) + sig0 (l.getD (l.length - 15) 0)) + sig1 (l.getD (l.length - 2) 0))
def exts (l : List Int) : Nat → List Int
  | 0 => l
  | k + 1 => exts l k ++ [ext (exts l k)]
theorem exts_length (l : List Int) : ∀ k, (exts l k).length = l.length + k
  | 0 => rfl
  | k + 1 => by rw [exts, List.length_append, exts_length l k]; rfl
theorem idx_get (l : List Int) (j : Nat) (hj : j < l.length) : idxL l (j : Int) = some (l.getD j 0) := by
  unfold idxL; rw [if_pos (by omega), Int.toNat_natCast, List.getElem?_eq_getElem hj, List.getD_eq_getElem?_getD, List.getElem?_eq_getElem hj]; rfl
theorem idxA_get (l z : List Int) (n j : Nat) (hj : j < l.length) (hn : j < n) : idxA (n : Int) (l ++ z) (j : Int) = some (l.getD j 0) := by
  unfold idxA; rw [if_pos (by omega), Int.toNat_natCast, List.getElem?_append_left hj, List.getElem?_eq_getElem hj, List.getD_eq_getElem?_getD, List.getElem?_eq_getElem hj]; rfl
theorem wext_step (l : List Int) (i : Nat) (hl : l.length = i) (h16 : 16 ≤ i) (hi : i < 64) : L_sha_words_2 (l ++ List.replicate (64 - i) 0, (i : Int)) = some (.inl ((l ++ [ext l]) ++ List.replicate (64 - (i + 1)) 0, ((i + 1 : Nat) : Int))) := by
  unfold L_sha_words_2
  simp only
  have c1 : chkIdx 64 ((i - 15 : Nat) : Int) = some () := chk_at _ 64 (by omega)
  have c2 : chkIdx 64 ((i - 2 : Nat) : Int) = some () := chk_at _ 64 (by omega)
  have c3 : chkIdx 64 ((i - 16 : Nat) : Int) = some () := chk_at _ 64 (by omega)
  have c4 : chkIdx 64 ((i - 7 : Nat) : Int) = some () := chk_at _ 64 (by omega)
  have c5 : chkIdx 64 (i : Int) = some () := chk_at _ 64 (by omega)
  have g1 : idxA 64 (l ++ List.replicate (64 - i) 0) ((i - 15 : Nat) : Int) = some (l.getD (i - 15) 0) := idxA_get l _ 64 _ (by omega) (by omega)
  have g2 : idxA 64 (l ++ List.replicate (64 - i) 0) ((i - 2 : Nat) : Int) = some (l.getD (i - 2) 0) := idxA_get l _ 64 _ (by omega) (by omega)
  have g3 : idxA 64 (l ++ List.replicate (64 - i) 0) ((i - 16 : Nat) : Int) = some (l.getD (i - 16) 0) := idxA_get l _ 64 _ (by omega) (by omega)
  have g4 : idxA 64 (l ++ List.replicate (64 - i) 0) ((i - 7 : Nat) : Int) = some (l.getD (i - 7) 0) := idxA_get l _ 64 _ (by omega) (by omega)
  have s5 := fun v => set64 l i v hl hi
  rw [if_pos (by omega), wrap_i64 (n := (i : Int) - 15) (by omega) (by omega), wrap_i64 (n := (i : Int) - 2) (by omega) (by omega), wrap_i64 (n := (i : Int) - 16) (by omega) (by omega), wrap_i64 (n := (i : Int) - 7) (by omega) (by omega), wrap_i64 (n := (i : Int) + 1) (by omega) (by omega),
    show (i : Int) - 15 = ((i - 15 : Nat) : Int) by omega, show (i : Int) - 2 = ((i - 2 : Nat) : Int) by omega, show (i : Int) - 16 = ((i - 16 : Nat) : Int) by omega, show (i : Int) - 7 = ((i - 7 : Nat) : Int) by omega]
  simp only [c1, c2, c3, c4, c5, g1, g2, g3, g4, Option.bind_some, sright _ 7 (by decide) (by decide), sright _ 18 (by decide) (by decide), sright _ 17 (by decide) (by decide), sright _ 19 (by decide) (by decide), shr32 _ 3 (by decide) (by decide), shr32 _ 10 (by decide) (by decide)]
  have s5' := s5 (ext l)
  unfold ext sig0 sig1 at s5'
  rw [hl] at s5'
  erw [s5']
  rw [Option.bind_some]
  unfold ext sig0 sig1
  rw [hl]
  rfl
theorem rext_step (l : List Int) (i : Nat) (hl : l.length = i) (h16 : 16 ≤ i) (hi : i < 64) : L_ref04_words_2 (l, (i : Int)) = some (.inl (l ++ [ext l], ((i + 1 : Nat) : Int))) := by
  unfold L_ref04_words_2
  simp only
  have g1 := idx_get l (i - 15) (by omega)
  have g2 := idx_get l (i - 2) (by omega)
  have g3 := idx_get l (i - 16) (by omega)
  have g4 := idx_get l (i - 7) (by omega)
  rw [if_pos (by omega), wrap_i64 (n := (i : Int) - 15) (by omega) (by omega), wrap_i64 (n := (i : Int) - 2) (by omega) (by omega), wrap_i64 (n := (i : Int) - 16) (by omega) (by omega), wrap_i64 (n := (i : Int) - 7) (by omega) (by omega), wrap_i64 (n := (i : Int) + 1) (by omega) (by omega),
    show (i : Int) - 15 = ((i - 15 : Nat) : Int) by omega, show (i : Int) - 2 = ((i - 2 : Nat) : Int) by omega, show (i : Int) - 16 = ((i - 16 : Nat) : Int) by omega, show (i : Int) - 7 = ((i - 7 : Nat) : Int) by omega]
  simp only [g1, g2, g3, g4, Option.bind_some, rright _ 7 (by decide) (by decide), rright _ 18 (by decide) (by decide), rright _ 17 (by decide) (by decide), rright _ 19 (by decide) (by decide), shr32 _ 3 (by decide) (by decide), shr32 _ 10 (by decide) (by decide)]
  unfold app
  rw [if_pos (by simp [capL]; omega), Option.bind_some]
  unfold ext sig0 sig1
  rw [hl]
  rfl
/-- All 64 words of a block. -/
def wordsOf (s : List UInt8) : List Int := exts (base s) 48
theorem wordsOf_length (s : List UInt8) : (wordsOf s).length = 64 := by unfold wordsOf; rw [exts_length, base_length]
theorem words_eq (s : List UInt8) (hs : 64 ≤ s.length) : F_sha_words s = some (wordsOf s) := by
  unfold F_sha_words
  have h1 := iter_nat (step := L_sha_words_1 s) (fun i => ((base s).take i ++ List.replicate (64 - i) 0, (i : Int))) (r := base s ++ List.replicate 48 0) 16
    (by unfold L_sha_words_1; simp only; rw [if_neg (by decide), List.take_of_length_le (by rw [base_length]; omega)]) 16 0 NF rfl (fun j _ hj => word_step s hs j hj) (by rw [NF_eq]; omega)
  have h2 := iter_nat (step := L_sha_words_2) (fun i => (exts (base s) (i - 16) ++ List.replicate (64 - i) 0, (i : Int))) (r := wordsOf s) 64
    (by unfold L_sha_words_2; simp only; rw [if_neg (by decide)]; simp [wordsOf]) 48 16 NF rfl (fun j h16 hj => by
      have := wext_step (exts (base s) (j - 16)) j (by rw [exts_length, base_length]; omega) h16 hj
      rw [this, show j + 1 - 16 = (j - 16) + 1 by omega]; rfl) (by rw [NF_eq]; omega)
  simp only [List.take_zero, List.nil_append, Nat.sub_zero] at h1
  erw [h1]
  rw [Option.bind_some]
  simp only [Nat.sub_self, exts, Nat.reduceSub] at h2
  erw [h2]
  rfl
theorem rwords_eq (s : List UInt8) (hs : 64 ≤ s.length) : F_ref04_words s = some (wordsOf s) := by
  unfold F_ref04_words
  have h1 := iter_nat (step := L_ref04_words_1 s) (fun i => ((base s).take i, ((4 * i : Nat) : Int))) (r := base s) 16
    (by unfold L_ref04_words_1; simp only; rw [if_neg (by decide), List.take_of_length_le (by rw [base_length]; omega)]) 16 0 NF rfl (fun j _ hj => rword_step s hs j hj) (by rw [NF_eq]; omega)
  have h2 := iter_nat (step := L_ref04_words_2) (fun i => (exts (base s) (i - 16), (i : Int))) (r := wordsOf s) 64
    (by unfold L_ref04_words_2; simp only; rw [if_neg (by decide)]; rfl) 48 16 NF rfl (fun j h16 hj => by
      have := rext_step (exts (base s) (j - 16)) j (by rw [exts_length, base_length]; omega) h16 hj
      rw [this, show j + 1 - 16 = (j - 16) + 1 by omega]; rfl) (by rw [NF_eq]; omega)
  simp only [List.take_zero] at h1
  erw [h1]
  rw [Option.bind_some]
  simp only [Nat.sub_self, exts] at h2
  erw [h2]
  rfl
end Go.Proofs.YtobhmahlenjheaaM
