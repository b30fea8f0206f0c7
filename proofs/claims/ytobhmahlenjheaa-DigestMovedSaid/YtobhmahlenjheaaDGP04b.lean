/- Layer 4 in plain terms: blocks. -/
import Derived.Test.YtobhmahlenjheaaDGP04
set_option linter.unusedSimpArgs false
set_option linter.unusedVariables false
namespace Go.Proofs.YtobhmahlenjheaaM
open Go Go.RowKit

def toL (v : GA8_u32) : List Int := [v.x0, v.x1, v.x2, v.x3, v.x4, v.x5, v.x6, v.x7]
theorem of_toL (v : GA8_u32) : GA8_u32.of (toL v) = some v := rfl
def sE (a : Int) : Int := xorI .u32 (xorI .u32 (rot a 6) (rot a 11)) (rot a 25)
def sA (a : Int) : Int := xorI .u32 (xorI .u32 (rot a 2) (rot a 13)) (rot a 22)
def t1 (v : GA8_u32) (k w : Int) : Int := IntKind.u32.wrap ((IntKind.u32.wrap ((IntKind.u32.wrap ((IntKind.u32.wrap (v.x7 + sE v.x4)) + (xorI .u32 (andI .u32 v.x4 v.x5) (andI .u32 (xorI .u32 4294967295 v.x4) v.x6)))) + k)) + w)
def t2 (v : GA8_u32) : Int := IntKind.u32.wrap (sA v.x0 + (xorI .u32 (xorI .u32 (andI .u32 v.x0 v.x1) (andI .u32 v.x0 v.x2)) (andI .u32 v.x1 v.x2)))
/-- One of 64 steps. -/
def stepS (v : GA8_u32) (k w : Int) : GA8_u32 := ⟨IntKind.u32.wrap (t1 v k w + t2 v), v.x0, v.x1, v.x2, IntKind.u32.wrap (v.x3 + t1 v k w), v.x4, v.x5, v.x6⟩
section
variable (a b c d e f g h : Int)
theorem c8_0 : chkIdx 8 0 = some () := rfl
theorem c8_1 : chkIdx 8 1 = some () := rfl
theorem c8_2 : chkIdx 8 2 = some () := rfl
theorem c8_3 : chkIdx 8 3 = some () := rfl
theorem c8_4 : chkIdx 8 4 = some () := rfl
theorem c8_5 : chkIdx 8 5 = some () := rfl
theorem c8_6 : chkIdx 8 6 = some () := rfl
theorem c8_7 : chkIdx 8 7 = some () := rfl
theorem i8_0 : idxA 8 [a, b, c, d, e, f, g, h] 0 = some a := rfl
theorem i8_1 : idxA 8 [a, b, c, d, e, f, g, h] 1 = some b := rfl
theorem i8_2 : idxA 8 [a, b, c, d, e, f, g, h] 2 = some c := rfl
theorem i8_3 : idxA 8 [a, b, c, d, e, f, g, h] 3 = some d := rfl
theorem i8_4 : idxA 8 [a, b, c, d, e, f, g, h] 4 = some e := rfl
theorem i8_5 : idxA 8 [a, b, c, d, e, f, g, h] 5 = some f := rfl
theorem i8_6 : idxA 8 [a, b, c, d, e, f, g, h] 6 = some g := rfl
theorem i8_7 : idxA 8 [a, b, c, d, e, f, g, h] 7 = some h := rfl
theorem j8_0 : idxL [a, b, c, d, e, f, g, h] 0 = some a := rfl
theorem j8_1 : idxL [a, b, c, d, e, f, g, h] 1 = some b := rfl
theorem j8_2 : idxL [a, b, c, d, e, f, g, h] 2 = some c := rfl
theorem j8_3 : idxL [a, b, c, d, e, f, g, h] 3 = some d := rfl
theorem j8_4 : idxL [a, b, c, d, e, f, g, h] 4 = some e := rfl
theorem j8_5 : idxL [a, b, c, d, e, f, g, h] 5 = some f := rfl
theorem j8_6 : idxL [a, b, c, d, e, f, g, h] 6 = some g := rfl
theorem j8_7 : idxL [a, b, c, d, e, f, g, h] 7 = some h := rfl
theorem l8 : chkLen [a, b, c, d, e, f, g, h] 8 = some () := rfl
end
theorem sstep_eq (v : GA8_u32) (k w : Int) : F_sha_state_step v k w = some (stepS v k w) := by
  unfold F_sha_state_step
  simp only [c8_0, c8_1, c8_2, c8_3, c8_4, c8_5, c8_6, c8_7, i8_0, i8_1, i8_2, i8_3, i8_4, i8_5, i8_6, i8_7, l8, Option.bind_some, sright _ 6 (by decide) (by decide), sright _ 11 (by decide) (by decide), sright _ 25 (by decide) (by decide), sright _ 2 (by decide) (by decide), sright _ 13 (by decide) (by decide), sright _ 22 (by decide) (by decide)]
  rfl

/-- Numbers of 32 bits. -/
def u32ok (x : Int) : Prop := 0 ≤ x ∧ x < 4294967296
structure R8 (v : GA8_u32) : Prop where
  h0 : u32ok v.x0
  h1 : u32ok v.x1
  h2 : u32ok v.x2
  h3 : u32ok v.x3
  h4 : u32ok v.x4
  h5 : u32ok v.x5
  h6 : u32ok v.x6
  h7 : u32ok v.x7
theorem u32w (x : Int) : u32ok (IntKind.u32.wrap x) := by rw [wrap_u32]; unfold u32ok; omega
theorem R8.step {v : GA8_u32} (h : R8 v) (k w : Int) : R8 (stepS v k w) := ⟨u32w _, h.h0, h.h1, h.h2, u32w _, h.h4, h.h5, h.h6⟩
def kOf (i : Nat) : Int := KL_99.getD i 0
def rounds (w : List Int) (v : GA8_u32) : Nat → GA8_u32
  | 0 => v
  | i + 1 => stepS (rounds w v i) (kOf i) (w.getD i 0)
theorem R8.rounds {v : GA8_u32} (h : R8 v) (w : List Int) : ∀ i, R8 (rounds w v i)
  | 0 => h
  | i + 1 => (R8.rounds h w i).step _ _
theorem KL_len : KL_99.length = 64 := by kernel_rfl
theorem kA (i : Nat) (hi : i < 64) : idxA 64 KL_99 (i : Int) = some (kOf i) := by
  have := idxA_get KL_99 [] 64 i (by rw [KL_len]; omega) hi
  rw [List.append_nil] at this; exact this
theorem wA (w : List Int) (hw : w.length = 64) (i : Nat) (hi : i < 64) : idxA 64 w (i : Int) = some (w.getD i 0) := by
  have := idxA_get w [] 64 i (by omega) hi
  rw [List.append_nil] at this; exact this
theorem round_step (w : List Int) (hw : w.length = 64) (s : List UInt8) (l : List Int) (v : GA8_u32) (i : Nat) (hi : i < 64) :
    L_sha_state_blocks_2 KL_99 w (s, l, toL (rounds w v i), (i : Int)) = some (.inl (s, l, toL (rounds w v (i + 1)), ((i + 1 : Nat) : Int))) := by
  unfold L_sha_state_blocks_2
  have c : chkIdx 64 (i : Int) = some () := chk_at i 64 hi
  simp only
  rw [if_pos (by omega), of_toL, Option.bind_some, c, Option.bind_some, kA i hi, Option.bind_some, Option.bind_some, wA w hw i hi, Option.bind_some, sstep_eq, Option.bind_some, show chkLen (toL (rounds w v i)) 8 = some () from rfl, Option.bind_some, l8, Option.bind_some, wrap_i64 (n := (i : Int) + 1) (by omega) (by omega)]
  rfl
theorem rround_step (w : List Int) (hw : w.length = 64) (h : List Int) (at_ : Int) (v : GA8_u32) (hv : R8 v) (i : Nat) (hi : i < 64) :
    L_ref04_Of_2 KL_99 w (h, at_, toL (rounds w v i), (i : Int)) = some (.inl (h, at_, toL (rounds w v (i + 1)), ((i + 1 : Nat) : Int))) := by
  unfold L_ref04_Of_2
  have g1 : idxL KL_99 (i : Int) = some (kOf i) := idx_get _ _ (by rw [KL_len]; omega)
  have g2 := idx_get w i (by omega)
  have hr := hv.rounds w i
  simp only
  rw [if_pos (by omega), wrap_i64 (n := (i : Int) + 1) (by omega) (by omega)]
  simp only [toL, j8_0, j8_1, j8_2, j8_3, j8_4, j8_5, j8_6, j8_7, g1, g2, Option.bind_some, rright _ 6 (by decide) (by decide), rright _ 11 (by decide) (by decide), rright _ 25 (by decide) (by decide), rright _ 2 (by decide) (by decide), rright _ 13 (by decide) (by decide), rright _ 22 (by decide) (by decide)]
  rw [← not32 _ hr.h4.1 hr.h4.2]
  rfl

def addS (v x : GA8_u32) : GA8_u32 := ⟨IntKind.u32.wrap (v.x0 + x.x0), IntKind.u32.wrap (v.x1 + x.x1), IntKind.u32.wrap (v.x2 + x.x2), IntKind.u32.wrap (v.x3 + x.x3), IntKind.u32.wrap (v.x4 + x.x4), IntKind.u32.wrap (v.x5 + x.x5), IntKind.u32.wrap (v.x6 + x.x6), IntKind.u32.wrap (v.x7 + x.x7)⟩
theorem R8.add (v x : GA8_u32) : R8 (addS v x) := ⟨u32w _, u32w _, u32w _, u32w _, u32w _, u32w _, u32w _, u32w _⟩
theorem NF9 : NF = 999991 + 1 + 1 + 1 + 1 + 1 + 1 + 1 + 1 + 1 := by rw [NF_eq]
theorem add_eq (s : List UInt8) (l : List Int) (v x : GA8_u32) : iter (L_sha_state_blocks_3 (s, l, toL x)) NF (toL v, 0) = some (toL (addS v x)) := by
  rw [NF9]
  rw [iter_inl (s' := ([IntKind.u32.wrap (v.x0 + x.x0), v.x1, v.x2, v.x3, v.x4, v.x5, v.x6, v.x7], 1)) (by rfl),
    iter_inl (s' := ([IntKind.u32.wrap (v.x0 + x.x0), IntKind.u32.wrap (v.x1 + x.x1), v.x2, v.x3, v.x4, v.x5, v.x6, v.x7], 2)) (by rfl),
    iter_inl (s' := ([IntKind.u32.wrap (v.x0 + x.x0), IntKind.u32.wrap (v.x1 + x.x1), IntKind.u32.wrap (v.x2 + x.x2), v.x3, v.x4, v.x5, v.x6, v.x7], 3)) (by rfl),
    iter_inl (s' := ([IntKind.u32.wrap (v.x0 + x.x0), IntKind.u32.wrap (v.x1 + x.x1), IntKind.u32.wrap (v.x2 + x.x2), IntKind.u32.wrap (v.x3 + x.x3), v.x4, v.x5, v.x6, v.x7], 4)) (by rfl),
    iter_inl (s' := ([IntKind.u32.wrap (v.x0 + x.x0), IntKind.u32.wrap (v.x1 + x.x1), IntKind.u32.wrap (v.x2 + x.x2), IntKind.u32.wrap (v.x3 + x.x3), IntKind.u32.wrap (v.x4 + x.x4), v.x5, v.x6, v.x7], 5)) (by rfl),
    iter_inl (s' := ([IntKind.u32.wrap (v.x0 + x.x0), IntKind.u32.wrap (v.x1 + x.x1), IntKind.u32.wrap (v.x2 + x.x2), IntKind.u32.wrap (v.x3 + x.x3), IntKind.u32.wrap (v.x4 + x.x4), IntKind.u32.wrap (v.x5 + x.x5), v.x6, v.x7], 6)) (by rfl),
    iter_inl (s' := ([IntKind.u32.wrap (v.x0 + x.x0), IntKind.u32.wrap (v.x1 + x.x1), IntKind.u32.wrap (v.x2 + x.x2), IntKind.u32.wrap (v.x3 + x.x3), IntKind.u32.wrap (v.x4 + x.x4), IntKind.u32.wrap (v.x5 + x.x5), IntKind.u32.wrap (v.x6 + x.x6), v.x7], 7)) (by rfl),
    iter_inl (s' := (toL (addS v x), 8)) (by rfl)]
  exact iter_inr (by rfl)
theorem radd_eq (l : List Int) (a : Int) (v x : GA8_u32) : iter (L_ref04_Of_3 (l, a, toL x)) NF (toL v, 0) = some (toL (addS v x)) := by
  rw [NF9]
  rw [iter_inl (s' := ([IntKind.u32.wrap (v.x0 + x.x0), v.x1, v.x2, v.x3, v.x4, v.x5, v.x6, v.x7], 1)) (by rfl),
    iter_inl (s' := ([IntKind.u32.wrap (v.x0 + x.x0), IntKind.u32.wrap (v.x1 + x.x1), v.x2, v.x3, v.x4, v.x5, v.x6, v.x7], 2)) (by rfl),
    iter_inl (s' := ([IntKind.u32.wrap (v.x0 + x.x0), IntKind.u32.wrap (v.x1 + x.x1), IntKind.u32.wrap (v.x2 + x.x2), v.x3, v.x4, v.x5, v.x6, v.x7], 3)) (by rfl),
    iter_inl (s' := ([IntKind.u32.wrap (v.x0 + x.x0), IntKind.u32.wrap (v.x1 + x.x1), IntKind.u32.wrap (v.x2 + x.x2), IntKind.u32.wrap (v.x3 + x.x3), v.x4, v.x5, v.x6, v.x7], 4)) (by rfl),
    iter_inl (s' := ([IntKind.u32.wrap (v.x0 + x.x0), IntKind.u32.wrap (v.x1 + x.x1), IntKind.u32.wrap (v.x2 + x.x2), IntKind.u32.wrap (v.x3 + x.x3), IntKind.u32.wrap (v.x4 + x.x4), v.x5, v.x6, v.x7], 5)) (by rfl),
    iter_inl (s' := ([IntKind.u32.wrap (v.x0 + x.x0), IntKind.u32.wrap (v.x1 + x.x1), IntKind.u32.wrap (v.x2 + x.x2), IntKind.u32.wrap (v.x3 + x.x3), IntKind.u32.wrap (v.x4 + x.x4), IntKind.u32.wrap (v.x5 + x.x5), v.x6, v.x7], 6)) (by rfl),
    iter_inl (s' := ([IntKind.u32.wrap (v.x0 + x.x0), IntKind.u32.wrap (v.x1 + x.x1), IntKind.u32.wrap (v.x2 + x.x2), IntKind.u32.wrap (v.x3 + x.x3), IntKind.u32.wrap (v.x4 + x.x4), IntKind.u32.wrap (v.x5 + x.x5), IntKind.u32.wrap (v.x6 + x.x6), v.x7], 7)) (by rfl),
    iter_inl (s' := (toL (addS v x), 8)) (by rfl)]
  exact iter_inr (by rfl)

/-- A block. -/
def oneB (v : GA8_u32) (s : List UInt8) : GA8_u32 := addS v (rounds (wordsOf s) v 64)
def blks : Nat → GA8_u32 → List UInt8 → GA8_u32
  | 0, v, _ => v
  | n + 1, v, s => blks n (oneB v (s.take 64)) (s.drop 64)
def blk (v : GA8_u32) (s : List UInt8) : GA8_u32 := blks (s.length / 64) v s
theorem blk_lt (v : GA8_u32) (s : List UInt8) (h : s.length < 64) : blk v s = v := by
  unfold blk; rw [Nat.div_eq_of_lt h]; rfl
theorem blk_step (v : GA8_u32) (s : List UInt8) (h : 64 ≤ s.length) : blk v s = blk (oneB v (s.take 64)) (s.drop 64) := by
  unfold blk
  obtain ⟨k, hk⟩ : ∃ k, s.length / 64 = k + 1 := ⟨s.length / 64 - 1, by omega⟩
  rw [hk, blks, List.length_drop, show (s.length - 64) / 64 = k by omega]
theorem blk_append : ∀ (k : Nat) (v : GA8_u32) (a b : List UInt8), a.length = 64 * k → blk v (a ++ b) = blk (blk v a) b := by
  intro k
  induction k with
  | zero => intro v a b h; obtain rfl := List.eq_nil_of_length_eq_zero (show a.length = 0 by omega); rw [List.nil_append, blk_lt v [] (by simp)]
  | succ k ih =>
    intro v a b h
    rw [blk_step v (a ++ b) (by simp; omega), blk_step v a (by omega), List.take_append_of_le_length (by omega), List.drop_append_of_le_length (by omega), ih _ _ _ (by simp; omega)]
theorem base_64 (s : List UInt8) : base (s.take 64) = base s := by
  unfold base
  apply List.map_congr_left
  intro i hi
  rw [List.mem_range] at hi
  unfold by4
  simp only [List.getD_eq_getElem?_getD, List.getElem?_take, if_pos (show 4 * i < 64 by omega), if_pos (show 4 * i + 1 < 64 by omega), if_pos (show 4 * i + 2 < 64 by omega), if_pos (show 4 * i + 3 < 64 by omega)]
theorem words_64 (s : List UInt8) : wordsOf (s.take 64) = wordsOf s := by unfold wordsOf; rw [base_64]
theorem sub_drop (s : List UInt8) (a : Nat) (h : a ≤ s.length) : subS s (a : Int) s.length = some (s.drop a) := by
  unfold subS
  rw [if_pos (by omega), Int.toNat_natCast, Int.toNat_natCast, List.take_length]
theorem blocks_step (v : GA8_u32) (s : List UInt8) (h : 64 ≤ s.length) : L_sha_state_blocks_1 KL_99 (s, toL v) = some (.inl (s.drop 64, toL (oneB v (s.take 64)))) := by
  unfold L_sha_state_blocks_1
  simp only
  have h1 := iter_nat (step := L_sha_state_blocks_2 KL_99 (wordsOf s)) (fun i => (s, toL v, toL (rounds (wordsOf s) v i), (i : Int))) (r := (s, toL v, toL (rounds (wordsOf s) v 64))) 64
    (by unfold L_sha_state_blocks_2; simp only; rw [if_neg (by decide)]) 64 0 NF rfl (fun j _ hj => round_step _ (wordsOf_length s) s _ v j hj) (by rw [NF_eq]; omega)
  rw [if_pos (by omega), words_eq s h, Option.bind_some, of_toL, Option.bind_some, l8, Option.bind_some, l8, Option.bind_some]
  erw [h1]
  rw [Option.bind_some]
  simp only
  rw [add_eq, Option.bind_some, show (64 : Int) = ((64 : Nat) : Int) from rfl, sub_drop s 64 h, Option.bind_some]
  unfold oneB
  rw [words_64]
theorem blocks_loop : ∀ (n : Nat) (s : List UInt8) (v : GA8_u32), s.length / 64 < n → iter (L_sha_state_blocks_1 KL_99) n (s, toL v) = some (toL (blk v s)) := by
  intro n
  induction n with
  | zero => intro s v h; omega
  | succ n ih =>
    intro s v h
    by_cases hl : 64 ≤ s.length
    · rw [iter_inl (blocks_step v s hl), ih _ _ (by simp; omega), blk_step v s hl]
    · rw [blk_lt v s (by omega)]
      refine iter_inr ?_
      unfold L_sha_state_blocks_1
      rw [if_neg (by simp only; omega)]
theorem blocks_eq (v : GA8_u32) (s : List UInt8) (h : s.length ≤ 10000000) : F_sha_state_blocks v s = some (blk v s) := by
  unfold F_sha_state_blocks F_sha_added
  rw [Option.bind_some]
  have := blocks_loop NF s v (by rw [NF_eq]; omega)
  unfold toL at this
  rw [this, Option.bind_some]
  have e := of_toL (blk v s)
  unfold toL at e
  rw [e, Option.bind_some, l8, Option.bind_some, l8, Option.bind_some]

theorem sub_mid (s : List UInt8) (a n : Nat) (h : a + n ≤ s.length) : subS s (a : Int) ((a + n : Nat) : Int) = some ((s.drop a).take n) := by
  unfold subS
  rw [if_pos (by omega), Int.toNat_natCast, Int.toNat_natCast, List.drop_take, show a + n - a = n by omega]
theorem rOf_step (p : List UInt8) (v : GA8_u32) (hv : R8 v) (a : Nat) (h : a + 64 ≤ p.length) (hp : p.length ≤ 10000000) :
    L_ref04_Of_1 p KL_99 (toL v, (a : Int)) = some (.inl (toL (oneB v ((p.drop a).take 64)), ((a + 64 : Nat) : Int))) := by
  unfold L_ref04_Of_1
  simp only
  have hl : 64 ≤ ((p.drop a).take 64).length := by simp; omega
  have h1 := iter_nat (step := L_ref04_Of_2 KL_99 (wordsOf ((p.drop a).take 64))) (fun i => (toL v, (a : Int), toL (rounds (wordsOf ((p.drop a).take 64)) v i), (i : Int))) (r := (toL v, (a : Int), toL (rounds (wordsOf ((p.drop a).take 64)) v 64))) 64
    (by unfold L_ref04_Of_2; simp only; rw [if_neg (by decide)]) 64 0 NF rfl (fun j _ hj => rround_step _ (wordsOf_length _) _ _ v hv j hj) (by rw [NF_eq]; omega)
  rw [if_pos (by omega), wrap_i64 (n := (a : Int) + 64) (by omega) (by omega), show (a : Int) + 64 = ((a + 64 : Nat) : Int) by omega, sub_mid p a 64 h, Option.bind_some, rwords_eq _ hl, Option.bind_some]
  unfold app
  rw [if_pos (by simp [toL, capL]), Option.bind_some, List.nil_append]
  erw [h1]
  rw [Option.bind_some]
  simp only
  rw [radd_eq, Option.bind_some]
  try simp only
  rw [wrap_i64 (n := (a : Int) + 64) (by omega) (by omega)]
  rfl
theorem R8.one (v : GA8_u32) (s : List UInt8) : R8 (oneB v s) := R8.add _ _
theorem rOf_loop (p : List UInt8) (hp : p.length ≤ 10000000) : ∀ (n k : Nat) (v : GA8_u32) (a : Nat), a + 64 * k = p.length → k < n → R8 v → iter (L_ref04_Of_1 p KL_99) n (toL v, (a : Int)) = some (toL (blk v (p.drop a))) := by
  intro n
  induction n with
  | zero => intro k v a _ h; omega
  | succ n ih =>
    intro k v a h hk hv
    cases k with
    | zero =>
      rw [blk_lt v _ (by simp; omega)]
      refine iter_inr ?_
      unfold L_ref04_Of_1
      rw [if_neg (by simp only; omega)]
    | succ k =>
      rw [iter_inl (rOf_step p v hv a (by omega) hp), ih k _ _ (by omega) (by omega) (R8.one _ _), blk_step v _ (by simp; omega), List.drop_drop]
end Go.Proofs.YtobhmahlenjheaaM
