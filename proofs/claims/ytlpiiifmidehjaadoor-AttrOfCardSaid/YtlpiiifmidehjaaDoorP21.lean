/- The plain law of AttrOf: both functions answer the same. -/
import Derived.Test.YtlpiiifmidehjaaDoorAB
set_option linter.unusedVariables false
set_option linter.unusedSimpArgs false
set_option maxRecDepth 1000000
namespace Go.Proofs.YtlpiiifmidehjaaDoorM
open Go Go.RowKit

theorem i64_id {x : Int} (h1 : -9223372036854775808 ≤ x) (h2 : x < 9223372036854775808) : IntKind.i64.wrap x = x := by
  first
  | exact wrap_i64 h1 h2
  | exact wrap_i64 (by omega) (by omega)
theorem shr_i64 {x : Int} {n : Nat} (h0 : 0 ≤ x) (hn : n < 64) : shrI x .i64 (n : Int) = some (x / 2 ^ n) := by
  unfold shrI
  rw [if_neg (by omega)]
  have : min (n : Int).toNat IntKind.i64.bits = n := by show min n 64 = n; omega
  rw [this, Int.fdiv_eq_ediv_of_nonneg _ (by exact Int.le_of_lt (Int.pow_pos (by omega)))]
theorem quo_i64 {x y : Int} (h0 : 0 ≤ x) (h1 : x < 9223372036854775808) (hy : 0 < y) : quoI .i64 x y = some (x / y) := by
  unfold quoI
  rw [if_neg (by omega), Int.tdiv_eq_ediv_of_nonneg h0]
  have h2 : 0 ≤ x / y := Int.ediv_nonneg h0 (by omega)
  have h3 : x / y ≤ x := Int.ediv_le_self _ h0
  rw [i64_id (by omega) (by omega)]
theorem rem_nn {x y : Int} (h0 : 0 ≤ x) (hy : 0 < y) : remI x y = some (x % y) := by
  unfold remI
  rw [if_neg (by omega), Int.tmod_eq_emod_of_nonneg h0]
theorem and_mask {x : Int} (k : Nat) (hk : k < 63) (h0 : 0 ≤ x) (h1 : x < 9223372036854775808) : andI .i64 x ((2 ^ k - 1 : Nat) : Int) = x % (2 ^ k : Nat) := by
  unfold andI
  obtain ⟨n, rfl⟩ := Int.eq_ofNat_of_zero_le h0
  have hp : 2 ^ k < 2 ^ 63 := Nat.pow_lt_pow_right (by omega) hk
  have e1 : (BitVec.ofInt IntKind.i64.bits (n : Int) &&& BitVec.ofInt IntKind.i64.bits ((2 ^ k - 1 : Nat) : Int)).toNat = n % 2 ^ k := by
    show (BitVec.ofInt 64 (n : Int) &&& BitVec.ofInt 64 ((2 ^ k - 1 : Nat) : Int)).toNat = _
    rw [BitVec.ofInt_natCast, BitVec.ofInt_natCast, BitVec.toNat_and, BitVec.toNat_ofNat, BitVec.toNat_ofNat, Nat.mod_eq_of_lt (by omega), Nat.mod_eq_of_lt (by omega), Nat.and_two_pow_sub_one_eq_mod]
  rw [e1]
  have h2 : n % 2 ^ k < 2 ^ k := Nat.mod_lt _ (Nat.pow_pos (by omega))
  rw [i64_id (by omega) (by omega)]
  simp

def attrF (M O T sz : Int) (d b3 b8 b4 b0 bz : Bool) : ((List UInt8) × (Bool × ((List UInt8) × (Int × (Int × Unit))))) × (Int × Unit) :=
  bif b3 then
    (bif !b8 && !b4 && !b0 then (([], false, [], 0, 0, ()), 12, ())
     else bif (b8 && d) || (b4 && !d) then (([], false, [], 0, 0, ()), 2, ())
     else bif d && !bz then (([], false, [], 0, 0, ()), 2, ()) else (([], d, [], O / 65536 % 512, T, ()), 0, ()))
  else bif d && !bz then (([], false, [], 0, 0, ()), 2, ()) else (([], d, [], (bif d then 493 else 420), T, ()), 0, ())
def attrR (M O T sz : Int) (d : Bool) := attrF M O T sz d (M / 256 == 3) (O / 268435456 == 8) (O / 268435456 == 4) (O / 268435456 == 0) (sz == 0)
section
variable {α β γ : Type}
theorem bind_cg {a a' : Option α} {f : α → Option β} (h : a = a') : a.bind f = a'.bind f := by rw [h]
theorem cond_cg {c c' : Bool} {a b : α} (h : c = c') : cond c a b = cond c' a b := by rw [h]
theorem sumK_cg {x x' : α ⊕ β} {f : α → Option γ} {g : β → Option γ} (h : x = x') : sumK x f g = sumK x' f g := by rw [h]
theorem sI {x : α} {f : α → Option γ} {g : β → Option γ} : sumK (.inl x) f g = f x := Eq.trans (Eq.refl _) (Eq.refl _)
theorem sR {x : β} {f : α → Option γ} {g : β → Option γ} : sumK (.inr x) f g = g x := Eq.trans (Eq.refl _) (Eq.refl _)
theorem bS {x : α} {f : α → Option β} : (some x).bind f = f x := Eq.trans (Eq.refl _) (Eq.refl _)
theorem cT {a b : α} : cond true a b = a := Eq.trans (Eq.refl _) (Eq.refl _)
theorem cF {a b : α} : cond false a b = b := Eq.trans (Eq.refl _) (Eq.refl _)
theorem bne_not (a b : Int) : (a != b) = !(a == b) := Eq.trans (Eq.refl _) (Eq.refl _)
end

def bringI (n most : Int) : Int := minI (maxI n 0) most
theorem bring_range (n most : Int) (h : 0 ≤ most) : 0 ≤ bringI n most ∧ bringI n most ≤ most := by
  unfold bringI minI maxI
  split <;> split <;> omega

/-- Does a text end with a byte? -/
def endsB (s : List UInt8) : Bool := s.getLast? == some 47
theorem suffix_eq (s : List UInt8) (hs : (s.length : Int) ≤ 100) : F_strings_HasSuffix s [47] = some (endsB s, ()) := by
  unfold F_strings_HasSuffix F_internal_stringslite_HasSuffix
  cases s with
  | nil => rfl
  | cons c r =>
    have hl : ((c :: r).length : Int) = r.length + 1 := by simp
    have hl1 : (([47] : List UInt8).length : Int) = 1 := rfl
    rw [hl] at hs
    have h1 : decide (((c :: r).length : Int) ≥ (([47] : List UInt8).length : Int)) = true := by rw [hl, hl1]; exact decide_eq_true (by omega)
    rw [h1, cond_true, i64_id (by rw [hl, hl1]; omega) (by rw [hl, hl1]; omega)]
    unfold subS
    rw [if_pos (by simp; omega)]
    simp only [Option.bind_some]
    congr 2
    unfold endsB
    rw [List.getLast?_eq_getElem?]
    have e1 : ((c :: r).length : Int).toNat = (c :: r).length := by simp
    have e2 : (((c :: r).length : Int) - (([47] : List UInt8).length : Int)).toNat = (c :: r).length - 1 := by simp
    rw [e1, e2, List.take_length]
    have e3 : (c :: r).drop ((c :: r).length - 1) = [(c :: r)[(c :: r).length - 1]'(by simp)] := by
      rw [List.drop_eq_getElem_cons (by simp)]
      congr 1
      exact List.drop_of_length_le (by simp)
    rw [e3, List.getElem?_eq_getElem (by simp)]
    generalize (c :: r)[(c :: r).length - 1]'(by simp) = b
    rw [Bool.eq_iff_iff]
    simp
theorem last_eq (s : List UInt8) (hs : (s.length : Int) ≤ 100) {R : Type} (f : Bool → R) :
    (bif decide ((s.length : Int) > 0) then ((idxS s (IntKind.i64.wrap ((s.length : Int) - 1))).bind fun v => some (f (v == 47))) else some (f false)) = some (f (endsB s)) := by
  cases s with
  | nil => rfl
  | cons c r =>
    have hl : ((c :: r).length : Int) = r.length + 1 := by simp
    rw [hl] at hs
    have h1 : decide (((c :: r).length : Int) > 0) = true := by rw [hl]; exact decide_eq_true (by omega)
    rw [h1, cond_true, i64_id (by rw [hl]; omega) (by rw [hl]; omega)]
    unfold idxS
    rw [if_pos (by simp; omega)]
    simp only [Option.bind_some]
    congr 2
    unfold endsB
    have e2 : (((c :: r).length : Int) - 1).toNat = (c :: r).length - 1 := by simp
    rw [e2, List.getLast?_eq_getElem?, List.getD_eq_getElem?_getD]
    have : ((c :: r)[(c :: r).length - 1]?) = some ((c :: r)[(c :: r).length - 1]'(by simp)) := List.getElem?_eq_getElem _
    rw [this]
    simp only [Option.getD_some]
    generalize (c :: r)[(c :: r).length - 1]'(by simp) = b
    rw [Bool.eq_iff_iff]
    simp only [beq_iff_eq, Option.some.injEq]
    constructor
    · intro h; apply UInt8.toNat_inj.1; show b.toNat = 47; omega
    · rintro rfl; rfl
theorem last_idx (s : List UInt8) (hs : (s.length : Int) ≤ 100) : ((s.length : Int) > 0 ∧ ∃ v, idxS s (IntKind.i64.wrap ((s.length : Int) - 1)) = some v ∧ (v == 47) = endsB s) ∨ (¬ (s.length : Int) > 0 ∧ endsB s = false) := by
  by_cases h : (s.length : Int) > 0
  · refine .inl ⟨h, ?_⟩
    have := last_eq s hs id
    rw [decide_eq_true h, cond_true] at this
    obtain ⟨v, hv, h2⟩ := Option.bind_eq_some_iff.1 this
    exact ⟨v, hv, Option.some.inj h2⟩
  · refine .inr ⟨h, ?_⟩
    have : s = [] := List.eq_nil_of_length_eq_zero (by omega)
    subst this; rfl
theorem beqI (a b : Int) : (a == b) = decide (a = b) := by have h : (a == b) = decide (a = b) := Eq.refl _; exact h
theorem bneI (a b : Int) : (a != b) = !decide (a = b) := by have h : (a != b) = !decide (a = b) := Eq.refl _; exact h
theorem bring_eq (n m : Int) : F_attr_bring n m = some (bringI n m, ()) := by unfold bringI; exact (Eq.refl _)
theorem in_eq (n m : Int) : F_ref21_in n m = some (bringI n m, ()) := by unfold bringI; exact (Eq.refl _)

section
attribute [local congr] bind_cg cond_cg sumK_cg
variable (made need flags method time crc packed size inner outer offset : Int) (name extra comment : List UInt8)
theorem of_eq (hs : (name.length : Int) ≤ 100) : F_attr_Of (made, need, flags, method, time, crc, packed, size, inner, outer, offset, name, extra, comment, ()) =
    some (attrR (bringI made 65535) (bringI outer 4294967295) (bringI time 4294967295) size (endsB name)) := by
  unfold F_attr_Of
  obtain ⟨m1, m2⟩ := bring_range made 65535 (by omega)
  obtain ⟨o1, o2⟩ := bring_range outer 4294967295 (by omega)
  unfold attrR
  have q1 : shrI (bringI made 65535) .i64 8 = some (bringI made 65535 / 256) := shr_i64 (n := 8) m1 (by omega)
  have q2 : shrI (bringI outer 4294967295) .i64 16 = some (bringI outer 4294967295 / 65536) := shr_i64 (n := 16) o1 (by omega)
  have q3 : shrI (bringI outer 4294967295) .i64 28 = some (bringI outer 4294967295 / 268435456) := shr_i64 (n := 28) o1 (by omega)
  have q4 : andI .i64 (bringI outer 4294967295 / 65536) 511 = bringI outer 4294967295 / 65536 % 512 := and_mask 9 (by omega) (by omega) (by omega)
  have hE := suffix_eq name hs
  generalize endsB name = d at *
  have hz : ∃ bz, (size == 0) = bz := ⟨_, rfl⟩
  have h3 : ∃ bz, (bringI made 65535 / 256 == 3) = bz := ⟨_, rfl⟩
  have h8 : ∃ bz, (bringI outer 4294967295 / 268435456 == 8) = bz := ⟨_, rfl⟩
  have h4 : ∃ bz, (bringI outer 4294967295 / 268435456 == 4) = bz := ⟨_, rfl⟩
  have h0 : ∃ bz, (bringI outer 4294967295 / 268435456 == 0) = bz := ⟨_, rfl⟩
  obtain ⟨bz, hz⟩ := hz; obtain ⟨b3, h3⟩ := h3; obtain ⟨b8, h8⟩ := h8; obtain ⟨b4, h4⟩ := h4; obtain ⟨b0, h0⟩ := h0
  cases d <;> cases b3 <;> cases b8 <;> cases b4 <;> cases b0 <;> cases bz <;>
    simp only [↓bS, ↓cT, ↓cF, ↓sI, ↓sR, bring_eq, hE, q1, q2, q3, q4, hz, h3, h8, h4, h0, bne_not, bS, cT, cF, Bool.not_true, Bool.not_false, sI, sR, attrF, Bool.true_and, Bool.false_and, Bool.and_false, Bool.and_true, Bool.or_true, Bool.or_false, Bool.false_or, Bool.true_or]
theorem rof_eq (hs : (name.length : Int) ≤ 100) : F_ref21_Of (made, need, flags, method, time, crc, packed, size, inner, outer, offset, name, extra, comment, ()) =
    some (attrR (bringI made 65535) (bringI outer 4294967295) (bringI time 4294967295) size (endsB name)) := by
  unfold F_ref21_Of
  obtain ⟨m1, m2⟩ := bring_range made 65535 (by omega)
  obtain ⟨o1, o2⟩ := bring_range outer 4294967295 (by omega)
  unfold attrR
  have q1 : quoI .i64 (bringI made 65535) 256 = some (bringI made 65535 / 256) := quo_i64 m1 (by omega) (by omega)
  have q2 : quoI .i64 (bringI outer 4294967295) 65536 = some (bringI outer 4294967295 / 65536) := quo_i64 o1 (by omega) (by omega)
  have q3 : quoI .i64 (bringI outer 4294967295) 268435456 = some (bringI outer 4294967295 / 268435456) := quo_i64 o1 (by omega) (by omega)
  have q4 : remI (bringI outer 4294967295 / 65536) 512 = some (bringI outer 4294967295 / 65536 % 512) := rem_nn (by omega) (by omega)
  have hE := last_idx name hs
  generalize endsB name = d at *
  have hz : ∃ bz, (size == 0) = bz := ⟨_, rfl⟩
  have h3 : ∃ bz, (bringI made 65535 / 256 == 3) = bz := ⟨_, rfl⟩
  have h8 : ∃ bz, (bringI outer 4294967295 / 268435456 == 8) = bz := ⟨_, rfl⟩
  have h4 : ∃ bz, (bringI outer 4294967295 / 268435456 == 4) = bz := ⟨_, rfl⟩
  have h0 : ∃ bz, (bringI outer 4294967295 / 268435456 == 0) = bz := ⟨_, rfl⟩
  obtain ⟨bz, hz⟩ := hz; obtain ⟨b3, h3⟩ := h3; obtain ⟨b8, h8⟩ := h8; obtain ⟨b4, h4⟩ := h4; obtain ⟨b0, h0⟩ := h0
  rcases hE with ⟨hp, v, hv, hd⟩ | ⟨hp, hd⟩
  · have hp1 : decide ((name.length : Int) > 0) = true := decide_eq_true hp
    cases d <;> cases b3 <;> cases b8 <;> cases b4 <;> cases b0 <;> cases bz <;>
      simp only [↓bS, ↓cT, ↓cF, ↓sI, ↓sR, in_eq, hp1, hv, hd, q1, q2, q3, q4, hz, h3, h8, h4, h0, bne_not, bS, cT, cF, Bool.not_true, Bool.not_false, sI, sR, attrF, Bool.true_and, Bool.false_and, Bool.and_false, Bool.and_true, Bool.or_true, Bool.or_false, Bool.false_or, Bool.true_or]
  · have hp1 : decide ((name.length : Int) > 0) = false := decide_eq_false hp
    subst hd
    cases b3 <;> cases b8 <;> cases b4 <;> cases b0 <;> cases bz <;>
      simp only [↓bS, ↓cT, ↓cF, ↓sI, ↓sR, in_eq, hp1, q1, q2, q3, q4, hz, h3, h8, h4, h0, bne_not, bS, cT, cF, Bool.not_true, Bool.not_false, sI, sR, attrF, Bool.true_and, Bool.false_and, Bool.and_false, Bool.and_true, Bool.or_true, Bool.or_false, Bool.false_or, Bool.true_or]
theorem true_law21_AttrOf (w0 : (Lit.int .i64 made).wf = true) (w1 : (Lit.int .i64 need).wf = true) (w2 : (Lit.int .i64 flags).wf = true) (w3 : (Lit.int .i64 method).wf = true) (w4 : (Lit.int .i64 time).wf = true) (w5 : (Lit.int .i64 crc).wf = true)
    (w6 : (Lit.int .i64 packed).wf = true) (w7 : (Lit.int .i64 size).wf = true) (w8 : (Lit.int .i64 inner).wf = true) (w9 : (Lit.int .i64 outer).wf = true) (w10 : (Lit.int .i64 offset).wf = true) :
    F_law21_AttrOf (made, need, flags, method, time, crc, packed, size, inner, outer, offset, name, extra, comment, ()) = some (true, ()) := by
  unfold F_law21_AttrOf
  simp only [Option.bind_some, Bool.not_true, cond_false]
  by_cases hl : (name.length : Int) > 100
  · rw [decide_eq_true hl, cond_true]
  · rw [decide_eq_false hl, cond_false, of_eq (hs := by omega), rof_eq (hs := by omega)]
    simp
end
end Go.Proofs.YtlpiiifmidehjaaDoorM
