/- A toolbox for plain functions. -/
import Derived.Test.YtlpiiifmidehjaaDoorVN
import Derived.Test.YtlpiiifmidehjaaDoorPB
import Derived.Sort.Walk0
import Derived.Lib.IndexLaws
set_option linter.unusedSimpArgs false
set_option linter.unusedVariables false
namespace Go.Proofs.YtlpiiifmidehjaaDoorM
open Go Go.RowKit

/-- A loop, by its answer as a function of its state. -/
theorem iter_eq {σ ρ : Type} {step : σ → Option (σ ⊕ ρ)} (I : σ → Prop) (m : σ → Nat) (R : σ → ρ)
    (hs : ∀ s, I s → (∃ s', step s = some (.inl s') ∧ I s' ∧ m s' < m s ∧ R s' = R s) ∨ step s = some (.inr (R s))) : ∀ (n : Nat) (s : σ), I s → m s < n → iter step n s = some (R s) := by
  intro n
  induction n with
  | zero => intro s _ h; omega
  | succ n ih =>
    intro s hi hm
    rcases hs s hi with ⟨s', h1, h2, h3, h4⟩ | h1
    · rw [iter_inl h1, ih s' h2 (by omega), h4]
    · rw [iter_inr h1]
theorem w64 {x : Int} (h1 : -4611686018427387904 ≤ x) (h2 : x ≤ 4611686018427387904) : IntKind.i64.wrap x = x := wrap_i64 (by omega) (by omega)
theorem idxL_nat {α : Type} {l : List α} {i : Nat} (hi : i < l.length) : idxL l (i : Int) = some l[i] := idx_of l i hi
theorem idxS_nat {l : List UInt8} {i : Nat} (hi : i < l.length) : idxS l (i : Int) = some (l[i].toNat : Int) := by
  unfold idxS
  rw [if_pos (by omega), Int.toNat_natCast, List.getD_eq_getElem?_getD, List.getElem?_eq_getElem hi]; rfl
theorem subS_nat {l : List UInt8} {a b : Nat} (h1 : a ≤ b) (h2 : b ≤ l.length) : subS l (a : Int) (b : Int) = some ((l.take b).drop a) := by
  unfold subS; rw [if_pos (by omega)]; rfl
theorem subL_nat {α : Type} {l : List α} {a b : Nat} (h1 : a ≤ b) (h2 : b ≤ l.length) : subL l (a : Int) (b : Int) = some ((l.take b).drop a) := by
  unfold subL; rw [if_pos (by omega)]; rfl
theorem chkSub_nat {n a b : Nat} (h1 : a ≤ b) (h2 : b ≤ n) : chkSub (n : Int) (a : Int) (b : Int) = some () := by
  unfold chkSub; rw [if_pos (by omega)]
theorem byte_eq {b : UInt8} {n : Nat} (hn : n < 256) : ((b.toNat : Int) == (n : Int)) = (b == UInt8.ofNat n) := by
  have h2 : (UInt8.ofNat n).toNat = n := by rw [UInt8.toNat_ofNat', Nat.mod_eq_of_lt (by simpa using hn)]
  rw [Bool.eq_iff_iff]
  simp only [beq_iff_eq]
  constructor
  · intro h; apply UInt8.toNat_inj.1; rw [h2]; omega
  · rintro rfl; rw [h2]
theorem td {l : List UInt8} {a b : Nat} : (l.take b).drop a = (l.drop a).take (b - a) := by rw [List.drop_take]

/-! ### Orders -/
structure OrdC {α : Type} (c : α → α → Int) : Prop where
  val : ∀ a b, c a b = -1 ∨ c a b = 0 ∨ c a b = 1
  eq : ∀ a b, c a b = 0 ↔ a = b
  anti : ∀ a b, c b a = - c a b
  trans : ∀ a b d, c a b = -1 → c b d = -1 → c a d = -1
def lexC {α : Type} (c : α → α → Int) : List α → List α → Int
  | [], [] => 0
  | [], _ :: _ => -1
  | _ :: _, [] => 1
  | a :: x, b :: y => if c a b = 0 then lexC c x y else c a b
section
variable {α : Type} {c : α → α → Int}
theorem OrdC.refl (h : OrdC c) (a : α) : c a a = 0 := (h.eq a a).2 rfl
theorem lex_val (h : OrdC c) : ∀ x y, lexC c x y = -1 ∨ lexC c x y = 0 ∨ lexC c x y = 1
  | [], [] => .inr (.inl rfl)
  | [], _ :: _ => .inl rfl
  | _ :: _, [] => .inr (.inr rfl)
  | a :: x, b :: y => by unfold lexC; split; exact lex_val h x y; exact h.val a b
theorem lex_eq (h : OrdC c) : ∀ x y, lexC c x y = 0 ↔ x = y
  | [], [] => by simp [lexC]
  | [], _ :: _ => by simp [lexC]
  | _ :: _, [] => by simp [lexC]
  | a :: x, b :: y => by
    unfold lexC
    split
    · rename_i h0
      rw [lex_eq h x y, (h.eq a b).1 h0]; simp
    · rename_i h0
      constructor
      · intro h1; exact absurd h1 h0
      · intro h1; cases h1; exact absurd (h.refl a) h0
theorem lex_anti (h : OrdC c) : ∀ x y, lexC c y x = - lexC c x y
  | [], [] => rfl
  | [], _ :: _ => rfl
  | _ :: _, [] => rfl
  | a :: x, b :: y => by
    have h1 := h.anti a b
    have h2 := lex_anti h x y
    unfold lexC
    split <;> split <;> omega
theorem lex_trans (h : OrdC c) : ∀ x y z, lexC c x y = -1 → lexC c y z = -1 → lexC c x z = -1
  | [], [], _, h1, _ => by cases h1
  | _ :: _, [], _, h1, _ => by cases h1
  | _, _ :: _, [], _, h2 => by cases h2
  | [], _ :: _, _ :: _, _, _ => rfl
  | a :: x, b :: y, d :: z, h1, h2 => by
    unfold lexC at *
    have va := h.val a b
    have vb := h.val b d
    by_cases e1 : c a b = 0
    · have := (h.eq a b).1 e1
      subst this
      rw [if_pos e1] at h1
      by_cases e2 : c a d = 0
      · rw [if_pos e2] at h2 ⊢
        exact lex_trans h x y z h1 h2
      · rw [if_neg e2] at h2 ⊢; exact h2
    · rw [if_neg e1] at h1
      by_cases e2 : c b d = 0
      · have := (h.eq b d).1 e2
        subst this
        rw [if_neg e1]; exact h1
      · rw [if_neg e2] at h2
        have := h.trans a b d h1 h2
        rw [if_neg (by omega)]; exact this
theorem OrdC.lex (h : OrdC c) : OrdC (lexC c) := ⟨lex_val h, lex_eq h, lex_anti h, lex_trans h⟩
end
def c8 (a b : UInt8) : Int := if a < b then -1 else if b < a then 1 else 0
theorem c8_ord : OrdC c8 := by
  have lt : ∀ a b : UInt8, a < b ↔ a.toNat < b.toNat := fun a b => UInt8.lt_iff_toNat_lt
  have eq : ∀ a b : UInt8, a = b ↔ a.toNat = b.toNat := fun a b => UInt8.toNat_inj.symm
  refine ⟨fun a b => ?_, fun a b => ?_, fun a b => ?_, fun a b d h1 h2 => ?_⟩
  · unfold c8; split
    · exact .inl rfl
    · split
      · exact .inr (.inr rfl)
      · exact .inr (.inl rfl)
  · unfold c8; rw [eq]; simp only [lt]
    split
    · simp; omega
    · split
      · simp; omega
      · simp; omega
  · unfold c8; simp only [lt]
    split <;> split <;> first | rfl | omega | (split <;> first | rfl | omega)
  · unfold c8 at *; simp only [lt] at *
    have h3 : a.toNat < b.toNat := by
      split at h1
      · assumption
      · split at h1 <;> cases h1
    have h4 : b.toNat < d.toNat := by
      split at h2
      · assumption
      · split at h2 <;> cases h2
    rw [if_pos (by omega)]
/-- Texts, byte by byte. -/
def cB : List UInt8 → List UInt8 → Int := lexC c8
theorem cB_ord : OrdC cB := c8_ord.lex
theorem bless_eq : ∀ (x y : List UInt8), Op.bytesLess x y = decide (cB x y = -1)
  | _, [] => by
    rename_i x
    cases x <;> rfl
  | [], _ :: _ => rfl
  | a :: x, b :: y => by
    have ih := bless_eq x y
    unfold Op.bytesLess
    rw [ih]
    show _ = decide ((if c8 a b = 0 then cB x y else c8 a b) = -1)
    by_cases h1 : a < b
    · have : c8 a b = -1 := by unfold c8; rw [if_pos h1]
      simp [h1, this]
    · by_cases h2 : a = b
      · subst h2
        rw [if_pos (c8_ord.refl a)]
        simp [h1]
      · have h3 : ¬ c8 a b = 0 := fun h => h2 ((c8_ord.eq a b).1 h)
        have h4 : c8 a b ≠ -1 := by
          unfold c8; rw [if_neg h1]; split <;> decide
        rw [if_neg h3]
        simp [h1, h2, h4]
end Go.Proofs.YtlpiiifmidehjaaDoorM
