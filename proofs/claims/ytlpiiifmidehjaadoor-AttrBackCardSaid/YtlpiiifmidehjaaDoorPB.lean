/- Loops in plain terms. -/
import Derived.Test.YtlpiiifmidehjaaDoorS4
set_option linter.unusedSimpArgs false
set_option linter.unusedVariables false
namespace Go.Proofs.YtlpiiifmidehjaaDoorM
open Go Go.RowKit

theorem NF_eq : NF = 1000000 := rfl
theorem iter_inl {σ ρ : Type} {step : σ → Option (σ ⊕ ρ)} {n : Nat} {s s' : σ} (h : step s = some (.inl s')) : iter step (n + 1) s = iter step n s' := by rw [iter, h]
theorem iter_inr {σ ρ : Type} {step : σ → Option (σ ⊕ ρ)} {n : Nat} {s : σ} {r : ρ} (h : step s = some (.inr r)) : iter step (n + 1) s = some r := by rw [iter, h]
/-- A loop, by what holds ahead of each round. -/
theorem iter_inv {σ ρ : Type} {step : σ → Option (σ ⊕ ρ)} (I : σ → Prop) (m : σ → Nat) (Q : ρ → Prop)
    (hs : ∀ s, I s → (∃ s', step s = some (.inl s') ∧ I s' ∧ m s' < m s) ∨ ∃ r, step s = some (.inr r) ∧ Q r) : ∀ (n : Nat) (s : σ), I s → m s < n → ∃ r, iter step n s = some r ∧ Q r := by
  intro n
  induction n with
  | zero => intro s _ h; omega
  | succ n ih =>
    intro s hi hm
    rcases hs s hi with ⟨s', h1, h2, h3⟩ | ⟨r, h1, h2⟩
    · rw [iter_inl h1]; exact ih s' h2 (by omega)
    · rw [iter_inr h1]; exact ⟨r, rfl, h2⟩

theorem some_ite {α : Type} {c : Prop} [Decidable c] {x y : Option α} (hx : ∃ a, x = some a) (hy : ∃ a, y = some a) : ∃ a, (if c then x else y) = some a := by
  split
  · exact hx
  · exact hy
theorem some_bind {α β : Type} {x : Option α} {f : α → Option β} (hx : ∃ a, x = some a) (hf : ∀ a, ∃ b, f a = some b) : ∃ b, x.bind f = some b := by
  obtain ⟨a, rfl⟩ := hx
  exact hf a
theorem some_sumK {α β γ : Type} {x : α ⊕ β} {f : α → Option γ} {g : β → Option γ} (hf : ∀ a, ∃ b, f a = some b) (hg : ∀ a, ∃ b, g a = some b) : ∃ b, sumK x f g = some b := by
  cases x with
  | inl a => exact hf a
  | inr b => exact hg b

theorem cat_eq (a b : List UInt8) (h : a.length + b.length ≤ 100000000) : cat a b = some (a ++ b) := by
  unfold cat; rw [if_pos (by unfold sizeCap; omega)]
/-- A loop that counts, by its states. -/
theorem iter_nat {σ ρ : Type} {step : σ → Option (σ ⊕ ρ)} (st : Nat → σ) {r : ρ} (N : Nat) (hend : step (st N) = some (.inr r)) : ∀ (d i n : Nat), i + d = N → (∀ j, i ≤ j → j < N → step (st j) = some (.inl (st (j + 1)))) → d < n → iter step n (st i) = some r := by
  intro d
  induction d with
  | zero =>
    intro i n hi hs hn
    obtain ⟨n, rfl⟩ : ∃ j, n = j + 1 := ⟨n - 1, by omega⟩
    obtain rfl : i = N := by omega
    exact iter_inr hend
  | succ d ih =>
    intro i n hi hs hn
    obtain ⟨n, rfl⟩ : ∃ j, n = j + 1 := ⟨n - 1, by omega⟩
    rw [iter_inl (hs i (Nat.le_refl _) (by omega))]
    exact ih (i + 1) n (by omega) (fun j h1 h2 => hs j (by omega) h2) (by omega)
/-- A loop over a list that gathers, by what it has gathered of each beginning. -/
theorem iter_pre {α σ ρ : Type} (l : List α) (G : List α → σ) {step : σ × Int → Option ((σ × Int) ⊕ ρ)} {r : ρ} (hl : l.length ≤ 900000)
    (hs : ∀ i (hi : i < l.length), step (G (l.take i), (i : Int)) = some (.inl (G (l.take i ++ [l[i]]), ((i + 1 : Nat) : Int)))) (he : step (G l, (l.length : Int)) = some (.inr r)) : iter step NF (G [], 0) = some r := by
  have := iter_nat (step := step) (fun i => (G (l.take i), (i : Int))) (r := r) l.length (by simpa using he) l.length 0 NF (by omega) (fun i _ hi => by
    rw [hs i hi, List.take_add_one, List.getElem?_eq_getElem hi]; rfl) (by rw [NF_eq]; omega)
  simpa using this
/-- A loop over a list that ends early where one is bad. -/
theorem iter_any {α : Type} (l : List α) (bad : α → Bool) {step : Int → Option (Int ⊕ (Unit ⊕ Unit))} (hl : l.length ≤ 900000)
    (hs : ∀ i (hi : i < l.length), step (i : Int) = some (if bad l[i] = true then .inr (.inr ()) else .inl ((i + 1 : Nat) : Int))) (he : step (l.length : Int) = some (.inr (.inl ()))) : iter step NF 0 = some (if l.any bad = true then .inr () else .inl ()) := by
  have key : ∀ (d i n : Nat), i + d = l.length → d < n → iter step n (i : Int) = some (if (l.drop i).any bad = true then .inr () else .inl ()) := by
    intro d
    induction d with
    | zero =>
      intro i n hi hn
      obtain ⟨n, rfl⟩ : ∃ j, n = j + 1 := ⟨n - 1, by omega⟩
      obtain rfl : i = l.length := by omega
      rw [List.drop_length]
      exact iter_inr he
    | succ d ih =>
      intro i n hi hn
      obtain ⟨n, rfl⟩ : ∃ j, n = j + 1 := ⟨n - 1, by omega⟩
      have hlt : i < l.length := by omega
      have h1 := hs i hlt
      rw [List.drop_eq_getElem_cons hlt, List.any_cons]
      by_cases hb : bad l[i] = true
      · rw [if_pos hb] at h1
        rw [iter_inr h1, hb]; rfl
      · rw [if_neg hb] at h1
        rw [iter_inl h1, ih (i + 1) n (by omega) (by omega)]
        simp only [show bad l[i] = false by simpa using hb, Bool.false_or]
  have := key l.length 0 NF (by omega) (by rw [NF_eq]; omega)
  simpa using this
theorem idx_of {α : Type} (l : List α) (i : Nat) (hi : i < l.length) : idxL l (i : Int) = some l[i] := by
  unfold idxL; rw [if_pos (by omega), Int.toNat_natCast, List.getElem?_eq_getElem hi]
theorem app_of {α : Type} (a b : List α) (h : a.length + b.length ≤ 100000000) : app a b = some (a ++ b) := by
  unfold app; rw [if_pos (by unfold capL; omega)]
theorem NF_add1 : NF = 999999 + 1 := by rw [NF_eq]
end Go.Proofs.YtlpiiifmidehjaaDoorM
