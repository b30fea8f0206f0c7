/- The law DeltaNumbers, gone through by the machine: it answers true for every number, text and place. -/
import Derived.Test.YtikkpmmhejjpaaaG40
set_option linter.unusedSimpArgs false
set_option linter.unusedVariables false
namespace Go.Proofs.YtikkpmmhejjpaaaM
open Go Go.RowKit

theorem noGoroutine : Try.prog.funcs.all (fun fn => !(fn.name == "runtime.NumGoroutine")) = true := by kernel_rfl
noncomputable def G0 : Hooks := fun _ => none
noncomputable def D0 : Drawn := fun _ _ _ _ => none
theorem D0ok {B : Nat} : ∀ callF, CallOK Try.prog B callF → DrawnOK Try.prog B (D0 callF) := by
  intro callF _ id ops env h env' h' hr
  cases hr

def k64 : List AV → Option AV
  | [.int .i64 n] => if 0 ≤ n ∧ n < 268435456 then some (.str (numB 3 n.toNat)) else none
  | _ => none
theorem h64 {B : Nat} : HookOK Try.prog B 64 (PK.pure k64).run := by
  refine HookOK.apart (Γ := G0) (D := D0) HooksOK.none D0ok noGoroutine 64 k64 ?_
  intro args v hk
  unfold k64 at hk
  split at hk
  · rename_i n
    split at hk
    · rename_i hn
      cases hk
      obtain ⟨m, rfl⟩ := Int.eq_ofNat_of_zero_le hn.1
      obtain ⟨v, h', hc, rfl⟩ := (num_run (Γ := G0) (D := D0) rfl 10 (by omega) m (by omega) ⟨0, []⟩).out
      exact ⟨rfl, rfl, 11, h', hc⟩
    · cases hk
  · cases hk

noncomputable def T4 : PTab := fun f => if f = 64 then some (.pure k64) else none
theorem T4ok {B : Nat} : PTabOK Try.prog B T4 := by
  intro f p hp
  unfold T4 at hp
  split at hp
  · rename_i e; subst e; cases hp; exact h64
  · cases hp
noncomputable def D4 : Drawn := drawnOf Try.prog T4
theorem D4ok {B : Nat} : ∀ callF, CallOK Try.prog B callF → DrawnOK Try.prog B (D4 callF) := drawnOf_ok (by kernel_rfl) T4ok
noncomputable def G77 : Hooks := G0.add 77 handsBack
theorem G77ok {B : Nat} : HooksOK Try.prog B G77 := HooksOK.none.add (HookOK.noEscape Try.func77 (by kernel_rfl) (by kernel_rfl) (by kernel_rfl) rfl)

theorem awake_run : (acall Try.prog G77 D4 200 37 [] ⟨0, []⟩).map (·.1) = some (.bool true) := by kernel_rfl
theorem ex_of {α β : Type} {x : Option (α × β)} {v : α} (h : x.map (·.1) = some v) : ∃ b, x = some (v, b) := by
  cases x with
  | none => cases h
  | some p => cases p; cases h; exact ⟨_, rfl⟩
def k37 : List AV → Option AV
  | [] => some (.bool true)
  | _ => none
theorem h37 {B : Nat} : HookOK Try.prog B 37 (fun args h => (k37 args).map fun v => (v, h)) := by
  refine HookOK.apart (Γ := G77) (D := D4) G77ok D4ok noGoroutine 37 k37 ?_
  intro args v hk
  unfold k37 at hk
  split at hk <;> cases hk
  exact ⟨rfl, rfl, 200, ex_of awake_run⟩
noncomputable def GL : Hooks := G77.add 37 (fun args h => (k37 args).map fun v => (v, h))
theorem GLok {B : Nat} : HooksOK Try.prog B GL := G77ok.add h37
theorem c37 (n : Nat) (h : AH) : acall Try.prog GL D4 n 37 [] h = some (.bool true, h) := acall_hook (g := fun args h => (k37 args).map fun v => (v, h)) rfl _ _ _

theorem getD_mid (p q : List UInt8) (b : UInt8) : (p ++ b :: q).getD p.length 0 = b := by simp [List.getD]

theorem nx_numB (q : List UInt8) : ∀ (f m : Nat) (p : List UInt8) (a k x r : Nat), p.length = a + k → f < r → m < 128 ^ (f + 1) → (k = 0 ∨ 0 < m) →
    nx (p ++ numB f m ++ q) a r k x = (x + m * 128 ^ k, a + k + (numB f m).length, 0) := by
  have small : ∀ (f m : Nat) (p : List UInt8) (a k x r : Nat), p.length = a + k → 0 < r → m < 128 → (k = 0 ∨ 0 < m) → nx (p ++ numB f m ++ q) a r k x = (x + m * 128 ^ k, a + k + (numB f m).length, 0) := by
    intro f m p a k x r hp hr hm hk
    obtain ⟨r, rfl⟩ : ∃ j, r = j + 1 := ⟨r - 1, by omega⟩
    have e := getD_mid p q (UInt8.ofNat m)
    rw [numB_small f m hm, List.append_assoc, List.singleton_append]
    simp only [nx]
    rw [← hp, e]
    have e2 : (UInt8.ofNat m).toNat = m := by simp only [UInt8.toNat_ofNat']; omega
    rw [e2, if_neg (by simp), if_pos hm, if_neg (by omega), Nat.mod_eq_of_lt hm]
    simp
  intro f
  induction f with
  | zero => intro m p a k x r hp hr hm hk; exact small 0 m p a k x r hp hr (by simpa using hm) hk
  | succ f ih =>
    intro m p a k x r hp hr hm hk
    by_cases hs : m < 128
    · exact small (f + 1) m p a k x r hp (by omega) hs hk
    · obtain ⟨r, rfl⟩ : ∃ j, r = j + 1 := ⟨r - 1, by omega⟩
      have hnum : numB (f + 1) m = UInt8.ofNat (m % 128 + 128) :: numB f (m / 128) := by simp only [numB, if_neg hs]
      have e := getD_mid p (numB f (m / 128) ++ q) (UInt8.ofNat (m % 128 + 128))
      have e2 : (UInt8.ofNat (m % 128 + 128)).toNat = m % 128 + 128 := by simp only [UInt8.toNat_ofNat']; omega
      have ih' := ih (m / 128) (p ++ [UInt8.ofNat (m % 128 + 128)]) a (k + 1) (x + m % 128 * 128 ^ k) r (by simp; omega) (by omega) (by rw [Nat.pow_succ] at hm; omega) (.inr (by omega))
      have el : p ++ [UInt8.ofNat (m % 128 + 128)] ++ numB f (m / 128) ++ q = p ++ numB (f + 1) m ++ q := by rw [hnum]; simp
      rw [el] at ih'
      have eg : (p ++ numB (f + 1) m ++ q).getD (a + k) 0 = UInt8.ofNat (m % 128 + 128) := by
        rw [← hp, hnum, List.append_assoc, List.cons_append]; exact e
      have hlen : ¬ (p ++ numB (f + 1) m ++ q).length ≤ a + k := by rw [hnum]; simp; omega
      rw [nx, if_neg hlen, eg, e2, if_neg (by omega), show (m % 128 + 128) % 128 = m % 128 by omega, ih', hnum]
      simp only [List.length_cons, Prod.mk.injEq, and_true]
      refine ⟨?_, by omega⟩
      rw [Nat.pow_succ, Nat.add_assoc]
      congr 1
      have := Nat.div_add_mod m 128
      calc m % 128 * 128 ^ k + m / 128 * (128 ^ k * 128) = (m / 128 * 128 + m % 128) * 128 ^ k := by
            rw [Nat.add_mul, Nat.add_comm]
            congr 1
            rw [Nat.mul_comm (128 ^ k) 128, Nat.mul_assoc]
        _ = m * 128 ^ k := by rw [Nat.mul_comm (m / 128) 128, this]

theorem back (m : Nat) (hm : m < 268435456) (s : List UInt8) : nextOf ([63] ++ numB 3 m ++ s) 1 = (m, 1 + (numB 3 m).length, 0) := by
  have := nextOf_nx ([63] ++ numB 3 m ++ s) 1
  rw [show ((1 : Nat) : Int) = 1 from rfl] at this
  rw [this, nx_numB s 3 m [63] 1 0 0 4 rfl (by omega) (by omega) (.inl rfl)]
  simp
end Go.Proofs.YtikkpmmhejjpaaaM
