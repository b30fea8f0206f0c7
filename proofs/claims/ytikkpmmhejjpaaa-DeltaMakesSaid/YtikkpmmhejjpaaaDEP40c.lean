/- Layer 40 in plain terms: a delta that is made makes the new contents of the old ones. -/
import Derived.Test.YtikkpmmhejjpaaaDEP40b
set_option linter.unusedSimpArgs false
set_option linter.unusedVariables false
namespace Go.Proofs.YtikkpmmhejjpaaaM
open Go Go.RowKit

theorem ref_step (old d : List UInt8) (hd : d.length < 1000000) (ho : old.length < 1000000) (y : Int × Int × Int) (a : Nat) (out : List UInt8) (hol : (out.length : Int) ≤ 4194304) (c0 : (a : Int) < d.length) :
    L_ref40_Apply_1 d old y ((a : Int), out) = some (if (stp old d a).2.2 ≠ 0 then .inr (.inr (stp old d a).2.2) else if (out.length : Int) + (stp old d a).1.length > y.1 then .inr (.inr 7) else .inl ((stp old d a).2.1, out ++ (stp old d a).1)) := by
  have hrn := fun z => RNext40 d (by omega : d.length < 1000000000) z
  unfold L_ref40_Apply_1 stp
  rw [if_pos (by simpa using c0)]
  simp only [hrn _ (by omega : (a : Int) < 9000000000000000000), Option.bind_some]
  rcases nxI_spec d a with ⟨b, e, g1, g2⟩ | ⟨x, b, g1, g2, g3, g4⟩
  · have he : ((e : Int) ≠ 0) := by omega
    have hb' : ((e : Int) != 0) = true := by simp; omega
    simp only [g1, hb', if_true, he, ne_eq, not_false_eq_true]
  simp only [g1, bne_self_eq_false, Bool.false_eq_true, if_false, ne_eq, not_true_eq_false, rem2, Option.bind_some]
  by_cases c1 : x = 0
  · subst c1
    rw [show ((0 : Nat) : Int) = 0 from rfl]
    simp [sumK]
  by_cases c2 : x % 2 = 0
  · have q1 : (((x % 2 : Nat) : Int) == 0) = true := by simp; omega
    have q1' : (((x % 2 : Nat) : Int) == 1) = false := by simp; omega
    have q2 : (x : Int) > 0 := by omega
    have q3 : ¬ ((x : Int) < 2 ∧ (x : Int) ≤ 0) := by omega
    have q4 : (x : Int) % 2 = 0 := by omega
    have q5 : ¬ ((x : Int) < 2) := by omega
    have q6 : (x : Int) / 2 = ((x / 2 : Nat) : Int) := by omega
    simp only [q1, q1', if_true, decide_eq_true q2, Option.bind_some, hrn _ (by omega : (b : Int) < 9000000000000000000), if_neg q3, if_pos q4]
    rcases nxI_spec d b with ⟨b', e', k1, k2⟩ | ⟨x', b', k1, k2, k3, k4⟩
    · have he : ((e' : Int) ≠ 0) := by omega
      have hb' : ((e' : Int) != 0) = true := by simp; omega
      simp only [k1, hb', if_true, Option.bind_some, sumK, he, not_false_eq_true]
    · simp only [k1, bne_self_eq_false, Bool.false_eq_true, if_false, Option.bind_some, sumK, if_neg q5, quo2 x (by omega), rem2, q1', not_true_eq_false, q6]
      exact tail40 old out x' (x / 2) b' y.1 (by omega) (by omega) (by omega)
  · have q1 : (((x % 2 : Nat) : Int) == 0) = false := by simp; omega
    have q1' : (((x % 2 : Nat) : Int) == 1) = true := by simp; omega
    have q3 : ¬ ((x : Int) < 2 ∧ (x : Int) ≤ 0) := by omega
    have q4 : ¬ (x : Int) % 2 = 0 := by omega
    have q6 : (x : Int) / 2 = ((x / 2 : Nat) : Int) := by omega
    simp only [q1, q1', if_true, Option.bind_some, if_neg q3, if_neg q4, Bool.false_eq_true, if_false, sumK]
    by_cases q5 : (x : Int) < 2
    · simp only [if_pos q5]; simp
    have w : IntKind.i64.wrap ((b : Int) + ((x / 2 : Nat) : Int)) = (b : Int) + ((x / 2 : Nat) : Int) := wrap_i64 (by omega) (by omega)
    simp only [if_neg q5, quo2 x (by omega), rem2, q1', if_true, Option.bind_some, q6, w]
    have t40 := tail40 d out b (x / 2) ((b : Int) + ((x / 2 : Nat) : Int)) y.1 (by omega) (by omega) (by omega)
    rw [w] at t40
    exact t40

/-! ### Steps, and their bytes -/
inductive Stp where
  | own (t : List UInt8)
  | copy (f n : Nat)
def Stp.enc : Stp → List UInt8
  | .own t => numB 3 (2 * t.length + 1) ++ t
  | .copy f n => numB 3 (2 * n) ++ numB 3 f
def Stp.bytes (old : List UInt8) : Stp → List UInt8
  | .own t => t
  | .copy f n => (old.drop f).take n
def Stp.ok (old : List UInt8) : Stp → Prop
  | .own t => 0 < t.length ∧ t.length < 1000000
  | .copy f n => 0 < n ∧ f + n ≤ old.length

theorem nxI_num (p q : List UInt8) (m : Nat) (hm : m < 268435456) : nxI (p ++ (numB 3 m ++ q)) p.length = ((m : Int), ((p.length + (numB 3 m).length : Nat) : Int), 0) := by
  have := nx_numB q 3 m p p.length 0 0 4 rfl (by omega) (by omega) (.inl rfl)
  unfold nxI
  rw [nextOf_nx, ← List.append_assoc, this]
  unfold c3
  simp
theorem nxI_num' {d : List UInt8} (p q : List UInt8) (m : Nat) (hm : m < 268435456) (hd : d = p ++ (numB 3 m ++ q)) {a : Int} (ha : a = p.length) : nxI d a = ((m : Int), ((p.length + (numB 3 m).length : Nat) : Int), 0) := by
  subst hd; subst ha; exact nxI_num p q m hm

theorem stp_enc (old pre rest : List UInt8) (ho : old.length < 1000000) (s : Stp) (hs : s.ok old) : stp old (pre ++ (s.enc ++ rest)) pre.length = (s.bytes old, ((pre ++ s.enc).length : Int), 0) := by
  cases s with
  | own t =>
    obtain ⟨h1, h2⟩ := hs
    have e := nxI_num' (d := pre ++ ((Stp.own t).enc ++ rest)) pre (t ++ rest) (2 * t.length + 1) (by omega) (by simp [Stp.enc]) (a := pre.length) rfl
    generalize hd : pre ++ ((Stp.own t).enc ++ rest) = d at e ⊢
    unfold stp
    rw [e]
    have q3 : ¬ (((2 * t.length + 1 : Nat) : Int) < 2 ∧ ((2 * t.length + 1 : Nat) : Int) ≤ 0) := by omega
    have q4 : ¬ ((2 * t.length + 1 : Nat) : Int) % 2 = 0 := by omega
    have q5 : ¬ ((2 * t.length + 1 : Nat) : Int) < 2 := by omega
    have q6 : ((2 * t.length + 1 : Nat) : Int) / 2 = (t.length : Int) := by omega
    have hdl : d = (pre ++ numB 3 (2 * t.length + 1)) ++ (t ++ rest) := by rw [← hd]; simp [Stp.enc]
    have hc : cutOf d ((pre.length + (numB 3 (2 * t.length + 1)).length : Nat) : Int) (t.length : Int) = (t, 0) := by
      rw [hdl, cut_is (by omega) (by omega) (by simp; omega)]
      congr 1
      have e1 : (((pre.length + (numB 3 (2 * t.length + 1)).length : Nat) : Int) + (t.length : Int)).toNat = (pre ++ numB 3 (2 * t.length + 1)).length + t.length := by rw [List.length_append]; omega
      have e2 : (((pre.length + (numB 3 (2 * t.length + 1)).length : Nat) : Int)).toNat = (pre ++ numB 3 (2 * t.length + 1)).length := by rw [List.length_append]; omega
      rw [e1, e2, List.take_length_add_append, List.drop_left, List.take_append_of_le_length (by omega), List.take_of_length_le (by omega)]
    simp only [ne_eq, not_true_eq_false, if_false, if_neg q3, if_neg q4, if_neg q5, q6, hc]
    simp only [Stp.bytes, Stp.enc, List.length_append, Prod.mk.injEq, true_and, and_true]
    omega
  | copy f n =>
    obtain ⟨h1, h2⟩ := hs
    have e := nxI_num' (d := pre ++ ((Stp.copy f n).enc ++ rest)) pre (numB 3 f ++ rest) (2 * n) (by omega) (by simp [Stp.enc]) (a := pre.length) rfl
    have e' := nxI_num' (d := pre ++ ((Stp.copy f n).enc ++ rest)) (pre ++ numB 3 (2 * n)) rest f (by omega) (by simp [Stp.enc]) (a := ((pre.length + (numB 3 (2 * n)).length : Nat) : Int)) (by rw [List.length_append])
    generalize hd : pre ++ ((Stp.copy f n).enc ++ rest) = d at e e' ⊢
    unfold stp
    rw [e]
    have q3 : ¬ (((2 * n : Nat) : Int) < 2 ∧ ((2 * n : Nat) : Int) ≤ 0) := by omega
    have q4 : ((2 * n : Nat) : Int) % 2 = 0 := by omega
    have q6 : ((2 * n : Nat) : Int) / 2 = (n : Int) := by omega
    have hc : cutOf old (f : Int) (n : Int) = ((old.drop f).take n, 0) := by
      rw [cut_is (by omega) (by omega) (by omega)]
      congr 1
      rw [show ((f : Int) + (n : Int)).toNat = f + n by omega, Int.toNat_natCast, List.drop_take, Nat.add_sub_cancel_left]
    simp only [ne_eq, not_true_eq_false, if_false, if_neg q3, if_pos q4, e', q6, hc]
    simp only [Stp.bytes, Stp.enc, List.length_append, Prod.mk.injEq, true_and, and_true]
    omega

theorem enc_pos (s : Stp) : 0 < s.enc.length := by
  have h : ∀ m, 0 < (numB 3 m).length := fun m => by
    cases hx : numB 3 m with
    | nil => unfold numB at hx; split at hx <;> cases hx
    | cons a l => simp
  cases s with
  | own t => simp only [Stp.enc, List.length_append]; have := h (2 * t.length + 1); omega
  | copy f n => simp only [Stp.enc, List.length_append]; have := h (2 * n); omega

theorem ref_runs (old d : List UInt8) (hd : d.length < 1000000) (ho : old.length < 1000000) (y : Int × Int × Int) (hy : y.1 ≤ 4194304) : ∀ (l : List Stp) (pre out : List UInt8) (n : Nat), (∀ s ∈ l, s.ok old) → d = pre ++ l.flatMap Stp.enc → ((out ++ l.flatMap (Stp.bytes old)).length : Int) ≤ y.1 → l.length < n →
    iter (L_ref40_Apply_1 d old y) n ((pre.length : Int), out) = some (.inl (out ++ l.flatMap (Stp.bytes old))) := by
  intro l
  induction l with
  | nil =>
    intro pre out n hl hdp hle hn
    obtain ⟨n, rfl⟩ : ∃ j, n = j + 1 := ⟨n - 1, by simp at hn; omega⟩
    refine iter_inr ?_
    unfold L_ref40_Apply_1
    rw [if_neg (by simp only [hdp]; simp)]
    simp
  | cons s l ih =>
    intro pre out n hl hdp hle hn
    obtain ⟨n, rfl⟩ : ∃ j, n = j + 1 := ⟨n - 1, by simp at hn; omega⟩
    have hst := stp_enc old pre (l.flatMap Stp.enc) ho s (hl s (List.mem_cons_self ..))
    have hdp' : d = pre ++ (s.enc ++ l.flatMap Stp.enc) := by rw [hdp, List.flatMap_cons]
    rw [← hdp'] at hst
    simp only [List.flatMap_cons, List.length_append] at hle
    have hlt : (pre.length : Int) < d.length := by
      have := enc_pos s
      rw [hdp']; simp only [List.length_append]; omega
    have hs := ref_step old d hd ho y pre.length out (by omega) hlt
    rw [hst] at hs
    simp only [ne_eq, not_true_eq_false, if_false] at hs
    rw [if_neg (by omega)] at hs
    rw [iter_inl hs, ih (pre ++ s.enc) (out ++ s.bytes old) n (fun x hx => hl x (List.mem_cons_of_mem _ hx)) (by rw [hdp', List.append_assoc]) (by simp only [List.length_append] at *; omega) (by simp at hn; omega)]
    simp

/-- A delta of steps is applied. -/
theorem ref_apply (old : List UInt8) (l : List Stp) (to : List UInt8) (hl : ∀ s ∈ l, s.ok old) (hb : l.flatMap (Stp.bytes old) = to) (ho : old.length < 1000) (ht : to.length < 1000) (hen : (l.flatMap Stp.enc).length < 100000) (hll : l.length < 100000) :
    F_ref40_Apply old (numB 3 old.length ++ numB 3 to.length ++ l.flatMap Stp.enc) = some (to, 0) := by
  have n1 := numB_len 3 old.length
  have n2 := numB_len 3 to.length
  generalize hd : numB 3 old.length ++ numB 3 to.length ++ l.flatMap Stp.enc = d
  have hdl : d.length < 1000000 := by rw [← hd]; simp only [List.length_append]; omega
  have e1 := nxI_num' (d := d) [] (numB 3 to.length ++ l.flatMap Stp.enc) old.length (by omega) (by rw [← hd]; simp) (a := 0) rfl
  have e2 := nxI_num' (d := d) (numB 3 old.length) (l.flatMap Stp.enc) to.length (by omega) (by rw [← hd]; simp) (a := ((([] : List UInt8).length + (numB 3 old.length).length : Nat) : Int)) (by simp)
  have hrn := fun z => RNext40 d (by omega : d.length < 1000000000) z
  unfold F_ref40_Apply
  simp only [hrn 0 (by omega), Option.bind_some, e1, bne_self_eq_false, Bool.false_eq_true, if_false]
  rw [hrn _ (by simp; omega)]
  simp only [Option.bind_some, e2, bne_self_eq_false, Bool.false_eq_true, if_false]
  rw [if_neg (by omega)]
  have hr := ref_runs old d hdl (by omega) ((to.length : Int), (((numB 3 old.length).length + (numB 3 to.length).length : Nat) : Int), 0) (by simp only; omega) l (numB 3 old.length ++ numB 3 to.length) [] NF hl (by rw [← hd]) (by rw [List.nil_append, hb]; exact Int.le_refl _) (by rw [NF_eq]; omega)
  rw [List.length_append] at hr
  rw [hr]
  simp only [Option.bind_some, sumK, List.nil_append, hb]
  rw [if_neg (by omega)]
end Go.Proofs.YtikkpmmhejjpaaaM
