/- Layer 40 in plain terms: deltas are applied as the document says. -/
import Derived.Test.YtikkpmmhejjpaaaDEP40
import Derived.KernelRfl
set_option linter.unusedSimpArgs false
set_option linter.unusedVariables false
namespace Go.Proofs.YtikkpmmhejjpaaaM
open Go Go.RowKit

/-- A step at a place: the bytes, the place behind, the error. -/
def stp (old d : List UInt8) (a : Int) : List UInt8 × Int × Int :=
  if (nxI d a).2.2 ≠ 0 then ([], 0, (nxI d a).2.2) else
  if (nxI d a).1 < 2 ∧ (nxI d a).1 ≤ 0 then ([], 0, 2) else
  if (nxI d a).1 % 2 = 0 then
    (if (nxI d (nxI d a).2.1).2.2 ≠ 0 then ([], 0, (nxI d (nxI d a).2.1).2.2) else
     ((cutOf old (nxI d (nxI d a).2.1).1 ((nxI d a).1 / 2)).1, (nxI d (nxI d a).2.1).2.1, (cutOf old (nxI d (nxI d a).2.1).1 ((nxI d a).1 / 2)).2))
  else if (nxI d a).1 < 2 then ([], 0, 2)
  else ((cutOf d (nxI d a).2.1 ((nxI d a).1 / 2)).1, (nxI d a).2.1 + (nxI d a).1 / 2, (cutOf d (nxI d a).2.1 ((nxI d a).1 / 2)).2)

theorem rnext_eq (d : List UInt8) (hd : d.length < 1000000000) (a : Int) : F_delta_reader_next ⟨d, a, 0⟩ = some (⟨d, if (nxI d a).2.2 = 0 then (nxI d a).2.1 else a, (nxI d a).2.2⟩, (nxI d a).1) := by
  unfold F_delta_reader_next
  simp only [bne_self_eq_false, Bool.false_eq_true, if_false, Next40 d hd, Option.bind_some]
  by_cases c : (nxI d a).2.2 = 0
  · simp [c]
  · simp [c]
theorem rnext_bad (d : List UInt8) (a e : Int) (he : e ≠ 0) : F_delta_reader_next ⟨d, a, e⟩ = some (⟨d, a, e⟩, 0) := by
  unfold F_delta_reader_next
  simp [he]
theorem rem2 (n : Nat) : remI (n : Int) 2 = some ((n % 2 : Nat) : Int) := by unfold remI; rw [if_neg (by omega)]; rfl
theorem quo2 (n : Nat) (h : n < 1000000000) : quoI .i64 (n : Int) 2 = some ((n / 2 : Nat) : Int) := by
  unfold quoI
  rw [if_neg (by omega), show (n : Int).tdiv 2 = ((n / 2 : Nat) : Int) from rfl, wrap_i64 (by omega) (by omega)]

/-- What a step of the reader does. -/
theorem step_eq (old d : List UInt8) (hd : d.length < 1000000000) (ho : old.length < 1000000000) (a : Nat) :
    ∃ r, F_delta_reader_step ⟨d, a, 0⟩ old = some (r, (stp old d a).1, (stp old d a).2.2) ∧ ((stp old d a).2.2 = 0 → r = ⟨d, (stp old d a).2.1, 0⟩) := by
  unfold F_delta_reader_step stp
  rw [rnext_eq d hd]
  rcases nxI_spec d a with ⟨b, e, h1, h2⟩ | ⟨n, b, h1, h2, h3, h4⟩
  · have he : ((e : Int) ≠ 0) := by omega
    have hb : ((e : Int) != 0) = true := by simp; omega
    simp only [h1, he, ne_eq, not_false_eq_true, if_true, if_false, Option.bind_some, Int.lt_irrefl, gt_iff_lt, Bool.false_eq_true, hb]
    exact ⟨_, rfl, fun hh => by first | exact hh.elim | exact absurd hh he⟩
  · simp only [h1, if_true, Option.bind_some, ne_eq, not_true_eq_false, if_false, rem2]
    by_cases c1 : n = 0
    · subst c1
      rw [show ((0 : Nat) : Int) = 0 from rfl]
      simp only [gt_iff_lt, Int.lt_irrefl, if_false, Option.bind_some, Bool.false_eq_true, bne_self_eq_false]
      refine ⟨_, rfl, fun hh => by simp at hh⟩
    by_cases c2 : n % 2 = 0
    · have c3 : ((n : Int) > 0) := by omega
      have c4 : ((n % 2 : Nat) : Int) = 0 := by omega
      have c5 : ((n : Int) % 2 = 0) := by omega
      have c6 : ¬ ((n : Int) < 2 ∧ (n : Int) ≤ 0) := by omega
      have c7 : ¬ ((n : Int) < 2) := by omega
      have c8 : (n : Int) / 2 = ((n / 2 : Nat) : Int) := by omega
      simp only [if_pos c3, c4, Option.bind_some, beq_self_eq_true, if_true, rnext_eq d hd, if_neg c6, if_pos c5]
      rcases nxI_spec d b with ⟨b', e', g1, g2⟩ | ⟨n', b', g1, g2, g3, g4⟩
      · have he : ((e' : Int) ≠ 0) := by omega
        have hb : ((e' : Int) != 0) = true := by simp; omega
        simp only [g1, he, hb, ne_eq, not_false_eq_true, if_true, if_false]
        exact ⟨_, rfl, fun hh => by first | exact hh.elim | exact absurd hh he⟩
      · simp only [g1, if_true, bne_self_eq_false, Bool.false_eq_true, if_false, ne_eq, not_true_eq_false, if_neg c7, quo2 n (by omega), Cut_eq old _ _ ho, Option.bind_some, c8]
        exact ⟨_, rfl, fun _ => rfl⟩
    · have c3 : ((n : Int) > 0) := by omega
      have c4 : (((n % 2 : Nat) : Int) == 0) = false := by simp; omega
      have c5 : ¬ ((n : Int) % 2 = 0) := by omega
      have c6 : ¬ ((n : Int) < 2 ∧ (n : Int) ≤ 0) := by omega
      simp only [if_pos c3, c4, Option.bind_some, Bool.false_eq_true, if_false, bne_self_eq_false, if_neg c6, if_neg c5]
      by_cases c7 : (n : Int) < 2
      · simp only [if_pos c7]
        exact ⟨_, rfl, fun hh => by simp at hh⟩
      · have c8 : (n : Int) / 2 = ((n / 2 : Nat) : Int) := by omega
        have w : IntKind.i64.wrap ((b : Int) + ((n / 2 : Nat) : Int)) = (b : Int) + ((n / 2 : Nat) : Int) := wrap_i64 (by omega) (by omega)
        simp only [if_neg c7, quo2 n (by omega), Cut_eq d _ _ hd, Option.bind_some, c8, w]
        exact ⟨_, rfl, fun _ => rfl⟩

/-- A step that doesn't fail: it goes on, and hands back a part. -/
theorem stp_ok (old d : List UInt8) (a : Nat) (h : (stp old d a).2.2 = 0) : ∃ b : Nat, (stp old d a).2.1 = (b : Int) ∧ a < b ∧ b ≤ d.length := by
  unfold stp at h ⊢
  rcases nxI_spec d a with ⟨b, e, h1, h2⟩ | ⟨n, b, h1, h2, h3, h4⟩
  · have he : ((e : Int) ≠ 0) := by omega
    simp only [h1, he, ne_eq, not_false_eq_true, if_true] at h
  · simp only [h1, ne_eq, not_true_eq_false, if_false] at h ⊢
    by_cases c6 : (n : Int) < 2 ∧ (n : Int) ≤ 0
    · rw [if_pos c6] at h; simp at h
    rw [if_neg c6] at h ⊢
    by_cases c5 : (n : Int) % 2 = 0
    · rw [if_pos c5] at h ⊢
      rcases nxI_spec d b with ⟨b', e', g1, g2⟩ | ⟨n', b', g1, g2, g3, g4⟩
      · have he : ((e' : Int) ≠ 0) := by omega
        simp only [g1, he, not_false_eq_true, if_true] at h
      · simp only [g1, not_true_eq_false, if_false] at h ⊢
        exact ⟨b', rfl, by omega, g4⟩
    · rw [if_neg c5] at h ⊢
      by_cases c7 : (n : Int) < 2
      · rw [if_pos c7] at h; simp at h
      rw [if_neg c7] at h ⊢
      have := cut_ok h
      exact ⟨b + n / 2, by simp only; omega, by omega, by omega⟩

/-! ### The loops -/
theorem app_one (a b : List UInt8) (h : a.length + b.length ≤ 100000000) : app a b = some (a ++ b) := by unfold app; rw [if_pos (by unfold capL; omega)]

theorem tail40 (s out : List UInt8) (f k : Nat) (z : Int) (lim : Int) (hf : f < 1000000000) (hk : k < 1000000000) (hs : s.length + out.length < 10000000) :
    ((if (f : Int) > (s.length : Int) then some true else some (decide ((k : Int) > IntKind.i64.wrap ((s.length : Int) - (f : Int)))) : Option Bool).bind fun j =>
      if j = true then some (.inr (.inr 3)) else if IntKind.i64.wrap ((out.length : Int) + (k : Int)) > lim then some (.inr (.inr 7)) else
        (subS s (f : Int) (IntKind.i64.wrap ((f : Int) + (k : Int)))).bind fun x => (cat out x).bind fun y => some (.inl (z, y))) =
    some (if (cutOf s (f : Int) (k : Int)).2 ≠ 0 then (.inr (.inr (cutOf s (f : Int) (k : Int)).2) : (Int × List UInt8) ⊕ (List UInt8 ⊕ Int)) else if (out.length : Int) + (cutOf s (f : Int) (k : Int)).1.length > lim then .inr (.inr 7) else .inl (z, out ++ (cutOf s (f : Int) (k : Int)).1)) := by
  by_cases c1 : (f : Int) > s.length
  · have : cutOf s (f : Int) (k : Int) = ([], 3) := by unfold cutOf; rw [if_pos (by omega)]
    simp [c1, this]
  have w1 : IntKind.i64.wrap ((s.length : Int) - (f : Int)) = (s.length : Int) - f := wrap_i64 (by omega) (by omega)
  by_cases c2 : (k : Int) > (s.length : Int) - f
  · have : cutOf s (f : Int) (k : Int) = ([], 3) := by unfold cutOf; rw [if_pos (by omega)]
    simp [c1, c2, w1, this]
  have hc := cut_is (s := s) (a := (f : Int)) (m := (k : Int)) (by omega) (by omega) (by omega)
  have hl : (cutOf s (f : Int) (k : Int)).1.length = k := by rw [hc]; simp; omega
  have w2 : IntKind.i64.wrap ((f : Int) + (k : Int)) = (f : Int) + k := wrap_i64 (by omega) (by omega)
  have w3 : IntKind.i64.wrap ((out.length : Int) + (k : Int)) = (out.length : Int) + k := wrap_i64 (by omega) (by omega)
  have hs : subS s (f : Int) ((f : Int) + (k : Int)) = some (cutOf s (f : Int) (k : Int)).1 := by unfold subS; rw [if_pos (by omega), hc]
  simp only [if_neg c1, w1, decide_eq_false c2, Option.bind_some, Bool.false_eq_true, if_false, w2, w3, hs, hl]
  rw [cat_eq _ _ (by rw [hl]; omega)]
  have : (cutOf s (f : Int) (k : Int)).2 = 0 := by rw [hc]
  simp only [this, ne_eq, not_true_eq_false, if_false, Option.bind_some]
  split <;> rfl

theorem stp_len (old d : List UInt8) (a : Int) (hd : d.length < 1000000) (ho : old.length < 1000000) : ((stp old d a).1.length : Int) ≤ 1000000 := by
  have hcut : ∀ s : List UInt8, s.length < 1000000 → ∀ f k, ((cutOf s f k).1.length : Int) ≤ 1000000 := fun s hs f k => by
    unfold cutOf
    split
    · simp
    · simp; omega
  unfold stp
  repeat' split
  all_goals first | (simp; done) | exact hcut _ hd _ _ | exact hcut _ ho _ _

theorem L_apply (old d : List UInt8) (hd : d.length < 1000000) (ho : old.length < 1000000) (q : Gdelta_reader × Int) (y : Int × Int × Int) (hq : q.2 = y.1) (hb : y.1 ≤ 4194304) :
    ∀ (m a n : Nat) (out : List UInt8), d.length - a < m → m ≤ n → a ≤ d.length → ((out.length : Int) ≤ y.1 ∨ out = []) →
      ∃ r, iter (L_delta_Apply_1 d old q) n (d, (a : Int), 0, out) = some r ∧ iter (L_ref40_Apply_1 d old y) n ((a : Int), out) = some r ∧ (∀ o, r = .inl o → (o.length : Int) ≤ y.1 ∨ o = []) := by
  intro m
  induction m with
  | zero => intro a n out h; omega
  | succ m ih =>
    intro a n out h1 h2 h3 h4
    obtain ⟨n, rfl⟩ : ∃ j, n = j + 1 := ⟨n - 1, by omega⟩
    by_cases c0 : (a : Int) < d.length
    rotate_left
    · refine ⟨.inl out, iter_inr ?_, iter_inr ?_, fun o ho => by cases ho; exact h4⟩
      · unfold L_delta_Apply_1; rw [if_neg (by simpa using c0)]
      · unfold L_ref40_Apply_1; rw [if_neg (by simpa using c0)]
    have hol : (out.length : Int) ≤ 4194304 := by
      rcases h4 with h4 | h4
      · omega
      · subst h4; simp
    obtain ⟨r, e1, e2⟩ := step_eq old d (by omega) (by omega) a
    have hrn := fun z => RNext40 d (by omega : d.length < 1000000000) z
    -- the document's round
    have key : L_ref40_Apply_1 d old y ((a : Int), out) = some (if (stp old d a).2.2 ≠ 0 then .inr (.inr (stp old d a).2.2) else if (out.length : Int) + (stp old d a).1.length > y.1 then .inr (.inr 7) else .inl ((stp old d a).2.1, out ++ (stp old d a).1)) := by
      unfold L_ref40_Apply_1 stp
      rw [if_pos (by simpa using c0)]
      simp only [hrn _ (by omega : (a : Int) < 9000000000000000000), Option.bind_some]
      rcases nxI_spec d a with ⟨b, e, g1, g2⟩ | ⟨x, b, g1, g2, g3, g4⟩
      · have he : ((e : Int) ≠ 0) := by omega
        have hb' : ((e : Int) != 0) = true := by simp; omega
        simp only [g1, hb', if_true, he, ne_eq, not_false_eq_true]
      simp only [g1, bne_self_eq_false, Bool.false_eq_true, if_false, ne_eq, not_true_eq_false, rem2, Option.bind_some]
      by_cases c1 : x = 0
      · subst c1
        rw [show ((0 : Nat) : Int) = 0 from rfl]
        simp [sumK]
      by_cases c2 : x % 2 = 0
      · have q1 : (((x % 2 : Nat) : Int) == 0) = true := by simp; omega
        have q1' : (((x % 2 : Nat) : Int) == 1) = false := by simp; omega
        have q2 : (x : Int) > 0 := by omega
        have q3 : ¬ ((x : Int) < 2 ∧ (x : Int) ≤ 0) := by omega
        have q4 : (x : Int) % 2 = 0 := by omega
        have q5 : ¬ ((x : Int) < 2) := by omega
        have q6 : (x : Int) / 2 = ((x / 2 : Nat) : Int) := by omega
        simp only [q1, q1', if_true, decide_eq_true q2, Option.bind_some, hrn _ (by omega : (b : Int) < 9000000000000000000), if_neg q3, if_pos q4]
        rcases nxI_spec d b with ⟨b', e', k1, k2⟩ | ⟨x', b', k1, k2, k3, k4⟩
        · have he : ((e' : Int) ≠ 0) := by omega
          have hb' : ((e' : Int) != 0) = true := by simp; omega
          simp only [k1, hb', if_true, Option.bind_some, sumK, he, not_false_eq_true]
        · simp only [k1, bne_self_eq_false, Bool.false_eq_true, if_false, Option.bind_some, sumK, if_neg q5, quo2 x (by omega), rem2, q1', not_true_eq_false, q6]
          exact tail40 old out x' (x / 2) b' y.1 (by omega) (by omega) (by omega)
      · have q1 : (((x % 2 : Nat) : Int) == 0) = false := by simp; omega
        have q1' : (((x % 2 : Nat) : Int) == 1) = true := by simp; omega
        have q3 : ¬ ((x : Int) < 2 ∧ (x : Int) ≤ 0) := by omega
        have q4 : ¬ (x : Int) % 2 = 0 := by omega
        have q6 : (x : Int) / 2 = ((x / 2 : Nat) : Int) := by omega
        simp only [q1, q1', if_true, Option.bind_some, if_neg q3, if_neg q4, Bool.false_eq_true, if_false, sumK]
        by_cases q5 : (x : Int) < 2
        · simp only [if_pos q5]; simp
        have w : IntKind.i64.wrap ((b : Int) + ((x / 2 : Nat) : Int)) = (b : Int) + ((x / 2 : Nat) : Int) := wrap_i64 (by omega) (by omega)
        simp only [if_neg q5, quo2 x (by omega), rem2, q1', if_true, Option.bind_some, q6, w]
        have t40 := tail40 d out b (x / 2) ((b : Int) + ((x / 2 : Nat) : Int)) y.1 (by omega) (by omega) (by omega)
        rw [w] at t40
        exact t40
    have key1 : L_delta_Apply_1 d old q (d, (a : Int), 0, out) = some (if (stp old d a).2.2 ≠ 0 then .inr (.inr (stp old d a).2.2) else if (out.length : Int) + (stp old d a).1.length > y.1 then .inr (.inr 7) else .inl (d, (stp old d a).2.1, 0, out ++ (stp old d a).1)) := by
      unfold L_delta_Apply_1
      rw [if_pos (by simpa using c0)]
      simp only [e1, Option.bind_some]
      by_cases ce : (stp old d a).2.2 = 0
      · have hs := stp_len old d a (by omega) (by omega)
        rw [e2 ce, ce, hq]
        have w : IntKind.i64.wrap ((out.length : Int) + ((stp old d a).1.length : Int)) = (out.length : Int) + (stp old d a).1.length := wrap_i64 (by omega) (by omega)
        simp only [bne_self_eq_false, Bool.false_eq_true, if_false, ne_eq, not_true_eq_false, w]
        split
        · rfl
        · rw [app_one _ _ (by omega)]; rfl
      · have hb' : ((stp old d a).2.2 != 0) = true := by simp [ce]
        simp only [hb', if_true, ne_eq, ce, not_false_eq_true]
    by_cases ce : (stp old d a).2.2 = 0
    · obtain ⟨b, f1, f2, f3⟩ := stp_ok old d a ce
      by_cases cl : (out.length : Int) + (stp old d a).1.length > y.1
      · rw [if_neg (by simp [ce]), if_pos cl] at key key1
        exact ⟨_, iter_inr key1, iter_inr key, fun o ho => by cases ho⟩
      · rw [if_neg (by simp [ce]), if_neg cl, f1] at key key1
        obtain ⟨r', r1, r2, r3⟩ := ih b n (out ++ (stp old d a).1) (by omega) (by omega) f3 (.inl (by rw [List.length_append]; omega))
        exact ⟨r', by rw [iter_inl key1]; exact r1, by rw [iter_inl key]; exact r2, r3⟩
    · rw [if_pos ce] at key key1
      exact ⟨_, iter_inr key1, iter_inr key, fun o ho => by cases ho⟩

theorem Apply40 (old d : List UInt8) (hd : d.length < 1000000) (ho : old.length < 1000000) : ∃ r, F_delta_Apply old d = some r ∧ F_ref40_Apply old d = some r := by
  unfold F_delta_Apply F_ref40_Apply
  have hrn := fun z => RNext40 d (by omega : d.length < 1000000000) z
  rw [rnext_eq d (by omega)]
  rcases nxI_spec d 0 with ⟨b, e, g1, g2⟩ | ⟨x, b, g1, g2, g3, g4⟩
  · rw [show ((0 : Nat) : Int) = 0 from rfl] at g1
    have he : ((e : Int) ≠ 0) := by omega
    have hb' : ((e : Int) != 0) = true := by simp; omega
    simp only [g1, hrn 0 (by omega), Option.bind_some, he, if_false, hb', if_true, rnext_bad d 0 e he]
    exact ⟨_, rfl, rfl⟩
  rw [show ((0 : Nat) : Int) = 0 from rfl] at g1
  simp only [g1, hrn 0 (by omega), Option.bind_some, if_true, rnext_eq d (by omega : d.length < 1000000000), bne_self_eq_false, Bool.false_eq_true, if_false, hrn b (by omega)]
  rcases nxI_spec d b with ⟨b', e', k1, k2⟩ | ⟨x', b', k1, k2, k3, k4⟩
  · have he : ((e' : Int) ≠ 0) := by omega
    have hb' : ((e' : Int) != 0) = true := by simp; omega
    simp only [k1, hb', if_true]
    exact ⟨_, rfl, rfl⟩
  simp only [k1, if_true, bne_self_eq_false, Bool.false_eq_true, if_false]
  split
  · exact ⟨_, rfl, rfl⟩
  split
  · exact ⟨_, rfl, rfl⟩
  rename_i hx
  obtain ⟨r, r1, r2, r3⟩ := L_apply old d hd ho (⟨d, (b' : Int), 0⟩, (x' : Int)) ((x' : Int), (b' : Int), 0) rfl (by simp only; omega) (d.length + 1) b' NF [] (by omega) (by rw [NF_eq]; omega) k4 (.inr rfl)
  simp only [r1, r2, Option.bind_some]
  cases r with
  | inr e => exact ⟨_, rfl, rfl⟩
  | inl o =>
    simp only [sumK]
    have := r3 o rfl
    have hl : o.length ≤ 100000000 := by
      rcases this with h | h
      · simp only at h; omega
      · subst h; simp
    have ck : chkCap o = some () := by unfold chkCap; rw [if_pos (by unfold capL; omega)]
    split
    · exact ⟨_, rfl, rfl⟩
    · rw [ck]; exact ⟨_, rfl, rfl⟩

theorem awake40 : F_law40_awake = some true := by kernel_rfl
theorem true_law40_DeltaApplies (old d : List UInt8) : F_law40_DeltaApplies old d = some true := by
  unfold F_law40_DeltaApplies
  rw [awake40]
  simp only [Option.bind_some, Bool.not_true, Bool.false_eq_true, if_false]
  by_cases c1 : (old.length : Int) > 100
  · simp [c1]
  by_cases c2 : (d.length : Int) > 100
  · simp [c1, c2]
  obtain ⟨r, e1, e2⟩ := Apply40 old d (by omega) (by omega)
  simp only [if_neg c1, decide_eq_false c2, Option.bind_some, Bool.false_eq_true, if_false, e1, e2, beq_self_eq_true, if_true]
end Go.Proofs.YtikkpmmhejjpaaaM
