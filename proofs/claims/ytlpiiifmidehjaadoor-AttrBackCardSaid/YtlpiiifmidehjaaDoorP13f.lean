/- Which paths may be. -/
import Derived.Test.YtlpiiifmidehjaaDoorP13e
set_option linter.unusedSimpArgs false
set_option linter.unusedVariables false
namespace Go.Proofs.YtlpiiifmidehjaaDoorM
open Go Go.RowKit

theorem sub0 {s : Txt} {k : Nat} (h : k ≤ s.length) : subS s (k : Int) (s.length : Int) = some (s.drop k) := by
  rw [subS_nat h (Nat.le_refl _), List.take_length]
theorem all_or {a b : Txt} {P : UInt8 → Prop} (h1 : ∀ x ∈ a, P x) (h2 : ∀ x ∈ b, P x) : ∀ x ∈ a ++ b, P x := fun x hx => by
  rcases List.mem_append.1 hx with h | h
  · exact h1 x h
  · exact h2 x h
/-- The way by words leaves out letters of one byte alone. -/
theorem fast_skip (s : Txt) (hs : s.length ≤ 1000000) : ∃ t, (bif decide ((s.length : Int) > 8) then ((F_unicode_utf8_word_string s).bind fun v3 => bif (andI .u64 v3.1 9259542123273814144) == 0 then ((subS s (8 : Int) (s.length : Int)).bind fun v4 => bif decide ((v4.length : Int) > 16) then ((F_unicode_utf8_word_string v4).bind fun v5 => (subS v4 (8 : Int) (v4.length : Int)).bind fun v6 => (F_unicode_utf8_word_string v6).bind fun v7 => bif (andI .u64 (orI .u64 v5.1 v7.1) 9259542123273814144) == 0 then ((subS v4 (16 : Int) (v4.length : Int)).bind fun v8 => (iter (fun v9 : Txt × Unit => bif decide ((v9.1.length : Int) > 32) then ((F_unicode_utf8_word_string v9.1).bind fun v10 => (subS v9.1 (8 : Int) (v9.1.length : Int)).bind fun v11 => (F_unicode_utf8_word_string v11).bind fun v12 => (subS v9.1 (16 : Int) (v9.1.length : Int)).bind fun v13 => (F_unicode_utf8_word_string v13).bind fun v14 => (subS v9.1 (24 : Int) (v9.1.length : Int)).bind fun v15 => (F_unicode_utf8_word_string v15).bind fun v16 => bif (andI .u64 (orI .u64 (orI .u64 v10.1 v12.1) (orI .u64 v14.1 v16.1)) 9259542123273814144) == 0 then ((subS v9.1 (32 : Int) (v9.1.length : Int)).bind fun v17 => some (.inl (v17, ()))) else (some (.inr v9))) else (some (.inr v9))) NF (v8, ())).bind fun v18 => some v18) else (some (v4, ()))) else (some (v4, ()))) else (some (s, ()))) else (some (s, ()))) = some (t, ()) ∧ vld t = vld s ∧ t.length ≤ s.length := by
  by_cases h8 : s.length ≤ 8
  · have c1 : decide ((s.length : Int) > 8) = false := decide_eq_false (by omega)
    exact ⟨s, by simp only [c1, cond_false], rfl, Nat.le_refl _⟩
  have c1 : decide ((s.length : Int) > 8) = true := decide_eq_true (by omega)
  obtain ⟨w, e1, w1, hw⟩ := word_eq s (by omega)
  simp only [c1, cond_true, e1, Option.bind_some]
  cases ha : (andI .u64 (w : Int) 9259542123273814144 == 0) with
  | false => exact ⟨s, by simp only [cond_false], rfl, Nat.le_refl _⟩
  | true =>
    have hsk := vld_skip 8 s (hw (hiN_of w1 ha))
    have e8 : subS s 8 (s.length : Int) = some (s.drop 8) := sub0 (k := 8) (by omega)
    simp only [cond_true, e8, Option.bind_some]
    have l8 : (s.drop 8).length = s.length - 8 := by simp
    generalize hs4 : s.drop 8 = s4 at *
    by_cases h16 : s4.length ≤ 16
    · have c2 : decide ((s4.length : Int) > 16) = false := decide_eq_false (by omega)
      exact ⟨s4, by simp only [c2, cond_false], hsk.symm, by omega⟩
    have c2 : decide ((s4.length : Int) > 16) = true := decide_eq_true (by omega)
    obtain ⟨u, f1, u1, hu⟩ := word_eq s4 (by omega)
    have f8 : subS s4 8 (s4.length : Int) = some (s4.drop 8) := sub0 (k := 8) (by omega)
    obtain ⟨x, f2, x1, hx⟩ := word_eq (s4.drop 8) (by simp; omega)
    simp only [c2, cond_true, f1, f8, f2, Option.bind_some, or64 u1 x1]
    cases hb : (andI .u64 ((u ||| x : Nat) : Int) 9259542123273814144 == 0) with
    | false => exact ⟨s4, by simp only [cond_false], hsk.symm, by omega⟩
    | true =>
      obtain ⟨g1, g2⟩ := hiN_or (hiN_of (Nat.or_lt_two_pow u1 x1) hb)
      have hsk2 : vld s4 = vld (s4.drop 16) := by
        rw [vld_skip 8 s4 (hu g1), vld_skip 8 (s4.drop 8) (hx g2), List.drop_drop]
      have f16 : subS s4 16 (s4.length : Int) = some (s4.drop 16) := sub0 (k := 16) (by omega)
      simp only [cond_true, f16, Option.bind_some]
      have key := iter_inv (step := fun v9 : Txt × Unit => bif decide ((v9.1.length : Int) > 32) then ((F_unicode_utf8_word_string v9.1).bind fun v10 => (subS v9.1 (8 : Int) (v9.1.length : Int)).bind fun v11 => (F_unicode_utf8_word_string v11).bind fun v12 => (subS v9.1 (16 : Int) (v9.1.length : Int)).bind fun v13 => (F_unicode_utf8_word_string v13).bind fun v14 => (subS v9.1 (24 : Int) (v9.1.length : Int)).bind fun v15 => (F_unicode_utf8_word_string v15).bind fun v16 => bif (andI .u64 (orI .u64 (orI .u64 v10.1 v12.1) (orI .u64 v14.1 v16.1)) 9259542123273814144) == 0 then ((subS v9.1 (32 : Int) (v9.1.length : Int)).bind fun v17 => some (Sum.inl (v17, ()))) else (some (Sum.inr v9))) else (some (.inr v9)))
        (fun st : Txt × Unit => vld st.1 = vld s ∧ st.1.length ≤ s.length) (fun st => st.1.length) (fun r : Txt × Unit => vld r.1 = vld s ∧ r.1.length ≤ s.length) (by
        rintro ⟨t, uu⟩ ⟨p1, p2⟩
        simp only at p1 p2
        by_cases h32 : t.length ≤ 32
        · right
          have c3 : decide ((t.length : Int) > 32) = false := decide_eq_false (by omega)
          exact ⟨(t, uu), by simp only [c3, cond_false], p1, p2⟩
        have c3 : decide ((t.length : Int) > 32) = true := decide_eq_true (by omega)
        obtain ⟨y0, k0, z0, q0⟩ := word_eq t (by omega)
        have d8 : subS t 8 (t.length : Int) = some (t.drop 8) := sub0 (k := 8) (by omega)
        have d16 : subS t 16 (t.length : Int) = some (t.drop 16) := sub0 (k := 16) (by omega)
        have d24 : subS t 24 (t.length : Int) = some (t.drop 24) := sub0 (k := 24) (by omega)
        have d32 : subS t 32 (t.length : Int) = some (t.drop 32) := sub0 (k := 32) (by omega)
        obtain ⟨y1, k1, z1, q1⟩ := word_eq (t.drop 8) (by simp; omega)
        obtain ⟨y2, k2, z2, q2⟩ := word_eq (t.drop 16) (by simp; omega)
        obtain ⟨y3, k3, z3, q3⟩ := word_eq (t.drop 24) (by simp; omega)
        have z01 := Nat.or_lt_two_pow z0 z1
        have z23 := Nat.or_lt_two_pow z2 z3
        simp only [c3, cond_true, k0, k1, k2, k3, d8, d16, d24, d32, Option.bind_some, or64 z0 z1, or64 z2 z3, or64 z01 z23]
        cases hc : (andI .u64 (((y0 ||| y1) ||| (y2 ||| y3) : Nat) : Int) 9259542123273814144 == 0) with
        | false => exact .inr ⟨(t, uu), by simp only [cond_false], p1, p2⟩
        | true =>
          left
          obtain ⟨m1, m2⟩ := hiN_or (hiN_of (Nat.or_lt_two_pow z01 z23) hc)
          obtain ⟨n0, n1⟩ := hiN_or m1
          obtain ⟨n2, n3⟩ := hiN_or m2
          have hsk3 : vld t = vld (t.drop 32) := by
            rw [vld_skip 8 t (q0 n0), vld_skip 8 (t.drop 8) (q1 n1), List.drop_drop, vld_skip 8 (t.drop 16) (q2 n2), List.drop_drop, vld_skip 8 (t.drop 24) (q3 n3), List.drop_drop]
          exact ⟨(t.drop 32, ()), by simp only [cond_true], ⟨by rw [← hsk3]; exact p1, by simp; omega⟩, by simp; omega⟩) NF (s4.drop 16, ()) ⟨by rw [← hsk2, ← hsk], by simp; omega⟩ (by rw [NF_eq]; simp; omega)
      obtain ⟨⟨t, uu⟩, r1, r2, r3⟩ := key
      rw [r1]
      exact ⟨t, rfl, r2, r3⟩

/-! ### The library's tables -/
def szB (n : Nat) : Nat := if n < 194 then 1 else if n < 224 then 2 else if n < 240 then 3 else if n < 245 then 4 else 1
def loB (n : Nat) : Int := if n < 194 then 0 else if n = 224 then 160 else if n = 240 then 144 else if n < 245 then 128 else 0
def hiB (n : Nat) : Int := if n < 194 then 0 else if n = 237 then 159 else if n = 244 then 143 else if n < 245 then 191 else 0
theorem tab_fin : ∀ b : Fin 256, 128 ≤ b.val → ((idxL gv0 ((b.val : Nat) : Int)).bind fun x => (shrI x .u8 4).bind fun y => (idxL gv1 y).map fun r => (IntKind.i64.wrap (andI .u8 x 7), r)) = some ((szB b.val : Int), (loB b.val, hiB b.val, ())) := by decide +kernel
theorem tab_eq (b : UInt8) (h : 128 ≤ b.toNat) : ∃ x y : Int, idxL gv0 (b.toNat : Int) = some x ∧ shrI x .u8 4 = some y ∧ idxL gv1 y = some (loB b.toNat, hiB b.toNat, ()) ∧ IntKind.i64.wrap (andI .u8 x 7) = (szB b.toNat : Int) := by
  have := tab_fin ⟨b.toNat, b.toNat_lt⟩ h
  simp only at this
  obtain ⟨x, h1, this⟩ := Option.bind_eq_some_iff.1 this
  obtain ⟨y, h2, this⟩ := Option.bind_eq_some_iff.1 this
  obtain ⟨r, h3, this⟩ := Option.map_eq_some_iff.1 this
  simp only [Prod.mk.injEq] at this
  exact ⟨x, y, h1, h2, by rw [h3, this.2], this.1⟩
theorem idx_k {s : Txt} {k : Nat} {b : UInt8} (h : s[k]? = some b) : idxS s (k : Int) = some (b.toNat : Int) := by
  have hk : k < s.length := by
    rcases Nat.lt_or_ge k s.length with h' | h'
    · exact h'
    · rw [List.getElem?_eq_none h'] at h; cases h
  rw [idxS_nat hk]
  rw [List.getElem?_eq_getElem hk] at h
  rw [Option.some.inj h]
theorem vld_step {s : Txt} {n : Nat} (h : szU s = n) (h0 : n ≠ 0) : vld s = vld (s.drop n) := by rw [vld_eq, h, if_neg h0]
theorem vld_bad {b : UInt8} {r : Txt} (h : szU (b :: r) = 0) : vld (b :: r) = false := by rw [vld_eq, if_pos h]; rfl

theorem vS {α β : Type} {x : α} {f : α → Option β} : (some x).bind f = f x := Eq.trans (Eq.refl _) (Eq.refl _)
theorem vT {α : Type} {a b : α} : cond true a b = a := Eq.trans (Eq.refl _) (Eq.refl _)
theorem vF {α : Type} {a b : α} : cond false a b = b := Eq.trans (Eq.refl _) (Eq.refl _)
theorem valid_eq (s : Txt) (hs : s.length ≤ 100000) : F_unicode_utf8_ValidString s = some (vld s, ()) := by
  unfold F_unicode_utf8_ValidString
  rw [iter_eq (fun st : Txt × Unit => st.1.length ≤ s.length ∧ vld st.1 = vld s) (fun st => st.1.length) (fun _ => if vld s = true then Sum.inr () else Sum.inl ()) ?_ NF (s, ()) ⟨Nat.le_refl _, rfl⟩ (by rw [NF_eq]; simp; omega)]
  · cases vld s
    · exact Option.bind_some ..
    · exact Option.bind_some ..
  · rintro ⟨t, u⟩ ⟨h1, h2⟩
    simp only at h1 h2
    rcases t with _ | ⟨b0, r⟩
    · right
      have e0 : vld s = true := by rw [← h2, vld_eq]; decide
      have c0 : decide ((([] : Txt).length : Int) > 0) = false := rfl
      simp only [c0, vF, e0, if_true]
    have hb := b0.toNat_lt
    have c0 : decide (((b0 :: r).length : Int) > 0) = true := decide_eq_true (by simp)
    have i0 : idxS (b0 :: r) 0 = some (b0.toNat : Int) := idx_k (k := 0) rfl
    simp only [c0, vT, i0, vS]
    by_cases r1 : b0.toNat < 128
    · left
      have c1 : decide ((b0.toNat : Int) < 128) = true := decide_eq_true (by omega)
      have e1 : subS (b0 :: r) 1 ((b0 :: r).length : Int) = some r := sub0 (k := 1) (by simp)
      simp only [List.length_cons] at h1
      obtain ⟨t, f1, f2, f3⟩ := fast_skip r (by omega)
      simp only [c1, vT, e1, vS, f1]
      exact ⟨_, rfl, ⟨by simp only; omega, by rw [f2, ← h2, vld_ascii r1]⟩, by simp only [List.length_cons]; omega, trivial⟩
    have c1 : decide ((b0.toNat : Int) < 128) = false := decide_eq_false (by omega)
    obtain ⟨x, y, x1, x2, x3, x4⟩ := tab_eq b0 (by omega)
    simp only [c1, vF, x1, x2, x3, x4, vS]
    have bad : szU (b0 :: r) = 0 → (if vld s = true then (Sum.inr () : Unit ⊕ Unit) else Sum.inl ()) = Sum.inl () := fun h => by
      rw [← h2, vld_bad h]; rfl
    have good : ∀ n : Nat, szU (b0 :: r) = n → n ≠ 0 → n ≤ (b0 :: r).length → ∃ s', (some (Sum.inl ((b0 :: r).drop n, ())) : Option ((Txt × Unit) ⊕ (Unit ⊕ Unit))) = some (.inl s') ∧ (s'.1.length ≤ s.length ∧ vld s'.1 = vld s) ∧ s'.1.length < (b0 :: r).length ∧ True := fun n hn h0 hl => by
      refine ⟨_, rfl, ⟨?_, ?_⟩, ?_, trivial⟩
      · simp only [List.length_drop]; omega
      · simp only; rw [← vld_step hn h0]; exact h2
      · simp only [List.length_drop]; omega
    by_cases r2 : b0.toNat < 194
    · right
      have e1 : szB b0.toNat = 1 := by simp [szB, r2]
      rw [e1]
      rw [bad (by simp only [szU, if_neg r1, if_pos r2])]
      rfl
    by_cases r3 : b0.toNat < 224
    · have e1 : szB b0.toNat = 2 := by simp [szB, r2, r3]
      have e2 : loB b0.toNat = 128 := by simp only [loB]; rw [if_neg r2, if_neg (by omega), if_neg (by omega), if_pos (by omega)]
      have e3 : hiB b0.toNat = 191 := by simp only [hiB]; rw [if_neg r2, if_neg (by omega), if_neg (by omega), if_pos (by omega)]
      rw [e1, e2, e3]
      have k2 : (((2 : Nat) : Int) == 2) = true := rfl
      simp only [k2, vT]
      rcases r with _ | ⟨b1, r⟩
      · right
        rw [bad (by simp only [szU, if_neg r1, if_neg r2, if_pos r3])]
        rfl
      have c2 : decide (((b0 :: b1 :: r).length : Int) < 2) = false := decide_eq_false (by simp; omega)
      have i1 : idxS (b0 :: b1 :: r) 1 = some (b1.toNat : Int) := idx_k (k := 1) rfl
      have hb1 := b1.toNat_lt
      simp only [c2, vF, i1, vS]
      by_cases g : cont b1 = true
      · left
        have q := (cont_iff b1).1 g
        have c3 : decide ((b1.toNat : Int) < 128) = false := decide_eq_false (by omega)
        have c4 : decide ((191 : Int) < b1.toNat) = false := decide_eq_false (by omega)
        have e4 : subS (b0 :: b1 :: r) 2 ((b0 :: b1 :: r).length : Int) = some ((b0 :: b1 :: r).drop 2) := sub0 (k := 2) (by simp)
        simp only [c3, c4, vF, e4, vS]
        exact good 2 (by simp only [szU, if_neg r1, if_neg r2, if_pos r3, g, if_true]) (by omega) (by simp)
      · right
        rw [bad (by simp only [szU, if_neg r1, if_neg r2, if_pos r3, if_neg g])]
        by_cases q : b1.toNat < 128
        · have c3 : decide ((b1.toNat : Int) < 128) = true := decide_eq_true (by omega)
          simp only [c3, vT]
        · have c3 : decide ((b1.toNat : Int) < 128) = false := decide_eq_false (by omega)
          have c4 : decide ((191 : Int) < b1.toNat) = true := decide_eq_true (by have : ¬ (128 ≤ b1.toNat ∧ b1.toNat < 192) := fun h => g ((cont_iff b1).2 h); omega)
          simp only [c3, c4, vF, vT]
    by_cases r4 : b0.toNat < 240
    · have e1 : szB b0.toNat = 3 := by simp [szB, r2, r3, r4]
      rw [e1]
      have k2 : (((3 : Nat) : Int) == 2) = false := rfl
      have k3 : (((3 : Nat) : Int) == 3) = true := rfl
      simp only [k2, k3, vT, vF]
      have e2 : loB b0.toNat = if b0.toNat = 224 then 160 else 128 := by simp only [loB]; rw [if_neg r2]; split <;> first | rfl | (rw [if_neg (by omega), if_pos (by omega)])
      have e3 : hiB b0.toNat = if b0.toNat = 237 then 159 else 191 := by simp only [hiB]; rw [if_neg r2]; split <;> first | rfl | (rw [if_neg (by omega), if_pos (by omega)])
      rw [e2, e3]
      rcases r with _ | ⟨b1, _ | ⟨b2, r⟩⟩
      · right
        rw [bad (by simp only [szU, if_neg r1, if_neg r2, if_neg r3, if_pos r4])]
        rfl
      · right
        rw [bad (by simp only [szU, if_neg r1, if_neg r2, if_neg r3, if_pos r4])]
        rfl
      have c2 : decide (((b0 :: b1 :: b2 :: r).length : Int) < 3) = false := decide_eq_false (by simp; omega)
      have i1 : idxS (b0 :: b1 :: b2 :: r) 1 = some (b1.toNat : Int) := idx_k (k := 1) rfl
      have i2 : idxS (b0 :: b1 :: b2 :: r) 2 = some (b2.toNat : Int) := idx_k (k := 2) rfl
      simp only [c2, vF, i1, i2, vS]
      have g1 := cont_iff b1
      have g2 := cont_iff b2
      by_cases g : cont b1 = true ∧ cont b2 = true ∧ ¬ (b0.toNat = 224 ∧ b1.toNat < 160) ∧ ¬ (b0.toNat = 237 ∧ 160 ≤ b1.toNat)
      · left
        have q1 := g1.1 g.1
        have q2 := g2.1 g.2.1
        have c3 : decide ((b1.toNat : Int) < if b0.toNat = 224 then 160 else 128) = false := decide_eq_false (by split <;> omega)
        have c4 : decide ((if b0.toNat = 237 then (159 : Int) else 191) < b1.toNat) = false := decide_eq_false (by split <;> omega)
        have c5 : decide ((b2.toNat : Int) < 128) = false := decide_eq_false (by omega)
        have c6 : decide ((191 : Int) < b2.toNat) = false := decide_eq_false (by omega)
        have e4 : subS (b0 :: b1 :: b2 :: r) 3 ((b0 :: b1 :: b2 :: r).length : Int) = some ((b0 :: b1 :: b2 :: r).drop 3) := sub0 (k := 3) (by simp)
        simp only [c3, c4, c5, c6, vF, e4, vS]
        exact good 3 (by simp only [szU, if_neg r1, if_neg r2, if_neg r3, if_pos r4, if_pos g]) (by omega) (by simp)
      · right
        rw [bad (by simp only [szU, if_neg r1, if_neg r2, if_neg r3, if_pos r4, if_neg g])]
        by_cases q3 : (b1.toNat : Int) < if b0.toNat = 224 then 160 else 128
        · simp only [decide_eq_true q3, vT]
        by_cases q4 : (if b0.toNat = 237 then (159 : Int) else 191) < b1.toNat
        · simp only [decide_eq_false q3, decide_eq_true q4, vT, vF]
        by_cases q5 : (b2.toNat : Int) < 128
        · simp only [decide_eq_false q3, decide_eq_false q4, decide_eq_true q5, vT, vF]
        by_cases q6 : (191 : Int) < b2.toNat
        · simp only [decide_eq_false q3, decide_eq_false q4, decide_eq_false q5, decide_eq_true q6, vT, vF]
        · exfalso
          apply g
          have h224 : b0.toNat = 224 → ¬ b1.toNat < 160 := fun e => by rw [if_pos e] at q3; omega
          have h237 : b0.toNat = 237 → ¬ 160 ≤ b1.toNat := fun e => by rw [if_pos e] at q4; omega
          have hlo : 128 ≤ b1.toNat := by split at q3 <;> omega
          have hhi : b1.toNat < 192 := by split at q4 <;> omega
          exact ⟨g1.2 ⟨hlo, hhi⟩, g2.2 (by omega), fun h => h224 h.1 h.2, fun h => h237 h.1 h.2⟩
    by_cases r5 : b0.toNat < 245
    · have e1 : szB b0.toNat = 4 := by simp [szB, r2, r3, r4, r5]
      rw [e1]
      have k2 : (((4 : Nat) : Int) == 2) = false := rfl
      have k3 : (((4 : Nat) : Int) == 3) = false := rfl
      have k4 : (((4 : Nat) : Int) == 4) = true := rfl
      simp only [k2, k3, k4, vT, vF]
      have e2 : loB b0.toNat = if b0.toNat = 240 then 144 else 128 := by simp only [loB]; rw [if_neg r2, if_neg (by omega)]; split <;> first | rfl | (rw [if_pos (by omega)])
      have e3 : hiB b0.toNat = if b0.toNat = 244 then 143 else 191 := by simp only [hiB]; rw [if_neg r2, if_neg (by omega)]; split <;> first | rfl | (rw [if_pos (by omega)])
      rw [e2, e3]
      rcases r with _ | ⟨b1, _ | ⟨b2, _ | ⟨b3, r⟩⟩⟩
      · right
        rw [bad (by simp only [szU, if_neg r1, if_neg r2, if_neg r3, if_neg r4, if_pos r5])]
        rfl
      · right
        rw [bad (by simp only [szU, if_neg r1, if_neg r2, if_neg r3, if_neg r4, if_pos r5])]
        rfl
      · right
        rw [bad (by simp only [szU, if_neg r1, if_neg r2, if_neg r3, if_neg r4, if_pos r5])]
        rfl
      have c2 : decide (((b0 :: b1 :: b2 :: b3 :: r).length : Int) < 4) = false := decide_eq_false (by simp; omega)
      have i1 : idxS (b0 :: b1 :: b2 :: b3 :: r) 1 = some (b1.toNat : Int) := idx_k (k := 1) rfl
      have i2 : idxS (b0 :: b1 :: b2 :: b3 :: r) 2 = some (b2.toNat : Int) := idx_k (k := 2) rfl
      have i3 : idxS (b0 :: b1 :: b2 :: b3 :: r) 3 = some (b3.toNat : Int) := idx_k (k := 3) rfl
      simp only [c2, vF, i1, i2, i3, vS]
      have g1 := cont_iff b1
      have g2 := cont_iff b2
      have g3 := cont_iff b3
      by_cases g : cont b1 = true ∧ cont b2 = true ∧ cont b3 = true ∧ ¬ (b0.toNat = 240 ∧ b1.toNat < 144) ∧ ¬ (b0.toNat = 244 ∧ 144 ≤ b1.toNat)
      · left
        have q1 := g1.1 g.1
        have q2 := g2.1 g.2.1
        have q3 := g3.1 g.2.2.1
        have c3 : decide ((b1.toNat : Int) < if b0.toNat = 240 then 144 else 128) = false := decide_eq_false (by split <;> omega)
        have c4 : decide ((if b0.toNat = 244 then (143 : Int) else 191) < b1.toNat) = false := decide_eq_false (by split <;> omega)
        have c5 : decide ((b2.toNat : Int) < 128) = false := decide_eq_false (by omega)
        have c6 : decide ((191 : Int) < b2.toNat) = false := decide_eq_false (by omega)
        have c7 : decide ((b3.toNat : Int) < 128) = false := decide_eq_false (by omega)
        have c8 : decide ((191 : Int) < b3.toNat) = false := decide_eq_false (by omega)
        have e4 : subS (b0 :: b1 :: b2 :: b3 :: r) 4 ((b0 :: b1 :: b2 :: b3 :: r).length : Int) = some ((b0 :: b1 :: b2 :: b3 :: r).drop 4) := sub0 (k := 4) (by simp)
        simp only [c3, c4, c5, c6, c7, c8, vF, e4, vS]
        exact good 4 (by simp only [szU, if_neg r1, if_neg r2, if_neg r3, if_neg r4, if_pos r5, if_pos g]) (by omega) (by simp)
      · right
        rw [bad (by simp only [szU, if_neg r1, if_neg r2, if_neg r3, if_neg r4, if_pos r5, if_neg g])]
        by_cases q3 : (b1.toNat : Int) < if b0.toNat = 240 then 144 else 128
        · simp only [decide_eq_true q3, vT]
        by_cases q4 : (if b0.toNat = 244 then (143 : Int) else 191) < b1.toNat
        · simp only [decide_eq_false q3, decide_eq_true q4, vT, vF]
        by_cases q5 : (b2.toNat : Int) < 128
        · simp only [decide_eq_false q3, decide_eq_false q4, decide_eq_true q5, vT, vF]
        by_cases q6 : (191 : Int) < b2.toNat
        · simp only [decide_eq_false q3, decide_eq_false q4, decide_eq_false q5, decide_eq_true q6, vT, vF]
        by_cases q7 : (b3.toNat : Int) < 128
        · simp only [decide_eq_false q3, decide_eq_false q4, decide_eq_false q5, decide_eq_false q6, decide_eq_true q7, vT, vF]
        by_cases q8 : (191 : Int) < b3.toNat
        · simp only [decide_eq_false q3, decide_eq_false q4, decide_eq_false q5, decide_eq_false q6, decide_eq_false q7, decide_eq_true q8, vT, vF]
        · exfalso
          apply g
          have h240 : b0.toNat = 240 → ¬ b1.toNat < 144 := fun e => by rw [if_pos e] at q3; omega
          have h244 : b0.toNat = 244 → ¬ 144 ≤ b1.toNat := fun e => by rw [if_pos e] at q4; omega
          have hlo : 128 ≤ b1.toNat := by split at q3 <;> omega
          have hhi : b1.toNat < 192 := by split at q4 <;> omega
          exact ⟨g1.2 ⟨hlo, hhi⟩, g2.2 (by omega), g3.2 (by omega), fun h => h240 h.1 h.2, fun h => h244 h.1 h.2⟩
    · right
      have e1 : szB b0.toNat = 1 := by simp [szB, r2, r3, r4, r5]
      rw [e1, bad (by simp only [szU, if_neg r1, if_neg r2, if_neg r3, if_neg r4, if_neg r5])]
      rfl
end Go.Proofs.YtlpiiifmidehjaaDoorM
