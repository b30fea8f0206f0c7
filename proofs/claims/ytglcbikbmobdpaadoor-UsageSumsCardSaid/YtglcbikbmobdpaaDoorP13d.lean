/- Letters of a text: what is read where. -/
import Derived.Test.YtglcbikbmobdpaaDoorP45g
set_option linter.unusedSimpArgs false
set_option linter.unusedVariables false
namespace Go.Proofs.YtglcbikbmobdpaaDoorM
open Go Go.RowKit

/-- A byte that goes on. -/
def cont (b : UInt8) : Bool := decide (128 ≤ b.toNat ∧ b.toNat < 192)
theorem cont_iff (b : UInt8) : cont b = true ↔ 128 ≤ b.toNat ∧ b.toNat < 192 := decide_eq_true_iff
/-- How many bytes a text's first letter takes; 0: it has none. -/
def szU : Txt → Nat
  | [] => 0
  | b0 :: r =>
    if b0.toNat < 128 then 1
    else if b0.toNat < 194 then 0
    else if b0.toNat < 224 then (match r with | b1 :: _ => if cont b1 = true then 2 else 0 | _ => 0)
    else if b0.toNat < 240 then (match r with | b1 :: b2 :: _ => if cont b1 = true ∧ cont b2 = true ∧ ¬ (b0.toNat = 224 ∧ b1.toNat < 160) ∧ ¬ (b0.toNat = 237 ∧ 160 ≤ b1.toNat) then 3 else 0 | _ => 0)
    else if b0.toNat < 245 then (match r with | b1 :: b2 :: b3 :: _ => if cont b1 = true ∧ cont b2 = true ∧ cont b3 = true ∧ ¬ (b0.toNat = 240 ∧ b1.toNat < 144) ∧ ¬ (b0.toNat = 244 ∧ 144 ≤ b1.toNat) then 4 else 0 | _ => 0)
    else 0
theorem szU_le (s : Txt) : szU s ≤ s.length ∧ szU s ≤ 4 := by
  rcases s with _ | ⟨b0, r⟩
  · exact ⟨Nat.le_refl _, by decide⟩
  by_cases r1 : b0.toNat < 128
  · simp only [szU, if_pos r1, List.length_cons]; omega
  by_cases r2 : b0.toNat < 194
  · simp only [szU, if_neg r1, if_pos r2]; omega
  by_cases r3 : b0.toNat < 224
  · rcases r with _ | ⟨b1, r⟩ <;> simp only [szU, if_neg r1, if_neg r2, if_pos r3, List.length_cons, List.length_nil]
    · omega
    · split <;> omega
  by_cases r4 : b0.toNat < 240
  · rcases r with _ | ⟨b1, _ | ⟨b2, r⟩⟩ <;> simp only [szU, if_neg r1, if_neg r2, if_neg r3, if_pos r4, List.length_cons, List.length_nil]
    · omega
    · omega
    · split <;> omega
  by_cases r5 : b0.toNat < 245
  · rcases r with _ | ⟨b1, _ | ⟨b2, _ | ⟨b3, r⟩⟩⟩ <;> simp only [szU, if_neg r1, if_neg r2, if_neg r3, if_neg r4, if_pos r5, List.length_cons, List.length_nil]
    · omega
    · omega
    · omega
    · split <;> omega
  · simp only [szU, if_neg r1, if_neg r2, if_neg r3, if_neg r4, if_neg r5]; omega

/-! ### The document's -/
def longOf (c : Nat) : Int × Int × Unit := if c < 128 then (1, (c : Int), ()) else if c < 192 then (0, 0, ()) else if c < 224 then (2, (c : Int) - 192, ()) else if c < 240 then (3, (c : Int) - 224, ()) else if c < 248 then (4, (c : Int) - 240, ()) else (0, 0, ())
theorem long_fin : ∀ b : Fin 256, F_ref13_long ((b.val : Nat) : Int) = some (longOf b.val) := by decide +kernel
theorem long_eq (b : UInt8) : F_ref13_long (b.toNat : Int) = some (longOf b.toNat) := long_fin ⟨b.toNat, b.toNat_lt⟩
def cd : Int → Txt → Option Int
  | c, [] => some c
  | c, b :: r => if cont b = true then cd (64 * c + ((b.toNat : Int) - 128)) r else none
def nextR (x : Option Int) : (Int × Int × Unit) ⊕ (Int × Unit) := match x with | some c => .inr (c, ()) | none => .inl (0, 0, ())
theorem next_loop (s : Txt) (hs : s.length ≤ 1000000) (a n : Nat) (h1 : a + n ≤ s.length) (hn : n ≤ 4) (hn1 : 1 ≤ n) (c0 : Int) (h2 : 0 ≤ c0) (h3 : c0 < 256) :
    iter (fun v2 : Int × Int × Unit => bif decide (v2.2.1 < (n : Int)) then ((idxS s (IntKind.i64.wrap ((a : Int) + v2.2.1))).bind fun v3 => bif decide (v3 < 128) then (some (Sum.inr (Sum.inl ((0 : Int), ((0 : Int), ()))))) else ((idxS s (IntKind.i64.wrap ((a : Int) + v2.2.1))).bind fun v4 => bif decide (v4 ≥ 192) then (some (.inr (.inl ((0 : Int), ((0 : Int), ()))))) else ((idxS s (IntKind.i64.wrap ((a : Int) + v2.2.1))).bind fun v5 => some (.inl (IntKind.i64.wrap ((IntKind.i64.wrap ((IntKind.i64.wrap (64 * v2.1)) + (IntKind.i64.wrap v5))) - 128), (IntKind.i64.wrap (v2.2.1 + 1), ())))))) else (some (.inr (.inr (v2.1, ()))))) NF (c0, ((1 : Int), ())) = some (nextR (cd c0 (((s.drop a).take n).drop 1))) := by
  have key := iter_eq (step := fun v2 : Int × Int × Unit => bif decide (v2.2.1 < (n : Int)) then ((idxS s (IntKind.i64.wrap ((a : Int) + v2.2.1))).bind fun v3 => bif decide (v3 < 128) then (some (Sum.inr (Sum.inl ((0 : Int), ((0 : Int), ()))))) else ((idxS s (IntKind.i64.wrap ((a : Int) + v2.2.1))).bind fun v4 => bif decide (v4 ≥ 192) then (some (.inr (.inl ((0 : Int), ((0 : Int), ()))))) else ((idxS s (IntKind.i64.wrap ((a : Int) + v2.2.1))).bind fun v5 => some (.inl (IntKind.i64.wrap ((IntKind.i64.wrap ((IntKind.i64.wrap (64 * v2.1)) + (IntKind.i64.wrap v5))) - 128), (IntKind.i64.wrap (v2.2.1 + 1), ())))))) else (some (.inr (.inr (v2.1, ())))))
    (fun st : Int × Int × Unit => ∃ k : Nat, st.2.1 = k ∧ 1 ≤ k ∧ k ≤ n ∧ 0 ≤ st.1 ∧ (k = 1 → st.1 < 256) ∧ (k = 2 → st.1 < 16384) ∧ (k = 3 → st.1 < 1048576) ∧ (k = 4 → st.1 < 67108864)) (fun st => n - st.2.1.toNat) (fun st => nextR (cd st.1 (((s.drop a).take n).drop st.2.1.toNat))) (by
    rintro ⟨c, z, u⟩ ⟨k, e1, q1, q2, q3, q4, q5, q6, q7⟩
    simp only at e1 q3 q4 q5 q6 q7
    subst e1
    by_cases hk : k < n
    · have c1 : decide ((k : Int) < (n : Int)) = true := decide_eq_true (by omega)
      have w1 : IntKind.i64.wrap ((a : Int) + (k : Int)) = ((a + k : Nat) : Int) := by rw [w64 (by omega) (by omega)]; omega
      have hak : a + k < s.length := by omega
      have hl : ((s.drop a).take n).drop k = s[a + k] :: ((s.drop a).take n).drop (k + 1) := by
        rw [List.drop_eq_getElem_cons (by simp; omega)]
        congr 1
        rw [List.getElem_take, List.getElem_drop]
      have hb := s[a + k].toNat_lt
      simp only [c1, cond_true, w1, idxS_nat hak, Option.bind_some, Int.toNat_natCast, hl, cd]
      generalize s[a + k] = b at *
      by_cases h128 : b.toNat < 128
      · right
        have c2 : decide ((b.toNat : Int) < 128) = true := decide_eq_true (by omega)
        have c3 : ¬ cont b = true := fun h => by have := (cont_iff b).1 h; omega
        simp only [c2, cond_true, if_neg c3]; rfl
      · have c2 : decide ((b.toNat : Int) < 128) = false := decide_eq_false (by omega)
        simp only [c2, cond_false]
        by_cases h192 : 192 ≤ b.toNat
        · right
          have c3 : decide ((b.toNat : Int) ≥ 192) = true := decide_eq_true (by omega)
          have c4 : ¬ cont b = true := fun h => by have := (cont_iff b).1 h; omega
          simp only [c3, cond_true, if_neg c4]; rfl
        · left
          have c3 : decide ((b.toNat : Int) ≥ 192) = false := decide_eq_false (by omega)
          have c4 : cont b = true := (cont_iff b).2 (by omega)
          have hcb : c < 67108864 := by omega
          have w2 : IntKind.i64.wrap (IntKind.i64.wrap (IntKind.i64.wrap (64 * c) + IntKind.i64.wrap (b.toNat : Int)) - 128) = 64 * c + ((b.toNat : Int) - 128) := by
            rw [w64 (x := 64 * c) (by omega) (by omega), w64 (x := (b.toNat : Int)) (by omega) (by omega), w64 (x := 64 * c + (b.toNat : Int)) (by omega) (by omega), w64 (by omega) (by omega)]; omega
          have w3 : IntKind.i64.wrap ((k : Int) + 1) = ((k + 1 : Nat) : Int) := by rw [w64 (by omega) (by omega)]; rfl
          simp only [c3, cond_false, w2, w3, if_pos c4]
          refine ⟨_, rfl, ⟨k + 1, rfl, by omega, by omega, ?_, ?_, ?_, ?_, ?_⟩, by simp only [Int.toNat_natCast]; omega, by simp only [Int.toNat_natCast]⟩ <;> simp only <;> omega
    · right
      have c1 : decide ((k : Int) < (n : Int)) = false := decide_eq_false (by omega)
      simp only [c1, cond_false, Int.toNat_natCast]
      rw [List.drop_of_length_le (by simp; omega)]; rfl) NF (c0, (1, ())) ⟨1, rfl, Nat.le_refl _, hn1, h2, fun _ => h3, fun h => by omega, fun h => by omega, fun h => by omega⟩ (by rw [NF_eq]; simp; omega)
  exact key

theorem next_eq (s : Txt) (hs : s.length ≤ 1000000) (a : Nat) (ha : a < s.length) : ∃ c : Int, F_ref13_Next s (a : Int) = some (c, (szU (s.drop a) : Int), ()) := by
  obtain ⟨b0, r, hl⟩ : ∃ b r, s.drop a = b :: r := ⟨s[a], s.drop (a + 1), List.drop_eq_getElem_cons ha⟩
  have hb0 : s[a] = b0 := by
    have := List.drop_eq_getElem_cons ha
    rw [hl] at this; exact (List.cons.inj this).1.symm
  have hlen : r.length + 1 = s.length - a := by have := congrArg List.length hl; simpa using this.symm
  have hbb := b0.toNat_lt
  unfold F_ref13_Next
  rw [idxS_nat ha, hb0]
  simp only [Option.bind_some, long_eq]
  have fin : ∀ (n : Nat) (c0 : Int), longOf b0.toNat = ((n : Int), c0, ()) → 1 ≤ n → n ≤ 4 → 0 ≤ c0 → c0 < 256 → (∀ c, cd c0 ((b0 :: r).take n |>.drop 1) = some c → n ≤ r.length + 1 → ∀ least, idxL [(0 : Int), 0, 128, 2048, 65536] (n : Int) = some least → szU (b0 :: r) = if c < least ∨ c > 1114111 ∨ (55296 ≤ c ∧ c < 57344) then 0 else n) →
      (cd c0 ((b0 :: r).take n |>.drop 1) = none → szU (b0 :: r) = 0) → (r.length + 1 < n → szU (b0 :: r) = 0) →
      ∃ c : Int, (bif (longOf b0.toNat).1 == 0 then (some ((0 : Int), ((0 : Int), ()))) else (bif decide ((IntKind.i64.wrap ((a : Int) + (longOf b0.toNat).1)) > (s.length : Int)) then (some ((0 : Int), ((0 : Int), ()))) else ((iter (fun v2 : Int × Int × Unit => bif decide (v2.2.1 < (longOf b0.toNat).1) then ((idxS s (IntKind.i64.wrap ((a : Int) + v2.2.1))).bind fun v3 => bif decide (v3 < 128) then (some (Sum.inr (Sum.inl ((0 : Int), ((0 : Int), ()))))) else ((idxS s (IntKind.i64.wrap ((a : Int) + v2.2.1))).bind fun v4 => bif decide (v4 ≥ 192) then (some (.inr (.inl ((0 : Int), ((0 : Int), ()))))) else ((idxS s (IntKind.i64.wrap ((a : Int) + v2.2.1))).bind fun v5 => some (.inl (IntKind.i64.wrap ((IntKind.i64.wrap ((IntKind.i64.wrap (64 * v2.1)) + (IntKind.i64.wrap v5))) - 128), (IntKind.i64.wrap (v2.2.1 + 1), ())))))) else (some (.inr (.inr (v2.1, ()))))) NF ((longOf b0.toNat).2.1, ((1 : Int), ()))).bind fun v6 => sumK v6 (fun v7 => some v7) (fun v8 => (idxL [(0 : Int), (0 : Int), (128 : Int), (2048 : Int), (65536 : Int)] (longOf b0.toNat).1).bind fun v9 => (idxL [(0 : Int), (0 : Int), (128 : Int), (2048 : Int), (65536 : Int)] (longOf b0.toNat).1).bind fun v10 => (bif decide (v8.1 < v10) then (some (Sum.inl ((0 : Int), ((0 : Int), ())))) else (bif decide (v8.1 > 1114111) then (some (Sum.inl ((0 : Int), ((0 : Int), ())))) else (bif decide (v8.1 ≥ 55296) then (bif decide (v8.1 < 57344) then (some (Sum.inl ((0 : Int), ((0 : Int), ())))) else (some (Sum.inr ()))) else (some (Sum.inr ()))))).bind fun v11 => sumK v11 (fun v12 => some v12) (fun v13 => some (v8.1, ((longOf b0.toNat).1, ()))))))) = some (c, (szU (b0 :: r) : Int), ()) := by
    intro n c0 hy k1 k2 k3 k4 p1 p2 p3
    rw [hy]
    have e0 : ((n : Int) == 0) = false := by simp; omega
    have w1 : IntKind.i64.wrap ((a : Int) + (n : Int)) = ((a + n : Nat) : Int) := by rw [w64 (by omega) (by omega)]; omega
    simp only [e0, cond_false, w1]
    by_cases hlt : r.length + 1 < n
    · have e1 : decide (((a + n : Nat) : Int) > (s.length : Int)) = true := decide_eq_true (by omega)
      simp only [e1, cond_true, p3 hlt]
      exact ⟨0, rfl⟩
    · have e1 : decide (((a + n : Nat) : Int) > (s.length : Int)) = false := decide_eq_false (by omega)
      have e2 := next_loop s hs a n (by omega) k2 k1 c0 k3 k4
      rw [hl] at e2
      simp only [e1, cond_false]
      rw [e2]
      simp only [Option.bind_some]
      cases hc : cd c0 ((b0 :: r).take n |>.drop 1) with
      | none => rw [p2 hc]; exact ⟨0, rfl⟩
      | some c =>
        obtain ⟨least, hle⟩ : ∃ least, idxL [(0 : Int), 0, 128, 2048, 65536] (n : Int) = some least := by
          refine ⟨([(0 : Int), 0, 128, 2048, 65536])[n]'(by simp; omega), idxL_nat (by simp; omega)⟩
        rw [p1 c hc (by omega) least hle]
        simp only [nextR, sumK, hle, Option.bind_some]
        by_cases r1 : c < least
        · exact ⟨0, by simp [r1, sumK]⟩
        by_cases r2 : c > 1114111
        · exact ⟨0, by simp [r1, r2, sumK]⟩
        by_cases r3 : c ≥ 55296
        · by_cases r4 : c < 57344
          · have r3' : (55296 : Int) ≤ c := r3
            exact ⟨0, by simp [r1, r2, r3, r3', r4, sumK]⟩
          · exact ⟨c, by simp [r1, r2, r3, r4, sumK]⟩
        · exact ⟨c, by simp [r1, r2, r3, sumK]⟩
  have zero : longOf b0.toNat = (0, 0, ()) → szU (b0 :: r) = 0 → ∃ c : Int, (bif (longOf b0.toNat).1 == 0 then (some ((0 : Int), ((0 : Int), ()))) else (none : Option (Int × Int × Unit))) = some (c, (szU (b0 :: r) : Int), ()) := fun h1 h2 => by
    rw [h1, h2]; exact ⟨0, rfl⟩
  rw [hl]
  by_cases r1 : b0.toNat < 128
  · refine fin 1 (b0.toNat : Int) (by simp [longOf, r1]) (by omega) (by omega) (by omega) (by omega) ?_ (fun h => by simp [cd] at h) (fun h => by omega)
    intro c hc _ least hle
    have : (b0.toNat : Int) = c := by simpa [cd] using hc
    have h0 : least = 0 := by have := (show idxL [(0 : Int), 0, 128, 2048, 65536] ((1 : Nat) : Int) = some 0 from rfl); rw [this] at hle; exact (Option.some.inj hle).symm
    rw [if_neg (by omega)]
    simp [szU, r1]
  by_cases r2 : b0.toNat < 192
  · have hy : longOf b0.toNat = (0, 0, ()) := by simp [longOf, r1, r2]
    have : szU (b0 :: r) = 0 := by simp [szU, r1, show b0.toNat < 194 by omega]
    rw [hy, this]; exact ⟨0, rfl⟩
  by_cases r3 : b0.toNat < 224
  · refine fin 2 ((b0.toNat : Int) - 192) (by simp [longOf, r1, r2, r3]) (by omega) (by omega) (by omega) (by omega) ?_ ?_ ?_
    · intro c hc hr least hle
      have h0 : least = 128 := by have := (show idxL [(0 : Int), 0, 128, 2048, 65536] ((2 : Nat) : Int) = some 128 from rfl); rw [this] at hle; exact (Option.some.inj hle).symm
      subst h0
      rcases r with _ | ⟨b1, r⟩
      · simp at hr
      simp only [List.take_succ_cons, List.drop_succ_cons, List.drop_zero, List.take_zero, cd] at hc
      split at hc
      · rename_i h1
        have hc := Option.some.inj hc
        have q1 := (cont_iff b1).1 h1
        simp only [szU, if_neg r1, if_pos r3, h1, if_true]
        by_cases q : b0.toNat < 194
        · rw [if_pos q, if_pos (by omega)]
        · rw [if_neg q, if_neg (by omega)]
      · cases hc
    · intro hc
      rcases r with _ | ⟨b1, r⟩
      · simp [cd] at hc
      simp only [List.take_succ_cons, List.drop_succ_cons, List.drop_zero, List.take_zero, cd] at hc
      split at hc
      · cases hc
      · rename_i h1
        simp only [szU, if_neg r1, if_pos r3, if_neg h1]; split <;> rfl
    · intro h
      rcases r with _ | ⟨b1, r⟩
      · simp only [szU, if_neg r1, if_pos r3]; split <;> rfl
      · simp only [List.length_cons] at h; omega
  by_cases r4 : b0.toNat < 240
  · have r194 : ¬ b0.toNat < 194 := by omega
    refine fin 3 ((b0.toNat : Int) - 224) (by simp [longOf, r1, r2, r3, r4]) (by omega) (by omega) (by omega) (by omega) ?_ ?_ ?_
    · intro c hc hr least hle
      have h0 : least = 2048 := by have := (show idxL [(0 : Int), 0, 128, 2048, 65536] ((3 : Nat) : Int) = some 2048 from rfl); rw [this] at hle; exact (Option.some.inj hle).symm
      subst h0
      rcases r with _ | ⟨b1, _ | ⟨b2, r⟩⟩
      · simp at hr
      · simp at hr
      simp only [List.take_succ_cons, List.drop_succ_cons, List.drop_zero, List.take_zero, cd] at hc
      split at hc
      · rename_i h1
        split at hc
        · rename_i h2
          have hc := Option.some.inj hc
          have q1 := (cont_iff b1).1 h1
          have q2 := (cont_iff b2).1 h2
          simp only [szU, if_neg r1, if_neg r194, if_neg r3, if_pos r4, h1, h2, true_and]
          by_cases q : ¬ (b0.toNat = 224 ∧ b1.toNat < 160) ∧ ¬ (b0.toNat = 237 ∧ 160 ≤ b1.toNat)
          · rw [if_pos q, if_neg (by omega)]
          · rw [if_neg q, if_pos (by omega)]
        · cases hc
      · cases hc
    · intro hc
      rcases r with _ | ⟨b1, _ | ⟨b2, r⟩⟩
      · simp [cd] at hc
      · simp only [szU, if_neg r1, if_neg r194, if_neg r3, if_pos r4]
      simp only [List.take_succ_cons, List.drop_succ_cons, List.drop_zero, List.take_zero, cd] at hc
      simp only [szU, if_neg r1, if_neg r194, if_neg r3, if_pos r4]
      rw [if_neg]
      rintro ⟨h1, h2, _⟩
      rw [if_pos h1, if_pos h2] at hc; cases hc
    · intro h
      rcases r with _ | ⟨b1, _ | ⟨b2, r⟩⟩
      · simp only [szU, if_neg r1, if_neg r194, if_neg r3, if_pos r4]
      · simp only [szU, if_neg r1, if_neg r194, if_neg r3, if_pos r4]
      · simp only [List.length_cons] at h; omega
  by_cases r5 : b0.toNat < 248
  · have r194 : ¬ b0.toNat < 194 := by omega
    refine fin 4 ((b0.toNat : Int) - 240) (by simp [longOf, r1, r2, r3, r4, r5]) (by omega) (by omega) (by omega) (by omega) ?_ ?_ ?_
    · intro c hc hr least hle
      have h0 : least = 65536 := by have := (show idxL [(0 : Int), 0, 128, 2048, 65536] ((4 : Nat) : Int) = some 65536 from rfl); rw [this] at hle; exact (Option.some.inj hle).symm
      subst h0
      rcases r with _ | ⟨b1, _ | ⟨b2, _ | ⟨b3, r⟩⟩⟩
      · simp at hr
      · simp at hr
      · simp at hr
      simp only [List.take_succ_cons, List.drop_succ_cons, List.drop_zero, List.take_zero, cd] at hc
      split at hc
      · rename_i h1
        split at hc
        · rename_i h2
          split at hc
          · rename_i h3
            have hc := Option.some.inj hc
            have q1 := (cont_iff b1).1 h1
            have q2 := (cont_iff b2).1 h2
            have q3 := (cont_iff b3).1 h3
            simp only [szU, if_neg r1, if_neg r194, if_neg r3, if_neg r4, h1, h2, h3, true_and]
            by_cases q5 : b0.toNat < 245
            · rw [if_pos q5]
              by_cases q : ¬ (b0.toNat = 240 ∧ b1.toNat < 144) ∧ ¬ (b0.toNat = 244 ∧ 144 ≤ b1.toNat)
              · rw [if_pos q, if_neg (by omega)]
              · rw [if_neg q, if_pos (by omega)]
            · rw [if_neg q5, if_pos (by omega)]
          · cases hc
        · cases hc
      · cases hc
    · intro hc
      rcases r with _ | ⟨b1, _ | ⟨b2, _ | ⟨b3, r⟩⟩⟩
      · simp [cd] at hc
      · simp only [szU, if_neg r1, if_neg r194, if_neg r3, if_neg r4]; split <;> rfl
      · simp only [szU, if_neg r1, if_neg r194, if_neg r3, if_neg r4]; split <;> rfl
      simp only [List.take_succ_cons, List.drop_succ_cons, List.drop_zero, List.take_zero, cd] at hc
      simp only [szU, if_neg r1, if_neg r194, if_neg r3, if_neg r4]
      split
      · rw [if_neg]
        rintro ⟨h1, h2, h3, _⟩
        rw [if_pos h1, if_pos h2, if_pos h3] at hc; cases hc
      · rfl
    · intro h
      rcases r with _ | ⟨b1, _ | ⟨b2, _ | ⟨b3, r⟩⟩⟩
      · simp only [szU, if_neg r1, if_neg r194, if_neg r3, if_neg r4]; split <;> rfl
      · simp only [szU, if_neg r1, if_neg r194, if_neg r3, if_neg r4]; split <;> rfl
      · simp only [szU, if_neg r1, if_neg r194, if_neg r3, if_neg r4]; split <;> rfl
      · simp only [List.length_cons] at h; omega
  · have hy : longOf b0.toNat = (0, 0, ()) := by simp [longOf, r1, r2, r3, r4, r5]
    have : szU (b0 :: r) = 0 := by simp [szU, r1, r3, r4, show ¬ b0.toNat < 194 by omega, show ¬ b0.toNat < 245 by omega]
    rw [hy, this]; exact ⟨0, rfl⟩

end Go.Proofs.YtglcbikbmobdpaaDoorM
