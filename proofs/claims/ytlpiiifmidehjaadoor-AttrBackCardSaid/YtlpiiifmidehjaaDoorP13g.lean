/- Which paths may be: the program's answer and the document's. -/
import Derived.Test.YtlpiiifmidehjaaDoorP13f
set_option linter.unusedSimpArgs false
set_option linter.unusedVariables false
namespace Go.Proofs.YtlpiiifmidehjaaDoorM
open Go Go.RowKit

/-- A byte that no path has. -/
def bb (b : UInt8) : Bool := decide (b.toNat < 32) || b.toNat == 127 || b.toNat == 92
/-- A part that may be. -/
def okPt (x : Txt) : Bool := !(x == []) && decide (x.length ≤ 255) && !(x == [46]) && !(x == [46, 46])
/-- A path that may be. -/
def okP (p : Txt) : Bool := decide (1 ≤ p.length ∧ p.length ≤ 1024) && (vld p && !p.any bb) && decide ((pts p).length ≤ 32) && (pts p).all okPt

theorem bb_hi {b : UInt8} (h : 128 ≤ b.toNat) : bb b = false := by
  simp only [bb, Bool.or_eq_false_iff, decide_eq_false_iff_not, beq_eq_false_iff_ne, ne_eq]; omega
theorem szU_hi (l : Txt) (h : 2 ≤ szU l) : ∀ x ∈ l.take (szU l), 128 ≤ x.toNat := by
  rcases l with _ | ⟨b0, r⟩
  · intro x hx; simp at hx
  by_cases r1 : b0.toNat < 128
  · rw [szU_ascii r1] at h; omega
  by_cases r2 : b0.toNat < 194
  · simp only [szU, if_neg r1, if_pos r2] at h; omega
  by_cases r3 : b0.toNat < 224
  · rcases r with _ | ⟨b1, r⟩
    · simp only [szU, if_neg r1, if_neg r2, if_pos r3] at h; omega
    · by_cases g : cont b1 = true
      · have e : szU (b0 :: b1 :: r) = 2 := by simp only [szU, if_neg r1, if_neg r2, if_pos r3, if_pos g]
        rw [e]; have := (cont_iff b1).1 g
        intro x hx
        simp only [List.take_succ_cons, List.take_zero, List.mem_cons, List.not_mem_nil, or_false] at hx
        rcases hx with rfl | rfl <;> omega
      · simp only [szU, if_neg r1, if_neg r2, if_pos r3, if_neg g] at h; omega
  by_cases r4 : b0.toNat < 240
  · rcases r with _ | ⟨b1, _ | ⟨b2, r⟩⟩
    · simp only [szU, if_neg r1, if_neg r2, if_neg r3, if_pos r4] at h; omega
    · simp only [szU, if_neg r1, if_neg r2, if_neg r3, if_pos r4] at h; omega
    · by_cases g : cont b1 = true ∧ cont b2 = true ∧ ¬ (b0.toNat = 224 ∧ b1.toNat < 160) ∧ ¬ (b0.toNat = 237 ∧ 160 ≤ b1.toNat)
      · have e : szU (b0 :: b1 :: b2 :: r) = 3 := by simp only [szU, if_neg r1, if_neg r2, if_neg r3, if_pos r4, if_pos g]
        rw [e]; have := (cont_iff b1).1 g.1; have := (cont_iff b2).1 g.2.1
        intro x hx
        simp only [List.take_succ_cons, List.take_zero, List.mem_cons, List.not_mem_nil, or_false] at hx
        rcases hx with rfl | rfl | rfl <;> omega
      · simp only [szU, if_neg r1, if_neg r2, if_neg r3, if_pos r4, if_neg g] at h; omega
  by_cases r5 : b0.toNat < 245
  · rcases r with _ | ⟨b1, _ | ⟨b2, _ | ⟨b3, r⟩⟩⟩
    · simp only [szU, if_neg r1, if_neg r2, if_neg r3, if_neg r4, if_pos r5] at h; omega
    · simp only [szU, if_neg r1, if_neg r2, if_neg r3, if_neg r4, if_pos r5] at h; omega
    · simp only [szU, if_neg r1, if_neg r2, if_neg r3, if_neg r4, if_pos r5] at h; omega
    · by_cases g : cont b1 = true ∧ cont b2 = true ∧ cont b3 = true ∧ ¬ (b0.toNat = 240 ∧ b1.toNat < 144) ∧ ¬ (b0.toNat = 244 ∧ 144 ≤ b1.toNat)
      · have e : szU (b0 :: b1 :: b2 :: b3 :: r) = 4 := by simp only [szU, if_neg r1, if_neg r2, if_neg r3, if_neg r4, if_pos r5, if_pos g]
        rw [e]; have := (cont_iff b1).1 g.1; have := (cont_iff b2).1 g.2.1; have := (cont_iff b3).1 g.2.2.1
        intro x hx
        simp only [List.take_succ_cons, List.take_zero, List.mem_cons, List.not_mem_nil, or_false] at hx
        rcases hx with rfl | rfl | rfl | rfl <;> omega
      · simp only [szU, if_neg r1, if_neg r2, if_neg r3, if_neg r4, if_pos r5, if_neg g] at h; omega
  · simp only [szU, if_neg r1, if_neg r2, if_neg r3, if_neg r4, if_neg r5] at h; omega
theorem any_skip {l : Txt} {n : Nat} (h : ∀ x ∈ l.take n, bb x = false) : l.any bb = (l.drop n).any bb := by
  conv => lhs; rw [← List.take_append_drop n l]
  rw [List.any_append]
  have : (l.take n).any bb = false := by rw [List.any_eq_false]; intro x hx; rw [h x hx]; decide
  rw [this, Bool.false_or]
theorem any_letter {s : Txt} {k : Nat} {b : UInt8} (hb : s[k]? = some b) (hbb : bb b = false) : (s.drop k).any bb = (s.drop (k + szU (s.drop k))).any bb := by
  rw [← List.drop_drop]
  apply any_skip
  have h := szU_le (s.drop k)
  by_cases h2 : 2 ≤ szU (s.drop k)
  · intro x hx; exact bb_hi (szU_hi _ h2 x hx)
  · intro x hx
    have hd : s.drop k = b :: s.drop (k + 1) := by
      have hk : k < s.length := by
        rcases Nat.lt_or_ge k s.length with h' | h'
        · exact h'
        · rw [List.getElem?_eq_none h'] at hb; cases hb
      rw [List.drop_eq_getElem_cons hk]
      rw [List.getElem?_eq_getElem hk] at hb
      rw [Option.some.inj hb]
    have : szU (s.drop k) = 0 ∨ szU (s.drop k) = 1 := by omega
    rcases this with e | e
    · rw [e] at hx; simp at hx
    · rw [e, hd] at hx
      simp only [List.take_succ_cons, List.take_zero, List.mem_cons, List.not_mem_nil, or_false] at hx
      rw [hx]; exact hbb
theorem at_of {s : Txt} {k : Nat} (h : k < s.length) : ∃ b, s[k]? = some b := ⟨s[k], List.getElem?_eq_getElem h⟩
theorem vld_ne {s : Txt} {k : Nat} (hk : k < s.length) (h : vld (s.drop k) = true) : szU (s.drop k) ≠ 0 := by
  intro e
  rw [vld_eq, if_pos e] at h
  rw [List.isEmpty_iff, List.drop_eq_nil_iff] at h
  omega
theorem vld_go {s : Txt} {k : Nat} (h : szU (s.drop k) ≠ 0) : vld (s.drop k) = vld (s.drop (k + szU (s.drop k))) := by
  rw [← List.drop_drop]; exact vld_step rfl h
theorem never_eq (c : Int) : F_route_never c = some (decide (c < 32) || c == 127 || c == 92, ()) := by
  unfold F_route_never
  cases decide (c < 32) <;> cases (c == 127) <;> rfl
theorem beqI (a n : Nat) : ((a : Int) == (n : Int)) = (a == n) := by
  by_cases h : a = n
  · subst h; rw [beq_self_eq_true, beq_self_eq_true]
  · rw [beq_eq_false_iff_ne.2 h, beq_eq_false_iff_ne]; omega
theorem never_byte (b : UInt8) : F_route_never (b.toNat : Int) = some (bb b, ()) := by
  rw [never_eq]
  have e1 : decide ((b.toNat : Int) < 32) = decide (b.toNat < 32) := by by_cases h : b.toNat < 32 <;> simp [h] <;> omega
  have e2 : ((b.toNat : Int) == 127) = (b.toNat == 127) := beqI b.toNat 127
  have e3 : ((b.toNat : Int) == 92) = (b.toNat == 92) := beqI b.toNat 92
  rw [e1, e2, e3]; rfl
theorem never_hi {c : Int} (h : 128 ≤ c) : F_route_never c = some (false, ()) := by
  rw [never_eq]
  have e1 : decide (c < 32) = false := decide_eq_false (by omega)
  have e2 : (c == 127) = false := by rw [beq_eq_false_iff_ne]; omega
  have e3 : (c == 92) = false := by rw [beq_eq_false_iff_ne]; omega
  rw [e1, e2, e3]; rfl

theorem containsNever_eq (s : Txt) (hs : s.length ≤ 100000) (hv : vld s = true) : F_strings_ContainsFunc__route_never s = some (s.any bb, ()) := by
  have key := iter_inv (step := fun v0 : Txt × Int × Unit => bif decide (v0.2.1 < (v0.1.length : Int)) then ((F_route_never (oDecR v0.1 v0.2.1)).bind fun v1 => bif v1.1 == true then (some (.inr (.inl v0.2))) else (some (.inl (v0.1, (oDecN v0.1 v0.2.1, ()))))) else (some (.inr (Sum.inr ()))))
    (fun st : Txt × Int × Unit => ∃ k : Nat, st = (s, (k : Int), ()) ∧ k ≤ s.length ∧ vld (s.drop k) = true ∧ (s.drop k).any bb = s.any bb) (fun st => s.length - st.2.1.toNat)
    (fun r : (Int × Unit) ⊕ Unit => match r with | .inl x => 0 ≤ x.1 ∧ s.any bb = true | .inr _ => s.any bb = false) (by
      rintro _ ⟨k, rfl, h1, h2, h3⟩
      by_cases hk : k < s.length
      · have c1 : decide ((k : Int) < (s.length : Int)) = true := decide_eq_true (by omega)
        have hz := vld_ne hk h2
        have hle := szU_le (s.drop k)
        rw [List.length_drop] at hle
        simp only [c1, cond_true, oDecR, oDecN, Int.toNat_natCast]
        rcases decode_eq s k with h0 | ⟨d1, ⟨d2, b, d3, d4, d5⟩ | ⟨d2, d3, b, d4, d5⟩⟩
        · exact absurd h0 hz
        · rw [d5, never_byte]
          cases hb : bb b with
          | true =>
            right
            refine ⟨.inl ((k : Int), ()), by simp, by simp, ?_⟩
            rw [← h3, List.any_eq_true]
            refine ⟨b, ?_, hb⟩
            have : (s.drop k)[0]? = some b := by rw [List.getElem?_drop]; exact d3
            exact List.mem_of_getElem? this
          | false =>
            left
            refine ⟨(s, (k : Int) + (Utf8.decode ⟨⟨s⟩⟩ k).2, ()), by simp, ⟨k + szU (s.drop k), ?_, by omega, ?_, ?_⟩, ?_⟩
            · rw [d1]; simp
            · rw [← vld_go hz]; exact h2
            · rw [← any_letter d3 hb]; exact h3
            · rw [d1]; simp only; omega
        · rw [never_hi (by omega)]
          left
          refine ⟨(s, (k : Int) + (Utf8.decode ⟨⟨s⟩⟩ k).2, ()), by simp, ⟨k + szU (s.drop k), ?_, by omega, ?_, ?_⟩, ?_⟩
          · rw [d1]; simp
          · rw [← vld_go hz]; exact h2
          · rw [← any_letter d4 (bb_hi (by omega))]; exact h3
          · rw [d1]; simp only; omega
      · right
        have c1 : decide ((k : Int) < (s.length : Int)) = false := decide_eq_false (by omega)
        refine ⟨.inr (), by simp only [c1, cond_false], ?_⟩
        rw [List.drop_of_length_le (by omega)] at h3
        rw [← h3]; rfl) NF (s, 0, ()) ⟨0, rfl, Nat.zero_le _, hv, rfl⟩ (by rw [NF_eq]; simp; omega)
  obtain ⟨r, e, q⟩ := key
  unfold F_strings_ContainsFunc__route_never F_strings_IndexFunc__route_never F_strings_indexFunc__route_never
  rw [e]
  rcases r with x | x
  · have : decide (x.1 ≥ 0) = true := decide_eq_true q.1
    simp only [Option.bind_some, sumK, this, q.2]
  · simp only at q
    simp only [Option.bind_some, sumK, q]; rfl

theorem part_eq (x : Txt) : F_route_part x = some (okPt x, ()) := by
  unfold F_route_part okPt
  have e : decide ((x.length : Int) ≤ 255) = decide (x.length ≤ 255) := by by_cases h : x.length ≤ 255 <;> simp [h] <;> omega
  rw [e]
  cases (x == []) <;> cases decide (x.length ≤ 255) <;> cases (x == [46]) <;> rfl
theorem check1_eq (x : Txt) : F_route_Check_1 x = some (!okPt x, ()) := by
  unfold F_route_Check_1; rw [part_eq]; rfl
theorem all_drop {α : Type} {f : α → Bool} {l : List α} {k : Nat} (hk : k < l.length) : (l.drop k).all f = (f l[k] && (l.drop (k + 1)).all f) := by
  rw [List.drop_eq_getElem_cons hk, List.all_cons]
theorem containsPart_eq (l : List Txt) (hl : l.length ≤ 900000) : F_slices_ContainsFunc_string_string__route_Check_1 l = some (!l.all okPt, ()) := by
  have key := iter_inv (step := fun v0 : Int × Unit => bif decide (v0.1 < (l.length : Int)) then ((idxL l v0.1).bind fun v1 => (F_route_Check_1 v1).bind fun v2 => bif v2.1 then (some (.inr (.inl v0))) else (some (.inl (IntKind.i64.wrap (v0.1 + 1), ())))) else (some (.inr (Sum.inr ()))))
    (fun st : Int × Unit => ∃ k : Nat, st = ((k : Int), ()) ∧ k ≤ l.length ∧ (l.drop k).all okPt = l.all okPt) (fun st => l.length - st.1.toNat)
    (fun r : (Int × Unit) ⊕ Unit => match r with | .inl x => 0 ≤ x.1 ∧ l.all okPt = false | .inr _ => l.all okPt = true) (by
      rintro _ ⟨k, rfl, h1, h3⟩
      by_cases hk : k < l.length
      · have c1 : decide ((k : Int) < (l.length : Int)) = true := decide_eq_true (by omega)
        simp only [c1, cond_true, idxL_nat hk, Option.bind_some, check1_eq]
        rw [all_drop hk] at h3
        cases hb : okPt l[k] with
        | false =>
          right
          exact ⟨.inl ((k : Int), ()), by simp, by simp, by rw [← h3, hb]; rfl⟩
        | true =>
          left
          rw [w64 (by omega) (by omega)]
          refine ⟨((k : Int) + 1, ()), by simp, ⟨k + 1, by simp, by omega, ?_⟩, by simp only; omega⟩
          rw [← h3, hb, Bool.true_and]
      · right
        have c1 : decide ((k : Int) < (l.length : Int)) = false := decide_eq_false (by omega)
        refine ⟨.inr (), by simp only [c1, cond_false], ?_⟩
        rw [List.drop_of_length_le (by omega)] at h3
        rw [← h3]; rfl) NF (0, ()) ⟨0, rfl, Nat.zero_le _, rfl⟩ (by rw [NF_eq]; simp; omega)
  obtain ⟨r, e, q⟩ := key
  unfold F_slices_ContainsFunc_string_string__route_Check_1 F_slices_IndexFunc_string_string__route_Check_1
  rw [e]
  rcases r with x | x
  · have : decide (x.1 ≥ 0) = true := decide_eq_true q.1
    simp only [Option.bind_some, sumK, this, q.2]; rfl
  · simp only at q
    simp only [Option.bind_some, sumK, q]; rfl

theorem check_eq (p : Txt) (hp : p.length ≤ 100000) : F_route_Check p = some (if okP p = true then 0 else 5, ()) := by
  unfold F_route_Check okP
  by_cases h0 : p = []
  · subst h0; rfl
  have c0 : (p == []) = false := by rw [beq_eq_false_iff_ne]; exact h0
  have l0 : 1 ≤ p.length := by rcases p with _ | _; exact absurd rfl h0; simp
  by_cases h1 : p.length ≤ 1024
  · have c1 : decide ((p.length : Int) > 1024) = false := decide_eq_false (by omega)
    have c2 : decide (1 ≤ p.length ∧ p.length ≤ 1024) = true := decide_eq_true ⟨l0, h1⟩
    simp only [c0, c1, c2, vF, vT, valid_eq p hp, vS, Bool.true_and]
    cases hv : vld p with
    | false => rfl
    | true =>
      simp only [Bool.not_true, vF, vT, containsNever_eq p hp hv, vS, Bool.true_and]
      cases hn : p.any bb with
      | true => rfl
      | false =>
        simp only [Bool.not_false, vF, vT, parts_eq p hp, vS, Bool.true_and]
        have hl := pts_len p
        by_cases h2 : (pts p).length ≤ 32
        · have c3 : decide (((pts p).length : Int) > 32) = false := decide_eq_false (by omega)
          have c4 : decide ((pts p).length ≤ 32) = true := decide_eq_true h2
          simp only [c3, c4, vF, containsPart_eq (pts p) (by omega), vS, Bool.true_and]
          cases (pts p).all okPt <;> rfl
        · have c3 : decide (((pts p).length : Int) > 32) = true := decide_eq_true (by omega)
          have c4 : decide ((pts p).length ≤ 32) = false := decide_eq_false h2
          simp only [c3, c4, vT, Bool.false_and]; rfl
  · have c1 : decide ((p.length : Int) > 1024) = true := decide_eq_true (by omega)
    have c2 : decide (1 ≤ p.length ∧ p.length ≤ 1024) = false := decide_eq_false (by omega)
    simp only [c0, c1, c2, vF, vT, Bool.false_and]; rfl

theorem right_eq (p : Txt) (hp : p.length ≤ 100000) : F_ref13_Right p = some (okP p, ()) := by
  unfold F_ref13_Right okP
  by_cases h0 : p.length < 1
  · have c0 : decide ((p.length : Int) < 1) = true := decide_eq_true (by omega)
    have c2 : decide (1 ≤ p.length ∧ p.length ≤ 1024) = false := decide_eq_false (by omega)
    simp only [c0, c2, vT, Bool.false_and]
  have c0 : decide ((p.length : Int) < 1) = false := decide_eq_false (by omega)
  by_cases h1 : p.length ≤ 1024
  · have c1 : decide ((p.length : Int) > 1024) = false := decide_eq_false (by omega)
    have c2 : decide (1 ≤ p.length ∧ p.length ≤ 1024) = true := decide_eq_true (by omega)
    have lp1 : iter (fun v0 : Int × Unit => bif decide (v0.1 < (p.length : Int)) then ((F_ref13_Next p v0.1).bind fun v1 => bif v1.2.1 == 0 then (some (.inr (.inl ()))) else ((idxS p v0.1).bind fun v2 => bif decide (v2 < 32) then (some (.inr (.inl ()))) else ((idxS p v0.1).bind fun v3 => bif v3 == 127 then (some (.inr (.inl ()))) else ((idxS p v0.1).bind fun v4 => bif v4 == 92 then (some (.inr (.inl ()))) else (some (.inl (IntKind.i64.wrap (v0.1 + v1.2.1), ()))))))) else (some (.inr (Sum.inr ())))) NF (0, ()) = some (if (vld p && !p.any bb) = true then Sum.inr () else Sum.inl ()) := by
      refine iter_eq (fun st : Int × Unit => ∃ k : Nat, st = ((k : Int), ()) ∧ k ≤ p.length ∧ (vld (p.drop k) && !(p.drop k).any bb) = (vld p && !p.any bb)) (fun st => p.length - st.1.toNat) (fun _ => if (vld p && !p.any bb) = true then Sum.inr () else Sum.inl ()) ?_ NF (0, ()) ⟨0, rfl, Nat.zero_le _, rfl⟩ (by rw [NF_eq]; simp; omega)
      rintro _ ⟨k, rfl, g1, g2⟩
      by_cases hk : k < p.length
      · have d1 : decide ((k : Int) < (p.length : Int)) = true := decide_eq_true (by omega)
        obtain ⟨c, hc⟩ := next_eq p (by omega) k hk
        obtain ⟨b, hb⟩ := at_of hk
        have hle := szU_le (p.drop k)
        rw [List.length_drop] at hle
        simp only [d1, vT, hc, vS, idx_k hb]
        by_cases hz : szU (p.drop k) = 0
        · right
          have e0 : vld (p.drop k) = false := by
            rw [vld_eq, if_pos hz]
            cases hd : p.drop k with
            | nil => rw [List.drop_eq_nil_iff] at hd; omega
            | cons => rfl
          rw [hz, ← g2, e0]; rfl
        have z1 : ((szU (p.drop k) : Int) == 0) = false := by rw [beq_eq_false_iff_ne]; omega
        have e1 : decide ((b.toNat : Int) < 32) = decide (b.toNat < 32) := by by_cases h : b.toNat < 32 <;> simp [h] <;> omega
        have e2 : ((b.toNat : Int) == 127) = (b.toNat == 127) := beqI b.toNat 127
        have e3 : ((b.toNat : Int) == 92) = (b.toNat == 92) := beqI b.toNat 92
        have bad : bb b = true → (vld p && !p.any bb) = false := fun h => by
          rw [← g2]
          have : (p.drop k).any bb = true := by
            rw [List.any_eq_true]
            have h0 : (p.drop k)[0]? = some b := by rw [List.getElem?_drop]; exact hb
            exact ⟨b, List.mem_of_getElem? h0, h⟩
          rw [this, Bool.not_true, Bool.and_false]
        simp only [z1, vF, e1, e2, e3]
        cases q1 : decide (b.toNat < 32) with
        | true => right; rw [bad (by simp only [bb, q1, Bool.true_or])]; rfl
        | false =>
          cases q2 : (b.toNat == 127) with
          | true => right; rw [bad (by simp only [bb, q2, Bool.true_or, Bool.or_true])]; rfl
          | false =>
            cases q3 : (b.toNat == 92) with
            | true => right; rw [bad (by simp only [bb, q3, Bool.or_true])]; rfl
            | false =>
              left
              have hbb : bb b = false := by simp only [bb, q1, q2, q3, Bool.or_false]
              rw [w64 (by omega) (by omega)]
              refine ⟨((k : Int) + (szU (p.drop k) : Int), ()), by simp only [vF], ⟨k + szU (p.drop k), by simp, by omega, ?_⟩, by simp only; omega, trivial⟩
              rw [← any_letter hb hbb, ← vld_go hz]; exact g2
      · right
        have d1 : decide ((k : Int) < (p.length : Int)) = false := decide_eq_false (by omega)
        rw [List.drop_of_length_le (by omega)] at g2
        have : (vld p && !p.any bb) = true := by rw [← g2, vld_eq]; decide
        simp only [d1, vF, this, if_true]
    have lp2 : ∀ l : List Txt, l.length ≤ 900000 → iter (fun v9 : Int × List Txt × Unit => bif decide (v9.1 < (v9.2.1.length : Int)) then ((idxL v9.2.1 v9.1).bind fun v10 => (idxL v9.2.1 v9.1).bind fun v11 => bif v11 == ([] : (List UInt8)) then (some (.inr (.inl ()))) else ((idxL v9.2.1 v9.1).bind fun v12 => (idxL v9.2.1 v9.1).bind fun v13 => bif decide ((v13.length : Int) > 255) then (some (.inr (.inl ()))) else ((idxL v9.2.1 v9.1).bind fun v14 => (idxL v9.2.1 v9.1).bind fun v15 => bif v15 == [46] then (some (.inr (.inl ()))) else ((idxL v9.2.1 v9.1).bind fun v16 => (idxL v9.2.1 v9.1).bind fun v17 => bif v17 == [46, 46] then (some (.inr (.inl ()))) else (some (.inl (IntKind.i64.wrap (v9.1 + 1), v9.2))))))) else (some (.inr (Sum.inr ())))) NF (0, l, ()) = some (if l.all okPt = true then Sum.inr () else Sum.inl ()) := by
      intro l hl
      refine iter_eq (fun st : Int × List Txt × Unit => ∃ k : Nat, st = ((k : Int), l, ()) ∧ k ≤ l.length ∧ (l.drop k).all okPt = l.all okPt) (fun st => l.length - st.1.toNat) (fun _ => if l.all okPt = true then Sum.inr () else Sum.inl ()) ?_ NF (0, l, ()) ⟨0, rfl, Nat.zero_le _, rfl⟩ (by rw [NF_eq]; simp; omega)
      rintro _ ⟨k, rfl, g1, g2⟩
      by_cases hk : k < l.length
      · have d1 : decide ((k : Int) < (l.length : Int)) = true := decide_eq_true (by omega)
        simp only [d1, vT, idxL_nat hk, vS]
        rw [all_drop hk] at g2
        have bad : okPt l[k] = false → l.all okPt = false := fun h => by rw [← g2, h, Bool.false_and]
        have e : decide ((l[k].length : Int) > 255) = !decide (l[k].length ≤ 255) := by by_cases h : l[k].length ≤ 255 <;> simp [h] <;> omega
        rw [e]
        cases q1 : (l[k] == []) with
        | true => right; rw [bad (by simp only [okPt, q1, Bool.not_true, Bool.false_and])]; rfl
        | false =>
          cases q2 : decide (l[k].length ≤ 255) with
          | false => right; rw [bad (by simp only [okPt, q2, Bool.false_and, Bool.and_false])]; rfl
          | true =>
            cases q3 : (l[k] == [46]) with
            | true => right; rw [bad (by simp only [okPt, q3, Bool.not_true, Bool.false_and, Bool.and_false])]; rfl
            | false =>
              cases q4 : (l[k] == [46, 46]) with
              | true => right; rw [bad (by simp only [okPt, q4, Bool.not_true, Bool.and_false])]; rfl
              | false =>
                left
                have hok : okPt l[k] = true := by simp only [okPt, q1, q2, q3, q4, Bool.not_false, Bool.true_and]
                rw [w64 (by omega) (by omega)]
                refine ⟨((k : Int) + 1, l, ()), by simp only [vF, Bool.not_true], ⟨k + 1, by simp, by omega, ?_⟩, by simp only; omega, trivial⟩
                rw [← g2, hok, Bool.true_and]
      · right
        have d1 : decide ((k : Int) < (l.length : Int)) = false := decide_eq_false (by omega)
        rw [List.drop_of_length_le (by omega)] at g2
        have : l.all okPt = true := by rw [← g2]; rfl
        simp only [d1, vF, this, if_true]
    simp only [c0, c1, c2, vF, lp1, vS, Bool.true_and]
    cases hv : (vld p && !p.any bb) with
    | false => rfl
    | true =>
      have hl := pts_len p
      simp only [if_true, sumK, refParts_eq p hp, vS, Bool.true_and]
      by_cases h2 : (pts p).length ≤ 32
      · have c3 : decide (((pts p).length : Int) > 32) = false := decide_eq_false (by omega)
        have c4 : decide ((pts p).length ≤ 32) = true := decide_eq_true h2
        simp only [c3, c4, vF, lp2 (pts p) (by omega), vS, Bool.true_and]
        cases (pts p).all okPt <;> rfl
      · have c3 : decide (((pts p).length : Int) > 32) = true := decide_eq_true (by omega)
        have c4 : decide ((pts p).length ≤ 32) = false := decide_eq_false h2
        simp only [c3, c4, vT, Bool.false_and]
  · have c1 : decide ((p.length : Int) > 1024) = true := decide_eq_true (by omega)
    have c2 : decide (1 ≤ p.length ∧ p.length ≤ 1024) = false := decide_eq_false (by omega)
    simp only [c0, c1, c2, vF, vT, Bool.false_and]
end Go.Proofs.YtlpiiifmidehjaaDoorM
