/- The path of a name; law RouteNames. -/
import Derived.Test.YtlpiiifmidehjaaDoorP13g
set_option linter.unusedSimpArgs false
set_option linter.unusedVariables false
namespace Go.Proofs.YtlpiiifmidehjaaDoorM
open Go Go.RowKit

/-- A part of a name that counts. -/
def kp (x : Txt) : Bool := !(x == [] || x == [46])
def nrm (s : Txt) : Txt := jn ((pts s).filter kp)
def ends (s : Txt) : Bool := s.drop (s.length - 1) == [47]
def normR (s : Txt) : Txt × Bool × Int × Unit := if (!([47] : Txt).isPrefixOf s && okP (nrm s)) = true then (nrm s, ends s, 0, ()) else ([], false, 5, ())

theorem normal1_eq (x : Txt) : F_route_Normal_1 x = some (!kp x, ()) := by
  unfold F_route_Normal_1 kp
  cases (x == []) <;> cases (x == [46]) <;> rfl

theorem indexN_eq (l : List Txt) (hl : l.length ≤ 900000) : ∃ k : Int, F_slices_IndexFunc_string_string__route_Normal_1 l = some (k, l, ()) ∧
    ((k = -1 ∧ l.filter kp = l) ∨ ∃ n : Nat, k = n ∧ n < l.length ∧ (l.take n).filter kp = l.take n ∧ ∃ x, l[n]? = some x ∧ kp x = false) := by
  have key := iter_inv (step := fun v0 : Int × List Txt × Unit => bif decide (v0.1 < (l.length : Int)) then ((idxL v0.2.1 v0.1).bind fun v1 => (idxL v0.2.1 v0.1).bind fun v2 => (F_route_Normal_1 v2).bind fun v3 => bif v3.1 then (some (.inr (.inl v0))) else (some (.inl (IntKind.i64.wrap (v0.1 + 1), v0.2)))) else (some (.inr (Sum.inr v0.2))))
    (fun st : Int × List Txt × Unit => ∃ k : Nat, st = ((k : Int), l, ()) ∧ k ≤ l.length ∧ (l.take k).filter kp = l.take k) (fun st => l.length - st.1.toNat)
    (fun r : (Int × List Txt × Unit) ⊕ (List Txt × Unit) => match r with
      | .inl x => ∃ n : Nat, x = ((n : Int), l, ()) ∧ n < l.length ∧ (l.take n).filter kp = l.take n ∧ ∃ y, l[n]? = some y ∧ kp y = false
      | .inr x => x = (l, ()) ∧ l.filter kp = l) (by
      rintro _ ⟨k, rfl, h1, h3⟩
      by_cases hk : k < l.length
      · have c1 : decide ((k : Int) < (l.length : Int)) = true := decide_eq_true (by omega)
        simp only [c1, vT, idxL_nat hk, vS, normal1_eq]
        cases hb : kp l[k] with
        | false =>
          right
          exact ⟨.inl ((k : Int), l, ()), by simp, k, rfl, hk, h3, l[k], List.getElem?_eq_getElem hk, hb⟩
        | true =>
          left
          rw [w64 (by omega) (by omega)]
          refine ⟨((k : Int) + 1, l, ()), by simp, ⟨k + 1, by simp, by omega, ?_⟩, by simp only; omega⟩
          rw [List.take_succ_eq_append_getElem hk, List.filter_append, h3]
          simp [hb]
      · right
        have c1 : decide ((k : Int) < (l.length : Int)) = false := decide_eq_false (by omega)
        refine ⟨.inr (l, ()), by simp only [c1, vF], rfl, ?_⟩
        rw [List.take_of_length_le (by omega)] at h3
        exact h3) NF (0, l, ()) ⟨0, rfl, Nat.zero_le _, rfl⟩ (by rw [NF_eq]; simp; omega)
  obtain ⟨r, e, q⟩ := key
  unfold F_slices_IndexFunc_string_string__route_Normal_1
  rw [e]
  rcases r with x | x
  · obtain ⟨n, rfl, q⟩ := q
    exact ⟨n, rfl, .inr ⟨n, rfl, q⟩⟩
  · obtain ⟨rfl, q⟩ := q
    exact ⟨-1, rfl, .inl ⟨rfl, q⟩⟩

theorem deleteN_eq (l : List Txt) (hl : l.length ≤ 900000) : ∃ (m : Nat) (w : List Txt), F_slices_DeleteFunc_string_string__route_Normal_1 l = some (0, (m : Int), w, ()) ∧ w.take m = l.filter kp := by
  obtain ⟨k, e, hk⟩ := indexN_eq l hl
  unfold F_slices_DeleteFunc_string_string__route_Normal_1
  simp only [e, vS]
  rcases hk with ⟨rfl, hk⟩ | ⟨n, rfl, hn, h1, y, hy, h2⟩
  · exact ⟨l.length, l, rfl, by rw [List.take_length, hk]⟩
  have c0 : ((n : Int) == -1) = false := by rw [beq_eq_false_iff_ne]; omega
  have hyn : l[n] = y := by rw [List.getElem?_eq_getElem hn] at hy; exact Option.some.inj hy
  simp only [c0, vF, w64 (x := (n : Int) + 1) (by omega) (by omega)]
  have key := iter_inv (step := fun v1 : Int × Int × List Txt × Unit => bif decide (v1.2.1 < (v1.2.2.1.length : Int)) then (((idxL v1.2.2.1 v1.2.1).bind fun v2 => (idxL v1.2.2.1 v1.2.1).bind fun v3 => (F_route_Normal_1 v3).bind fun v4 => bif !v4.1 then ((idxL v1.2.2.1 v1.1).bind fun v5 => (idxL v1.2.2.1 v1.1).bind fun v6 => some (IntKind.i64.wrap (v1.1 + 1), (oSet v1.2.2.1 v1.1 v3, ()))) else (some (v1.1, v1.2.2))).bind fun v7 => some (.inl (v7.1, (IntKind.i64.wrap (v1.2.1 + 1), v7.2)))) else (some (Sum.inr (v1.1, v1.2.2))))
    (fun st : Int × Int × List Txt × Unit => ∃ (i j : Nat) (w : List Txt), st = ((i : Int), (j : Int), w, ()) ∧ i < j ∧ j ≤ l.length ∧ w.length = l.length ∧ w.take i = (l.take j).filter kp ∧ w.drop j = l.drop j) (fun st => l.length - st.2.1.toNat)
    (fun r : Int × List Txt × Unit => ∃ (i : Nat) (w : List Txt), r = ((i : Int), w, ()) ∧ i ≤ l.length ∧ w.length = l.length ∧ w.take i = l.filter kp) (by
      rintro _ ⟨i, j, w, rfl, h1, h2, h3, h4, h5⟩
      by_cases hj : j < l.length
      · have c1 : decide ((j : Int) < (w.length : Int)) = true := decide_eq_true (by omega)
        have hjw : j < w.length := by omega
        have hiw : i < w.length := by omega
        have hwj : w[j] = l[j] := by
          have a1 := List.drop_eq_getElem_cons hjw
          have a2 := List.drop_eq_getElem_cons hj
          rw [h5, a2] at a1
          exact (List.cons.inj a1).1.symm
        have hdr : w.drop (j + 1) = l.drop (j + 1) := by
          rw [← List.drop_drop, ← List.drop_drop, h5]
        have htk : (l.take (j + 1)).filter kp = (l.take j).filter kp ++ (if kp l[j] = true then [l[j]] else []) := by
          rw [List.take_succ_eq_append_getElem hj, List.filter_append]
          cases hb : kp l[j] <;> simp [hb]
        left
        simp only [c1, vT, idxL_nat hjw, idxL_nat hiw, vS, normal1_eq, Bool.not_not, w64 (x := (i : Int) + 1) (by omega) (by omega), w64 (x := (j : Int) + 1) (by omega) (by omega), hwj]
        cases hb : kp l[j] with
        | true =>
          refine ⟨((i : Int) + 1, (j : Int) + 1, oSet w i l[j], ()), by simp only [vT, vS], ⟨i + 1, j + 1, _, rfl, by omega, by omega, by simp [oSet, h3], ?_, ?_⟩, by simp only; omega⟩
          · rw [htk, hb, if_pos rfl, ← h4]
            simp only [oSet, Int.toNat_natCast]
            rw [List.take_succ_eq_append_getElem (by simp; omega), List.take_set_of_le (Nat.le_refl _)]
            simp
          · simp only [oSet, Int.toNat_natCast]
            rw [List.drop_set_of_lt (by omega), hdr]
        | false =>
          refine ⟨((i : Int), (j : Int) + 1, w, ()), by simp only [vF, vS], ⟨i, j + 1, w, rfl, by omega, by omega, h3, ?_, hdr⟩, by simp only; omega⟩
          rw [htk, hb, h4]; simp
      · right
        have c1 : decide ((j : Int) < (w.length : Int)) = false := decide_eq_false (by omega)
        refine ⟨((i : Int), w, ()), by simp only [c1, vF], i, w, rfl, by omega, h3, ?_⟩
        rw [h4, List.take_of_length_le (by omega)]) NF ((n : Int), (n : Int) + 1, l, ()) ⟨n, n + 1, l, rfl, by omega, by omega, rfl, by
          rw [List.take_succ_eq_append_getElem hn, List.filter_append, h1, hyn]; simp [h2], rfl⟩ (by rw [NF_eq]; simp; omega)
  obtain ⟨_, e2, i, w, rfl, g1, g2, g3⟩ := key
  rw [e2]
  simp only [vS]
  have k1 : chkSub (w.length : Int) (i : Int) (w.length : Int) = some () := chkSub_nat (by omega) (Nat.le_refl _)
  have hcl : (oClr w (i : Int) (w.length : Int) ([] : Txt)) = w.take i ++ List.replicate (w.length - i) [] := by
    simp [oClr]
  have k2 : chkSub ((oClr w (i : Int) (w.length : Int) ([] : Txt)).length : Int) 0 (i : Int) = some () := by
    rw [hcl]; exact chkSub_nat (a := 0) (Nat.zero_le _) (by simp; omega)
  simp only [k1, k2, vS]
  refine ⟨i, _, rfl, ?_⟩
  rw [hcl, List.take_append_of_le_length (by simp; omega), List.take_take, Nat.min_self, g3]

/-! ### Joining -/
def tot (l : List Txt) : Nat := (l.map fun x => x.length + 1).sum
theorem jn_tot : ∀ l : List Txt, (jn l).length ≤ tot l
  | [] => Nat.le_refl _
  | [x] => by rw [jn_one]; simp [tot]
  | x :: y :: r => by
    have := jn_tot (y :: r)
    rw [jn_two]
    simp only [tot, List.map_cons, List.sum_cons, List.length_append, List.length_cons] at this ⊢
    omega
theorem tot_filter (f : Txt → Bool) : ∀ l : List Txt, tot (l.filter f) ≤ tot l
  | [] => Nat.le_refl _
  | x :: r => by
    have := tot_filter f r
    by_cases h : f x = true
    · rw [List.filter_cons_of_pos h]; simp only [tot, List.map_cons, List.sum_cons] at this ⊢; omega
    · rw [List.filter_cons_of_neg h]; simp only [tot, List.map_cons, List.sum_cons] at this ⊢; omega
theorem tot_sp : ∀ s : Txt, tot (sp s) = s.length + 1
  | [] => rfl
  | c :: r => by
    have ih := tot_sp r
    obtain ⟨h, t, e⟩ := sp_cons r
    unfold sp
    by_cases hc : c = 47
    · rw [if_pos hc]; simp only [tot, List.map_cons, List.sum_cons, List.length_nil, List.length_cons] at ih ⊢; omega
    · rw [if_neg hc, e]; rw [e] at ih; simp only [tot, List.map_cons, List.sum_cons, List.length_cons] at ih ⊢; omega
theorem tot_pts (s : Txt) : tot (pts s) ≤ s.length + 1 := by
  unfold pts; split
  · simp [tot]
  · rw [tot_sp]; exact Nat.le_refl _
theorem tot_take (l : List Txt) (k : Nat) : tot (l.take k) ≤ tot l := by
  have : tot l = tot (l.take k) + tot (l.drop k) := by
    conv => lhs; rw [← List.take_append_drop k l]
    unfold tot; rw [List.map_append, List.sum_append]
  omega
theorem tot_len (l : List Txt) : l.length ≤ tot l := by
  induction l with
  | nil => exact Nat.le_refl _
  | cons x r ih => simp only [tot, List.map_cons, List.sum_cons, List.length_cons] at ih ⊢; omega
theorem nrm_len (s : Txt) : (nrm s).length ≤ s.length + 1 := Nat.le_trans (jn_tot _) (Nat.le_trans (tot_filter _ _) (tot_pts _))

theorem sjoin_eq (l : List Txt) (h : tot l ≤ 1000000) : F_strings_Join l [47] = some (jn l, ()) := by
  have := jn_tot l; have := tot_len l
  unfold F_strings_Join
  rw [if_pos ⟨by omega, by show (jn l).length ≤ 1000000; omega⟩]; rfl
theorem joined_eq (l : List Txt) (hl : tot l ≤ 900000) : F_ref13_Joined l = some (jn l, ()) := by
  have hll := tot_len l
  unfold F_ref13_Joined
  have key := iter_inv (step := fun v0 : Txt × Int × Unit => bif decide (v0.2.1 < (l.length : Int)) then ((bif decide (v0.2.1 > 0) then ((cat v0.1 ([47] : List UInt8)).bind fun v1 => some (v1, ())) else (some (v0.1, ()))).bind fun v2 => (idxL l v0.2.1).bind fun v3 => (cat v2.1 v3).bind fun v4 => some (.inl (v4, (IntKind.i64.wrap (v0.2.1 + 1), ())))) else (some (Sum.inr (v0.1, ()))))
    (fun st : Txt × Int × Unit => ∃ k : Nat, st = (jn (l.take k), (k : Int), ()) ∧ k ≤ l.length) (fun st => l.length - st.2.1.toNat)
    (fun r : Txt × Unit => r = (jn l, ())) (by
      rintro _ ⟨k, rfl, h1⟩
      by_cases hk : k < l.length
      · left
        have c1 : decide ((k : Int) < (l.length : Int)) = true := decide_eq_true (by omega)
        have b1 := Nat.le_trans (jn_tot (l.take k)) (tot_take l k)
        have b2 : l[k].length ≤ tot l := by
          have := tot_take l (k + 1)
          rw [List.take_succ_eq_append_getElem hk] at this
          simp only [tot, List.map_append, List.sum_append, List.map_cons, List.sum_cons, List.map_nil, List.sum_nil] at this ⊢
          omega
        simp only [c1, vT, idxL_nat hk, vS, w64 (x := (k : Int) + 1) (by omega) (by omega)]
        by_cases h0 : k = 0
        · subst h0
          have c2 : decide (((0 : Nat) : Int) > 0) = false := rfl
          simp only [c2, vF, vS, List.take_zero, jn_nil, cat_eq [] l[0] (by simp; omega), List.nil_append]
          refine ⟨_, rfl, ⟨1, ?_, by omega⟩, by simp only; omega⟩
          rw [List.take_succ_eq_append_getElem hk]; simp [jn_one]
        · have c2 : decide ((k : Int) > 0) = true := decide_eq_true (by omega)
          simp only [c2, vT, vS, cat_eq (jn (l.take k)) [47] (by simp; omega), cat_eq (jn (l.take k) ++ [47]) l[k] (by simp; omega)]
          refine ⟨_, rfl, ⟨k + 1, ?_, by omega⟩, by simp only; omega⟩
          rw [List.take_succ_eq_append_getElem hk, jn_app _ _ (by intro h; rw [List.take_eq_nil_iff] at h; rcases h with h | h; exact h0 h; subst h; simp at hk) (by simp), jn_one]
          simp
      · right
        have c1 : decide ((k : Int) < (l.length : Int)) = false := decide_eq_false (by omega)
        refine ⟨(jn (l.take k), ()), by simp only [c1, vF], ?_⟩
        rw [List.take_of_length_le (by omega)]) NF ([], 0, ()) ⟨0, rfl, Nat.zero_le _⟩ (by rw [NF_eq]; simp; omega)
  obtain ⟨_, e, rfl⟩ := key
  rw [e]; rfl

/-! ### The path of a name -/
theorem suffix_eq (s : Txt) (hs : s.length ≤ 100000) : F_strings_HasSuffix s [47] = some (ends s, ()) := by
  unfold F_strings_HasSuffix F_internal_stringslite_HasSuffix ends
  rcases s with _ | ⟨c, r⟩
  · rfl
  have c1 : decide (((c :: r).length : Int) ≥ (([47] : Txt).length : Int)) = true := decide_eq_true (by simp; omega)
  have e : ((c :: r).length : Int) - (([47] : Txt).length : Int) = (((c :: r).length - 1 : Nat) : Int) := by simp
  rw [e, w64 (by omega) (by omega)]
  simp only [c1, vT, sub0 (s := c :: r) (k := (c :: r).length - 1) (by omega), vS]
theorem starts_eq (c : UInt8) (r : Txt) : ([47] : Txt).isPrefixOf (c :: r) = (c == 47) := by
  simp [List.isPrefixOf]; exact Bool.beq_comm
theorem last_eq (c : UInt8) (r : Txt) : ∃ b, (c :: r)[r.length]? = some b ∧ ends (c :: r) = ((b.toNat : Int) == 47) := by
  have h : r.length < (c :: r).length := by simp
  refine ⟨(c :: r)[r.length], List.getElem?_eq_getElem h, ?_⟩
  unfold ends
  have e : (c :: r).length - 1 = r.length := by simp
  rw [e, List.drop_eq_getElem_cons h, List.drop_of_length_le (by simp)]
  rw [show ((((c :: r)[r.length]).toNat : Int) == 47) = ((c :: r)[r.length] == 47) from byte_eq (n := 47) (by omega)]
  simp

theorem normal_eq (s : Txt) (hs : s.length ≤ 90000) : F_route_Normal s = some (normR s) := by
  unfold F_route_Normal normR
  simp only [hasPrefix_eq s [47] (by omega) (by simp), vS]
  cases hp : ([47] : Txt).isPrefixOf s with
  | true => rfl
  | false =>
    have hl := pts_len s
    have h1 := tot_filter kp (pts s); have h2 := tot_pts s
    obtain ⟨m, w, e, hw⟩ := deleteN_eq (pts s) (by omega)
    have e2 : oTD w (0 : Int) (m : Int) = (pts s).filter kp := by rw [← hw]; simp [oTD]
    simp only [vF, parts_eq s (by omega), vS, e, e2, sjoin_eq _ (by omega : tot ((pts s).filter kp) ≤ 1000000)]
    have hn := nrm_len s
    have e3 : jn ((pts s).filter kp) = nrm s := rfl
    rw [e3, check_eq _ (by omega)]
    cases hk : okP (nrm s) with
    | false => rfl
    | true =>
      simp only [vS, if_true, Bool.not_false, Bool.true_and, suffix_eq s (by omega)]
      rfl

theorem refNormal_eq (s : Txt) (hs : s.length ≤ 90000) : F_ref13_Normal s = some (normR s) := by
  unfold F_ref13_Normal normR
  rcases s with _ | ⟨c, r⟩
  · have : (!([47] : Txt).isPrefixOf [] && okP (nrm [])) = false := by
      have : nrm [] = [] := rfl
      rw [this]; rfl
    rw [this]; rfl
  have c0 : ((c :: r) == ([] : Txt)) = false := rfl
  have i0 : idxS (c :: r) 0 = some (c.toNat : Int) := idx_k (k := 0) rfl
  have b0 : ((c.toNat : Int) == 47) = (c == 47) := byte_eq (n := 47) (by omega)
  simp only [c0, vF, i0, vS, b0, starts_eq]
  cases hp : (c == 47) with
  | true => rfl
  | false =>
    generalize hs' : c :: r = s at *
    have hl := pts_len s
    have h1 := tot_filter kp (pts s); have h2 := tot_pts s
    have key := iter_inv (step := fun v2 : Int × List Txt × List Txt × Unit => bif decide (v2.1 < (v2.2.1.length : Int)) then (((idxL v2.2.1 v2.1).bind fun v3 => (idxL v2.2.1 v2.1).bind fun v4 => bif !(v4 == ([] : (List UInt8))) then ((idxL v2.2.1 v2.1).bind fun v5 => (idxL v2.2.1 v2.1).bind fun v6 => bif !(v6 == [46]) then ((idxL v2.2.1 v2.1).bind fun v7 => (idxL v2.2.1 v2.1).bind fun v8 => (app v2.2.2.1 [v8]).bind fun v9 => some (v2.2.1, (v9, ()))) else (some v2.2)) else (some v2.2)).bind fun v10 => some (.inl (IntKind.i64.wrap (v2.1 + 1), v10))) else (some (Sum.inr v2.2.2)))
      (fun st : Int × List Txt × List Txt × Unit => ∃ k : Nat, st = ((k : Int), pts s, ((pts s).take k).filter kp, ()) ∧ k ≤ (pts s).length) (fun st => (pts s).length - st.1.toNat)
      (fun r : List Txt × Unit => r = ((pts s).filter kp, ())) (by
        rintro _ ⟨k, rfl, g1⟩
        by_cases hk : k < (pts s).length
        · left
          have c1 : decide ((k : Int) < ((pts s).length : Int)) = true := decide_eq_true (by omega)
          have htk : ((pts s).take (k + 1)).filter kp = ((pts s).take k).filter kp ++ (if kp (pts s)[k] = true then [(pts s)[k]] else []) := by
            rw [List.take_succ_eq_append_getElem hk, List.filter_append]
            cases hb : kp (pts s)[k] <;> simp [hb]
          simp only [c1, vT, idxL_nat hk, vS, w64 (x := (k : Int) + 1) (by omega) (by omega)]
          have hap : app (((pts s).take k).filter kp) [(pts s)[k]] = some (((pts s).take k).filter kp ++ [(pts s)[k]]) := by
            apply app_of
            have := List.length_filter_le kp ((pts s).take k)
            simp at this ⊢; omega
          cases q1 : ((pts s)[k] == []) with
          | true =>
            have hb : kp (pts s)[k] = false := by simp only [kp, q1, Bool.true_or, Bool.not_true]
            rw [hb] at htk
            exact ⟨_, rfl, ⟨k + 1, by rw [htk]; simp, by omega⟩, by simp only; omega⟩
          | false =>
            cases q2 : ((pts s)[k] == [46]) with
            | true =>
              have hb : kp (pts s)[k] = false := by simp only [kp, q2, Bool.or_true, Bool.not_true]
              rw [hb] at htk
              exact ⟨_, rfl, ⟨k + 1, by rw [htk]; simp, by omega⟩, by simp only; omega⟩
            | false =>
              have hb : kp (pts s)[k] = true := by simp only [kp, q1, q2, Bool.or_false, Bool.not_false]
              rw [hb, if_pos rfl] at htk
              simp only [Bool.not_false, vT, hap, vS]
              exact ⟨_, rfl, ⟨k + 1, by rw [htk]; simp, by omega⟩, by simp only; omega⟩
        · right
          have c1 : decide ((k : Int) < ((pts s).length : Int)) = false := decide_eq_false (by omega)
          refine ⟨(((pts s).take k).filter kp, ()), by simp only [c1, vF], ?_⟩
          rw [List.take_of_length_le (by omega)]) NF (0, pts s, [], ()) ⟨0, rfl, Nat.zero_le _⟩ (by rw [NF_eq]; simp; omega)
    obtain ⟨_, e, rfl⟩ := key
    have hn := nrm_len s
    have e3 : jn ((pts s).filter kp) = nrm s := rfl
    simp only [vF, refParts_eq s (by omega), vS, e, joined_eq _ (by omega : tot ((pts s).filter kp) ≤ 900000), e3, right_eq _ (by omega : (nrm s).length ≤ 100000), Bool.not_false, Bool.true_and]
    cases hk : okP (nrm s) with
    | false => rfl
    | true =>
      obtain ⟨b, hb1, hb2⟩ := last_eq c r
      have e4 : ((s.length : Int) - 1) = (r.length : Int) := by rw [← hs']; simp
      rw [hs'] at hb1 hb2
      have hr : r.length ≤ 90000 := by rw [← hs'] at hs; simp at hs; omega
      simp only [Bool.not_true, vF, e4, w64 (x := (r.length : Int)) (by omega) (by omega), idx_k hb1, vS, if_true, hb2]

/-! ### What comes of a path that may be -/
theorem okP_parts {p : Txt} (h : okP p = true) : p ≠ [] ∧ p.length ≤ 1024 ∧ ∀ x ∈ pts p, okPt x = true := by
  simp only [okP, Bool.and_eq_true, decide_eq_true_eq, List.all_eq_true] at h
  refine ⟨?_, h.1.1.1.2, h.2⟩
  rintro rfl
  have := h.1.1.1.1; simp at this
theorem kp_of {x : Txt} (h : okPt x = true) : kp x = true := by
  simp only [okPt, Bool.and_eq_true] at h
  simp only [kp, Bool.not_or, Bool.and_eq_true]
  exact ⟨h.1.1.1, h.1.2⟩
theorem filter_ok {p : Txt} (h : okP p = true) : (sp p).filter kp = sp p := by
  obtain ⟨h0, _, h⟩ := okP_parts h
  rw [pts, if_neg h0] at h
  rw [List.filter_eq_self]
  exact fun x hx => kp_of (h x hx)
theorem nrm_ok {p : Txt} (h : okP p = true) : nrm p = p := by
  have h0 := (okP_parts h).1
  unfold nrm
  rw [pts, if_neg h0, filter_ok h, jn_sp]
theorem nrm_slash {p : Txt} (h : okP p = true) : nrm (p ++ [47]) = p := by
  unfold nrm
  have h0 := (okP_parts h).1
  rw [pts, if_neg (by simp), sp_join, List.filter_append, filter_ok h]
  show jn (sp p ++ []) = p
  rw [List.append_nil, jn_sp]
theorem okP_first {p : Txt} (h : okP p = true) : ([47] : Txt).isPrefixOf p = false := by
  obtain ⟨h0, _, h1⟩ := okP_parts h
  rcases p with _ | ⟨c, r⟩
  · exact absurd rfl h0
  rw [starts_eq]
  cases hc : (c == 47) with
  | false => rfl
  | true =>
    rw [beq_iff_eq] at hc; subst hc
    have := h1 [] (by rw [pts, if_neg h0, sp, if_pos rfl]; exact List.mem_cons_self ..)
    simp [okPt] at this
theorem okP_first' {p : Txt} (h : okP p = true) : ([47] : Txt).isPrefixOf (p ++ [47]) = false := by
  have := okP_first h
  obtain ⟨h0, _, h1⟩ := okP_parts h
  rcases p with _ | ⟨c, r⟩
  · exact absurd rfl h0
  rw [starts_eq] at this
  rw [List.cons_append, starts_eq]; exact this
theorem okP_ends {p : Txt} (h : okP p = true) : ends p = false := by
  obtain ⟨h0, _, h1⟩ := okP_parts h
  cases he : ends p with
  | false => rfl
  | true =>
    exfalso
    unfold ends at he
    rw [beq_iff_eq] at he
    have : p = p.take (p.length - 1) ++ 47 :: [] := by
      conv => lhs; rw [← List.take_append_drop (p.length - 1) p, he]
    rw [pts, if_neg h0, this, sp_join] at h1
    have := h1 [] (by simp [sp])
    simp [okPt] at this
theorem ends_slash (p : Txt) : ends (p ++ [47]) = true := by
  unfold ends; simp

theorem true_law13_RouteNames (s : Txt) : F_law13_RouteNames s = some (true, ()) := by
  unfold F_law13_RouteNames
  simp only [awake13, vS, Bool.not_true, vF]
  by_cases h : s.length > 1100
  · have c : decide ((s.length : Int) > 1100) = true := decide_eq_true (by omega)
    simp only [c, vT]
  have c : decide ((s.length : Int) > 1100) = false := decide_eq_false (by omega)
  have b1 : ∀ x : Txt, (x == x) = true := fun x => beq_self_eq_true x
  have b2 : ∀ x : Bool, (x == x) = true := fun x => beq_self_eq_true x
  have b3 : ∀ x : Int, (x != x) = false := fun x => by simp
  simp only [c, vF, normal_eq s (by omega), refNormal_eq s (by omega), vS, b1, b2, b3, Bool.not_true, check_eq s (by omega), right_eq s (by omega)]
  have d1 : (((if okP s = true then (0 : Int) else 5) == 0) == okP s) = true := by cases okP s <;> rfl
  have d2 : (((if okP s = true then (0 : Int) else 5) == 5) == okP s) = false := by cases okP s <;> rfl
  simp only [d1, d2, vF, Bool.not_true]
  by_cases hg : (!([47] : Txt).isPrefixOf s && okP (nrm s)) = true
  · have e : normR s = (nrm s, ends s, 0, ()) := by unfold normR; rw [if_pos hg]
    have hk : okP (nrm s) = true := by simp only [Bool.and_eq_true] at hg; exact hg.2
    have hn := nrm_len s
    have e1 : normR (nrm s) = (nrm s, false, 0, ()) := by
      unfold normR
      rw [nrm_ok hk, okP_first hk, hk, okP_ends hk]; rfl
    have e2 : normR (nrm s ++ [47]) = (nrm s, true, 0, ()) := by
      unfold normR
      rw [nrm_slash hk, okP_first' hk, hk, ends_slash]; rfl
    have d3 : ((0 : Int) != 0) = false := rfl
    have d4 : ((0 : Int) == 0) = true := rfl
    simp only [e, d3, vF, vS, normal_eq (nrm s) (by omega), cat_eq (nrm s) [47] (by simp; omega), normal_eq (nrm s ++ [47]) (by simp; omega), e1, e2, b1, vT, Bool.not_false, d4, check_eq (nrm s) (by omega), hk, if_true]
  · have e : normR s = ([], false, 5, ()) := by unfold normR; rw [if_neg hg]
    have d3 : ((5 : Int) != 0) = true := rfl
    simp only [e, d3, vT]
end Go.Proofs.YtlpiiifmidehjaaDoorM
