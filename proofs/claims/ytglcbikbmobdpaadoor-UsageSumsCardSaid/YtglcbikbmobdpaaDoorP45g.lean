/- Usage: the first by bytes; what has grown; the laws. -/
import Derived.Test.YtglcbikbmobdpaaDoorP45f
import Derived.KernelRfl
set_option linter.unusedSimpArgs false
set_option linter.unusedVariables false
namespace Go.Proofs.YtglcbikbmobdpaaDoorM
open Go Go.RowKit

/-- Each directory, with what is there. -/
def du (t : List Nd) : List Us := (dp t).map fun p => (p, cntW p t)
theorem du_len (t : List Nd) : (du t).length ≤ t.length + 1 := by unfold du; rw [List.length_map]; exact dp_len t
theorem top_eq (t : List Nd) (ht : t.length ≤ 20) (hn : shortN t) (n : Int) : F_usage_Top t n = some ((sortS kU (du t)).take n.toNat, ()) := by
  have hdl := du_len t
  unfold F_usage_Top
  rw [dirs_eq t (by omega) hn, vS, show ((dp t).map fun p => (p, cntW p t)) = du t from rfl, stable_eq (du t) (by omega), vS]
  have hl : (sortS kU (du t)).length = (du t).length := sortS_len _ _
  generalize sortS kU (du t) = S at *
  have e1 : minI (maxI n 0) (S.length : Int) = ((min n.toNat S.length : Nat) : Int) := by
    unfold minI maxI
    split <;> split <;> omega
  have c1 : chkSub (S.length : Int) (0 : Int) ((min n.toNat S.length : Nat) : Int) = some () := chkSub_nat (a := 0) (Nat.zero_le _) (Nat.min_le_right _ _)
  rw [show (S, ()).1 = S from rfl, e1, c1, vS]
  have : oTD S (0 : Int) ((min n.toNat S.length : Nat) : Int) = S.take n.toNat := by
    show S.take (min n.toNat S.length) = _
    rw [← List.take_eq_take_min]
  rw [this]
theorem refTop_eq (t : List Nd) (ht : t.length ≤ 20) (hn : shortN t) (n : Int) : F_ref45_Top t n = some ((sortS kU (du t)).take n.toNat, ()) := by
  have hdl := du_len t
  unfold F_ref45_Top
  rw [ref45dirs_eq t (by omega) hn, vS, show ((dp t).map fun p => (p, cntW p t)) = du t from rfl]
  generalize du t = D at *
  suffices key : ∃ r, iter (ρ := List Us × Unit) _ NF (D, (([] : List Us), ())) = some r ∧ r = ((sortS kU D).take n.toNat, ()) by
    obtain ⟨r, h1, rfl⟩ := key
    exact vB h1 rfl
  refine iter_inv (fun st => ∃ L out : List Us, st = (L, (out, ())) ∧ out ++ sortS kU L = sortS kU D ∧ out.length ≤ n.toNat ∧ L.length ≤ 30 ∧ out.length + L.length ≤ 30) (fun st => st.1.length) _ ?_ NF _ ⟨D, [], rfl, rfl, Nat.zero_le _, by omega, by simp; omega⟩ (by rw [NF_eq]; simp only; omega)
  rintro _ ⟨L, out, rfl, h1, h2, h3, h4⟩
  by_cases c1 : (out.length : Int) < n
  rotate_left
  · right
    simp only [decide_eq_false c1, vF]
    refine ⟨_, rfl, ?_⟩
    rw [← h1, List.take_append_of_le_length (by omega), List.take_of_length_le (by omega)]
  by_cases c2 : L.length = 0
  · right
    have c3 : decide ((L.length : Int) > 0) = false := decide_eq_false (by omega)
    simp only [decide_eq_true c1, vT, c3, vF]
    refine ⟨_, rfl, ?_⟩
    have : L = [] := List.eq_nil_of_length_eq_zero c2
    subst this
    rw [← h1]
    show (out, ()) = ((out ++ []).take n.toNat, ())
    rw [List.append_nil, List.take_of_length_le (by omega)]
  left
  have c3 : decide ((L.length : Int) > 0) = true := decide_eq_true (by omega)
  suffices key : ∃ r, iter (ρ := Int × List Us × List Us × Unit) _ NF ((0 : Int), ((0 : Int), (L, (out, ())))) = some r ∧ ∃ m : Nat, r = ((m : Int), (L, (out, ()))) ∧ ∃ hm : m < L.length, (∀ i (hi : i < L.length), i < m → kU L[i] < kU L[m]) ∧ (∀ i (hi : i < L.length), kU L[i] ≤ kU L[m]) by
    obtain ⟨r, k1, m, rfl, hm, k2, k3⟩ := key
    have q1 : chkSub (L.length : Int) (m : Int) (m : Int) = some () := chkSub_nat (Nat.le_refl _) (by omega)
    have q2 : chkSub (L.length : Int) (0 : Int) (m : Int) = some () := chkSub_nat (a := 0) (Nat.zero_le _) (by omega)
    have q3 : chkSub (L.length : Int) ((m + 1 : Nat) : Int) (L.length : Int) = some () := chkSub_nat (by omega) (Nat.le_refl _)
    have q4 : oTD L ((m + 1 : Nat) : Int) (L.length : Int) = L.drop (m + 1) := by show (L.take L.length).drop (m + 1) = _; rw [List.take_length]
    have q5 : oTD L (0 : Int) (m : Int) = L.take m := rfl
    have q6 : app (L.take m) (L.drop (m + 1)) = some (L.take m ++ L.drop (m + 1)) := app_of _ _ (by simp; omega)
    refine ⟨(L.take m ++ L.drop (m + 1), (out ++ [L[m]], ())), ?_, ⟨_, _, rfl, ?_, by simp; omega, by simp; omega, by simp; omega⟩, by simp; omega⟩
    · simp only [decide_eq_true c1, vT, c3]
      refine vB k1 ?_
      simp only [idxL_nat hm, vS, app1 (show out.length ≤ 1000000 by omega), q1, q2, w1 (show m ≤ 1000000 by omega), q3, q4, q5, q6]
    · rw [← h1, sortS_sel kU L m hm k2 k3, List.append_assoc]; rfl
  refine iter_inv (fun st => ∃ a i : Nat, st = ((a : Int), ((i : Int), (L, (out, ())))) ∧ i ≤ L.length ∧ ∃ ha : a < L.length, (∀ j (hj : j < L.length), j < a → kU L[j] < kU L[a]) ∧ (∀ j (hj : j < L.length), j < i → kU L[j] ≤ kU L[a])) (fun st => L.length - st.2.1.toNat) _ ?_ NF _ ⟨0, 0, rfl, Nat.zero_le _, by omega, fun j _ h => absurd h (Nat.not_lt_zero _), fun j _ h => absurd h (Nat.not_lt_zero _)⟩ (by rw [NF_eq]; simp only; omega)
  rintro _ ⟨a, i, rfl, i1, ha, i2, i3⟩
  by_cases hi : i < L.length
  · left
    simp only [lt_c hi, vT, idxL_nat hi, idxL_nat ha, vS, w1 (show i ≤ 1000000 by omega)]
    by_cases hk : kU L[i] > kU L[a]
    · have : decide (L[i].2.2.2.1 > L[a].2.2.2.1) = true := decide_eq_true hk
      rw [this, vT, vS]
      refine ⟨_, rfl, ⟨i, i + 1, rfl, by omega, hi, fun j hj h => ?_, fun j hj h => ?_⟩, by simp only; omega⟩
      · have := i3 j hj h; omega
      · rcases Nat.lt_or_ge j i with h5 | h5
        · have := i3 j hj h5; omega
        · obtain rfl : j = i := by omega
          exact Int.le_refl _
    · have : decide (L[i].2.2.2.1 > L[a].2.2.2.1) = false := decide_eq_false hk
      rw [this, vF, vS]
      refine ⟨_, rfl, ⟨a, i + 1, rfl, by omega, ha, i2, fun j hj h => ?_⟩, by simp only; omega⟩
      rcases Nat.lt_or_ge j i with h5 | h5
      · exact i3 j hj h5
      · obtain rfl : j = i := by omega
        omega
  · right
    simp only [ge_c hi, vF]
    exact ⟨_, rfl, a, rfl, ha, i2, fun j hj => i3 j hj (by omega)⟩

/-! ### What has grown -/
theorem concat_eq (s t : List Nd) (h : s.length + t.length ≤ 1000) : F_slices_Concat_api_Node_api_Node [s, t] = some (s ++ t, ()) := by
  unfold F_slices_Concat_api_Node_api_Node
  have g : ∀ n : Nat, n ≤ 1000 → F_slices_Grow_api_Node_api_Node (n : Int) = some ([], ()) := fun n hn => by
    unfold F_slices_Grow_api_Node_api_Node
    have c1 : decide ((n : Int) < 0) = false := decide_eq_false (by omega)
    have e1 : IntKind.i64.wrap ((n : Int) - IntKind.i64.wrap (0 - 0)) = (n : Int) := by
      have : IntKind.i64.wrap (0 - 0) = 0 := by rw [w64 (by omega) (by omega)]; rfl
      rw [this, w64 (by omega) (by omega)]; omega
    rw [c1, vF, e1]
    by_cases hn0 : n = 0
    · subst hn0; rfl
    · have c2 : decide ((n : Int) > 0) = true := decide_eq_true (by omega)
      rw [c2, vT]
      have a1 : ∀ z : Nd, appN ([] : List Nd) (n : Int) z = some (List.replicate n z) := fun z => by
        unfold appN
        rw [if_pos ⟨by omega, by simp [capL]; omega⟩]; rfl
      have c3 : chkSub (0 : Int) (0 : Int) (0 : Int) = some () := rfl
      have c4 : ∀ z : Nd, chkSub ((List.replicate n z).length : Int) (0 : Int) (0 : Int) = some () := fun z => chkSub_nat (a := 0) (b := 0) (Nat.le_refl _) (Nat.zero_le _)
      simp only [c3, vS, a1, c4]; rfl
  refine vB (r := (((s.length + t.length : Nat) : Int), ())) ?_ ?_
  · refine Eq.trans (iter_take (α := List Nd) [s, t] (by simp) (fun (i : Nat) (p : List (List Nd)) => (((((p.map List.length).sum : Nat) : Int), ((i : Int), ())) : Int × Int × Unit)) (r := (((([s, t].map List.length).sum : Nat) : Int), ())) (fun i hi => ?_) ?_) ?_
    · have hb : ∀ j (hj : j < [s, t].length), ((([s, t].take j).map List.length).sum + [s, t][j].length) ≤ 1000 := fun j hj => by
        rcases j with _ | _ | j
        · simp; omega
        · simp; omega
        · simp at hj; omega
      have hb := hb i hi
      have e1 : IntKind.i64.wrap (((([s, t].take i).map List.length).sum : Nat) + ([s, t][i].length : Int)) = ((([s, t].take i ++ [[s, t][i]]).map List.length).sum : Nat) := by
        rw [w64 (by omega) (by omega), List.map_append, List.sum_append, Int.natCast_add]; rfl
      have c1 : decide (((([s, t].take i ++ [[s, t][i]]).map List.length).sum : Nat) < (0 : Int)) = false := decide_eq_false (by omega)
      simp only [lt_c hi, vT, idxL_nat hi, vS, e1, c1, vF, w1 (show i ≤ 1000000 by simp at hi; omega)]
    · simp only [ge_c (Nat.lt_irrefl _), vF]
    · simp
  · simp only [g _ h, vS]
    refine vB (r := (s ++ t, ())) (Eq.trans (iter_take (α := List Nd) [s, t] (by simp) (fun (i : Nat) (p : List (List Nd)) => (((i : Int), (p.flatten, ())) : Int × List Nd × Unit)) (r := ([s, t].flatten, ())) (fun i hi => ?_) ?_) ?_) rfl
    · have hb : ∀ j (hj : j < [s, t].length), ([s, t].take j).flatten.length + [s, t][j].length ≤ 1000 := fun j hj => by
        rcases j with _ | _ | j
        · simp; omega
        · simp; omega
        · simp at hj; omega
      have hb := hb i hi
      have e1 : app ([s, t].take i).flatten [s, t][i] = some (([s, t].take i ++ [[s, t][i]]).flatten) := by
        rw [app_of _ _ (by omega), List.flatten_append, List.flatten_cons, List.flatten_nil, List.append_nil]
      simp only [lt_c hi, vT, idxL_nat hi, vS, e1, w1 (show i ≤ 1000000 by simp at hi; omega)]
    · simp only [ge_c (Nat.lt_irrefl _), vF]
    · simp
/-- What has grown at a path. -/
def grow1 (s t : List Nd) (p : Txt) : Us := (p, IntKind.i64.wrap ((cntW p t).1 - (cntW p s).1), IntKind.i64.wrap ((cntW p t).2.1 - (cntW p s).2.1), IntKind.i64.wrap ((cntW p t).2.2.1 - (cntW p s).2.2.1), ())
def grows (u : Us) : Bool := !((u.2.1 == 0) && ((u.2.2.1 == 0) && (u.2.2.2.1 == 0)))
def grown (s t : List Nd) : List Us := ((dp (s ++ t)).map (grow1 s t)).filter grows
theorem filter_snoc {α β : Type} (f : α → β) (g : β → Bool) (p : List α) (x : α) : ((p ++ [x]).map f).filter g = (p.map f).filter g ++ if g (f x) = true then [f x] else [] := by
  rw [List.map_append, List.filter_append]
  cases h : g (f x) <;> simp [h]
theorem grown_eq (s t : List Nd) (hs : s.length ≤ 100) (ht : t.length ≤ 100) (hns : shortN s) (hnt : shortN t) : F_usage_Grown s t = some (grown s t, ()) := by
  obtain ⟨a, a1, a2⟩ := counted_eq s (by omega) hns
  obtain ⟨b, b1, b2⟩ := counted_eq t (by omega) hnt
  have hst : shortN (s ++ t) := fun n h => (List.mem_append.1 h).elim (hns n) (hnt n)
  have hdl := dp_len (s ++ t)
  unfold F_usage_Grown
  rw [a1, vS, b1, vS, concat_eq s t (by omega), vS, paths_eq (s ++ t) (by simp; omega) hst, vS]
  rw [List.length_append] at hdl
  refine vB (iter_take (dp (s ++ t)) (by omega) (fun i p => ((i : Int), ((p.map (grow1 s t)).filter grows, (dp (s ++ t), (a, (b, ())))))) (r := (grown s t, ())) (fun i hi => ?_) ?_) rfl
  · have hlen : (((dp (s ++ t)).take i).map (grow1 s t)).length ≤ 201 := by simp; omega
    have hlf := List.length_filter_le grows (((dp (s ++ t)).take i).map (grow1 s t))
    have q1 := a2 (dp (s ++ t))[i]
    have q2 := b2 (dp (s ++ t))[i]
    unfold says at q1 q2
    simp only [lt_c hi, vT, idxL_nat hi, vS, at_eq, q1, q2, w1 (show i ≤ 1000000 by omega), beq_self_eq_true, Bool.true_and, filter_snoc]
    generalize ((List.take i (dp (s ++ t))).map (grow1 s t)).filter grows = out at *
    change (Option.bind (bif grows (grow1 s t (dp (s ++ t))[i]) then _ else _) _) = _
    cases grows (grow1 s t (dp (s ++ t))[i]) with
    | true =>
      rw [vT, app1 (by omega), vS, vS, if_pos rfl]; rfl
    | false =>
      rw [vF, vS, if_neg (by simp), List.append_nil]
  · simp only [ge_c (Nat.lt_irrefl _), vF]; rfl
theorem refGrown_eq (s t : List Nd) (hs : s.length ≤ 100) (ht : t.length ≤ 100) (hns : shortN s) (hnt : shortN t) : F_ref45_Grown s t = some (grown s t, ()) := by
  have hst : shortN (s ++ t) := fun n h => (List.mem_append.1 h).elim (hns n) (hnt n)
  have hdl := dp_len (s ++ t)
  have p1 : app ([] : List Nd) s = some s := app_of [] s (by simp; omega)
  unfold F_ref45_Grown
  rw [p1, vS, app_of s t (by omega), vS, ref45paths_eq (s ++ t) (by simp; omega) hst, vS]
  rw [List.length_append] at hdl
  refine vB (iter_take (dp (s ++ t)) (by omega) (fun i p => ((i : Int), (dp (s ++ t), ((p.map (grow1 s t)).filter grows, ())))) (r := (grown s t, ())) (fun i hi => ?_) ?_) rfl
  · have hlen : (((dp (s ++ t)).take i).map (grow1 s t)).length ≤ 201 := by simp; omega
    have hlf := List.length_filter_le grows (((dp (s ++ t)).take i).map (grow1 s t))
    have hsh := dp_short hst (List.getElem_mem hi)
    simp only [lt_c hi, vT, idxL_nat hi, vS, refUnder45_eq s (show s.length ≤ 1000 by omega) hns _ hsh, refUnder45_eq t (show t.length ≤ 1000 by omega) hnt _ hsh, w1 (show i ≤ 1000000 by omega), filter_snoc]
    generalize ((List.take i (dp (s ++ t))).map (grow1 s t)).filter grows = out at *
    have hg : grows (grow1 s t (dp (s ++ t))[i]) = bif (IntKind.i64.wrap ((cntW (dp (s ++ t))[i] t).1 - (cntW (dp (s ++ t))[i] s).1)) != 0 then true else bif (IntKind.i64.wrap ((cntW (dp (s ++ t))[i] t).2.1 - (cntW (dp (s ++ t))[i] s).2.1)) != 0 then true else (IntKind.i64.wrap ((cntW (dp (s ++ t))[i] t).2.2.1 - (cntW (dp (s ++ t))[i] s).2.2.1)) != 0 := by
      unfold grows grow1 bne
      simp only
      cases (IntKind.i64.wrap ((cntW (dp (s ++ t))[i] t).1 - (cntW (dp (s ++ t))[i] s).1)) == 0 <;> cases (IntKind.i64.wrap ((cntW (dp (s ++ t))[i] t).2.1 - (cntW (dp (s ++ t))[i] s).2.1)) == 0 <;> rfl
    rw [hg]
    show _ = some (Sum.inl (((i + 1 : Nat) : Int), dp (s ++ t), out ++ if _ then [((dp (s ++ t))[i], IntKind.i64.wrap ((cntW (dp (s ++ t))[i] t).1 - (cntW (dp (s ++ t))[i] s).1), IntKind.i64.wrap ((cntW (dp (s ++ t))[i] t).2.1 - (cntW (dp (s ++ t))[i] s).2.1), IntKind.i64.wrap ((cntW (dp (s ++ t))[i] t).2.2.1 - (cntW (dp (s ++ t))[i] s).2.2.1), ())] else [], ()))
    have ap : ∀ u : Us, app out [u] = some (out ++ [u]) := fun u => app1 (by omega)
    cases h1 : (IntKind.i64.wrap ((cntW (dp (s ++ t))[i] t).1 - (cntW (dp (s ++ t))[i] s).1)) != 0
    · cases h2 : (IntKind.i64.wrap ((cntW (dp (s ++ t))[i] t).2.1 - (cntW (dp (s ++ t))[i] s).2.1)) != 0
      · cases h3 : (IntKind.i64.wrap ((cntW (dp (s ++ t))[i] t).2.2.1 - (cntW (dp (s ++ t))[i] s).2.2.1)) != 0
        · simp only [vF, vT, vS, Bool.false_eq_true, if_false, List.append_nil]
        · simp only [vF, vT, vS, ap, if_true]
      · simp only [vF, vT, vS, ap, if_true]
    · simp only [vF, vT, vS, ap, if_true]
  · simp only [ge_c (Nat.lt_irrefl _), vF]; rfl
theorem grown_self (s : List Nd) : grown s s = [] := by
  unfold grown
  rw [List.filter_eq_nil_iff]
  intro u hu
  obtain ⟨p, _, rfl⟩ := List.mem_map.1 hu
  have : ∀ x : Int, IntKind.i64.wrap (x - x) = 0 := fun x => by rw [Int.sub_self]; rfl
  have : grows (grow1 s s p) = false := by unfold grows grow1; simp only [this]; rfl
  rw [this]; simp

set_option maxRecDepth 1000000 in
theorem awake45 : F_law45_awake = some (true, ()) := by kernel_rfl

theorem true_law45_UsageTells (t : List Nd) (p : Txt) (n : Int) : F_law45_UsageTells t p n = some (true, ()) := by
  unfold F_law45_UsageTells
  rw [awake45, vS, Bool.not_true, vF, show (20 : Int) = ((20 : Nat) : Int) from rfl, few_eq t 20 (by omega), vS]
  cases hf : (decide (t.length ≤ 20) && t.all (fun x => decide (x.1.length ≤ 60) && decide (x.2.2.1.length ≤ 60))) with
  | false => rfl
  | true =>
    rw [Bool.and_eq_true, decide_eq_true_eq, List.all_eq_true] at hf
    obtain ⟨ht, hf⟩ := hf
    have hn : shortN t := fun x hx => by have := hf x hx; simp at this; omega
    rw [Bool.not_true, vF]
    by_cases hp : p.length ≤ 60
    · have c1 : decide ((p.length : Int) > 60) = false := decide_eq_false (by omega)
      have hdl := du_len t
      have s1 : F_ref45_Same (du t) (du t) = some (true, ()) := same45_eq _ (by omega)
      have s2 : F_ref45_Same ((sortS kU (du t)).take n.toNat) ((sortS kU (du t)).take n.toNat) = some (true, ()) := same45_eq _ (by rw [List.length_take, sortS_len]; omega)
      have d1 : F_usage_Dirs t = some (du t, ()) := dirs_eq t (by omega) hn
      have d2 : F_ref45_Dirs t = some (du t, ()) := ref45dirs_eq t (by omega) hn
      rw [c1, vF, under45_eq t (by omega) hn p, vS, refUnder45_eq t (by omega) hn p (by omega), vS]
      simp only [beq_self_eq_true, Bool.and_self, vT, d1, d2, vS, s1, top_eq t ht hn n, refTop_eq t ht hn n, s2]
      have hd := depth_eq t (by omega) hn
      have : ∃ k, F_ref45_Depth t = some (k, ()) := by
        unfold F_ref45_Depth
        refine ⟨t.foldl (fun a x => maxI a ((pts x.1).length : Int)) 0, vB (iter_take t (by omega) (fun i p => (p.foldl (fun a x => maxI a ((pts x.1).length : Int)) 0, ((i : Int), ()))) (r := (t.foldl (fun a x => maxI a ((pts x.1).length : Int)) 0, ())) (fun i hi => ?_) ?_) rfl⟩
        · have := hn _ (List.getElem_mem hi)
          simp only [lt_c hi, vT, idxL_nat hi, vS, refParts_eq t[i].1 (by omega), w1 (show i ≤ 1000000 by omega), List.foldl_append, List.foldl_cons, List.foldl_nil]
        · simp only [ge_c (Nat.lt_irrefl _), vF]
      obtain ⟨k, hk⟩ := this
      rw [hd, hk]
      simp only [vS, beq_self_eq_true]
    · have c1 : decide ((p.length : Int) > 60) = true := decide_eq_true (by omega)
      rw [c1, vT]
theorem true_law45_UsageGrows (s t : List Nd) : F_law45_UsageGrows s t = some (true, ()) := by
  unfold F_law45_UsageGrows
  rw [awake45, vS, Bool.not_true, vF, show (20 : Int) = ((20 : Nat) : Int) from rfl, few_eq s 20 (by omega), few_eq t 20 (by omega), vS]
  cases hs : (decide (s.length ≤ 20) && s.all (fun x => decide (x.1.length ≤ 60) && decide (x.2.2.1.length ≤ 60))) with
  | false => rfl
  | true =>
    rw [Bool.not_true, vF, vS]
    cases hf : (decide (t.length ≤ 20) && t.all (fun x => decide (x.1.length ≤ 60) && decide (x.2.2.1.length ≤ 60))) with
    | false => rfl
    | true =>
      rw [Bool.and_eq_true, decide_eq_true_eq, List.all_eq_true] at hf hs
      have hnt : shortN t := fun x hx => by have := hf.2 x hx; simp at this; omega
      have hns : shortN s := fun x hx => by have := hs.2 x hx; simp at this; omega
      have hl : (grown s t).length ≤ 100 := by
        have h1 := List.length_filter_le grows ((dp (s ++ t)).map (grow1 s t))
        have h2 := dp_len (s ++ t)
        rw [List.length_map] at h1
        rw [List.length_append] at h2
        unfold grown; omega
      rw [Bool.not_true, vF]
      simp only [grown_eq s t (by omega) (by omega) hns hnt, refGrown_eq s t (by omega) (by omega) hns hnt, grown_eq s s (by omega) (by omega) hns hns, vS, same45_eq _ (show (grown s t).length ≤ 100000 by omega), vT, grown_self]
      rfl
end Go.Proofs.YtglcbikbmobdpaaDoorM
