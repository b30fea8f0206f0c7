/- Usage: directories, each once, in order; what stands under each. -/
import Derived.Test.YtglcbikbmobdpaaDoorP45d
set_option linter.unusedSimpArgs false
set_option linter.unusedVariables false
namespace Go.Proofs.YtglcbikbmobdpaaDoorM
open Go Go.RowKit

def dirsOf (t : List Nd) : List Txt := (t.filter (·.2.1)).map (·.1)
theorem dirsOf_snoc (t : List Nd) (x : Nd) : dirsOf (t ++ [x]) = if x.2.1 = true then dirsOf t ++ [x.1] else dirsOf t := by
  unfold dirsOf
  rw [List.filter_append, List.map_append]
  split
  · rename_i h; simp [h]
  · rename_i h; simp [h]
theorem dirsOf_len (t : List Nd) : (dirsOf t).length ≤ t.length := by unfold dirsOf; rw [List.length_map]; exact List.length_filter_le _ _
theorem dirsOf_mem {t : List Nd} {p : Txt} : p ∈ dirsOf t ↔ ∃ n ∈ t, n.2.1 = true ∧ n.1 = p := by
  unfold dirsOf; simp only [List.mem_map, List.mem_filter]
  exact ⟨fun ⟨n, h, e⟩ => ⟨n, h.1, h.2, e⟩, fun ⟨n, h1, h2, e⟩ => ⟨n, ⟨h1, h2⟩, e⟩⟩
/-- The directories, and the path of all, in order. -/
def dp (t : List Nd) : List Txt := ascOf cP ([] :: dirsOf t)
theorem dp_mem {t : List Nd} {p : Txt} : p ∈ dp t ↔ p = [] ∨ p ∈ dirsOf t := by
  unfold dp; rw [ascOf_mem cP_ord, List.mem_cons]
theorem ascOf_len (l : List Txt) : (ascOf cP l).length ≤ l.length := by
  have : ∀ l : List Txt, (cpt l).length ≤ l.length := snoc_ind (P := fun l => (cpt l).length ≤ l.length) (Nat.le_refl _) fun l x h => by
    rw [cpt_snoc]; split <;> simp <;> omega
  have h2 := this (sortC cP l)
  rw [sortC_len] at h2
  exact h2
theorem dp_len (t : List Nd) : (dp t).length ≤ t.length + 1 := by
  have := ascOf_len ([] :: dirsOf t)
  have := dirsOf_len t
  unfold dp; simp at *; omega
theorem dp_short {t : List Nd} (hn : shortN t) {p : Txt} (hp : p ∈ dp t) : p.length ≤ 1000 := by
  rcases dp_mem.1 hp with rfl | h
  · simp
  · obtain ⟨n, h1, _, rfl⟩ := dirsOf_mem.1 h
    exact hn n h1
/-- What sorting and Compact make. -/
theorem sortCompact (l : List Txt) (hl : l.length ≤ 100000) (hs : ∀ x ∈ l, x.length ≤ 100000) : ∃ (n : Nat) (l' : List Txt), F_sort cP l = some (sortC cP l, ()) ∧ F_slices_Compact_string_string (sortC cP l) = some (0, (n : Int), l', ()) ∧ oTD l' (0 : Int) (n : Int) = ascOf cP l ∧ n ≤ l'.length := by
  obtain ⟨n, l', h1, h2, h3⟩ := compact_eq (sortC cP l) (by rw [sortC_len]; exact hl)
  refine ⟨n, l', ?_, h1, ?_, h2⟩
  · unfold F_sort; rw [if_pos ⟨by omega, hs⟩]; rfl
  · exact h3
theorem paths_eq (t : List Nd) (ht : t.length ≤ 1000) (hn : shortN t) : F_usage_paths t = some (dp t, ()) := by
  unfold F_usage_paths
  refine vB (iter_take t (by omega) (fun i p => ((i : Int), ([] :: dirsOf p, ()))) (r := ([] :: dirsOf t, ())) (fun i hi => ?_) ?_) ?_
  · have hl := dirsOf_len (t.take i)
    rw [List.length_take] at hl
    simp only [lt_c hi, vT, idxL_nat hi, vS, w1 (show i ≤ 1000000 by omega), dirsOf_snoc]
    cases t[i].2.1
    · simp only [vF, vS, Bool.false_eq_true, if_false]
    · rw [vT, app1 (by simp; omega), vS, vS, if_pos rfl]; rfl
  · simp only [ge_c (Nat.lt_irrefl _), vF]
  · have hl := dirsOf_len t
    obtain ⟨n, l', h1, h2, h3, _⟩ := sortCompact ([] :: dirsOf t) (by simp; omega) (fun x hx => by
      rcases List.mem_cons.1 hx with rfl | h
      · simp
      · obtain ⟨n, h1, _, rfl⟩ := dirsOf_mem.1 h
        have := hn n h1; omega)
    simp only [h1, vS, h2, h3]; rfl
/-- The first that stands not ahead. -/
theorem refPlace_eq (l : List Txt) (p : Txt) (hl : l.length ≤ 100000) (k : Nat) (k1 : k ≤ l.length) (k2 : ∀ i (hi : i < l.length), i < k → cP l[i] p = -1) (k3 : ∀ (hi : k < l.length), ¬ cP l[k] p = -1)
    {step : Int × List Txt × Unit → Option ((Int × List Txt × Unit) ⊕ (Int × List Txt × Unit))}
    (s1 : ∀ i (hi : i < l.length), step ((i : Int), l, ()) = if cP l[i] p < 0 then some (.inl (((i + 1 : Nat) : Int), l, ())) else some (.inr ((i : Int), l, ())))
    (s2 : step ((l.length : Int), l, ()) = some (.inr ((l.length : Int), l, ()))) : iter step NF (0, l, ()) = some ((k : Int), l, ()) := by
  refine iter_nat (fun i => ((i : Int), l, ())) k ?_ k 0 NF (by omega) (fun j _ hj => ?_) (by rw [NF_eq]; omega)
  · by_cases hk : k < l.length
    · rw [s1 k hk, if_neg]
      have := cP_ord.val l[k] p
      have := k3 hk
      omega
    · obtain rfl : k = l.length := by omega
      exact s2
  · rw [s1 j (by omega), if_pos (by rw [k2 j (by omega) hj]; omega)]
theorem ref45paths_eq (t : List Nd) (ht : t.length ≤ 1000) (hn : shortN t) : F_ref45_paths t = some (dp t, ()) := by
  unfold F_ref45_paths
  refine vB (iter_take t (by omega) (fun i p => ((i : Int), (dp p, ()))) (r := (dp t, ())) (fun i hi => ?_) ?_) rfl
  · have hdl := dp_len (t.take i)
    rw [List.length_take] at hdl
    have hxl := hn _ (List.getElem_mem hi)
    have hsh : ∀ x ∈ dp (t.take i), x.length ≤ 1000 := fun x hx => dp_short (fun n h => hn n (List.mem_of_mem_take h)) hx
    simp only [lt_c hi, vT, idxL_nat hi, vS, w1 (show i ≤ 1000000 by omega)]
    cases hd : t[i].2.1 with
    | false =>
      have : dp (t.take i ++ [t[i]]) = dp (t.take i) := by unfold dp; rw [dirsOf_snoc, hd]; rfl
      rw [this, Bool.not_false, vT, vS]
    | true =>
      rw [Bool.not_true, vF]
      have hasc : AscC cP (dp (t.take i)) := ascOf_asc cP_ord _
      obtain ⟨k, k1, k2, k3, k4, k5⟩ := asc_split cP_ord hasc t[i].1
      have hnew : ∀ l : List Txt, AscC cP l → (∀ a, a ∈ l ↔ a ∈ dp (t.take i) ∨ a = t[i].1) → l = dp (t.take i ++ [t[i]]) := fun l h1 h2 => by
        refine ascOf_eq cP_ord h1 fun a => ?_
        rw [h2, dp_mem, dirsOf_snoc, hd, if_pos rfl, List.mem_cons, List.mem_append, List.mem_singleton, or_assoc]
      generalize dp (t.take i) = D at *
      have hDl : D.length ≤ 100000 := by omega
      refine vB (r := (dp (t.take i ++ [t[i]]), ())) (vB (refPlace_eq D t[i].1 hDl k k1 k2 k3 (fun j hj => ?_) ?_) ?_) rfl
      · have hs := hsh _ (List.getElem_mem hj)
        simp only [lt_c hj, vT, idxL_nat hj, vS, refCompare_eq D[j] t[i].1 (by omega) (by omega), Bool.cond_decide, w1 (show j ≤ 1000000 by omega)]
      · simp only [ge_c (Nat.lt_irrefl _), vF]
      · have ins : t[i].1 ∉ D → ((chkSub (D.length : Int) (k : Int) (k : Int)).bind fun v12 => (chkSub (D.length : Int) (0 : Int) (k : Int)).bind fun v13 => (chkSub (D.length : Int) (k : Int) (D.length : Int)).bind fun v15 => (app [t[i].1] (oTD D (k : Int) (D.length : Int))).bind fun v16 => (app (oTD D (0 : Int) (k : Int)) v16).bind fun v17 => some (v17, ())) = some (dp (t.take i ++ [t[i]]), ()) := fun hp => by
          have q1 : chkSub (D.length : Int) (k : Int) (k : Int) = some () := chkSub_nat (Nat.le_refl _) k1
          have q2 : chkSub (D.length : Int) (0 : Int) (k : Int) = some () := chkSub_nat (a := 0) (Nat.zero_le _) k1
          have q3 : chkSub (D.length : Int) (k : Int) (D.length : Int) = some () := chkSub_nat k1 (Nat.le_refl _)
          have q4 : oTD D (k : Int) (D.length : Int) = D.drop k := by show (D.take ((D.length : Int)).toNat).drop ((k : Int)).toNat = _; rw [Int.toNat_natCast, Int.toNat_natCast, List.take_length]
          have q5 : oTD D (0 : Int) (k : Int) = D.take k := rfl
          have q6 : app [t[i].1] (D.drop k) = some (t[i].1 :: D.drop k) := app_of _ _ (by simp; omega)
          have q7 : app (D.take k) (t[i].1 :: D.drop k) = some (D.take k ++ t[i].1 :: D.drop k) := app_of _ _ (by simp; omega)
          simp only [q1, q2, q3, q4, q5, q6, q7, vS]
          rw [hnew _ (k5 hp) fun a => ?_]
          conv => rhs; rw [← List.take_append_drop k D]
          simp only [List.mem_append, List.mem_cons]
          constructor
          · rintro (h | h | h)
            · exact .inl (.inl h)
            · exact .inr h
            · exact .inl (.inr h)
          · rintro ((h | h) | h)
            · exact .inl h
            · exact .inr (.inr h)
            · exact .inr (.inl h)
        by_cases hk : k < D.length
        · have c1 : ((k : Int) == (D.length : Int)) = false := by rw [beq_eq_false_iff_ne]; omega
          simp only [c1, vF, idxL_nat hk, vS, idxL_nat hi]
          by_cases hp : D[k] = t[i].1
          · have hpD : t[i].1 ∈ D := by rw [← hp]; exact List.getElem_mem hk
            have c2 : (!(D[k] == t[i].1)) = false := by simp [hp]
            rw [c2, vF, ← hnew D hasc fun a => ⟨.inl, fun h => h.elim id fun e => by rw [e]; exact hpD⟩]
          · have hpD : t[i].1 ∉ D := fun h => by rw [k4, List.getElem?_eq_getElem hk] at h; exact hp (Option.some.inj h)
            have c2 : (!(D[k] == t[i].1)) = true := by simp [hp]
            rw [c2, vT]
            exact ins hpD
        · have hkl : k = D.length := by omega
          have hpD : t[i].1 ∉ D := fun h => by rw [k4, List.getElem?_eq_none (by omega)] at h; cases h
          have c1 : ((k : Int) == (D.length : Int)) = true := by rw [beq_iff_eq]; omega
          simp only [c1, vT, vS]
          exact ins hpD
  · simp only [ge_c (Nat.lt_irrefl _), vF]
theorem dirs_eq (t : List Nd) (ht : t.length ≤ 1000) (hn : shortN t) : F_usage_Dirs t = some ((dp t).map fun p => (p, cntW p t), ()) := by
  obtain ⟨m, h1, h2⟩ := counted_eq t ht hn
  have hdl := dp_len t
  unfold F_usage_Dirs
  rw [h1, vS, paths_eq t ht hn, vS]
  refine vB (iter_take (dp t) (by omega) (fun i p => ((i : Int), (p.map fun p => (p, cntW p t), (dp t, (m, ()))))) (r := ((dp t).map fun p => (p, cntW p t), ())) (fun i hi => ?_) ?_) rfl
  · simp only [lt_c hi, vT, idxL_nat hi, vS, at_eq, w1 (show i ≤ 1000000 by omega)]
    rw [app1 (by simp; omega), vS, List.map_append]
    have := h2 (dp t)[i]
    unfold says at this
    rw [this]; rfl
  · simp only [ge_c (Nat.lt_irrefl _), vF]
theorem ref45dirs_eq (t : List Nd) (ht : t.length ≤ 1000) (hn : shortN t) : F_ref45_Dirs t = some ((dp t).map fun p => (p, cntW p t), ()) := by
  have hdl := dp_len t
  unfold F_ref45_Dirs
  rw [ref45paths_eq t ht hn, vS]
  refine vB (iter_take (dp t) (by omega) (fun i p => ((i : Int), (dp t, (p.map fun p => (p, cntW p t), ())))) (r := ((dp t).map fun p => (p, cntW p t), ())) (fun i hi => ?_) ?_) rfl
  · have hs := dp_short hn (List.getElem_mem hi)
    simp only [lt_c hi, vT, idxL_nat hi, vS, refUnder45_eq t ht hn _ hs, w1 (show i ≤ 1000000 by omega)]
    rw [app1 (by simp; omega), vS, List.map_append]; rfl
  · simp only [ge_c (Nat.lt_irrefl _), vF]
theorem under45_eq (t : List Nd) (ht : t.length ≤ 1000) (hn : shortN t) (q : Txt) : F_usage_Under t q = some ((q, cntW q t), ()) := by
  obtain ⟨m, h1, h2⟩ := counted_eq t ht hn
  unfold F_usage_Under
  rw [h1, vS, at_eq, vS]
  have := h2 q
  unfold says at this
  rw [this]
theorem same45_eq (l : List Us) (hl : l.length ≤ 100000) : F_ref45_Same l l = some (true, ()) := by
  unfold F_ref45_Same
  have c1 : ((l.length : Int) != (l.length : Int)) = false := by simp
  rw [c1, vF]
  refine vB (iter_take l (by omega) (fun i p => ((i : Int), ())) (r := .inr ()) (fun i hi => ?_) ?_) rfl
  · simp only [lt_c hi, vT, idxL_nat hi, vS, beq_self_eq_true, Bool.and_self, Bool.not_true, vF, w1 (show i ≤ 1000000 by omega)]
  · simp only [ge_c (Nat.lt_irrefl _), vF]
theorem depth_eq (t : List Nd) (ht : t.length ≤ 1000) (hn : shortN t) : F_usage_Depth t = F_ref45_Depth t := by
  have key : ∃ n : Int, F_usage_Depth t = some (n, ()) ∧ F_ref45_Depth t = some (n, ()) := by
    refine ⟨t.foldl (fun a x => maxI a ((pts x.1).length : Int)) 0, ?_, ?_⟩
    · unfold F_usage_Depth
      refine vB (iter_take t (by omega) (fun i p => (p.foldl (fun a x => maxI a ((pts x.1).length : Int)) 0, ((i : Int), ()))) (r := (t.foldl (fun a x => maxI a ((pts x.1).length : Int)) 0, ())) (fun i hi => ?_) ?_) rfl
      · have := hn _ (List.getElem_mem hi)
        simp only [lt_c hi, vT, idxL_nat hi, vS, parts_eq t[i].1 (by omega), w1 (show i ≤ 1000000 by omega), List.foldl_append, List.foldl_cons, List.foldl_nil]
      · simp only [ge_c (Nat.lt_irrefl _), vF]
    · unfold F_ref45_Depth
      refine vB (iter_take t (by omega) (fun i p => (p.foldl (fun a x => maxI a ((pts x.1).length : Int)) 0, ((i : Int), ()))) (r := (t.foldl (fun a x => maxI a ((pts x.1).length : Int)) 0, ())) (fun i hi => ?_) ?_) rfl
      · have := hn _ (List.getElem_mem hi)
        simp only [lt_c hi, vT, idxL_nat hi, vS, refParts_eq t[i].1 (by omega), w1 (show i ≤ 1000000 by omega), List.foldl_append, List.foldl_cons, List.foldl_nil]
      · simp only [ge_c (Nat.lt_irrefl _), vF]
  obtain ⟨n, h1, h2⟩ := key
  rw [h1, h2]
end Go.Proofs.YtglcbikbmobdpaaDoorM
