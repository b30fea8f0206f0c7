/- Usage: of a tree the usage of each directory is its own nodes', and those of the directories right in it, added. -/
import Derived.Test.YtglcbikbmobdpaaDoorP15b
import Derived.Test.YtglcbikbmobdpaaDoorP45g
set_option linter.unusedSimpArgs false
set_option linter.unusedVariables false
namespace Go.Proofs.YtglcbikbmobdpaaDoorM
open Go Go.RowKit

def isF (n : Nd) : Nat := if n.2.1 = true then 0 else 1
def isD (n : Nd) : Nat := if n.2.1 = true then 1 else 0
def lenN (n : Nd) : Nat := n.2.2.1.length
theorem sumH_snoc (w : Nd → Nat) (q : Txt) (l : List Nd) (x : Nd) : sumH w q (l ++ [x]) = sumH w q l + if hol q x = true then w x else 0 := by
  unfold sumH
  rw [List.filter_append, List.map_append, List.sum_append]
  cases h : hol q x <;> simp [h]
theorem sumH_le {w : Nd → Nat} {b : Nat} (q : Txt) (l : List Nd) (h : ∀ x ∈ l, w x ≤ b) : sumH w q l ≤ b * l.length := by
  have h1 := sum_le (f := w) (b := b) (l := l.filter (hol q)) fun x hx => h x (List.mem_filter.1 hx).1
  have h2 := List.length_filter_le (hol q) l
  exact Nat.le_trans h1 (Nat.mul_le_mul_left _ h2)
theorem cntW_nat (q : Txt) : ∀ l : List Nd, l.length ≤ 1000 → (∀ x ∈ l, x.2.2.1.length ≤ 1000) → cntW q l = ((sumH isF q l : Int), (sumH isD q l : Int), (sumH lenN q l : Int), ()) := by
  refine snoc_ind (P := fun l => l.length ≤ 1000 → (∀ x ∈ l, x.2.2.1.length ≤ 1000) → cntW q l = ((sumH isF q l : Int), (sumH isD q l : Int), (sumH lenN q l : Int), ())) (fun _ _ => rfl) fun l x ih hl hx => ?_
  have hl : l.length + 1 ≤ 1000 := by simpa using hl
  have h1 := ih (by omega) fun y hy => hx y (List.mem_append_left _ hy)
  have hxx := hx x (by simp)
  have b1 : sumH isF q l ≤ 1 * l.length := sumH_le q l fun y _ => by unfold isF; split <;> omega
  have b2 : sumH isD q l ≤ 1 * l.length := sumH_le q l fun y _ => by unfold isD; split <;> omega
  have b3 : sumH lenN q l ≤ 1000 * l.length := sumH_le q l fun y hy => hx y (List.mem_append_left _ hy)
  rw [cntW_snoc, sumH_snoc, sumH_snoc, sumH_snoc, h1, show holds q x = hol q x from rfl]
  have e1 : IntKind.i64.wrap ((sumH isF q l : Int) + 1) = (sumH isF q l : Int) + 1 := w64 (by omega) (by omega)
  have e2 : IntKind.i64.wrap ((sumH isD q l : Int) + 1) = (sumH isD q l : Int) + 1 := w64 (by omega) (by omega)
  have e3 : IntKind.i64.wrap ((sumH lenN q l : Int) + (x.2.2.1.length : Int)) = (sumH lenN q l : Int) + (x.2.2.1.length : Int) := w64 (by omega) (by omega)
  cases hol q x with
  | false => simp
  | true =>
    rw [if_pos rfl, if_pos rfl, if_pos rfl, if_pos rfl]
    unfold bump isF isD lenN at *
    simp only [e1, e2, e3]
    cases x.2.1 <;> simp
/-- What a node right in a directory adds. -/
def addF (t : List Nd) (n : Nd) : Nat := if n.2.1 = true then sumH isF n.1 t else 1
def addD (t : List Nd) (n : Nd) : Nat := if n.2.1 = true then 1 + sumH isD n.1 t else 0
def addB (t : List Nd) (n : Nd) : Nat := if n.2.1 = true then sumH lenN n.1 t else n.2.2.1.length
theorem sum_snoc {α : Type} (f : α → Nat) (l : List α) (x : α) : ((l ++ [x]).map f).sum = (l.map f).sum + f x := by simp
theorem sum_take_le {f : Nd → Nat} {b : Nat} {l : List Nd} (h : ∀ x ∈ l, f x ≤ b) (i : Nat) : ((l.take i).map f).sum ≤ b * l.length := by
  have h1 := sum_le (f := f) (b := b) (l := l.take i) fun x hx => h x (List.mem_of_mem_take hx)
  refine Nat.le_trans h1 (Nat.mul_le_mul_left _ ?_)
  rw [List.length_take]; omega
theorem kids_eq {t : List Nd} (T : TreeOK t) (ht : t.length ≤ 20) (hb : ∀ x ∈ t, x.2.2.1.length ≤ 60) (p : Txt) : cntW p t = ((((t.filter (kid p)).map (addF t)).sum : Int), (((t.filter (kid p)).map (addD t)).sum : Int), (((t.filter (kid p)).map (addB t)).sum : Int), ()) := by
  rw [cntW_nat p t (by omega) fun x hx => by have := hb x hx; omega]
  have mem : ∀ n ∈ t.filter (kid p), n ∈ t := fun n hn => (List.mem_filter.1 hn).1
  have e1 : sumH isF p t = ((t.filter (kid p)).map (addF t)).sum := by
    rw [sums_eq T isF p]
    refine sum_congr fun n hn => ?_
    unfold addF isF; cases n.2.1 <;> simp
  have e2 : sumH isD p t = ((t.filter (kid p)).map (addD t)).sum := by
    rw [sums_eq T isD p]
    refine sum_congr fun n hn => ?_
    unfold addD isD; cases n.2.1 <;> simp
  have e3 : sumH lenN p t = ((t.filter (kid p)).map (addB t)).sum := by
    rw [sums_eq T lenN p]
    refine sum_congr fun n hn => ?_
    have hr := T.rst n (mem n hn)
    unfold rst at hr
    rw [Bool.and_eq_true] at hr
    have hr := hr.2
    unfold addB lenN
    cases hd : n.2.1 with
    | false => simp
    | true =>
      rw [hd] at hr
      have : n.2.2.1 = [] := by simpa using hr
      rw [this]; simp
  rw [e1, e2, e3]
theorem true_law45_UsageSums (t : List Nd) : F_law45_UsageSums t = some (true, ()) := by
  unfold F_law45_UsageSums
  rw [awake45, vS, Bool.not_true, vF, show (20 : Int) = ((20 : Nat) : Int) from rfl, few_eq t 20 (by omega), vS]
  cases hf : (decide (t.length ≤ 20) && t.all (fun x => decide (x.1.length ≤ 60) && decide (x.2.2.1.length ≤ 60))) with
  | false => rfl
  | true =>
  rw [Bool.and_eq_true, decide_eq_true_eq, List.all_eq_true] at hf
  obtain ⟨ht, hf⟩ := hf
  have hf : ∀ x ∈ t, x.1.length ≤ 60 ∧ x.2.2.1.length ≤ 60 := fun x hx => by have := hf x hx; simpa using this
  have hn : shortN t := fun x hx => by have := hf x hx; omega
  rw [Bool.not_true, vF, refCheck_eq t (by omega) (fun x hx => by have := hf x hx; omega), vS]
  by_cases h0 : chkTree t = 0
  rotate_left
  · have c : (chkTree t != 0) = true := by simp [h0]
    rw [c, vT]
  have c : (chkTree t != 0) = false := by simp [h0]
  have hT : tErr [] t = 0 := by
    unfold chkTree at h0
    rw [if_neg (by omega)] at h0
    by_cases h : tErr [] t = 0
    · exact h
    · rw [if_neg h] at h0; exact absurd h0 h
  have T := treeOK_of t hT
  have hdl := du_len t
  rw [c, vF, dirs_eq t (by omega) hn, vS, show ((dp t).map fun p => (p, cntW p t)) = du t from rfl]
  refine vB (iter_take (du t) (by omega) (fun i p => ((i : Int), (du t, ()))) (r := .inr ()) (fun i hi => ?_) ?_) rfl
  · obtain ⟨p, hp⟩ : ∃ p, (du t)[i] = (p, cntW p t) := by
      have : (du t)[i] ∈ du t := List.getElem_mem hi
      obtain ⟨p, _, h⟩ := List.mem_map.1 this
      exact ⟨p, h.symm⟩
    have hk := kids_eq T ht (fun x hx => (hf x hx).2) p
    simp only [lt_c hi, vT, idxL_nat hi, vS, hp, refList_eq t p (by omega) (fun x hx => by have := hf x hx; omega), w1 (show i ≤ 1000000 by omega)]
    have mem : ∀ n ∈ t.filter (kid p), n ∈ t := fun n hn => (List.mem_filter.1 hn).1
    have hLl : (t.filter (kid p)).length ≤ 20 := Nat.le_trans (List.length_filter_le _ _) ht
    rw [hk]
    clear hk
    generalize t.filter (kid p) = L at *
    have bF : ∀ n ∈ L, addF t n ≤ 40 := fun n hn => by
      have := sumH_le (w := isF) (b := 1) n.1 t fun y _ => by unfold isF; split <;> omega
      unfold addF; split <;> omega
    have bD : ∀ n ∈ L, addD t n ≤ 40 := fun n hn => by
      have := sumH_le (w := isD) (b := 1) n.1 t fun y _ => by unfold isD; split <;> omega
      unfold addD; split <;> omega
    have bB : ∀ n ∈ L, addB t n ≤ 1200 := fun n hn => by
      have := sumH_le (w := lenN) (b := 60) n.1 t fun y hy => (hf y hy).2
      have := (hf n (mem n hn)).2
      unfold addB; split <;> omega
    have sF := fun i => sum_take_le (f := addF t) bF i
    have sD := fun i => sum_take_le (f := addD t) bD i
    have sB := fun i => sum_take_le (f := addB t) bB i
    refine vB (iter_take L (by omega) (fun i q => ((i : Int), (p, (((L.map (addF t)).sum : Int), (((L.map (addD t)).sum : Int), (((L.map (addB t)).sum : Int), (p, (((q.map (addF t)).sum : Int), (((q.map (addD t)).sum : Int), (((q.map (addB t)).sum : Int), (du t, (L, ()))))))))))))
      (r := (p, (((L.map (addF t)).sum : Int), (((L.map (addD t)).sum : Int), (((L.map (addB t)).sum : Int), (p, (((L.map (addF t)).sum : Int), (((L.map (addD t)).sum : Int), (((L.map (addB t)).sum : Int), (du t, ())))))))))) (fun j hj => ?_) ?_) ?_
    · have q1 := sF j
      have q2 := sD j
      have q3 := sB j
      have r1 := bF _ (List.getElem_mem hj)
      have r2 := bD _ (List.getElem_mem hj)
      have r3 := bB _ (List.getElem_mem hj)
      simp only [lt_c hj, vT, idxL_nat hj, vS, w1 (show j ≤ 1000000 by omega), sum_snoc]
      generalize ((L.take j).map (addF t)).sum = F at *
      generalize ((L.take j).map (addD t)).sum = D at *
      generalize ((L.take j).map (addB t)).sum = B at *
      have eF : IntKind.i64.wrap ((F : Int) + (addF t L[j] : Int)) = ((F + addF t L[j] : Nat) : Int) := by rw [w64 (by omega) (by omega)]; omega
      have eD : IntKind.i64.wrap ((D : Int) + (addD t L[j] : Int)) = ((D + addD t L[j] : Nat) : Int) := by rw [w64 (by omega) (by omega)]; omega
      have eB : IntKind.i64.wrap ((B : Int) + (addB t L[j] : Int)) = ((B + addB t L[j] : Nat) : Int) := by rw [w64 (by omega) (by omega)]; omega
      cases hd : L[j].2.1 with
      | false =>
        have f1 : addF t L[j] = 1 := by unfold addF; rw [hd]; rfl
        have f2 : addD t L[j] = 0 := by unfold addD; rw [hd]; rfl
        have f3 : addB t L[j] = L[j].2.2.1.length := by unfold addB; rw [hd]; rfl
        rw [f1] at eF
        rw [f3] at eB
        rw [Bool.not_false, vT, f1, f2, f3, ← eF, ← eB]; rfl
      | true =>
        have f1 : addF t L[j] = sumH isF L[j].1 t := by unfold addF; rw [hd]; rfl
        have f2 : addD t L[j] = 1 + sumH isD L[j].1 t := by unfold addD; rw [hd]; rfl
        have f3 : addB t L[j] = sumH lenN L[j].1 t := by unfold addB; rw [hd]; rfl
        have e1 : IntKind.i64.wrap (1 + (sumH isD L[j].1 t : Int)) = ((1 + sumH isD L[j].1 t : Nat) : Int) := by rw [w64 (by omega) (by omega)]; omega
        rw [f1] at eF
        rw [f2] at eD
        rw [f3] at eB
        rw [Bool.not_true, vF, under45_eq t (by omega) hn, vS, cntW_nat _ t (by omega) (fun x hx => by have := hf x hx; omega), f1, f2, f3, ← eF, ← eD, ← eB, ← e1]
        rfl
    · simp only [ge_c (Nat.lt_irrefl _), vF]
    · simp only [beq_self_eq_true, Bool.and_self, Bool.not_true, vF]
  · simp only [ge_c (Nat.lt_irrefl _), vF]
end Go.Proofs.YtglcbikbmobdpaaDoorM
