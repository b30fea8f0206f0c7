/- Usage: a node, at all paths that it is under. -/
import Derived.Test.YtglcbikbmobdpaaDoorP45b
set_option linter.unusedSimpArgs false
set_option linter.unusedVariables false
namespace Go.Proofs.YtglcbikbmobdpaaDoorM
open Go Go.RowKit

theorem pre_or {s p q r r1 : Txt} (h : s = p ++ 47 :: r) (h1 : s = q ++ 47 :: r1) (hl : q.length ≤ p.length) : q = p ∨ ∃ r2, p = q ++ 47 :: r2 := by
  have e1 : p = s.take p.length := by rw [h, List.take_left' rfl]
  rcases Nat.lt_or_ge q.length p.length with h2 | h2
  · right
    refine ⟨r1.take (p.length - q.length - 1), ?_⟩
    conv => lhs; rw [e1, h1, List.take_append, List.take_of_length_le (by omega)]
    rw [show p.length - q.length = (p.length - q.length - 1) + 1 by omega, List.take_succ_cons]
    simp
  · left
    have e2 : q = s.take q.length := by rw [h1, List.take_left' rfl]
    rw [e1, e2]
    congr 1
    omega

theorem node_eq (n : Nd) (hn : n.1.length ≤ 1000) (m : GMap Txt Us) : ∃ m', F_usage_counter_node n m = some (m', ()) ∧ ∀ q, says m' q = if q = [] ∨ und n.1 q = true then bump (says m q) n else says m q := by
  have key := iter_inv (step := fun v2 : Txt × Bool × GMap Txt Us × Nd => bif v2.2.1 then ((bif !(v2.1 == ([] : (List UInt8))) then ((F_usage_counter_add v2.1 v2.2.2.2 v2.2.2.1).bind fun v3 => some (v3.1, v2.2.2.2)) else (some v2.2.2)).bind fun v4 => (F_route_Parent v2.1).bind fun v5 => some (.inl (v5.1, (v5.2.1, v4)))) else (some (Sum.inr (v2.2.2.1, ()))))
    (fun st => st.2.2.2 = n ∧ ((st.2.1 = true ∧ (∃ r, n.1 = st.1 ++ 47 :: r) ∧ ∀ q, says st.2.2.1 q = if q = [] ∨ (und n.1 q = true ∧ st.1.length < q.length) then bump (says m q) n else says m q) ∨
      (st.2.1 = false ∧ ∀ q, says st.2.2.1 q = if q = [] ∨ und n.1 q = true then bump (says m q) n else says m q)))
    (fun st => if st.2.1 = true then st.1.length + 1 else 0)
    (fun r : GMap Txt Us × Unit => ∀ q, says r.1 q = if q = [] ∨ und n.1 q = true then bump (says m q) n else says m q) (by
      rintro ⟨p, ok, m1, n1⟩ ⟨h0, h⟩
      simp only at h0 h
      subst h0
      rcases h with ⟨rfl, ⟨r, hr⟩, hs⟩ | ⟨rfl, hs⟩
      · left
        have hpl : p.length ≤ 1000 := by have := congrArg List.length hr; simp at this; omega
        -- one more step of the chain, from a map that says of p too
        have go : ∀ m2 : GMap Txt Us, (∀ q, says m2 q = if q = [] ∨ (und n1.1 q = true ∧ p.length ≤ q.length) then bump (says m q) n1 else says m q) →
            ∃ s' : Txt × Bool × GMap Txt Us × Nd, ((F_route_Parent p).bind fun v5 => some (.inl (v5.1, (v5.2.1, (m2, n1))))) = (some (.inl s') : Option ((Txt × Bool × GMap Txt Us × Nd) ⊕ (GMap Txt Us × Unit))) ∧ (s'.2.2.2 = n1 ∧ ((s'.2.1 = true ∧ (∃ r, n1.1 = s'.1 ++ 47 :: r) ∧ ∀ q, says s'.2.2.1 q = if q = [] ∨ (und n1.1 q = true ∧ s'.1.length < q.length) then bump (says m q) n1 else says m q) ∨
              (s'.2.1 = false ∧ ∀ q, says s'.2.2.1 q = if q = [] ∨ und n1.1 q = true then bump (says m q) n1 else says m q))) ∧ (if s'.2.1 = true then s'.1.length + 1 else 0) < p.length + 1 := by
          intro m2 hm2
          have low : ∀ q, q ≠ [] → und n1.1 q = true → q.length < p.length → ∃ d, par p = some d ∧ q.length ≤ d.length := fun q hq hu hl => by
            obtain ⟨r1, h1⟩ := (und_pre hq).1 hu
            rcases pre_or hr h1 (by omega) with e | ⟨r2, e⟩
            · rw [e] at hl; omega
            · exact par_next e
          rw [parent_eq p (by omega)]
          cases hpar : par p with
          | none =>
            refine ⟨([], false, m2, n1), rfl, ⟨rfl, .inr ⟨rfl, fun q => ?_⟩⟩, by simp⟩
            rw [hm2]
            by_cases hq : q = []
            · rw [if_pos (.inl hq), if_pos (.inl hq)]
            by_cases hu : und n1.1 q = true
            · have hle : p.length ≤ q.length := by
                rcases Nat.lt_or_ge q.length p.length with hl | hl
                · obtain ⟨d, hd, _⟩ := low q hq hu hl; rw [hpar] at hd; cases hd
                · exact hl
              rw [if_pos (.inr ⟨hu, hle⟩), if_pos (.inr hu)]
            · rw [if_neg (fun h => h.elim hq fun h => hu h.1), if_neg (fun h => h.elim hq hu)]
          | some d =>
            obtain ⟨h1, h2⟩ := par_some hpar
            have hdl := par_len hpar
            refine ⟨(d, true, m2, n1), rfl, ⟨rfl, .inl ⟨rfl, ⟨bas p ++ 47 :: r, by rw [hr]; conv => lhs; rw [h1]
                                                                                   simp⟩, fun q => ?_⟩⟩, by simp; omega⟩
            rw [hm2]
            by_cases hq : q = []
            · rw [if_pos (.inl hq), if_pos (.inl hq)]
            by_cases hu : und n1.1 q = true
            · by_cases hl : p.length ≤ q.length
              · rw [if_pos (.inr ⟨hu, hl⟩), if_pos (.inr ⟨hu, by simp only; omega⟩)]
              · obtain ⟨d', hd, hd2⟩ := low q hq hu (by omega)
                rw [hpar] at hd; cases hd
                rw [if_neg (fun h => h.elim hq fun h => hl h.2), if_neg (fun h => h.elim hq fun h => by have := h.2; simp only at this; omega)]
            · rw [if_neg (fun h => h.elim hq fun h => hu h.1), if_neg (fun h => h.elim hq fun h => hu h.1)]
        by_cases hp : p = []
        · subst hp
          obtain ⟨s', e, hI, hm⟩ := go m1 (fun q => by
            rw [hs]
            by_cases hq : q = []
            · rw [if_pos (.inl hq), if_pos (.inl hq)]
            · have hql : 0 < q.length := by rcases q with _ | _; exact absurd rfl hq; simp
              by_cases hu : und n1.1 q = true
              · rw [if_pos (.inr ⟨hu, hql⟩), if_pos (.inr ⟨hu, Nat.zero_le _⟩)]
              · rw [if_neg (fun h => h.elim hq fun h => hu h.1), if_neg (fun h => h.elim hq fun h => hu h.1)])
          exact ⟨s', e, hI, by simpa using hm⟩
        · have hb : (p == ([] : Txt)) = false := by rw [beq_eq_false_iff_ne]; exact hp
          obtain ⟨s', e, hI, hm⟩ := go (mset m1 p (p, bump ((mget m1 p).getD zU).2 n1)) (fun q => by
            rw [says_set]
            by_cases hqp : q = p
            · subst hqp
              rw [if_pos rfl]
              have h1 := hs q
              have hnot : ¬ (q = [] ∨ (und n1.1 q = true ∧ q.length < q.length)) := fun h => h.elim hp fun h => Nat.lt_irrefl _ h.2
              rw [if_neg hnot] at h1
              have hu : und n1.1 q = true := (und_pre hp).2 ⟨r, hr⟩
              rw [if_pos (.inr ⟨hu, Nat.le_refl _⟩), ← h1]; rfl
            · rw [if_neg hqp, hs]
              by_cases hq : q = []
              · rw [if_pos (.inl hq), if_pos (.inl hq)]
              by_cases hu : und n1.1 q = true
              · have hne : q.length ≠ p.length := fun hl => by
                  obtain ⟨r1, h1⟩ := (und_pre hq).1 hu
                  rcases pre_or hr h1 (by omega) with e | ⟨r2, e⟩
                  · exact hqp e
                  · rw [e] at hl; simp at hl
                by_cases hl : p.length < q.length
                · rw [if_pos (.inr ⟨hu, hl⟩), if_pos (.inr ⟨hu, by omega⟩)]
                · rw [if_neg (fun h => h.elim hq fun h => hl h.2), if_neg (fun h => h.elim hq fun h => by have := h.2; omega)]
              · rw [if_neg (fun h => h.elim hq fun h => hu h.1), if_neg (fun h => h.elim hq fun h => hu h.1)])
          refine ⟨s', ?_, hI, by simpa using hm⟩
          simp only [cond_true, hb, Bool.not_false, add_eq, Option.bind_some]
          exact e
      · right
        exact ⟨(m1, ()), by simp only [cond_false], hs⟩)
  have hpar : ∀ q, q ≠ [] → und n.1 q = true → ∃ d, par n.1 = some d ∧ q.length ≤ d.length := fun q hq hu => by
    obtain ⟨r1, h1⟩ := (und_pre hq).1 hu
    exact par_next h1
  have h0 : ∀ q, says (mset m [] ([], bump ((mget m []).getD zU).2 n)) q = if q = [] then bump (says m q) n else says m q := fun q => by
    rw [says_set]
    by_cases hq : q = []
    · subst hq; rw [if_pos rfl, if_pos rfl]; rfl
    · rw [if_neg hq, if_neg hq]
  unfold F_usage_counter_node
  rw [add_eq, Option.bind_some, parent_eq n.1 (by omega), Option.bind_some]
  obtain ⟨⟨m', u⟩, e, hQ⟩ := key NF ((par n.1).getD [], (par n.1).isSome, mset m [] ([], bump ((mget m []).getD zU).2 n), n) ⟨rfl, by
    cases hp : par n.1 with
    | none =>
      refine .inr ⟨rfl, fun q => ?_⟩
      show says (mset m [] ([], bump ((mget m []).getD zU).2 n)) q = _
      rw [h0]
      by_cases hq : q = []
      · rw [if_pos hq, if_pos (.inl hq)]
      · rw [if_neg hq, if_neg (fun h => h.elim hq fun hu => by obtain ⟨d, hd, _⟩ := hpar q hq hu; rw [hp] at hd; cases hd)]
    | some d =>
      refine .inl ⟨rfl, ⟨bas n.1, (par_some hp).1⟩, fun q => ?_⟩
      show says (mset m [] ([], bump ((mget m []).getD zU).2 n)) q = if q = [] ∨ (und n.1 q = true ∧ d.length < q.length) then _ else _
      rw [h0]
      by_cases hq : q = []
      · rw [if_pos hq, if_pos (.inl hq)]
      · rw [if_neg hq, if_neg (fun h => h.elim hq fun hu => by obtain ⟨d', hd, hl⟩ := hpar q hq hu.1; rw [hp] at hd; cases hd; have := hu.2; omega)]⟩ (by
    rw [NF_eq]
    cases hp : par n.1 with
    | none => simp
    | some d => have := par_len hp; simp; omega)
  exact ⟨m', by rw [e]; rfl, hQ⟩

/-- Does a node stand under a path? -/
def holds (q : Txt) (n : Nd) : Bool := q == [] || und n.1 q
def cntW (q : Txt) (l : List Nd) : Int × Int × Int × Unit := (l.filter (holds q)).foldl bump (0, 0, 0, ())
theorem counted_eq (t : List Nd) (ht : t.length ≤ 1000) (hn : ∀ n ∈ t, n.1.length ≤ 1000) : ∃ m, F_usage_counted t = some (m, ()) ∧ ∀ q, says m q = cntW q t := by
  have key := iter_inv (step := fun v0 : Int × GMap Txt Us × Unit => bif decide (v0.1 < (t.length : Int)) then ((idxL t v0.1).bind fun v1 => (F_usage_counter_node v1 v0.2.1).bind fun v2 => some (.inl (IntKind.i64.wrap (v0.1 + 1), v2))) else (some (Sum.inr v0.2)))
    (fun st => ∃ k : Nat, st.1 = (k : Int) ∧ k ≤ t.length ∧ ∀ q, says st.2.1 q = cntW q (t.take k)) (fun st => t.length - st.1.toNat) (fun r : GMap Txt Us × Unit => ∀ q, says r.1 q = cntW q t) (by
      rintro ⟨_, m, u⟩ ⟨k, rfl, h1, h2⟩
      by_cases hk : k < t.length
      · left
        have c1 : decide ((k : Int) < (t.length : Int)) = true := decide_eq_true (by omega)
        obtain ⟨m', e, h3⟩ := node_eq t[k] (hn _ (List.getElem_mem hk)) m
        simp only [c1, cond_true, idxL_nat hk, Option.bind_some, e, w64 (x := (k : Int) + 1) (by omega) (by omega)]
        refine ⟨_, rfl, ⟨k + 1, by simp, by omega, fun q => ?_⟩, by simp only; omega⟩
        simp only
        rw [h3, h2, List.take_succ_eq_append_getElem hk]
        unfold cntW
        rw [List.filter_append, List.foldl_append]
        by_cases hq : q = [] ∨ und t[k].1 q = true
        · have : holds q t[k] = true := by unfold holds; rw [Bool.or_eq_true, beq_iff_eq]; exact hq
          rw [if_pos hq]; simp [this]
        · have : holds q t[k] = false := by
            cases hh : holds q t[k] with
            | false => rfl
            | true => unfold holds at hh; rw [Bool.or_eq_true, beq_iff_eq] at hh; exact absurd hh hq
          rw [if_neg hq]; simp [this]
      · right
        have c1 : decide ((k : Int) < (t.length : Int)) = false := decide_eq_false (by omega)
        refine ⟨(m, u), by simp only [c1, cond_false], fun q => ?_⟩
        have := h2 q
        rw [List.take_of_length_le (by omega)] at this
        exact this) NF (0, ⟨[], 0⟩, ()) ⟨0, rfl, Nat.zero_le _, fun q => rfl⟩ (by rw [NF_eq]; simp; omega)
  obtain ⟨⟨m, u⟩, e, h⟩ := key
  unfold F_usage_counted
  exact ⟨m, by rw [e]; rfl, h⟩
end Go.Proofs.YtglcbikbmobdpaaDoorM
