/- Trees: what nodes that make one are; what stands under a directory, by those right in it. -/
import Derived.Test.YtglcbikbmobdpaaDoorP15a
set_option linter.unusedSimpArgs false
set_option linter.unusedVariables false
namespace Go.Proofs.YtglcbikbmobdpaaDoorM
open Go Go.RowKit

theorem tErr_snoc : ∀ (r q : List NdT) (n : NdT), tErr q (r ++ [n]) = if tErr q r = 0 then nErr (q ++ r) n else tErr q r
  | [], q, n => by
    show (if nErr q n = 0 then 0 else nErr q n) = if (0 : Int) = 0 then nErr (q ++ []) n else 0
    rw [if_pos rfl, List.append_nil]; split <;> simp_all
  | m :: r, q, n => by
    show (if nErr q m = 0 then tErr (q ++ [m]) (r ++ [n]) else nErr q m) = if (if nErr q m = 0 then tErr (q ++ [m]) r else nErr q m) = 0 then _ else (if nErr q m = 0 then tErr (q ++ [m]) r else nErr q m)
    by_cases h : nErr q m = 0
    · rw [if_pos h, if_pos h, tErr_snoc r (q ++ [m]) n, List.append_assoc]; rfl
    · rw [if_neg h, if_neg h, if_neg h]
/-- Nodes that make a tree. -/
structure TreeOK (t : List NdT) : Prop where
  ok : ∀ n ∈ t, okR n.1 = true
  rst : ∀ n ∈ t, rst n = true
  asc : AscC cP (t.map (·.1))
  dad : ∀ n ∈ t, ∀ d, par n.1 = some d → ∃ m ∈ t, m.1 = d ∧ m.2.1 = true
  col : ∀ (i : Nat) (h : i < t.length), coll (t.take i) t[i].1 = false
theorem nErr_zero {q : List NdT} {n : NdT} (h : nErr q n = 0) : okR n.1 = true ∧ rst n = true ∧ (∀ m, q.getLast? = some m → cP m.1 n.1 = -1) ∧ (∀ d, par n.1 = some d → isDir q d = true) ∧ coll q n.1 = false := by
  unfold nErr at h
  by_cases h1 : okR n.1 = false
  · rw [if_pos h1] at h; cases h
  rw [if_neg h1] at h
  by_cases h2 : rst n = false
  · rw [if_pos h2] at h; cases h
  rw [if_neg h2] at h
  by_cases h3 : lastGe q n.1 = true
  · rw [if_pos h3] at h; cases h
  rw [if_neg h3] at h
  by_cases h4 : noDad q n.1 = true
  · rw [if_pos h4] at h; cases h
  rw [if_neg h4] at h
  by_cases h5 : coll q n.1 = true
  · rw [if_pos h5] at h; cases h
  refine ⟨by simpa using h1, by simpa using h2, fun m hm => ?_, fun d hd => ?_, by simpa using h5⟩
  · unfold lastGe at h3
    rw [hm] at h3
    simp only [decide_eq_true_eq] at h3
    have := cP_ord.val m.1 n.1
    omega
  · unfold noDad at h4
    rw [hd] at h4
    simpa using h4
theorem isDir_mem {t : List NdT} {d : Txt} (h : isDir t d = true) : ∃ m ∈ t, m.1 = d ∧ m.2.1 = true := by
  unfold isDir at h
  cases hg : getN t d with
  | none => rw [hg] at h; cases h
  | some m =>
    rw [hg] at h
    exact ⟨m, List.mem_of_find?_eq_some hg, by simpa using List.find?_some hg, h⟩
theorem treeOK_of (t : List NdT) : tErr [] t = 0 → TreeOK t := by
  refine snoc_ind (P := fun t => tErr [] t = 0 → TreeOK t) (fun _ => ⟨by simp, by simp, List.Pairwise.nil, by simp, fun i h => absurd h (Nat.not_lt_zero _)⟩) (fun l n ih h => ?_) t
  rw [tErr_snoc] at h
  have hl : tErr [] l = 0 := by
    by_cases h0 : tErr [] l = 0
    · exact h0
    · rw [if_neg h0] at h; exact absurd h h0
  rw [if_pos hl, List.nil_append] at h
  have T := ih hl
  obtain ⟨h1, h2, h3, h4, h5⟩ := nErr_zero h
  refine ⟨fun x hx => ?_, fun x hx => ?_, ?_, fun x hx d hd => ?_, fun i hi => ?_⟩
  · rcases List.mem_append.1 hx with e | e
    · exact T.ok x e
    · rw [List.mem_singleton] at e; subst e; exact h1
  · rcases List.mem_append.1 hx with e | e
    · exact T.rst x e
    · rw [List.mem_singleton] at e; subst e; exact h2
  · rw [List.map_append]
    refine List.pairwise_append.2 ⟨T.asc, List.pairwise_singleton _ _, fun a ha b hb => ?_⟩
    rw [List.map_cons, List.map_nil, List.mem_singleton] at hb
    subst hb
    obtain ⟨x, hx, rfl⟩ := List.mem_map.1 ha
    cases hq : l.getLast? with
    | none => rw [List.getLast?_eq_none_iff] at hq; subst hq; cases hx
    | some m =>
      have hm := h3 m hq
      obtain ⟨l', hl'⟩ := List.getLast?_eq_some_iff.1 hq
      have ha := T.asc
      rw [hl', List.map_append] at ha
      rw [hl'] at hx
      rcases List.mem_append.1 hx with e | e
      · have := (List.pairwise_append.1 ha).2.2 x.1 (List.mem_map_of_mem e) m.1 (by simp)
        exact cP_ord.trans _ _ _ this hm
      · rw [List.mem_singleton] at e; subst e; exact hm
  · rcases List.mem_append.1 hx with e | e
    · obtain ⟨m, q1, q2⟩ := T.dad x e d hd
      exact ⟨m, List.mem_append_left _ q1, q2⟩
    · rw [List.mem_singleton] at e; subst e
      obtain ⟨m, q1, q2⟩ := isDir_mem (h4 d hd)
      exact ⟨m, List.mem_append_left _ q1, q2⟩
  · rcases Nat.lt_or_ge i l.length with hi2 | hi2
    · rw [List.take_append_of_le_length (by omega), List.getElem_append_left hi2]
      exact T.col i hi2
    · have : i = l.length := by simp at hi; omega
      subst this
      rw [List.take_left' rfl, List.getElem_append_right (Nat.le_refl _)]
      simpa using h5
theorem TreeOK.uniq {t : List NdT} (T : TreeOK t) {n m : NdT} (hn : n ∈ t) (hm : m ∈ t) (h : n.1 = m.1) : n = m := by
  obtain ⟨i, hi, rfl⟩ := List.getElem_of_mem hn
  obtain ⟨j, hj, rfl⟩ := List.getElem_of_mem hm
  have ha := List.pairwise_iff_getElem.1 T.asc
  have key : ∀ i j (hi : i < t.length) (hj : j < t.length), i < j → t[i].1 ≠ t[j].1 := fun i j hi hj hij => by
    have := ha i j (by simpa using hi) (by simpa using hj) hij
    simp only [List.getElem_map] at this
    exact cP_ord.ne this
  rcases Nat.lt_trichotomy i j with h1 | h1 | h1
  · exact absurd h (key i j hi hj h1)
  · subst h1; rfl
  · exact absurd h.symm (key j i hj hi h1)
theorem TreeOK.ne {t : List NdT} (T : TreeOK t) {n : NdT} (hn : n ∈ t) : n.1 ≠ [] := okR_ne (T.ok n hn)

theorem und_app {s q : Txt} (hq : q ≠ []) : und s q = true ↔ ∃ r, s = q ++ 47 :: r := by
  unfold und
  rw [if_neg hq, List.isPrefixOf_iff_prefix]
  constructor
  · rintro ⟨r, h⟩; exact ⟨r, by rw [← h]; simp⟩
  · rintro ⟨r, h⟩; exact ⟨r, by rw [h]; simp⟩
theorem par_near {p q r : Txt} (h : p = q ++ 47 :: r) : ∃ d, par p = some d ∧ q.length ≤ d.length := by
  cases hp : par p with
  | none => exact absurd (par_none hp).1 (by rw [h]; simp)
  | some d =>
    refine ⟨d, rfl, ?_⟩
    obtain ⟨h1, h2⟩ := par_some hp
    rcases Nat.lt_or_ge d.length q.length with hl | hl
    · exfalso
      apply h2
      have : p[q.length]? = some 47 := by rw [h]; simp
      rw [h1, List.getElem?_append_right (by omega), show q.length - d.length = (q.length - d.length - 1) + 1 by omega, List.getElem?_cons_succ] at this
      exact List.mem_of_getElem? this
    · exact hl
theorem pre_cases {s p q r r1 : Txt} (h : s = p ++ 47 :: r) (h1 : s = q ++ 47 :: r1) (hl : q.length ≤ p.length) : q = p ∨ ∃ r2, p = q ++ 47 :: r2 := by
  have e1 : p = s.take p.length := by rw [h, List.take_left' rfl]
  rcases Nat.lt_or_ge q.length p.length with h2 | h2
  · right
    refine ⟨r1.take (p.length - q.length - 1), ?_⟩
    conv => lhs; rw [e1, h1, List.take_append, List.take_of_length_le (by omega)]
    rw [show p.length - q.length = (p.length - q.length - 1) + 1 by omega, List.take_succ_cons]
    simp
  · left
    have e2 : q = s.take q.length := by rw [h1, List.take_left' rfl]
    rw [e1, e2]
    congr 1
    omega
/-- What a path is under: its parent, and what that is under. -/
theorem und_par {s d q : Txt} (hd : par s = some d) (hq : q ≠ []) : und s q = true ↔ q = d ∨ und d q = true := by
  obtain ⟨h1, _⟩ := par_some hd
  constructor
  · intro h
    obtain ⟨r, hr⟩ := (und_app hq).1 h
    obtain ⟨d', k1, k2⟩ := par_near hr
    rw [hd] at k1; cases k1
    rcases pre_cases h1 hr k2 with e | ⟨r2, e⟩
    · exact .inl e
    · exact .inr ((und_app hq).2 ⟨r2, e⟩)
  · rintro (rfl | h)
    · exact (und_app hq).2 ⟨_, h1⟩
    · obtain ⟨r, hr⟩ := (und_app hq).1 h
      generalize bas s = b at h1
      exact (und_app hq).2 ⟨r ++ 47 :: b, by rw [h1, hr]; simp⟩
theorem und_none {s q : Txt} (hs : par s = none) (hq : q ≠ []) : und s q = false := by
  cases h : und s q with
  | false => rfl
  | true =>
    obtain ⟨r, hr⟩ := (und_app hq).1 h
    obtain ⟨d, k1, _⟩ := par_near hr
    rw [hs] at k1; cases k1
theorem und_len {s q : Txt} (hq : q ≠ []) (h : und s q = true) : q.length < s.length := by
  obtain ⟨r, hr⟩ := (und_app hq).1 h
  rw [hr, List.length_append, List.length_cons]; omega
theorem und_self (p : Txt) : und p p = false := by
  cases h : und p p with
  | false => rfl
  | true =>
    by_cases hp : p = []
    · subst hp; cases h
    · have := und_len hp h; omega

/-! ### Sums -/
theorem sum_swap {α β : Type} (a : α → Bool) (b : α → β → Bool) (w : β → Nat) (m : List β) : ∀ l : List α, (l.map fun n => if a n = true then ((m.filter (b n)).map w).sum else 0).sum = (m.map fun x => w x * l.countP fun n => a n && b n x).sum
  | [] => by
    induction m with
    | nil => rfl
    | cons x m ih => simpa using ih
  | n :: l => by
    rw [List.map_cons, List.sum_cons, sum_swap a b w m l]
    have : ∀ m : List β, (if a n = true then ((m.filter (b n)).map w).sum else 0) + (m.map fun x => w x * l.countP fun n => a n && b n x).sum = (m.map fun x => w x * (n :: l).countP fun n => a n && b n x).sum := fun m => by
      induction m with
      | nil => simp
      | cons x m ih =>
        rw [List.map_cons, List.sum_cons, List.map_cons, List.sum_cons, ← ih, List.countP_cons]
        cases ha : a n with
        | false => simp [ha]
        | true =>
          cases hb : b n x with
          | false => rw [List.filter_cons_of_neg (by simp [hb])]; simp [ha, hb]; omega
          | true => rw [List.filter_cons_of_pos hb]; simp [ha, hb, Nat.mul_add]; omega
    exact this m
theorem sum_add {α : Type} (f g : α → Nat) : ∀ l : List α, (l.map fun x => f x + g x).sum = (l.map f).sum + (l.map g).sum
  | [] => rfl
  | x :: l => by simp [sum_add f g l]; omega
theorem sum_filter {α : Type} (a : α → Bool) (f : α → Nat) : ∀ l : List α, ((l.filter a).map f).sum = (l.map fun x => if a x = true then f x else 0).sum
  | [] => rfl
  | x :: l => by
    cases h : a x with
    | true => rw [List.filter_cons_of_pos h]; simp [h, sum_filter a f l]
    | false => rw [List.filter_cons_of_neg (by simp [h])]; simp [h, sum_filter a f l]
theorem sum_congr {α : Type} {f g : α → Nat} : ∀ {l : List α}, (∀ x ∈ l, f x = g x) → (l.map f).sum = (l.map g).sum
  | [], _ => rfl
  | x :: l, h => by rw [List.map_cons, List.map_cons, List.sum_cons, List.sum_cons, h x List.mem_cons_self, sum_congr fun y hy => h y (List.mem_cons_of_mem _ hy)]
theorem sum_le {α : Type} {f : α → Nat} {b : Nat} : ∀ {l : List α}, (∀ x ∈ l, f x ≤ b) → (l.map f).sum ≤ b * l.length
  | [], _ => Nat.le_refl _
  | x :: l, h => by
    have h1 := h x List.mem_cons_self
    have h2 := sum_le fun y hy => h y (List.mem_cons_of_mem x hy)
    rw [List.map_cons, List.sum_cons, List.length_cons, Nat.mul_succ]; omega
/-- Of those of a path just one stands there. -/
theorem count_one {f : NdT → Bool} : ∀ {l : List NdT} {m : NdT}, m ∈ l → l.Pairwise (fun a b => a.1 ≠ b.1) → l.countP (fun n => f n && n.1 == m.1) = if f m = true then 1 else 0
  | [], _, h, _ => by cases h
  | x :: l, m, h, hp => by
    obtain ⟨p1, p2⟩ := List.pairwise_cons.1 hp
    rw [List.countP_cons]
    rcases List.mem_cons.1 h with e | e
    · subst e
      have : l.countP (fun n => f n && n.1 == m.1) = 0 := by
        rw [List.countP_eq_zero]
        intro a ha
        have := p1 a ha
        simp; intro _ h; exact this h.symm
      rw [this]; simp
    · rw [count_one e p2]
      have : (x.1 == m.1) = false := by rw [beq_eq_false_iff_ne]; exact p1 m e
      simp [this]
theorem TreeOK.pw {t : List NdT} (T : TreeOK t) : t.Pairwise (fun a b => a.1 ≠ b.1) := by
  have := T.asc
  unfold AscC at this
  rw [List.pairwise_map] at this
  exact this.imp fun h => cP_ord.ne h
/-- Does a node stand under a path, or is that the path of all? -/
def hol (q : Txt) (n : NdT) : Bool := q == [] || und n.1 q
theorem kid_count {t : List NdT} (T : TreeOK t) (p : Txt) : ∀ (k : Nat) (x : NdT), x ∈ t → x.1.length ≤ k → (if kid p x = true then 1 else 0) + t.countP (fun n => (kid p n && n.2.1) && und x.1 n.1) = if hol p x = true then 1 else 0 := by
  intro k
  induction k with
  | zero => intro x hx hk; exact absurd (List.eq_nil_of_length_eq_zero (by omega)) (T.ne hx)
  | succ k ih =>
    intro x hx hk
    cases hpar : par x.1 with
    | none =>
      have h0 : t.countP (fun n => (kid p n && n.2.1) && und x.1 n.1) = 0 := by
        rw [List.countP_eq_zero]
        intro n hn
        rw [und_none hpar (T.ne hn)]; simp
      rw [h0]
      unfold kid hol
      rw [hpar]
      by_cases hp : p = []
      · subst hp; rfl
      · rw [und_none hpar hp]; simp
    | some d =>
      obtain ⟨m, hm, rfl, hmd⟩ := T.dad x hx d hpar
      have hml := par_len hpar
      have e1 : t.countP (fun n => (kid p n && n.2.1) && und x.1 n.1) = t.countP (fun n => (kid p n && n.2.1) && n.1 == m.1) + t.countP (fun n => (kid p n && n.2.1) && und m.1 n.1) := by
        have : ∀ l : List NdT, (∀ n ∈ l, n.1 ≠ []) → l.countP (fun n => (kid p n && n.2.1) && und x.1 n.1) = l.countP (fun n => (kid p n && n.2.1) && n.1 == m.1) + l.countP (fun n => (kid p n && n.2.1) && und m.1 n.1) := fun l hl => by
          induction l with
          | nil => rfl
          | cons n l ih2 =>
            rw [List.countP_cons, List.countP_cons, List.countP_cons, ih2 fun y hy => hl y (List.mem_cons_of_mem _ hy)]
            have hne := hl n List.mem_cons_self
            have hu := und_par hpar hne
            cases kid p n && n.2.1 with
            | false => simp
            | true =>
              by_cases h1 : n.1 = m.1
              · have h2 : und m.1 n.1 = false := by rw [h1]; exact und_self _
                have h3 : und x.1 n.1 = true := hu.2 (.inl h1)
                rw [h2, h3, h1]; simp; omega
              · have h2 : (n.1 == m.1) = false := by rw [beq_eq_false_iff_ne]; exact h1
                have h3 : und x.1 n.1 = und m.1 n.1 := by
                  rw [Bool.eq_iff_iff, hu]
                  exact ⟨fun h => h.elim (fun e => absurd e h1) id, .inr⟩
                rw [h2, h3]; simp; omega
        exact this t fun n hn => T.ne hn
      have hm1 := ih m hm (by omega)
      rw [e1, count_one (f := fun n => kid p n && n.2.1) hm T.pw]
      have e2 : (kid p m && m.2.1) = kid p m := by rw [hmd, Bool.and_true]
      rw [e2, hm1]
      have hmne := T.ne hm
      unfold hol
      have ek : kid p x = (m.1 == p) := by unfold kid; rw [hpar]
      rw [ek]
      by_cases hp : p = []
      · subst hp
        have : (m.1 == ([] : Txt)) = false := by rw [beq_eq_false_iff_ne]; exact hmne
        rw [this]; rfl
      · have h0 : (p == ([] : Txt)) = false := by rw [beq_eq_false_iff_ne]; exact hp
        have hu := und_par hpar hp
        rw [h0, Bool.false_or, Bool.false_or]
        by_cases h1 : m.1 = p
        · have h2 : und m.1 p = false := by rw [h1]; exact und_self _
          have h3 : und x.1 p = true := hu.2 (.inl h1.symm)
          rw [h2, h3, h1]; simp
        · have h2 : (m.1 == p) = false := by rw [beq_eq_false_iff_ne]; exact h1
          have h3 : und x.1 p = und m.1 p := by
            rw [Bool.eq_iff_iff, hu]
            exact ⟨fun h => h.elim (fun e => absurd e.symm h1) id, .inr⟩
          rw [h2, h3]; simp
/-- What stands under a path, by what stands right in it. -/
def sumH (w : NdT → Nat) (q : Txt) (t : List NdT) : Nat := ((t.filter (hol q)).map w).sum
theorem sums_eq {t : List NdT} (T : TreeOK t) (w : NdT → Nat) (p : Txt) : sumH w p t = ((t.filter (kid p)).map fun n => w n + if n.2.1 = true then sumH w n.1 t else 0).sum := by
  rw [sum_add]
  have e2 : ((t.filter (kid p)).map fun n => if n.2.1 = true then sumH w n.1 t else 0).sum = (t.map fun n => if (kid p n && n.2.1) = true then ((t.filter fun x => und x.1 n.1).map w).sum else 0).sum := by
    rw [sum_filter]
    refine sum_congr fun n hn => ?_
    have : sumH w n.1 t = ((t.filter fun x => und x.1 n.1).map w).sum := by
      unfold sumH
      congr 2
      refine List.filter_congr fun x _ => ?_
      unfold hol
      have := T.ne hn
      simp [this]
    rw [this]
    cases kid p n <;> cases n.2.1 <;> simp
  rw [e2, sum_swap (fun n => kid p n && n.2.1) (fun n x => und x.1 n.1) w t t]
  rw [sum_filter, ← sum_add]
  unfold sumH
  rw [sum_filter]
  refine sum_congr fun x hx => ?_
  have := kid_count T p x.1.length x hx (Nat.le_refl _)
  have e3 : (if hol p x = true then w x else 0) = w x * (if hol p x = true then 1 else 0) := by split <;> simp
  rw [e3, ← this, Nat.mul_add]
  congr 1
  split <;> simp
end Go.Proofs.YtglcbikbmobdpaaDoorM
