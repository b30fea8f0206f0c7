/- States fitted to a shape: slots in another order, slices frozen, nil slices as one's own. -/
import Derived.Test.YtlpiiifmidehjaaDoorV10
set_option linter.unusedSimpArgs false
set_option linter.unusedVariables false
namespace Go.Proofs.YtlpiiifmidehjaaDoorM
open Go Go.RowKit

/-! ### Slots in another order -/
def SV.ren (ρ : Nat → Option Nat) : SV → SV
  | .ptr k o => match ρ k with | some j => .ptr j o | none => .dead
  | .row k => match ρ k with | some j => .row j | none => .dead
  | .view k a b => match ρ k with | some j => .view j a b | none => .dead
  | .ept k i o => match ρ k with | some j => .ept j i o | none => .dead
  | .mp k => match ρ k with | some j => .mp j | none => .dead
  | .fn f a b => .fn f (a.ren ρ) (b.ren ρ)
  | .ifc t s => .ifc t (s.ren ρ)
  | .tup s => .tup (s.ren ρ)
  | .agg s => .agg (s.ren ρ)
  | .cn a b => .cn (a.ren ρ) (b.ren ρ)
  | s => s
def SO.ren (ρ : Nat → Option Nat) : SO → Option SO
  | .obj t cs => if (cs.ren ρ).okL then some (.obj t (cs.ren ρ)) else none
  | o => some o
def posIn : List Nat → Nat → Option Nat
  | [], _ => none
  | x :: l, k => if x = k then some 0 else (posIn l k).map (· + 1)
def osAt (os : List (Option SO)) (k : Nat) : Option SO := (os[k]?).join
def renOs (l : List Nat) (ρ : Nat → Option Nat) (os : List (Option SO)) : List (Option SO) := l.map fun k => (osAt os k).bind (SO.ren ρ)

section
variable {g g' : FM} {H H' : List AV} {env : List AV} {h h0 h' : AH} {X : List Nat} {S : VS}

theorem posIn_ok : ∀ {l : List Nat} {k j : Nat}, posIn l k = some j → l[j]? = some k
  | [], _, _, h => by cases h
  | x :: l, k, j, h => by
    unfold posIn at h
    split at h
    · rename_i e; cases h; subst e; rfl
    · obtain ⟨i, hi, rfl⟩ := Option.map_eq_some_iff.1 h
      simpa using posIn_ok hi

def Moved (H H' : List AV) (ρ : Nat → Option Nat) : Prop := ∀ (k j : Nat) (x : AV), ρ k = some j → H[k]? = some x → H'[j]? = some x

theorem SVL.ren {ρ : Nat → Option Nat} (hm : Moved H H' ρ) : ∀ {s : SV} {l : List AV}, SVL g H s l → SVL g H' (s.ren ρ) l
  | .ptr k o, l, h => by
    unfold SV.ren
    obtain ⟨id, h1, rfl⟩ := h
    split
    · exact ⟨id, hm _ _ _ (by assumption) h1, rfl⟩
    · exact ⟨_, rfl⟩
  | .row k, l, h => by
    unfold SV.ren
    obtain ⟨x, h1, rfl, h2⟩ := h
    split
    · exact ⟨x, hm _ _ _ (by assumption) h1, rfl, h2⟩
    · exact ⟨_, rfl⟩
  | .view k a b, l, h => by
    unfold SV.ren
    obtain ⟨p1, p2, ⟨id, off, n, sz, h1, h2, rfl⟩ | ⟨h1, h2, h3, rfl⟩⟩ := h
    · split
      · exact ⟨p1, p2, .inl ⟨id, off, n, sz, hm _ _ _ (by assumption) h1, h2, rfl⟩⟩
      · exact ⟨_, rfl⟩
    · split
      · exact ⟨p1, p2, .inr ⟨hm _ _ _ (by assumption) h1, h2, h3, rfl⟩⟩
      · exact ⟨_, rfl⟩
  | .ept k i o, l, h => by
    unfold SV.ren
    obtain ⟨p, id, off, n, sz, h1, h2, rfl⟩ := h
    split
    · exact ⟨p, id, off, n, sz, hm _ _ _ (by assumption) h1, h2, rfl⟩
    · exact ⟨_, rfl⟩
  | .mp k, l, h => by
    unfold SV.ren
    obtain ⟨id, h1, rfl⟩ := h
    split
    · exact ⟨id, hm _ _ _ (by assumption) h1, rfl⟩
    · exact ⟨_, rfl⟩
  | .fn f a b, l, h => by obtain ⟨xs, ys, rfl, h1, h2⟩ := h; exact ⟨xs, ys, rfl, SVL.ren hm h1, SVL.ren hm h2⟩
  | .ifc t s, l, h => by obtain ⟨x, rfl, h1⟩ := h; exact ⟨x, rfl, SVL.ren hm h1⟩
  | .tup s, l, h => by obtain ⟨x, rfl, h1⟩ := h; exact ⟨x, rfl, SVL.ren hm h1⟩
  | .agg s, l, h => by obtain ⟨x, rfl, h1⟩ := h; exact ⟨x, rfl, SVL.ren hm h1⟩
  | .cn a b, l, h => by obtain ⟨x, xs, rfl, h1, h2⟩ := h; exact ⟨x, xs, rfl, SVL.ren hm h1, SVL.ren hm h2⟩
  | .dead, l, h => h
  | .un, l, h => h
  | .con _, l, h => h
  | .kb _, l, h => h
  | .pv _ _, l, h => h
  | .fpt _ _ _, l, h => h
  | .gpt _ _ _, l, h => h
  | .nl, l, h => h

theorem SO.ren_ok {ρ : Nat → Option Nat} (hm : Moved H H' ρ) {o o' : SO} (ho : o.ren ρ = some o') {x : AV} (hr : SOR g H h o x) : SOR g H' h o' x := by
  cases o with
  | obj t cs =>
    simp only [SO.ren] at ho
    split at ho
    · rename_i hk
      cases ho
      obtain ⟨id, c, h1, h2, h3, h4⟩ := hr
      exact ⟨id, c, h1, h2, SVL.ren hm h3, hk⟩
    · cases ho
  | row e t l => cases ho; exact hr
  | map kt et m => cases ho; exact hr
  | sit s p => cases ho; exact hr

theorem VMem.ren {os : List (Option SO)} (M : VMem h0 X g H os h) {l : List Nat} (hl : l.Nodup) {ρ : Nat → Option Nat} (hm : Moved H (l.map fun k => H.getD k nilS) ρ) :
    VMem h0 X g (l.map fun k => H.getD k nilS) (renOs l ρ os) h := by
  have old : ∀ {j o'}, (renOs l ρ os)[j]? = some (some o') → ∃ (k : Nat) (o : SO) (x : AV), l[j]? = some k ∧ os[k]? = some (some o) ∧ o.ren ρ = some o' ∧ H[k]? = some x ∧ (l.map fun k => H.getD k nilS)[j]? = some x := fun {j o'} hj => by
    unfold renOs at hj
    rw [List.getElem?_map] at hj
    obtain ⟨k, hk, hq⟩ := Option.map_eq_some_iff.1 hj
    obtain ⟨o, ho, hr⟩ := Option.bind_eq_some_iff.1 hq
    have hos : os[k]? = some (some o) := by
      unfold osAt at ho
      cases e : os[k]? with
      | none => rw [e] at ho; cases ho
      | some y => rw [e] at ho; simp only [Option.join_some] at ho; rw [ho]
    have hlt := lt_at hos
    have hx : H[k]? = some (H[k]'(by rw [M.hl]; exact hlt)) := List.getElem?_eq_getElem _
    refine ⟨k, o, _, hk, hos, hr, hx, ?_⟩
    rw [List.getElem?_map, hk, Option.map_some, List.getD_eq_getElem?_getD, hx]
    rfl
  refine ⟨M.n, M.old, M.fz, by simp [renOs], fun j o' x h1 h2 => ?_, fun j o' x i h1 h2 h3 => ?_, M.gx, fun j o' x j' o'' x' i h1 h2 h3 h4 h5 h6 => ?_⟩
  · obtain ⟨k, o, y, k1, k2, k3, k4, k5⟩ := old h1
    rw [k5] at h2; cases h2
    exact SO.ren_ok hm k3 (M.so k o _ k2 k4)
  · obtain ⟨k, o, y, k1, k2, k3, k4, k5⟩ := old h1
    rw [k5] at h2; cases h2
    exact M.own k o _ i k2 k4 h3
  · obtain ⟨k, o, y, k1, k2, k3, k4, k5⟩ := old h1
    rw [k5] at h2; cases h2
    obtain ⟨k', o2, y', q1, q2, q3, q4, q5⟩ := old h3
    rw [q5] at h4; cases h4
    have := M.nd k o _ k' o2 _ i k2 k4 q2 q4 h5 h6
    subst this
    have e1 := List.getElem?_eq_some_iff.1 k1
    have e2 := List.getElem?_eq_some_iff.1 q1
    obtain ⟨l1, e1⟩ := e1
    obtain ⟨l2, e2⟩ := e2
    exact (List.getElem_inj hl).1 (by rw [e1, e2])

theorem moved_pos {l : List Nat} : Moved H (l.map fun k => H.getD k nilS) (posIn l) := fun k j x hk hx => by
  rw [List.getElem?_map, posIn_ok hk, Option.map_some, List.getD_eq_getElem?_getD, hx]
  rfl

/-! ### Nil slices as one's own -/
def coer (T : List SOH) : SH → SV → List (Option SO) → SV × List (Option SO)
  | .row k, .con x, os => match conC x, T[k]? with
    | some 0, some (.row e t) => (.row os.length, os ++ [some (.row e t [])])
    | _, _ => (.con x, os)
  | .row k, .view j a b, os => match T[k]?, os[j]? with
    | some (.row e t), some (some (.row e' t' l)) => if e = e' ∧ t = t' then (.row os.length, os.set j none ++ [some (.row e' t' (oTD l a b))]) else (.view j a b, os)
    | _, _ => (.view j a b, os)
  | .view _, .row j, os => match os[j]? with
    | some (some (.row _ _ l)) => (.view j 0 (oLen l), os)
    | _ => (.row j, os)
  | .tup a, .tup b, os => (.tup (coer T a b os).1, (coer T a b os).2)
  | .agg a, .agg b, os => (.agg (coer T a b os).1, (coer T a b os).2)
  | .ifc _ a, .ifc t b, os => (.ifc t (coer T a b os).1, (coer T a b os).2)
  | .fn _ a b, .fn f a' b', os => (.fn f (coer T a a' os).1 (coer T b b' (coer T a a' os).2).1, (coer T b b' (coer T a a' os).2).2)
  | .cn a b, .cn a' b', os => (.cn (coer T a a' os).1 (coer T b b' (coer T a a' os).2).1, (coer T b b' (coer T a a' os).2).2)
  | _, s, os => (s, os)
def coerL (T : List SOH) : List SH → List SV → List (Option SO) → List SV × List (Option SO)
  | a :: l, s :: xs, os => ((coer T a s os).1 :: (coerL T l xs (coer T a s os).2).1, (coerL T l xs (coer T a s os).2).2)
  | _, xs, os => (xs, os)
/-- In the cells of objects: pairs of the shape's slots and the state's. -/
def coerO (T : List SOH) : List (Nat × Nat) → List (Option SO) → List (Option SO)
  | [], os => os
  | (k, j) :: ps, os => match T[k]?, os[j]? with
    | some (.obj _ a), some (some (.obj t cs)) => if (coer T a cs os).1.okL then coerO T ps ((coer T a cs os).2.set j (some (.obj t (coer T a cs os).1))) else coerO T ps os
    | _, _ => coerO T ps os

def Ext (h0 : AH) (X : List Nat) (g : FM) (H : List AV) (os' : List (Option SO)) (h : AH) (Q : List AV → Prop) : Prop := ∃ H', Hpre H H' ∧ VMem h0 X g H' os' h ∧ Q H'

/-- A part of a row, as a row. -/
theorem view_row {os : List (Option SO)} (M : VMem h0 X g H os h) {j : Nat} {a b : Int} {e : TypeId} {t : Ty} {l : List t.D} (hj : os[j]? = some (some (.row e t l))) {y : List AV} (hr : SVL g H (.view j a b) y) :
    ∃ x, y = [x] ∧ VMem h0 X g (H ++ [x]) (os.set j none ++ [some (.row e t (oTD l a b))]) h ∧ (x = nilS ∨ ∃ id off n sz, x = .sl id off n sz) := by
  obtain ⟨h1, h2, h3⟩ := hr
  rcases h3 with ⟨id, off, n, sz, k1, k2, e'⟩ | ⟨k1, rfl, rfl, e'⟩
  · rcases M.so j _ _ hj k1 with ⟨e, _⟩ | ⟨id', off', c, xs, e, q1, q2, q3, q4⟩
    · cases e
    · cases e
      have hln := q4.len
      have hall := all_len q4
      have hll : ((l.take b.toNat).drop a.toNat).length = b.toNat - a.toNat := by rw [List.length_drop, List.length_take, Nat.min_eq_left (by omega)]
      refine ⟨_, e', VMem.mov (S := ⟨[], os⟩) M hj k1 (fun i hi => hi) (.inr ⟨id, off + a.toNat * t.size, c, (xs.take b.toNat).drop a.toNat, ?_, q1, ?_, ?_, (q4.take _).drop _⟩), .inr ⟨_, _, _, _, rfl⟩⟩
      · rw [oTD_len, hll]
      · rw [oTD_len, hll, Nat.sub_mul]
        have : b.toNat * t.size ≤ l.length * t.size := Nat.mul_le_mul_right _ (by omega)
        have : a.toNat * t.size ≤ b.toNat * t.size := Nat.mul_le_mul_right _ (by omega)
        omega
      · rw [oTD_len, hll]
        exact seg_sub hall hln q3 (by omega) (by omega)
  · refine ⟨nilS, e', VMem.mov (S := ⟨[], os⟩) M hj k1 (fun i hi => hi) (.inl ⟨rfl, ?_⟩), .inl rfl⟩
    simp [oTD_eq]
theorem coer_ok {T : List SOH} : ∀ {a : SH} {s : SV} {H : List AV} {os : List (Option SO)} {l : List AV}, VMem h0 X g H os h → SVL g H s l → Ext h0 X g H (coer T a s os).2 h fun H' => SVL g H' (coer T a s os).1 l := by
  intro a
  have same : ∀ {s : SV} {H : List AV} {os : List (Option SO)} {l : List AV}, VMem h0 X g H os h → SVL g H s l → Ext h0 X g H os h fun H' => SVL g H' s l := fun {s H os l} M hr => ⟨H, Hpre.refl H, M, hr⟩
  induction a with
  | row k =>
    intro s H os l M hr
    cases s <;> simp only [coer] <;> first | exact same M hr | skip
    split
    · rename_i hx e t hc hT
      cases hr
      obtain rfl := conC_ok hc
      have M' := VMem.add (o := .row e t []) (x := nilS) M (Nat.le_refl _) (fun _ _ hq => hq) (fun id hi => by cases hi) (.inl ⟨rfl, rfl⟩)
      refine ⟨_, Hpre.add H nilS, M', nilS, ?_, rfl, .inl rfl⟩
      rw [← M.hl, List.getElem?_append_right (Nat.le_refl _), Nat.sub_self]; rfl
    · exact same M hr
    · split
      · rename_i e t e' t' l' hT hj
        split
        · obtain ⟨x, rfl, M', hx⟩ := view_row M hj hr
          refine ⟨_, Hpre.add H x, M', x, ?_, rfl, hx⟩
          rw [← M.hl, List.getElem?_append_right (Nat.le_refl _), Nat.sub_self]; rfl
        · exact same M hr
      · exact same M hr
  | view k =>
    intro s H os l M hr
    cases s <;> simp only [coer] <;> first | exact same M hr | skip
    split
    · rename_i e t l' hj
      obtain ⟨x, h1, rfl, h2⟩ := hr
      refine same M ⟨Int.le_refl _, Int.natCast_nonneg _, ?_⟩
      rcases M.so _ _ x hj h1 with ⟨rfl, rfl⟩ | ⟨id, off, c, xs, rfl, q1, q2, q3, q4⟩
      · exact .inr ⟨h1, rfl, rfl, rfl⟩
      · refine .inl ⟨id, off, _, _, h1, Int.le_refl _, ?_⟩
        simp [oLen]
    · exact same M hr
  | tup a ih =>
    intro s H os l M hr
    cases s <;> simp only [coer] <;> first | exact same M hr | skip
    obtain ⟨xs, rfl, hx⟩ := hr
    obtain ⟨H', h1, h2, h3⟩ := ih M hx
    exact ⟨H', h1, h2, xs, rfl, h3⟩
  | agg a ih =>
    intro s H os l M hr
    cases s <;> simp only [coer] <;> first | exact same M hr | skip
    obtain ⟨xs, rfl, hx⟩ := hr
    obtain ⟨H', h1, h2, h3⟩ := ih M hx
    exact ⟨H', h1, h2, xs, rfl, h3⟩
  | ifc t a ih =>
    intro s H os l M hr
    cases s <;> simp only [coer] <;> first | exact same M hr | skip
    obtain ⟨xs, rfl, hx⟩ := hr
    obtain ⟨H', h1, h2, h3⟩ := ih M hx
    exact ⟨H', h1, h2, xs, rfl, h3⟩
  | fn f a b iha ihb =>
    intro s H os l M hr
    cases s <;> simp only [coer] <;> first | exact same M hr | skip
    obtain ⟨xs, ys, rfl, hx, hy⟩ := hr
    obtain ⟨H1, h1, h2, h3⟩ := iha M hx
    obtain ⟨H2, k1, k2, k3⟩ := ihb h2 (SVL.mono (FM.le.refl g) h1 hy)
    exact ⟨H2, h1.trans k1, k2, xs, ys, rfl, SVL.mono (FM.le.refl g) k1 h3, k3⟩
  | cn a b iha ihb =>
    intro s H os l M hr
    cases s <;> simp only [coer] <;> first | exact same M hr | skip
    obtain ⟨x, xs, rfl, hx, hy⟩ := hr
    obtain ⟨H1, h1, h2, h3⟩ := iha M hx
    obtain ⟨H2, k1, k2, k3⟩ := ihb h2 (SVL.mono (FM.le.refl g) h1 hy)
    exact ⟨H2, h1.trans k1, k2, x, xs, rfl, SVL.mono (FM.le.refl g) k1 h3, k3⟩
  | _ => intro s H os l M hr; cases s <;> exact same M hr

/-- A slot stays as it was, or a row was taken out of it. -/
def Stay (o o' : Option SO) : Prop := o' = o ∨ (o' = none ∧ ∃ e t l, o = some (.row e t l))
theorem Stay.trans {a b c : Option SO} (h : Stay a b) (k : Stay b c) : Stay a c := by
  rcases h with rfl | ⟨rfl, h⟩
  · exact k
  · rcases k with rfl | ⟨rfl, e, t, l, k⟩
    · exact .inr ⟨rfl, h⟩
    · cases k
theorem coer_pre {T : List SOH} : ∀ {a : SH} {s : SV} {os : List (Option SO)} {j : Nat} {o : Option SO}, os[j]? = some o → ∃ o', (coer T a s os).2[j]? = some o' ∧ Stay o o' := by
  intro a
  induction a with
  | row k =>
    intro s os j o hj
    cases s <;> simp only [coer] <;> first | exact ⟨o, hj, .inl rfl⟩ | skip
    · split
      · exact ⟨o, by rw [List.getElem?_append_left (lt_at hj)]; exact hj, .inl rfl⟩
      · exact ⟨o, hj, .inl rfl⟩
    · rename_i i a b
      split
      · rename_i e t e' t' l' hT hi
        split
        · by_cases hij : i = j
          · subst hij
            rw [hi] at hj
            cases hj
            exact ⟨none, by rw [List.getElem?_append_left (by rw [List.length_set]; exact lt_at hi), List.getElem?_set_self (lt_at hi)], .inr ⟨rfl, _, _, _, rfl⟩⟩
          · exact ⟨o, by rw [List.getElem?_append_left (by rw [List.length_set]; exact lt_at hj), List.getElem?_set_ne hij]; exact hj, .inl rfl⟩
        · exact ⟨o, hj, .inl rfl⟩
      · exact ⟨o, hj, .inl rfl⟩
  | view k => intro s os j o hj; cases s <;> simp only [coer] <;> first | exact ⟨o, hj, .inl rfl⟩ | (split <;> exact ⟨o, hj, .inl rfl⟩)
  | tup a ih => intro s os j o hj; cases s <;> simp only [coer] <;> first | exact ⟨o, hj, .inl rfl⟩ | exact ih hj
  | agg a ih => intro s os j o hj; cases s <;> simp only [coer] <;> first | exact ⟨o, hj, .inl rfl⟩ | exact ih hj
  | ifc t a ih => intro s os j o hj; cases s <;> simp only [coer] <;> first | exact ⟨o, hj, .inl rfl⟩ | exact ih hj
  | fn f a b iha ihb => intro s os j o hj; cases s <;> simp only [coer] <;> first | exact ⟨o, hj, .inl rfl⟩ | (obtain ⟨o1, h1, k1⟩ := iha hj; obtain ⟨o2, h2, k2⟩ := ihb h1; exact ⟨o2, h2, k1.trans k2⟩)
  | cn a b iha ihb => intro s os j o hj; cases s <;> simp only [coer] <;> first | exact ⟨o, hj, .inl rfl⟩ | (obtain ⟨o1, h1, k1⟩ := iha hj; obtain ⟨o2, h2, k2⟩ := ihb h1; exact ⟨o2, h2, k1.trans k2⟩)
  | _ => intro s os j o hj; cases s <;> exact ⟨o, hj, .inl rfl⟩

theorem coerL_ok {T : List SOH} : ∀ {as : List SH} {xs : List SV} {env : List AV} {H : List AV} {os : List (Option SO)}, VMem h0 X g H os h → EnvR g H xs env → Ext h0 X g H (coerL T as xs os).2 h fun H' => EnvR g H' (coerL T as xs os).1 env
  | a :: as, s :: xs, env, H, os, M, E => by
    cases env with
    | nil => have := E.len; simp at this
    | cons x env =>
      have hx : SVR g H s x := E.get 0 s x rfl rfl
      have E' : EnvR g H xs env := ⟨by have := E.len; simpa using this, fun d s' x' h1 h2 => E.get (d + 1) s' x' (by simpa using h1) (by simpa using h2)⟩
      obtain ⟨H1, h1, h2, h3⟩ := coer_ok (T := T) (a := a) M hx
      obtain ⟨H2, k1, k2, k3⟩ := coerL_ok (T := T) (as := as) h2 (E'.mono (FM.le.refl g) h1)
      refine ⟨H2, h1.trans k1, k2, ⟨by simp [coerL, k3.len], fun d s' x' e1 e2 => ?_⟩⟩
      cases d with
      | zero =>
        simp only [coerL, List.getElem?_cons_zero, Option.some.injEq] at e1 e2
        subst e1; subst e2
        exact SVL.mono (FM.le.refl g) k1 h3
      | succ d => exact k3.get d s' x' (by simpa [coerL] using e1) (by simpa using e2)
  | [], xs, env, H, os, M, E => by simp only [coerL]; exact ⟨H, Hpre.refl H, M, E⟩
  | _ :: _, [], env, H, os, M, E => by simp only [coerL]; exact ⟨H, Hpre.refl H, M, E⟩

theorem coerO_ok {T : List SOH} : ∀ {ps : List (Nat × Nat)} {H : List AV} {os : List (Option SO)}, VMem h0 X g H os h → Ext h0 X g H (coerO T ps os) h fun _ => True
  | [], H, os, M => ⟨H, Hpre.refl H, M, trivial⟩
  | (k, j) :: ps, H, os, M => by
    unfold coerO
    split
    · rename_i t0 a t cs hT hos
      split
      · rename_i hok
        obtain ⟨x, hx⟩ : ∃ x, H[j]? = some x := ⟨H[j]'(by rw [M.hl]; exact lt_at hos), List.getElem?_eq_getElem _⟩
        have hso := M.so j _ x hos hx
        obtain ⟨id, c, rfl, q1, q2, q3⟩ := hso
        obtain ⟨H1, h1, h2, h3⟩ := coer_ok (T := T) (a := a) M q2
        have hos1 : ∃ o, (coer T a cs os).2[j]? = some (some o) ∧ H1[j]? = some (.ptr id 0) := by
          refine ⟨.obj t cs, ?_, h1 j _ hx⟩
          obtain ⟨o', k1, k2⟩ := coer_pre (T := T) (a := a) (s := cs) hos
          rcases k2 with rfl | ⟨_, _, _, _, k2⟩
          · exact k1
          · cases k2
        obtain ⟨o1, o2, o3⟩ := hos1
        have M2 := VMem.say (o' := .obj t (coer T a cs os).1) h2 o2 o3 ⟨id, c, rfl, q1, h3, hok⟩
        obtain ⟨H2, k1, k2, _⟩ := coerO_ok (T := T) (ps := ps) M2
        exact ⟨H2, h1.trans k1, k2, trivial⟩
      · exact coerO_ok M
    · exact coerO_ok M
end
end Go.Proofs.YtlpiiifmidehjaaDoorM
