/- Slices of structs that grow by one element, and their elements. -/
import Derived.Test.YtobhmahlenjheaaM21
set_option linter.unusedSimpArgs false
set_option linter.unusedVariables false
namespace Go.Proofs.YtobhmahlenjheaaM
open Go Go.RowKit

variable {P : Program} {h : AH}

/-- A slice type t of elements e, each of sz cells. -/
structure RowTy (P : Program) (t e : TypeId) (sz : Nat) : Prop where
  ht : P.underlying t = some (.slice e)
  hi : (P.info? e).map (fun i => (i.size, decide (i.bytes < 1000), i.zero.map fun z => z.cells.size)) = some (sz, true, some sz)
  hz : (zeroOf P e).bind (fun z => z.cells.map List.length) = some sz
  ag : isAg P e = some true
  pos : 0 < sz

theorem RowTy.info {t e : TypeId} {sz : Nat} (b : RowTy P t e sz) : ∃ i z, P.info? e = some i ∧ i.size = sz ∧ i.bytes < 1000 ∧ i.zero = some z ∧ z.cells.size = sz := by
  have := b.hi
  cases hi : P.info? e with
  | none => rw [hi] at this; cases this
  | some i =>
    rw [hi] at this
    simp only [Option.map_some, Option.some.injEq, Prod.mk.injEq, decide_eq_true_eq] at this
    obtain ⟨h1, h2, h3⟩ := this
    cases hz : i.zero with
    | none => rw [hz] at h3; cases h3
    | some z =>
      rw [hz] at h3
      simp only [Option.map_some, Option.some.injEq] at h3
      exact ⟨i, z, rfl, h1, h2, hz, h3⟩

/-- A slice of one's own that holds such elements. -/
def RS (e : TypeId) (sz : Nat) (v : AV) (h : AH) (xs : List (List AV)) : Prop :=
  (xs = [] ∧ v = .val (.slice none 0 0)) ∨ ∃ id, xs ≠ [] ∧ v = .sl id 0 xs.length sz ∧ h.get id = some (.cells xs.flatten true 0 (some (e, false)))

theorem buildR {t e : TypeId} {sz : Nat} (b : RowTy P t e sz) (hsm : sz < 1000) (cs : List AV) (hc : cs.length = sz) (h : AH) :
    abuildSlice P t 1 [(0, .agg cs)] h = some (.sl h.n 0 1 sz, h.push (.cells cs true 0 (some (e, false)))) := by
  obtain ⟨i, z, hi, h1, h2, hz, hz1⟩ := b.info
  have e1 : sliceElem P t = some e := by simp [sliceElem, b.ht]
  have e2 : szOf P e = some sz := by simp [szOf, hi, h1]
  have hp := b.pos
  have e3 := b.hz
  cases hz0 : zeroOf P e with
  | none => rw [hz0] at e3; cases e3
  | some z0 =>
    rw [hz0] at e3
    simp only [Option.bind_some] at e3
    cases hc0 : z0.cells with
    | none => rw [hc0] at e3; cases e3
    | some zs =>
      rw [hc0] at e3
      simp only [Option.map_some, Option.some.injEq] at e3
      have hne : ¬ (sz = 0 ∨ 16777216 < 1 * sz) := by omega
      have ea : (AV.agg cs).cells = some cs := rfl
      have h10 : ¬ ((1 : Nat) = 0) := by omega
      have hf : afill zs [(0, sz, cs)] = some cs := by
        simp only [afill]
        rw [if_pos ⟨hc, by omega⟩]
        simp [splice, hc, e3]
      simp only [abuildSlice, e1, e2, hne, if_false, h10, hz0, hc0, partsAt, ea, Nat.zero_mul, zrow, List.append_nil, hf]
      rw [if_neg (fun hh => hh.2 e3)]

theorem appendR {t e : TypeId} {sz : Nat} (b : RowTy P t e sz) {v : AV} {xs : List (List AV)} (hs : RS e sz v h xs) (hx : ∀ x ∈ xs, x.length = sz) (hl : xs.length < 1000000) (cs : List AV) (hc : cs.length = sz) (ho : cs.all AV.one = true) :
    ∃ v' h', aappend P #[t, t] [v, .sl h.n 0 1 sz] (h.push (.cells cs true 0 (some (e, false)))) = some (v', h') ∧ RS e sz v' h' (xs ++ [cs]) ∧ (∀ k n, v' = .sl k 0 n sz → h.n ≤ k) ∧ h.n ≤ h'.n ∧ ∀ k o, h.get k = some o → (∀ n, v ≠ .sl k 0 n sz) → h'.get k = some o := by
  obtain ⟨i, z, hi, h1, h2, hz, hz1⟩ := b.info
  have hp := b.pos
  have e1 : sliceElem P t = some e := by simp [sliceElem, b.ht]
  have e4 : (P.underlying t).map notInt = some true := by simp [b.ht, notInt]
  have room : ∀ k, k ≤ 1000000 → aroom i k = true := fun k hk => by
    have : k * (i.bytes + 1) ≤ 1000000 * 1000 := Nat.mul_le_mul hk (by omega)
    simp only [aroom, h1, hz, hz1, Option.map_some, Bool.and_eq_true, decide_eq_true_eq, beq_self_eq_true, sizeCap]
    refine ⟨⟨decide_eq_true (Nat.le_trans this (by decide : (1000000 * 1000 : Nat) ≤ 1099511627776)), ?_⟩, ?_⟩
    · simpa using hp
    · simp
  have e5 : acells (.sl h.n 0 1 sz) sz 1 (h.push (.cells cs true 0 (some (e, false)))) = some cs := by
    simp only [acells, AH.get_push_new, Nat.le_refl, and_self, if_true, Nat.zero_add, Nat.one_mul, hc, List.drop_zero]
    rw [List.take_of_length_le (by omega)]
    rfl
  rcases hs with ⟨rfl, rfl⟩ | ⟨id, hb0, rfl, hg⟩
  · refine ⟨.sl (h.n + 1) 0 1 sz, (h.push (.cells cs true 0 (some (e, false)))).push (.cells cs true 0 (some (e, false))), ?_, .inr ⟨h.n + 1, by simp, rfl, ?_⟩, fun k n hh => by cases hh; omega, by simp [AH.push_n]; omega, fun k o hk _ => ?_⟩
    · simp only [aappend, List.getElem?_toArray, List.getElem?_cons_zero, List.getElem?_cons_succ, e1, e4, hi, alen, h1, room (0 + 1) (by omega), e5, aappendAt]
      rfl
    · have := AH.get_push_new (h.push (.cells cs true 0 (some (e, false)))) (.cells cs true 0 (some (e, false)))
      rw [AH.push_n] at this
      simpa using this
    · have := AH.get_lt hk
      rw [AH.get_push_ne (by rw [AH.push_n]; omega), AH.get_push_ne (by omega)]
      exact hk
  · have hne : id ≠ h.n := fun hh => by have := AH.get_lt hg; omega
    have hg' : (h.push (.cells cs true 0 (some (e, false)))).get id = some (.cells xs.flatten true 0 (some (e, false))) := by
      rw [AH.get_push_ne hne]; exact hg
    have hfl : xs.flatten.length = xs.length * sz := by
      clear hg hg' hb0 hl
      induction xs with
      | nil => simp
      | cons x xs ih =>
        rw [List.flatten_cons, List.length_append, hx x (List.mem_cons_self ..), ih (fun y hy => hx y (List.mem_cons_of_mem _ hy)), List.length_cons, Nat.add_mul]
        omega
    refine ⟨.sl (h.n + 1) 0 (xs.length + 1) sz, ((h.push (.cells cs true 0 (some (e, false)))).set id .dead).push (.cells ((xs.flatten.drop 0).take (xs.length * sz) ++ cs) true (0 - 0) (tyApp e (some (e, false)))), ?_, .inr ⟨h.n + 1, by simp, by simp, ?_⟩, fun k n hh => by cases hh; omega, by rw [AH.push_n, AH.set_n, AH.push_n]; omega, fun k o hk hnk => ?_⟩
    · simp only [aappend, List.getElem?_toArray, List.getElem?_cons_zero, List.getElem?_cons_succ, e1, e4, hi, alen, h1, room (xs.length + 1) (by omega), e5, aappendAt, hg']
      rw [if_neg (by omega), if_pos ⟨trivial, by omega, by omega, ho⟩]
      rfl
    · have := AH.get_push_new ((h.push (.cells cs true 0 (some (e, false)))).set id .dead) (.cells ((xs.flatten.drop 0).take (xs.length * sz) ++ cs) true (0 - 0) (tyApp e (some (e, false))))
      rw [AH.set_n, AH.push_n] at this
      rw [this]
      simp only [List.drop_zero, tyApp, if_true, List.flatten_append, List.flatten_cons, List.flatten_nil, List.append_nil]
      rw [List.take_of_length_le (by omega)]
    · have hlt := AH.get_lt hk
      have hki : k ≠ id := fun hh => by subst hh; exact hnk _ rfl
      rw [AH.get_push_ne (by rw [AH.set_n, AH.push_n]; omega), AH.get_set_ne hki, AH.get_push_ne (by omega)]
      exact hk

theorem aeq_struct {t : TypeId} {fs : Array Field} (hu : P.underlying t = some (.struct fs)) (hs : P.stoodInHeld t = false) (d : Nat) (xs ys : List AV) : aeq P (d + 1) t (.agg xs) (.agg ys) = eqFields P (aeq P d) fs.toList xs ys := by
  simp only [aeq, hu, hs, Bool.false_eq_true, if_false]
theorem aeq_int {t : TypeId} {k : IntKind} (hu : P.underlying t = some (.int k)) (d : Nat) (a b : Int) (k' : IntKind) : aeq P (d + 1) t (.int k' a) (.int k' b) = some (a == b) := by
  simp [aeq, hu, aeqCell]
theorem aeq_str {t : TypeId} (hu : P.underlying t = some .string) (d : Nat) (a b : List UInt8) : aeq P (d + 1) t (.str a) (.str b) = some (a == b) := by
  simp [aeq, hu, aeqCell]
theorem eqFields_cons {eq : TypeId → AV → AV → Option Bool} {f : Field} {fs : List Field} {xs ys : List AV} {x y : AV} {b : Bool} (hn : f.name ≠ "_") (hx : apart P f.type xs f.offset = some x) (hy : apart P f.type ys f.offset = some y) (he : eq f.type x y = some b) :
    eqFields P eq (f :: fs) xs ys = if b then eqFields P eq fs xs ys else some false := by
  simp only [eqFields, hn, if_false, hx, hy, he]
  cases b <;> rfl

theorem flat_get {xs : List (List AV)} {sz : Nat} (hx : ∀ x ∈ xs, x.length = sz) : ∀ i c, xs[i]? = some c → (xs.flatten.drop (i * sz)).take sz = c ∧ (i + 1) * sz ≤ xs.flatten.length := by
  induction xs with
  | nil => intro i c h; simp at h
  | cons y ys ih =>
    intro i c h
    have hy := hx y (List.mem_cons_self ..)
    cases i with
    | zero =>
      simp at h
      subst h
      refine ⟨?_, by simp; omega⟩
      rw [Nat.zero_mul, List.drop_zero, List.flatten_cons, List.take_left' hy]
    | succ i =>
      have := ih (fun z hz => hx z (List.mem_cons_of_mem _ hz)) i c (by simpa using h)
      refine ⟨?_, ?_⟩
      · rw [List.flatten_cons, Nat.add_mul, Nat.one_mul, Nat.add_comm, ← List.drop_drop, List.drop_left' hy]
        exact this.1
      · have h2 := this.2
        rw [List.flatten_cons, List.length_append, hy, Nat.add_mul (i + 1)]
        omega

/-- A slice that holds such elements, to be read. -/
def RV (e : TypeId) (sz : Nat) (v : AV) (h : AH) (xs : List (List AV)) : Prop :=
  (xs = [] ∧ v = .val (.slice none 0 0)) ∨ ∃ id own fz ty, v = .sl id 0 xs.length sz ∧ h.get id = some (.cells xs.flatten own fz ty)

theorem RS.rv {e : TypeId} {sz : Nat} {v : AV} {xs : List (List AV)} (hs : RS e sz v h xs) : RV e sz v h xs := by
  rcases hs with hh | ⟨id, _, hv, hg⟩
  · exact .inl hh
  · exact .inr ⟨id, _, _, _, hv, hg⟩
theorem RV.keep {e : TypeId} {sz : Nat} {v : AV} {h' : AH} {xs : List (List AV)} (hs : RV e sz v h xs) (hf : ∀ k o, h.get k = some o → h'.get k = some o) : RV e sz v h' xs := by
  rcases hs with hh | ⟨id, a, b, c, hv, hg⟩
  · exact .inl hh
  · exact .inr ⟨id, a, b, c, hv, hf _ _ hg⟩

/-- The address of an element, and what lies there. -/
theorem elemR {t e : TypeId} {sz : Nat} (b : RowTy P t e sz) {v : AV} {xs : List (List AV)} (hs : RV e sz v h xs) (hx : ∀ x ∈ xs, x.length = sz) {i : Nat} {c : List AV} (hi : xs[i]? = some c) :
    ∃ p, (∀ k : IntKind, aindexAddr P t v (.int k i) = some p) ∧ aload P e p h = some (.agg c) := by
  obtain ⟨inf, z, hin, h1, h2, hz, hz1⟩ := b.info
  have e2 : szOf P e = some sz := by simp [szOf, hin, h1]
  have hil : i < xs.length := by
    rcases Nat.lt_or_ge i xs.length with hh | hh
    · exact hh
    · rw [List.getElem?_eq_none hh] at hi; cases hi
  rcases hs with ⟨rfl, rfl⟩ | ⟨id, own, fz, ty, rfl, hg⟩
  · simp at hil
  · obtain ⟨f1, f2⟩ := flat_get hx i c hi
    rw [Nat.add_mul, Nat.one_mul] at f2
    refine ⟨.ptr id (0 + i * sz), fun k => ?_, ?_⟩
    · simp only [aindexAddr, b.ht, e2]
      rw [if_pos ⟨trivial, by omega, by omega⟩]
      simp
    · simp only [aload, hg, apart, b.ag, e2]
      rw [if_pos (by omega), Nat.zero_add, f1]

theorem lenR {t e : TypeId} {sz : Nat} (b : RowTy P t e sz) {v : AV} {xs : List (List AV)} (hs : RV e sz v h xs) : alenOf P t v h = some (.int .i64 xs.length) := by
  rcases hs with ⟨rfl, rfl⟩ | ⟨id, own, fz, ty, rfl, hg⟩
  · simp [alenOf, b.ht]
  · simp [alenOf, b.ht]
end Go.Proofs.YtobhmahlenjheaaM
