/- Slices of bytes that grow by one byte, and the texts that are made of them. -/
import Derived.Test.YtobhmahlenjheaaM20
set_option linter.unusedSimpArgs false
set_option linter.unusedVariables false
namespace Go.Proofs.YtobhmahlenjheaaM
open Go Go.RowKit

variable {P : Program} {h : AH}

structure ByteTy (P : Program) (t e : TypeId) : Prop where
  ht : P.underlying t = some (.slice e)
  he : P.underlying e = some (.int .u8)
  hi : (P.info? e).map (fun i => (i.size, i.bytes, i.zero.map fun z => (z.cells.size, ofValue z))) = some (1, 1, some (1, .int .u8 0))

theorem ByteTy.info {t e : TypeId} (b : ByteTy P t e) : ∃ i z, P.info? e = some i ∧ i.size = 1 ∧ i.bytes = 1 ∧ i.zero = some z ∧ z.cells.size = 1 ∧ ofValue z = .int .u8 0 := by
  have := b.hi
  cases hi : P.info? e with
  | none => rw [hi] at this; cases this
  | some i =>
    rw [hi] at this
    simp only [Option.map_some, Option.some.injEq, Prod.mk.injEq] at this
    obtain ⟨h1, h2, h3⟩ := this
    cases hz : i.zero with
    | none => rw [hz] at h3; cases h3
    | some z =>
      rw [hz] at h3
      simp only [Option.map_some, Option.some.injEq, Prod.mk.injEq] at h3
      exact ⟨i, z, rfl, h1, h2, hz, h3.1, h3.2⟩

def cellB (b : UInt8) : AV := .int .u8 b.toNat

theorem take_cells (bs : List UInt8) : (bs.map cellB).take bs.length = bs.map cellB := List.take_of_length_le (by simp)

theorem abytes_cells (bs : List UInt8) : abytes (bs.map cellB) = some bs := by
  induction bs with
  | nil => rfl
  | cons b bs ih => simp [abytes, cellB, ih]

/-- A slice of one's own that holds such bytes. -/
def BS (e : TypeId) (v : AV) (h : AH) (bs : List UInt8) : Prop :=
  (bs = [] ∧ v = .val (.slice none 0 0)) ∨ ∃ id, bs ≠ [] ∧ v = .sl id 0 bs.length 1 ∧ h.get id = some (.cells (bs.map cellB) true 0 (some (e, false)))

theorem build1 {t e : TypeId} (b : ByteTy P t e) (m : Int) (h : AH) : abuildSlice P t 1 [(0, .int .u8 m)] h = some (.sl h.n 0 1 1, h.push (.cells [.int .u8 m] true 0 (some (e, false)))) := by
  obtain ⟨i, z, hi, h1, h2, hz, hz1, hz2⟩ := b.info
  have e1 : sliceElem P t = some e := by simp [sliceElem, b.ht]
  have e2 : szOf P e = some 1 := by simp [szOf, hi, h1]
  have e3 : zeroOf P e = some (.int .u8 0) := by simp [zeroOf, hi, hz, hz2]
  simp [abuildSlice, e1, e2, e3, AV.cells, AV.one, partsAt, zrow, afill, splice]

theorem append1 {t e : TypeId} (b : ByteTy P t e) {v : AV} {bs : List UInt8} (hs : BS e v h bs) (hl : bs.length < 100000000000) (x : UInt8) :
    ∃ v' h', aappend P #[t, t] [v, .sl h.n 0 1 1] (h.push (.cells [.int .u8 x.toNat] true 0 (some (e, false)))) = some (v', h') ∧ BS e v' h' (bs ++ [x]) := by
  obtain ⟨i, z, hi, h1, h2, hz, hz1, hz2⟩ := b.info
  have e1 : sliceElem P t = some e := by simp [sliceElem, b.ht]
  have e4 : (P.underlying t).map notInt = some true := by simp [b.ht, notInt]
  have room : ∀ k, k ≤ 100000000001 → aroom i k = true := fun k hk => by
    simp [aroom, h1, h2, hz, hz1, sizeCap]
    omega
  have e5 : acells (.sl h.n 0 1 1) 1 1 (h.push (.cells [.int .u8 x.toNat] true 0 (some (e, false)))) = some [.int .u8 x.toNat] := by
    simp [acells, AH.get_push_new]
  rcases hs with ⟨rfl, rfl⟩ | ⟨id, hb0, rfl, hg⟩
  · refine ⟨.sl (h.n + 1) 0 1 1, (h.push (.cells [.int .u8 x.toNat] true 0 (some (e, false)))).push (.cells [.int .u8 x.toNat] true 0 (some (e, false))), ?_, .inr ⟨h.n + 1, by simp, rfl, ?_⟩⟩
    · simp only [aappend, List.getElem?_toArray, List.getElem?_cons_zero, List.getElem?_cons_succ, e1, e4, hi, alen, h1, room (0 + 1) (by omega), e5, aappendAt]
      rfl
    · exact AH.get_push_new _ _
  · have hne : id ≠ h.n := fun hh => by have := AH.get_lt hg; omega
    have hg' : (h.push (.cells [.int .u8 x.toNat] true 0 (some (e, false)))).get id = some (.cells (bs.map cellB) true 0 (some (e, false))) := by
      rw [AH.get_push_ne hne]; exact hg
    refine ⟨.sl (h.n + 1) 0 (bs.length + 1) 1, ((h.push (.cells [.int .u8 x.toNat] true 0 (some (e, false)))).set id .dead).push (.cells (((bs.map cellB).drop 0).take (bs.length * 1) ++ [.int .u8 x.toNat]) true (0 - 0) (tyApp e (some (e, false)))), ?_, .inr ⟨h.n + 1, by simp, ?_, ?_⟩⟩
    rotate_left
    · simp only [List.length_append, List.length_cons, List.length_nil]
    rotate_left
    · simp only [aappend, List.getElem?_toArray, List.getElem?_cons_zero, List.getElem?_cons_succ, e1, e4, hi, alen, h1, room (bs.length + 1) (by omega), e5, aappendAt, hg']
      rw [if_neg (by omega), if_pos ⟨trivial, by simp, by omega, by simp [AV.one]⟩]
      rfl
    · have := AH.get_push_new ((h.push (.cells [.int .u8 x.toNat] true 0 (some (e, false)))).set id .dead) (.cells (((bs.map cellB).drop 0).take (bs.length * 1) ++ [.int .u8 x.toNat]) true (0 - 0) (tyApp e (some (e, false))))
      rw [AH.set_n, AH.push_n] at this
      rw [this]
      simp only [Nat.mul_one, List.drop_zero, take_cells, List.map_append, List.map_cons, List.map_nil, tyApp, if_true]
      rfl

theorem toText {t e s : TypeId} (b : ByteTy P t e) (hs : P.underlying s = some .string) {v : AV} {bs : List UInt8} (hv : BS e v h bs) : aconv P t s v h = some (.str bs, h) := by
  rcases hv with ⟨rfl, rfl⟩ | ⟨id, hb0, rfl, hg⟩
  · simp [aconv, b.ht, hs, b.he, alen, acells, abytes]
  · have : acells (.sl id 0 bs.length 1) 1 bs.length h = some (bs.map cellB) := by
      simp [acells, hg, take_cells]
    simp only [aconv, b.ht, hs, b.he, alen, this, abytes_cells, Option.map_some]

theorem appendS {t e s : TypeId} (b : ByteTy P t e) (hs : P.underlying s = some .string) {v : AV} {bs : List UInt8} (hv : BS e v h bs) (l : List UInt8) (hl : bs.length + l.length < 100000000000) :
    ∃ v' h', aappend P #[t, s] [v, .str l] h = some (v', h') ∧ BS e v' h' (bs ++ l) ∧ v'.cells = some [v'] ∧ v'.one = true ∧ (∀ k n, v' = .sl k 0 n 1 → (∃ m, v = .sl k 0 m 1) ∨ h.n ≤ k) ∧ h.n ≤ h'.n ∧ ∀ k o, h.get k = some o → (∀ n, v ≠ .sl k 0 n 1) → h'.get k = some o := by
  obtain ⟨i, z, hi, h1, h2, hz, hz1, hz2⟩ := b.info
  have e1 : sliceElem P t = some e := by simp [sliceElem, b.ht]
  have e4 : (P.underlying s).map notInt = some true := by simp [hs, notInt]
  have room : ∀ k, k ≤ 100000000001 → aroom i k = true := fun k hk => by
    simp [aroom, h1, h2, hz, hz1, sizeCap]
    omega
  have e5 : acells (.str l) 1 l.length h = some (l.map cellB) := by
    simp only [acells, Nat.le_refl, true_and, if_true, List.take_length]; rfl
  rcases hv with ⟨rfl, rfl⟩ | ⟨id, hb0, rfl, hg⟩
  · by_cases h0 : l.length = 0
    · obtain rfl : l = [] := List.eq_nil_of_length_eq_zero h0
      refine ⟨_, h, ?_, .inl ⟨rfl, rfl⟩, rfl, rfl, fun k n hh => .inl ⟨n, hh⟩, Nat.le_refl _, fun k o hk _ => hk⟩
      have e6 : acells (.str []) 1 0 h = some [] := rfl
      have r0 := room 0 (by omega)
      simp only [aappend, List.getElem?_toArray, List.getElem?_cons_zero, List.getElem?_cons_succ, e1, e4, hi, alen, h1, List.length_nil, Nat.add_zero, r0, e6, aappendAt, if_true]
    · refine ⟨.sl h.n 0 l.length 1, h.push (.cells (l.map cellB) true 0 (some (e, false))), ?_, .inr ⟨h.n, by simpa using (fun hh => h0 (by rw [hh]; rfl)), by simp, by simpa using AH.get_push_new h _⟩, rfl, rfl, fun k n hh => .inr (by cases hh; omega), by rw [AH.push_n]; omega, fun k o hk _ => by rw [AH.get_push_ne (by have := AH.get_lt hk; omega)]; exact hk⟩
      simp only [aappend, List.getElem?_toArray, List.getElem?_cons_zero, List.getElem?_cons_succ, e1, e4, hi, alen, h1, room (0 + l.length) (by simp at hl ⊢; omega), e5, aappendAt, h0, if_false]
  · by_cases h0 : l.length = 0
    · obtain rfl : l = [] := List.eq_nil_of_length_eq_zero h0
      refine ⟨.sl id 0 bs.length 1, h, ?_, .inr ⟨id, by simpa using hb0, by simp, by simpa using hg⟩, rfl, rfl, fun k n hh => .inl ⟨n, hh⟩, Nat.le_refl _, fun k o hk _ => hk⟩
      have e6 : acells (.str []) 1 0 h = some [] := rfl
      have r0 := room bs.length (by omega)
      simp only [aappend, List.getElem?_toArray, List.getElem?_cons_zero, List.getElem?_cons_succ, e1, e4, hi, alen, h1, List.length_nil, Nat.add_zero, r0, e6, aappendAt, if_true]
    · refine ⟨.sl h.n 0 (bs.length + l.length) 1, (h.set id .dead).push (.cells (((bs.map cellB).drop 0).take (bs.length * 1) ++ l.map cellB) true (0 - 0) (tyApp e (some (e, false)))), ?_, .inr ⟨h.n, by simp [hb0], by simp, ?_⟩, rfl, rfl, fun k n hh => .inr (by cases hh; omega), by rw [AH.push_n, AH.set_n]; omega, fun k o hk hne => ?_⟩
      · simp only [aappend, List.getElem?_toArray, List.getElem?_cons_zero, List.getElem?_cons_succ, e1, e4, hi, alen, h1, room (bs.length + l.length) (by omega), e5, aappendAt, h0, if_false, hg]
        rw [if_pos ⟨trivial, by simp, by omega, by simp [AV.one, cellB]⟩]
      · have := AH.get_push_new (h.set id .dead) (.cells (((bs.map cellB).drop 0).take (bs.length * 1) ++ l.map cellB) true (0 - 0) (tyApp e (some (e, false))))
        rw [AH.set_n] at this
        rw [this]
        simp only [Nat.mul_one, List.drop_zero, take_cells, List.map_append, tyApp, if_true]
      · have hki : k ≠ id := fun hh => by subst hh; exact hne _ rfl
        rw [AH.get_push_ne (by have := AH.get_lt hk; rw [AH.set_n]; omega), AH.get_set_ne hki]
        exact hk
end Go.Proofs.YtobhmahlenjheaaM
