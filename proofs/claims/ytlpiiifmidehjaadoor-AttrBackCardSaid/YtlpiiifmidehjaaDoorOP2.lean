/- A law's arguments that are slices: what a reading says of the memory behind them. -/
import Derived.Test.YtlpiiifmidehjaaDoorOP
set_option linter.unusedSimpArgs false
set_option linter.unusedVariables false
namespace Go.Proofs.YtlpiiifmidehjaaDoorM
open Go Go.RowKit Go.ChangeShapes Go.WideShapes Go.Deep

/-- A slice of plain elements, as it lies in memory. -/
def ArgS (w : World) (sz : Nat) {α : Type} (f : α → List AV) (v : Value) (zs : List α) : Prop :=
  (∀ z ∈ zs, (f z).length = sz) ∧ ((v = .slice none 0 0 ∧ zs = []) ∨ ∃ (a : Addr) (cap : Nat), v = .slice (some a) zs.length cap ∧ zs.length ≤ cap ∧
    ((cap = 0 ∧ zs = []) ∨ ∃ (C : Array Value) (e : TypeId) (lo hi : Nat), w.heap[a.block]? = some (.cells C e (lo, hi)) ∧ a.spot = none ∧ a.off + cap * sz ≤ C.size ∧
      ∀ (i : Nat) (x : AV), (zs.map f).flatten[i]? = some x → ∃ u, C[a.off + i]? = some u ∧ ∀ N φ, VR N φ x u))

section
variable {H : Type} {enc : TypeId × Value → H} {P : Program} {w : World} {held : Bool}

theorem flat_at {xs : List (List AV)} {sz : Nat} (hx : ∀ x ∈ xs, x.length = sz) (hp : 0 < sz) {i : Nat} {x : AV} (h : xs.flatten[i]? = some x) : ∃ c, xs[i / sz]? = some c ∧ c[i % sz]? = some x := by
  have hlt : i < xs.flatten.length := by
    rcases Nat.lt_or_ge i xs.flatten.length with h' | h'
    · exact h'
    · rw [List.getElem?_eq_none h'] at h; cases h
  rw [flat_len hx] at hlt
  have hq : i / sz < xs.length := Nat.div_lt_of_lt_mul (by rwa [Nat.mul_comm])
  refine ⟨xs[i / sz], List.getElem?_eq_getElem hq, ?_⟩
  obtain ⟨f1, f2⟩ := flat_get hx (i / sz) _ (List.getElem?_eq_getElem hq)
  have hr : i % sz < sz := Nat.mod_lt _ hp
  rw [← f1, List.getElem?_take, if_pos hr, List.getElem?_drop, Nat.mul_comm, Nat.div_add_mod]
  exact h

theorem open_sliceC {t e : TypeId} {v : Value} {fuel : Nat} {y : DataW H × List MemPlace} (ht : P.underlying t = some (.slice e)) {sz : Nat} (hsz : P.cellsOf e = sz) (hp : 0 < sz) (hf : DataW.trod enc P w 0 (fun _ => true) held fuel t [v] = some y) {α : Type} [Inhabited α] (f : α → List AV) (good : α → Prop)
    (he : ∀ n cs y, DataW.trod enc P w 0 (fun _ => true) held n e cs = some y → cs.length = sz → ∃ x : α, good x ∧ (f x).length = sz ∧ ∀ N φ, VRs N φ (f x) cs) :
    ∃ zs : List α, (∀ z ∈ zs, good z) ∧ ArgS w sz f v zs := by
  rcases open_slice ht hf with ⟨h0, _⟩ | ⟨a', len, cap, m, n, D, Pl, h0, hb, hl, hm, hmm, _, hx⟩
  · obtain rfl : v = _ := (List.cons.inj h0).1
    exact ⟨[], fun z hz => (by cases hz), fun z hz => (by cases hz), .inl ⟨rfl, rfl⟩⟩
  · obtain rfl : v = _ := (List.cons.inj h0).1
    simp only [if_true] at hmm
    subst hmm
    rw [hsz] at hx
    obtain ⟨X, hX⟩ := choose_lt (α := α) (p := fun i x => good x ∧ (f x).length = sz ∧ ∃ cs', w.cells? 0 (a'.add (i * sz)) sz = some cs' ∧ ∀ N φ, VRs N φ (f x) cs') (n := m) (fun i hi => by
      obtain ⟨cs', h1, h2⟩ := hx i hi
      obtain ⟨_, hlen, _⟩ := World.cells?_some h1
      obtain ⟨x, g1, g2, g3⟩ := he _ _ _ h2 hlen
      exact ⟨x, g1, g2, cs', h1, g3⟩)
    have hgood : ∀ z ∈ (List.range len).map X, ∃ i, i < m ∧ X i = z := fun z hz => by
      obtain ⟨i, hi, rfl⟩ := List.mem_map.1 hz
      exact ⟨i, by have := List.mem_range.1 hi; omega, rfl⟩
    have hfl : ∀ z ∈ (List.range len).map X, (f z).length = sz := fun z hz => by obtain ⟨i, hi, rfl⟩ := hgood z hz; exact (hX i hi).2.1
    refine ⟨(List.range len).map X, fun z hz => by obtain ⟨i, hi, rfl⟩ := hgood z hz; exact (hX i hi).1, hfl, .inr ⟨a', m, by simp, by simpa using hl, ?_⟩⟩
    by_cases hc : m = 0
    · left
      exact ⟨hc, by have : len = 0 := by omega
                    subst this; rfl⟩
    · right
      have cellAt : ∀ i j, i < m → j < sz → ∃ cs', w.cells? 0 (a'.add (i * sz)) sz = some cs' ∧ w.cell? (a'.add (i * sz + j)) = cs'[j]? ∧ cs'.length = sz := fun i j hi hj => by
        obtain ⟨_, _, cs', h1, _⟩ := hX i hi
        obtain ⟨_, hlen, hcell⟩ := World.cells?_some h1
        exact ⟨cs', h1, by rw [← hcell j hj, add_add], hlen⟩
      obtain ⟨cs0, c1, c2, c3⟩ := cellAt 0 0 (by omega) hp
      have hsome : ∃ q, w.cell? a' = some q := by
        rw [List.getElem?_eq_getElem (by omega)] at c2
        refine ⟨_, (Eq.trans ?_ c2)⟩
        simp [Addr.add]
      obtain ⟨q, hq⟩ := hsome
      unfold World.cell? at hq
      split at hq
      rotate_left
      · cases hq
      rename_i C e' fz hC
      obtain ⟨lo, hi⟩ := fz
      split at hq
      · cases hq
      rename_i hspot
      have hspot' : a'.spot = none := by
        cases hs : a'.spot with
        | none => rfl
        | some k => rw [hs] at hspot; exact absurd rfl hspot
      have hadd : ∀ k, w.cell? (a'.add k) = C[a'.off + k]? := fun k => by
        unfold Addr.add
        split
        · rename_i h0; subst h0
          unfold World.cell?
          rw [hC]
          simp [hspot']
        · unfold World.cell?
          simp only
          rw [hC]
          simp
      have hmz : (m - 1) * sz + sz = m * sz := by
        have : m - 1 + 1 = m := by omega
        rw [← Nat.succ_mul, Nat.succ_eq_add_one, this]
      refine ⟨C, e', lo, hi, hC, hspot', ?_, fun i x hx' => ?_⟩
      · obtain ⟨cs', d1, d2, d3⟩ := cellAt (m - 1) (sz - 1) (by omega) (by omega)
        rw [hadd, List.getElem?_eq_getElem (by omega)] at d2
        have := (Array.getElem?_eq_some_iff.1 d2).1
        omega
      · obtain ⟨c, k1, k2⟩ := flat_at (xs := ((List.range len).map X).map f) (fun y hy => by obtain ⟨z, hz, rfl⟩ := List.mem_map.1 hy; exact hfl z hz) hp hx'
        have hr : i % sz < sz := Nat.mod_lt _ hp
        have hql : i / sz < len := by
          rcases Nat.lt_or_ge (i / sz) len with h' | h'
          · exact h'
          · rw [List.getElem?_eq_none (by simpa using h')] at k1; cases k1
        rw [List.getElem?_map, List.getElem?_map, List.getElem?_range hql] at k1
        simp only [Option.map_some, Option.some.injEq] at k1
        subst k1
        obtain ⟨_, _, cs', h1, h2⟩ := hX (i / sz) (by omega)
        obtain ⟨_, hlen, hcell⟩ := World.cells?_some h1
        have hcj := hcell (i % sz) hr
        rw [add_add, hadd, Nat.mul_comm, Nat.div_add_mod] at hcj
        rw [List.getElem?_eq_getElem (by omega)] at hcj
        exact ⟨_, hcj, fun N φ => (h2 N φ).2 _ _ _ k2 (List.getElem?_eq_getElem (by omega))⟩
theorem open_sliceK {r : Reach} {b0 : Nat} {t e : TypeId} {v : Value} {d : DataW H} {ps : List MemPlace} (ht : P.underlying t = some (.slice e)) {sz : Nat} (hsz : P.cellsOf e = sz) (hp : 0 < sz) (hval : Value.okWide P w r b0 t v)
    (hd : DataW.Trod enc P w 0 (fun _ => true) held t v d ps) {α : Type} [Inhabited α] (f : α → List AV) (good : α → Prop)
    (he : ∀ n cs y, DataW.trod enc P w 0 (fun _ => true) held n e cs = some y → cs.length = sz → ∃ x : α, good x ∧ (f x).length = sz ∧ ∀ N φ, VRs N φ (f x) cs) :
    ∃ zs : List α, (∀ z ∈ zs, good z) ∧ ArgS w sz f v zs := by
  obtain ⟨a, len, cap, rfl⟩ := okWide_slice ht hval
  obtain ⟨fuel, hf⟩ := hd
  exact open_sliceC (fuel := fuel) ht hsz hp hf f good he

end

/-- Where such a slice lies in the machine's memory. -/
theorem ArgS.place {w : World} {sz : Nat} {α : Type} {f : α → List AV} {v : Value} {zs : List α} (h : ArgS w sz f v zs) :
    ∃ (loc : Loc) (o : AO), o.owned = false ∧ (∀ N φ, ObjR N φ loc o w.heap[loc.b]?) ∧ ∀ (g : AH) (φ : Nat → Loc) (id : Nat), g.get id = some o → φ id = loc → ∃ u, VR g.ok φ u v ∧ RO sz u g (zs.map f) := by
  obtain ⟨hf, h⟩ := h
  have hx : ∀ x ∈ zs.map f, x.length = sz := fun x hx => by obtain ⟨z, hz, rfl⟩ := List.mem_map.1 hx; exact hf z hz
  rcases h with ⟨rfl, rfl⟩ | ⟨a, cap, rfl, hl, ⟨rfl, rfl⟩ | ⟨C, e, lo, hi, hC, hs, hle, hc⟩⟩
  · exact ⟨⟨0, 0, 0⟩, .dead, rfl, fun N φ => trivial, fun g φ id hg hφ => ⟨.val (.slice none 0 0), .val _, hx, .inl ⟨rfl, rfl⟩⟩⟩
  · exact ⟨⟨a.block, a.off, 0⟩, .dead, rfl, fun N φ => trivial, fun g φ id hg hφ => ⟨.sl id 0 0 sz, .sl id 0 0 sz a 0 ⟨_, hg⟩ (Nat.le_refl _) (.inl rfl), hx, .inr (.inr ⟨rfl, id, 0, rfl⟩)⟩⟩
  · have hfl := flat_len hx
    rw [List.length_map] at hfl
    have hcz : zs.length * sz ≤ cap * sz := Nat.mul_le_mul_right _ hl
    refine ⟨⟨a.block, a.off, C.size⟩, .cells (zs.map f).flatten false 0 none, rfl, fun N φ => ⟨C, e, lo, hi, hC, rfl, by simp only; omega, fun i x hx' => let ⟨u, h1, h2⟩ := hc i x hx'; ⟨u, h1, h2 N φ⟩, fun hh => (by cases hh), fun t b hh => by cases hh⟩, fun g φ id hg hφ => ⟨.sl id 0 zs.length sz, .sl id 0 zs.length sz a cap ⟨_, hg⟩ hl (.inr ⟨?_, ?_⟩), hx, .inr (.inl ⟨id, 0, _, _, _, _, by rw [List.length_map], hg, by rw [List.length_map]; omega, by rw [List.length_map, List.drop_zero, List.take_of_length_le (by omega)]⟩)⟩⟩
    · rw [hφ]; obtain ⟨b, o, s⟩ := a; simp only at hs; subst hs; rfl
    · rw [hφ]; simpa using hle

theorem Rel.args {w : World} {φ : Nat → Loc} {h : AH} (ho : ∀ id o, h.get id = some o → o.owned = false ∧ ∀ N ψ, ObjR N ψ (φ id) o w.heap[(φ id).b]?) : Rel w.heap.size φ h w :=
  ⟨fun id o hg => (ho id o hg).2 _ _, fun id o hg hw => (by rw [(ho id o hg).1] at hw; cases hw), fun i j o p hi hj hw _ _ => (by rw [(ho i o hi).1] at hw; cases hw), Nat.le_refl _⟩
end Go.Proofs.YtlpiiifmidehjaaDoorM
