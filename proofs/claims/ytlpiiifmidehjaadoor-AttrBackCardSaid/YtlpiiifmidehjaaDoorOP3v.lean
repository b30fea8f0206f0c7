/- Package variables that are told: what the reading of a world says of them. -/
import Derived.Test.YtlpiiifmidehjaaDoorOP2
import Derived.FnData
import Derived.LaidMore
import Derived.Lay
import Derived.Stop.Joined
set_option linter.unusedSimpArgs false
set_option linter.unusedVariables false
namespace Go.Proofs.YtlpiiifmidehjaaDoorM
open Go Go.RowKit Go.ChangeShapes Go.WideShapes

/-- A package variable's block shows such cells. -/
def GIn (w : World) (g : Nat) (c : List AV) : Prop := ∃ (C : Array Value) (e : TypeId) (lo hi : Nat), w.heap[g]? = some (.cells C e (lo, hi)) ∧ c.length ≤ C.size ∧ ∀ (i : Nat) (x : AV), c[i]? = some x → ∃ v, C[i]? = some v ∧ ∀ N φ, VR N φ x v
theorem GIn.obj {w : World} {g : Nat} {c : List AV} (h : GIn w g c) (N : Nat → Prop) (φ : Nat → Loc) {loc : Loc} (hl : loc.b = g) : ObjR N φ loc (.gvar g c) w.heap[loc.b]? := by
  obtain ⟨C, e, lo, hi, h1, h2, h3⟩ := h
  exact ⟨hl, C, e, lo, hi, by rw [hl]; exact h1, h2, fun i x hx => let ⟨v, a, b⟩ := h3 i x hx; ⟨v, a, b N φ⟩⟩

section
variable {H : Type} {enc : TypeId × Value → H} {P : Program} {w : World}
theorem laid_arr {name : String} {g t e n sz fuel : Nat} {cs : Array Value} {sp : Nat → Bool} {held : Bool} {base : Nat} {p : List MemPlace} (hg : P.globalNamed name = some g) (hv : w.var? P name = some cs) (ht : P.underlying t = some (.array n e)) (hsz : P.cellsOf e = sz) (hct : P.cellsOf t = n * sz) (hp : 0 < sz)
    {α : Type} (f : α → List AV) (gd : α → DataW H) (zs : List α) (hn : zs.length = n) (hd : DataW.trod enc P w base sp held fuel t cs.toList = some (.agg (zs.map gd), p)) (hl : ∀ x, (f x).length = sz)
    (he : ∀ x m cs' p', DataW.trod enc P w base sp held m e cs' = some (gd x, p') → cs'.length = sz → ∀ N φ, VRs N φ (f x) cs') : GIn w g (zs.map f).flatten := by
  obtain ⟨xs, m, _, hx, hlen, hxl, hel⟩ := DataW.trod_array ht hd
  rw [hct, ← hn] at hlen
  rw [hsz] at hel
  have hfl : ∀ x ∈ zs.map f, x.length = sz := fun x hx => by obtain ⟨z, _, rfl⟩ := List.mem_map.1 hx; exact hl z
  have hft := flat_len hfl
  rw [List.length_map] at hft
  have ha : zs.map gd = xs.map (·.1) := DataW.agg.inj (Prod.mk.inj hx).1
  have hh : ∃ e' lo hi, w.heap[g]? = some (.cells cs e' (lo, hi)) := by
    unfold World.var? at hv
    rw [hg, Option.bind_some] at hv
    split at hv
    · rename_i c t' fz hc
      cases hv
      exact ⟨t', fz.1, fz.2, hc⟩
    · cases hv
  obtain ⟨e', lo, hi, hh⟩ := hh
  refine ⟨cs, e', lo, hi, hh, by rw [hft]; simp at hlen; omega, fun i x hx' => ?_⟩
  obtain ⟨c, k1, k2⟩ := flat_at hfl hp hx'
  have hr : i % sz < sz := Nat.mod_lt _ hp
  have hql : i / sz < zs.length := by
    rcases Nat.lt_or_ge (i / sz) zs.length with h' | h'
    · exact h'
    · rw [List.getElem?_eq_none (by simpa using h')] at k1; cases k1
  rw [List.getElem?_map, List.getElem?_eq_getElem hql] at k1
  simp only [Option.map_some, Option.some.injEq] at k1
  have hq := hel (i / sz) (by omega)
  rw [List.getElem?_eq_getElem (show i / sz < xs.length by omega)] at hq
  have hz : (xs[i / sz]'(by omega)).1 = gd zs[i / sz] := by
    have : (zs.map gd)[i / sz]? = (xs.map (·.1))[i / sz]? := by rw [ha]
    rw [List.getElem?_map, List.getElem?_map, List.getElem?_eq_getElem hql, List.getElem?_eq_getElem (show i / sz < xs.length by omega)] at this
    simpa using this.symm
  have hmz : (i / sz) * sz + sz ≤ cs.toList.length := by
    rw [hlen, ← Nat.succ_mul]; exact Nat.mul_le_mul_right _ hql
  have hcl : ((cs.toList.drop (i / sz * sz)).take sz).length = sz := by simp only [List.length_take, List.length_drop]; omega
  have hvr := he zs[i / sz] m _ (xs[i / sz]'(by omega)).2 (by rw [hq, ← hz]) hcl
  have hidx : ((cs.toList.drop (i / sz * sz)).take sz)[i % sz]? = cs[i]? := by
    rw [List.getElem?_take, if_pos hr, List.getElem?_drop, Nat.mul_comm, Nat.div_add_mod, Array.getElem?_toList]
  rw [List.getElem?_eq_getElem (show i % sz < _ by omega)] at hidx
  refine ⟨_, hidx.symm, fun N φ => (hvr N φ).2 (i % sz) x _ (by rw [k1]; exact k2) (List.getElem?_eq_getElem (by omega))⟩

theorem laid_int {t : TypeId} {k : IntKind} {sp : Nat → Bool} {held : Bool} {base : Nat} (ht : P.underlying t = some (.int k)) {z : Int} {m : Nat} {cs' : List Value} {p' : List MemPlace} (h : DataW.trod enc P w base sp held m t cs' = some (.lit (.int k z), p')) : cs' = [.int k z] := by
  obtain ⟨y, e1, e2, _⟩ := DataW.trod_int ht h
  have := DataW.lit.inj (Prod.mk.inj e2).1
  cases this
  exact e1
theorem laid_ints {t : TypeId} {k : IntKind} {sp : Nat → Bool} {held : Bool} {base : Nat} (ht : P.underlying t = some (.int k)) (x : Int) (m : Nat) (cs' : List Value) (p' : List MemPlace) (h : DataW.trod enc P w base sp held m t cs' = some (.lit (.int k x), p')) (_ : cs'.length = 1) : ∀ N φ, VRs N φ (cellI k x) cs' := by
  rw [laid_int ht h]
  intro N φ
  exact VRs.cons (.int _ _) (VRs.nil _ _)
/-- A struct of two numbers. -/
theorem laid_pair {t t1 t2 : TypeId} {k1 k2 : IntKind} {fs : Array Field} {sp : Nat → Bool} {held : Bool} {base : Nat} (ht : P.underlying t = some (.struct fs)) (hs : fs.size = 2) (hf : (fs[0]?).map (fun f => (f.type, f.offset)) = some (t1, 0)) (hf2 : (fs[1]?).map (fun f => (f.type, f.offset)) = some (t2, 1))
    (h1 : P.underlying t1 = some (.int k1)) (h2 : P.underlying t2 = some (.int k2)) (c1 : P.cellsOf t1 = 1) (c2 : P.cellsOf t2 = 1) (x y : Int) (m : Nat) (cs' : List Value) (p' : List MemPlace)
    (h : DataW.trod enc P w base sp held m t cs' = some (.agg [.lit (.int k1 x), .lit (.int k2 y)], p')) (hl : cs'.length = 2) : ∀ N φ, VRs N φ [.int k1 x, .int k2 y] cs' := by
  obtain ⟨xs, n1, _, hx, hl1, hxl, hfs⟩ := DataW.trod_struct ht h
  obtain ⟨a, r, rfl, hr⟩ : ∃ a r, cs' = a :: r ∧ r.length = 1 := by
    cases cs' with
    | nil => cases hl
    | cons a r => exact ⟨a, r, rfl, by simpa using hl⟩
  obtain ⟨b, rfl⟩ : ∃ b, r = [b] := List.length_eq_one_iff.1 hr
  have hxs : xs.map (·.1) = [.lit (.int k1 x), .lit (.int k2 y)] := (DataW.agg.inj (Prod.mk.inj hx).1).symm
  obtain ⟨f0, e0, q0⟩ := Option.map_eq_some_iff.1 hf
  obtain ⟨f1, e1, q1⟩ := Option.map_eq_some_iff.1 hf2
  have g0 := hfs 0 f0 e0
  have g1 := hfs 1 f1 e1
  simp only [Prod.mk.injEq] at q0 q1
  rw [q0.1, q0.2, c1] at g0
  rw [q1.1, q1.2, c2] at g1
  simp only [List.drop_zero, List.take_succ_cons, List.take_zero, List.drop_succ_cons] at g0 g1
  have z0 : (xs.map (·.1))[0]? = some (.lit (.int k1 x)) := by rw [hxs]; rfl
  have z1 : (xs.map (·.1))[1]? = some (.lit (.int k2 y)) := by rw [hxs]; rfl
  rw [List.getElem?_map] at z0 z1
  obtain ⟨u0, v0, w0⟩ := Option.map_eq_some_iff.1 z0
  obtain ⟨u1, v1, w1⟩ := Option.map_eq_some_iff.1 z1
  rw [v0] at g0
  rw [v1] at g1
  have r0 := laid_int h1 (g0.trans (by rw [← w0]) : _ = some (.lit (.int k1 x), u0.2))
  have r1 := laid_int h2 (g1.trans (by rw [← w1]) : _ = some (.lit (.int k2 y), u1.2))
  simp only [List.cons.injEq, and_true] at r0 r1
  subst r0; subst r1
  intro N φ
  exact VRs.cons (.int _ _) (VRs.cons (.int _ _) (VRs.nil _ _))
end
end Go.Proofs.YtlpiiifmidehjaaDoorM
