/- A law's arguments: what lies in memory behind them. -/
import Derived.Test.YtlpiiifmidehjaaDoorV20
import Derived.Test.YtlpiiifmidehjaaDoorOP
set_option linter.unusedSimpArgs false
set_option linter.unusedVariables false
namespace Go.Proofs.YtlpiiifmidehjaaDoorM
open Go Go.RowKit

/-- Such cells of the world are such a value. -/
def RW (w : World) : (t : Ty) → List Value → t.D → Prop
  | .int k, c, n => c = [.int k n]
  | .bool, c, b => c = [.bool b]
  | .str, c, s => c = [.string ⟨⟨s⟩⟩]
  | .lst e, c, l => ∃ x, c = [x] ∧ ((x = .slice none 0 0 ∧ l = []) ∨ ∃ (a : Addr) (cap : Nat), x = .slice (some a) l.length cap ∧ l.length ≤ cap ∧ ((cap = 0 ∧ l = []) ∨
      ∃ (C : Array Value) (ty : TypeId) (lo hi : Nat) (xs : List (List Value)), w.heap[a.block]? = some (.cells C ty (lo, hi)) ∧ a.spot = none ∧ a.off + cap * e.size ≤ C.size ∧ All2 (RW w e) xs l ∧ ∀ (i : Nat) (u : Value), xs.flatten[i]? = some u → C[a.off + i]? = some u))
  | .map _ _, _, _ => False
  | .nil, c, _ => c = []
  | .cons a b, c, v => ∃ c1 c2, c = c1 ++ c2 ∧ RW w a c1 v.1 ∧ RW w b c2 v.2

structure St (w : World) (h : AH) (φ : Nat → Loc) (g : FM) : Prop where
  ob : ∀ id o, h.get id = some o → o.owned = false ∧ ObjR h.ok φ (φ id) o w.heap[(φ id).b]?
  ok : g.ok h
structure StLe (h : AH) (φ : Nat → Loc) (g : FM) (h' : AH) (φ' : Nat → Loc) (g' : FM) : Prop where
  g : g.le g'
  k : ∀ id o, h.get id = some o → h'.get id = some o
  p : ∀ id, id < h.n → φ' id = φ id
  n : h.n ≤ h'.n

section
variable {w : World} {h h' : AH} {φ φ' : Nat → Loc} {g g' : FM}
theorem StLe.refl (h : AH) (φ : Nat → Loc) (g : FM) : StLe h φ g h φ g := ⟨FM.le.refl g, fun _ _ k => k, fun _ _ => rfl, Nat.le_refl _⟩
theorem StLe.trans {h'' : AH} {φ'' : Nat → Loc} {g'' : FM} (a : StLe h φ g h' φ' g') (b : StLe h' φ' g' h'' φ'' g'') : StLe h φ g h'' φ'' g'' :=
  ⟨a.g.trans b.g, fun id o k => b.k id o (a.k id o k), fun id k => (b.p id (Nat.lt_of_lt_of_le k a.n)).trans (a.p id k), Nat.le_trans a.n b.n⟩
theorem StLe.okm (a : StLe h φ g h' φ' g') : ∀ id, h.ok id → h'.ok id := fun id ⟨o, k⟩ => ⟨o, a.k id o k⟩
theorem StLe.eqm (a : StLe h φ g h' φ' g') : ∀ id, h.ok id → φ' id = φ id := fun id ⟨o, k⟩ => a.p id (AH.get_lt k)

theorem St.push (S : St w h φ g) {o : AO} {loc : Loc} (ho : o.owned = false) (hO : ObjR h.ok φ loc o w.heap[loc.b]?) {g' : FM} (hg : g.le g') (hok : g'.ok (h.push o)) :
    ∃ φ', St w (h.push o) φ' g' ∧ StLe h φ g (h.push o) φ' g' ∧ φ' h.n = loc := by
  let φ' : Nat → Loc := fun id => if id = h.n then loc else φ id
  have hn : φ' h.n = loc := if_pos rfl
  have hp : ∀ id, id < h.n → φ' id = φ id := fun id k => if_neg (by omega)
  have hk : ∀ id q, h.get id = some q → (h.push o).get id = some q := fun id q k => by rw [AH.get_push_ne (by have := AH.get_lt k; omega)]; exact k
  have okm : ∀ id, h.ok id → (h.push o).ok id := fun id ⟨q, k⟩ => ⟨q, hk id q k⟩
  have eqm : ∀ id, h.ok id → φ' id = φ id := fun id ⟨q, k⟩ => hp id (AH.get_lt k)
  refine ⟨φ', ⟨fun id q k => ?_, hok⟩, ⟨hg, hk, hp, by rw [AH.push_n]; omega⟩, hn⟩
  by_cases he : id = h.n
  · subst he
    rw [AH.get_push_new] at k
    cases k
    rw [hn]
    exact ⟨ho, hO.mono okm eqm⟩
  · rw [AH.get_push_ne he] at k
    have := S.ob id q k
    rw [hp id (AH.get_lt k)]
    exact ⟨this.1, this.2.mono okm eqm⟩

theorem placeL {e : Ty} (ih : ∀ {h : AH} {φ : Nat → Loc} {g : FM} {cs : List Value} {v : e.D}, St w h φ g → RW w e cs v → ∃ h' φ' g' c, St w h' φ' g' ∧ StLe h φ g h' φ' g' ∧ RepC g' e c v ∧ VRs h'.ok φ' c cs) :
    ∀ {xs : List (List Value)} {l : List e.D} {h : AH} {φ : Nat → Loc} {g : FM}, St w h φ g → All2 (RW w e) xs l → ∃ h' φ' g' ys, St w h' φ' g' ∧ StLe h φ g h' φ' g' ∧ All2 (RepC g' e) ys l ∧ VRs h'.ok φ' ys.flatten xs.flatten
  | [], [], h, φ, g, S, _ => ⟨h, φ, g, [], S, StLe.refl _ _ _, trivial, VRs.nil _ _⟩
  | x :: xs, v :: l, h, φ, g, S, a => by
    obtain ⟨h1, φ1, g1, c, S1, L1, r1, k1⟩ := ih S a.1
    obtain ⟨h2, φ2, g2, ys, S2, L2, r2, k2⟩ := placeL ih S1 a.2
    refine ⟨h2, φ2, g2, c :: ys, S2, L1.trans L2, ⟨r1.mono L2.g, r2⟩, ?_⟩
    rw [List.flatten_cons, List.flatten_cons]
    exact (k1.mono L2.okm L2.eqm).append k2
  | [], _ :: _, _, _, _, _, a => by first | cases a | exact a.elim
  | _ :: _, [], _, _, _, _, a => by first | cases a | exact a.elim

theorem RW.place : ∀ {t : Ty} {h : AH} {φ : Nat → Loc} {g : FM} {cs : List Value} {v : t.D}, St w h φ g → RW w t cs v → ∃ h' φ' g' c, St w h' φ' g' ∧ StLe h φ g h' φ' g' ∧ RepC g' t c v ∧ VRs h'.ok φ' c cs
  | .int k, h, φ, g, cs, v, S, r => by obtain rfl := r; exact ⟨h, φ, g, [.int k v], S, StLe.refl _ _ _, rfl, VRs.cons (.int _ _) (VRs.nil _ _)⟩
  | .bool, h, φ, g, cs, v, S, r => by obtain rfl := r; exact ⟨h, φ, g, [.bool v], S, StLe.refl _ _ _, rfl, VRs.cons (.bool _) (VRs.nil _ _)⟩
  | .str, h, φ, g, cs, v, S, r => by obtain rfl := r; exact ⟨h, φ, g, [.str v], S, StLe.refl _ _ _, rfl, VRs.cons (.str _) (VRs.nil _ _)⟩
  | .nil, h, φ, g, cs, v, S, r => by obtain rfl := r; exact ⟨h, φ, g, [], S, StLe.refl _ _ _, rfl, VRs.nil _ _⟩
  | .map _ _, h, φ, g, cs, v, S, r => r.elim
  | .cons a b, h, φ, g, cs, v, S, r => by
    obtain ⟨c1, c2, rfl, r1, r2⟩ := r
    obtain ⟨h1, φ1, g1, d1, S1, L1, q1, k1⟩ := RW.place S r1
    obtain ⟨h2, φ2, g2, d2, S2, L2, q2, k2⟩ := RW.place S1 r2
    exact ⟨h2, φ2, g2, d1 ++ d2, S2, L1.trans L2, ⟨d1, d2, rfl, q1.mono L2.g, q2⟩, (k1.mono L2.okm L2.eqm).append k2⟩
  | .lst e, h, φ, g, cs, v, S, r => by
    obtain ⟨x, rfl, ⟨rfl, rfl⟩ | ⟨a, cap, rfl, hl, ⟨rfl, hv⟩ | ⟨C, ty, lo, hi, xs, hC, hs, hle, hx, hc⟩⟩⟩ := r
    · exact ⟨h, φ, g, [nilS], S, StLe.refl _ _ _, ⟨nilS, rfl, .inl ⟨rfl, rfl⟩⟩, VRs.cons (.val _) (VRs.nil _ _)⟩
    · obtain ⟨φ1, S1, L1, e1⟩ := S.push (o := .dead) (loc := ⟨a.block, a.off, 0⟩) rfl trivial (FM.le.refl g) ⟨fun id c k => by
        obtain ⟨own, fz, ty, k2⟩ := S.ok.1 id c k
        exact ⟨own, fz, ty, by rw [AH.get_push_ne (by have := AH.get_lt k2; omega)]; exact k2⟩, fun id c k => by
        have k2 := S.ok.2 id c k
        rw [AH.get_push_ne (by have := AH.get_lt k2; omega)]; exact k2⟩
      have hv0 : v.length = 0 := by rw [hv]; rfl
      refine ⟨_, φ1, g, [.sl h.n 0 v.length e.size], S1, L1, ⟨_, rfl, .inr ⟨h.n, 0, rfl, .inl hv⟩⟩, VRs.cons (.sl h.n 0 v.length e.size a 0 ⟨_, AH.get_push_new _ _⟩ (by omega) (.inl rfl)) (VRs.nil _ _)⟩
    · obtain ⟨h1, φ1, g1, ys, S1, L1, q1, k1⟩ := placeL (e := e) (fun {h φ g cs v} S r => RW.place S r) S hx
      have hyl : ∀ y ∈ ys, y.length = e.size := fun y hy => by
        obtain ⟨i, hi, rfl⟩ := List.mem_iff_getElem.1 hy
        obtain ⟨b, _, hb⟩ := q1.at1 (List.getElem?_eq_getElem hi)
        exact hb.len
      have hfl : ys.flatten.length = v.length * e.size := by rw [flat_len hyl, q1.len]
      have hcap : v.length * e.size ≤ cap * e.size := Nat.mul_le_mul_right _ hl
      let g2 : FM := ⟨fun id => if id = h1.n then some ys.flatten else g1.c id, g1.v, g1.b⟩
      have hg2 : g1.le g2 := ⟨fun id c k => by
        obtain ⟨own, fz, ty, k2⟩ := S1.ok.1 id c k
        show (if id = h1.n then _ else _) = _
        rw [if_neg (by have := AH.get_lt k2; omega)]; exact k, fun _ _ k => k, rfl⟩
      have hok : g2.ok (h1.push (.cells ys.flatten false 0 none)) := ⟨fun id c k => by
        have k : (if id = h1.n then some ys.flatten else g1.c id) = some c := k
        split at k
        · rename_i he
          have h3 := Option.some.inj k
          subst h3
          rw [he]
          exact ⟨_, _, _, AH.get_push_new _ _⟩
        · obtain ⟨own, fz, ty, k2⟩ := S1.ok.1 id c k
          exact ⟨own, fz, ty, by rw [AH.get_push_ne (by have := AH.get_lt k2; omega)]; exact k2⟩, fun id c k => by
        have k2 := S1.ok.2 id c k
        rw [AH.get_push_ne (by have := AH.get_lt k2; omega)]; exact k2⟩
      obtain ⟨φ2, S2, L2, e2⟩ := S1.push (o := .cells ys.flatten false 0 none) (loc := ⟨a.block, a.off, C.size⟩) rfl ⟨C, ty, lo, hi, hC, rfl, by simp only; omega, fun i x hx' => by
          obtain ⟨u, hu, hr⟩ := k1.at hx'
          exact ⟨u, hc i u hu, hr⟩, fun hh => (by cases hh), fun t b hh => (by cases hh)⟩ hg2 hok
      refine ⟨_, φ2, g2, [.sl h1.n 0 v.length e.size], S2, L1.trans L2, ⟨_, rfl, .inr ⟨h1.n, 0, rfl, .inr ⟨ys.flatten, ys, if_pos rfl, by omega, ?_, q1.mono fun _ _ k => k.mono hg2⟩⟩⟩, VRs.cons (.sl h1.n 0 v.length e.size a cap ⟨_, AH.get_push_new _ _⟩ hl (.inr ⟨?_, ?_⟩)) (VRs.nil _ _)⟩
      · rw [List.drop_zero, ← hfl, List.take_length]
      · rw [e2]; obtain ⟨b, o, s⟩ := a; simp only at hs; subst hs; rfl
      · rw [e2]; simpa using hle
end
end Go.Proofs.YtlpiiifmidehjaaDoorM
