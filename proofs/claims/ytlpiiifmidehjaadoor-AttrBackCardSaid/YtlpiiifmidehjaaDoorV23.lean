/- A law's arguments, opened and placed. -/
import Derived.Test.YtlpiiifmidehjaaDoorV22
set_option linter.unusedSimpArgs false
set_option linter.unusedVariables false
namespace Go.Proofs.YtlpiiifmidehjaaDoorM
open Go Go.RowKit Go.ChangeShapes Go.WideShapes Go.Deep
open Go.ChangeMaps (open_string)

/-- An argument. -/
structure ArgV (w : World) (T : Ty) (v : Value) (x : T.D) : Prop where
  r : RW w T v.cells.toList x
  a : T.ag = true → ∃ cl : List Value, v = .agg cl.toArray
  o : T.ag = false → v.cells.toList = [v]

section
variable {H : Type} {enc : TypeId × Value → H} {P : Program} {w : World} {held : Bool}
theorem chkFs_ag {f : TypeId → Ty → Bool} : ∀ {l : List Field} {off : Nat} {T : Ty}, chkT.chkFs f l off T = true → T.ag = true
  | [], _, .nil, _ => rfl
  | _ :: _, _, .cons _ _, _ => rfl
  | [], _, .cons _ _, h => by cases h
  | [], _, .int _, h => by cases h
  | [], _, .bool, h => by cases h
  | [], _, .str, h => by cases h
  | [], _, .lst _, h => by cases h
  | [], _, .map _ _, h => by cases h
  | _ :: _, _, .nil, h => by cases h
  | _ :: _, _, .int _, h => by cases h
  | _ :: _, _, .bool, h => by cases h
  | _ :: _, _, .str, h => by cases h
  | _ :: _, _, .lst _, h => by cases h
  | _ :: _, _, .map _ _, h => by cases h
theorem open_arg (n : Nat) {r : Reach} {b0 : Nat} {t : TypeId} {T : Ty} {v : Value} {d : DataW H} {ps : List MemPlace} (hc : chkT P n t T = true) (hval : Value.okWide P w r b0 t v) (hd : DataW.Trod enc P w 0 (fun _ => true) held t v d ps) : ∃ x : T.D, ArgV w T v x ∧ GoodT T x := by
  have hc0 := hc
  cases n with
  | zero => cases hc
  | succ n =>
    simp only [chkT, Bool.and_eq_true, beq_iff_eq] at hc
    obtain ⟨hsz, hc⟩ := hc
    split at hc
    · rename_i k k' hu
      have hk : k = k' := of_decide_eq_true hc
      subst hk
      obtain ⟨z, rfl, _, _, hz⟩ := open_int hu hval hd
      exact ⟨z, ⟨rfl, fun h => (by cases h), fun _ => rfl⟩, hz⟩
    · rename_i hu
      obtain ⟨z, rfl, _⟩ := open_bool hu hval hd
      exact ⟨z, ⟨rfl, fun h => (by cases h), fun _ => rfl⟩, trivial⟩
    · rename_i hu
      obtain ⟨z, rfl, _⟩ := open_string hu hval hd
      exact ⟨z.data.toList, ⟨rfl, fun h => (by cases h), fun _ => rfl⟩, trivial⟩
    · rename_i e E hu
      obtain ⟨a, len, cap, rfl⟩ := okWide_slice hu hval
      obtain ⟨fuel, hf⟩ := hd
      obtain ⟨x, h1, h2⟩ := trod_RW (n + 1) hc0 hf rfl
      exact ⟨x, ⟨h1, fun h => (by cases h), fun _ => rfl⟩, h2⟩
    · rename_i fs hu
      have hd0 := hd
      obtain ⟨cl, xs, n1, rfl, hl, _⟩ := open_structK hu hval hd
      obtain ⟨fuel, hf⟩ := hd0
      have hcl : ((Value.agg cl.toArray).cells.toList) = cl := by simp [Value.cells]
      rw [hcl] at hf
      obtain ⟨x, h1, h2⟩ := trod_RW (n + 1) hc0 hf (by rw [hl, hsz])
      exact ⟨x, ⟨by rw [hcl]; exact h1, fun _ => ⟨cl, rfl⟩, fun h => (by rw [chkFs_ag hc] at h; cases h)⟩, h2⟩
    · cases hc
theorem ArgV.place {h : AH} {φ : Nat → Loc} {g : FM} {T : Ty} {v : Value} {x : T.D} (S : St w h φ g) (A : ArgV w T v x) : ∃ h' φ' g' a, St w h' φ' g' ∧ StLe h φ g h' φ' g' ∧ RepV g' T a x ∧ VR h'.ok φ' a v := by
  obtain ⟨h', φ', g', c, S', L, r, k⟩ := A.r.place S
  cases ht : T.ag with
  | true =>
    obtain ⟨cl, rfl⟩ := A.a ht
    have hcl : ((Value.agg cl.toArray).cells.toList) = cl := by simp [Value.cells]
    rw [hcl] at k
    exact ⟨h', φ', g', .agg c, S', L, (RepV.ofC r).1 ht, VR.aggOf k⟩
  | false =>
    obtain ⟨a, rfl, hr⟩ := (RepV.ofC r).2 ht
    rw [A.o ht] at k
    exact ⟨h', φ', g', a, S', L, hr, k.head⟩

/-- All arguments. -/
def ArgsV (w : World) : (ts : List SH) → List Value → (tysOf ts (otysOf [] .nil)).D → Prop
  | [], vs, _ => vs = []
  | .pv T :: ts, v :: vs, p => ArgV w T v p.1 ∧ ArgsV w ts vs p.2
  | _, _, _ => False
theorem ArgsV.place : ∀ {ts : List SH} {vs : List Value} {p : (tysOf ts (otysOf [] .nil)).D} {h : AH} {φ : Nat → Loc} {g : FM}, St w h φ g → ArgsV w ts vs p → ∃ h' φ' g' as, St w h' φ' g' ∧ StLe h φ g h' φ' g' ∧ EnvR g' [] (unpL ts p).1 as ∧ VRs h'.ok φ' as vs
  | [], vs, p, h, φ, g, S, A => by obtain rfl := A; exact ⟨h, φ, g, [], S, StLe.refl _ _ _, EnvR.none, VRs.nil _ _⟩
  | .pv T :: ts, v :: vs, p, h, φ, g, S, A => by
    obtain ⟨A1, A2⟩ := A
    obtain ⟨h1, φ1, g1, a, S1, L1, r1, k1⟩ := A1.place S
    obtain ⟨h2, φ2, g2, as, S2, L2, E2, k2⟩ := ArgsV.place (p := p.2) S1 A2
    exact ⟨h2, φ2, g2, a :: as, S2, L1.trans L2, EnvR.one (SVR.pv (r1.mono L2.g)) E2, VRs.cons (k1.mono L2.okm L2.eqm) k2⟩
  | .pv _ :: _, [], _, _, _, _, _, A => A.elim
  | .dead :: _, _, _, _, _, _, _, A => by cases A
  | .un :: _, _, _, _, _, _, _, A => by cases A
  | .con _ :: _, _, _, _, _, _, _, A => by cases A
  | .kb _ :: _, _, _, _, _, _, _, A => by cases A
  | .ptr _ _ :: _, _, _, _, _, _, _, A => by cases A
  | .row _ :: _, _, _, _, _, _, _, A => by cases A
  | .view _ :: _, _, _, _, _, _, _, A => by cases A
  | .ept _ _ :: _, _, _, _, _, _, _, A => by cases A
  | .fpt _ _ :: _, _, _, _, _, _, _, A => by cases A
  | .mp _ :: _, _, _, _, _, _, _, A => by cases A
  | .fn _ _ _ :: _, _, _, _, _, _, _, A => by cases A
  | .ifc _ _ :: _, _, _, _, _, _, _, A => by cases A
  | .tup _ :: _, _, _, _, _, _, _, A => by cases A
  | .agg _ :: _, _, _, _, _, _, _, A => by cases A
  | .nl :: _, _, _, _, _, _, _, A => by cases A
  | .cn _ _ :: _, _, _, _, _, _, _, A => by cases A
end
end Go.Proofs.YtlpiiifmidehjaaDoorM
