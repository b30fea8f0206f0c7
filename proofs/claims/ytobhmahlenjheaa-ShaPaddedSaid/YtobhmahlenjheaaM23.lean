/- A law whose arguments may lie in memory, out of what the machine makes of it. -/
import Derived.Test.YtobhmahlenjheaaM22
set_option linter.unusedSimpArgs false
set_option linter.unusedVariables false
namespace Go.Proofs.YtobhmahlenjheaaM
open Go Go.RowKit

variable {P : Program} {w : World}

theorem law_of_run {Γ : Hooks} {D : Drawn} {φ : Nat → Loc} {h0 h' : AH} {n : Nat} {f : FuncId} {fn : Func} {c : Code} {args : List AV} {args' : List Value}
    (hΓ : HooksOK P w.heap.size Γ) (hD : ∀ callF, CallOK P w.heap.size callF → DrawnOK P w.heap.size (D callF)) (hN : P.funcs.all (fun fn => !(fn.name == "runtime.NumGoroutine")) = true)
    (hr : acall P Γ D n f args h0 = some (.bool true, h')) (r : Rel w.heap.size φ h0 w) (ho : ∀ id o, h0.get id = some o → o.owned = false) (ha : VRs h0.ok φ args args')
    (hf : P.funcs[f]? = some fn) (hb : fn.body = some c) (hn : (fn.name == "runtime.NumGoroutine") = false) :
    Calls P f args'.toArray w fun e w' => e = .returned (.bool true) ∧ Below w.heap.size w w' := by
  have := call_sound hΓ hD hN n f args h0 _ h' hr φ w args' r ha
  have hcf : (callFunc f args'.toArray).run P w = .ok (.enter f args'.toArray) w := by
    unfold callFunc
    simp only [Sem.run_bind, run_program, Result.andThen_ok, hf, hn, Bool.false_eq_true, if_false, hb, Option.isNone_some, Sem.run_pure]
  rw [hcf] at this
  refine Calls.mono this ?_
  rintro e w' ⟨v, rfl, φ', hv, r', s'⟩
  cases hv
  exact ⟨rfl, s'.os, s'.tape, s'.output, s'.size, fun k hk => s'.frame k hk fun id o hg hoo => by rw [ho id o hg] at hoo; cases hoo⟩

/-- A heap that holds nothing but one block to be read. -/
theorem Rel.one {B : Nat} {φ : Nat → Loc} {c : List AV} (hb : B ≤ w.heap.size) {C : Array Value} {e : TypeId} {lo hi : Nat} (hC : w.heap[(φ 0).b]? = some (.cells C e (lo, hi))) (hn : (φ 0).n = C.size) (hle : (φ 0).o + c.length ≤ C.size)
    (hc : ∀ (i : Nat) (x : AV), c[i]? = some x → ∃ v, C[(φ 0).o + i]? = some v ∧ ∀ N, VR N φ x v) : Rel B φ ⟨1, [some (.cells c false 0 none)]⟩ w := by
  have only : ∀ id o, (⟨1, [some (.cells c false 0 none)]⟩ : AH).get id = some o → id = 0 ∧ o = .cells c false 0 none := fun id o hg => by
    have hlt := AH.get_lt hg
    have h0 : id = 0 := by simp at hlt; exact hlt
    subst h0
    simp [AH.get] at hg
    exact ⟨rfl, hg.symm⟩
  refine ⟨fun id o hg => ?_, fun id o hg ho => ?_, fun i j o p hi' hj ho => ?_, hb⟩
  · obtain ⟨rfl, rfl⟩ := only id o hg
    exact ⟨C, e, lo, hi, hC, hn.symm, hle, fun i x hx => let ⟨v, h1, h2⟩ := hc i x hx; ⟨v, h1, h2 _⟩, fun hh => (by cases hh), fun t b hh => by cases hh⟩
  · obtain ⟨_, rfl⟩ := only id o hg; cases ho
  · obtain ⟨_, rfl⟩ := only i o hi'; cases ho
end Go.Proofs.YtobhmahlenjheaaM
