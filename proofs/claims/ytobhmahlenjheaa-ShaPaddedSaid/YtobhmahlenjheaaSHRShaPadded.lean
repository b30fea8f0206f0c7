/- The row of ShaPadded: whatever the input, the law answers true, and its arguments read as they did. -/
import Derived.Test.YtobhmahlenjheaaSHH
import Derived.Test.YtobhmahlenjheaaSHP04c
import Derived.Test.YtobhmahlenjheaaOP2
import Derived.Test.YtobhmahlenjheaaRows
namespace Go.Proofs.Ytobhmahlenjheaa.shaPadded
open Go.ChangeShapes Go.WideShapes Go.ChangeAt Go.RowKit
open Go.ChangeMaps (open_string shut_string)
open Go.Proofs.YtobhmahlenjheaaM
set_option linter.unusedVariables false
set_option linter.unusedSimpArgs false
set_option maxRecDepth 100000 in
set_option maxHeartbeats 4000000 in
theorem law (w : World) (a0 : Int) (wa0 : (Lit.int .u8 a0).wf = true) (a1 : Int) (wa1 : (Lit.int .u8 a1).wf = true) : Calls Try.prog 4 #[.int .u8 a0, .int .u8 a1] w fun e w' => e = .returned (.bool true) ∧ Below w.heap.size w w' := by
  have hF : F_law04_ShaPadded a0 a1 = some true := true_law04_ShaPadded a0 a1 wa0 wa1
  obtain ⟨m, hm⟩ : ∃ m, NF + 2 ≤ m := ⟨_, Nat.le_refl _⟩
  obtain ⟨v, h1, e, rfl⟩ := (W_law04_ShaPadded (K := K17) rfl rfl rfl rfl rfl rfl m hm ⟨0, []⟩ a0 a1 hF).out
  exact law_of_run (φ := fun _ => ⟨0, 0, 0⟩) (args := [.int .u8 a0, .int .u8 a1]) (args' := [.int .u8 a0, .int .u8 a1]) K17ok.hooks (drawnOf_ok (by kernel_rfl) K17ok.tab) noGoroutineK e (Rel.empty (Nat.le_refl _) _ 0) (fun id o hg => absurd hg (by simp [AH.get])) (VRs.cons (.int _ _) (VRs.cons (.int _ _) (VRs.nil _ _))) Try.func4 rfl rfl
theorem own : ownKnob Try.prog.godebug = none := by kernel_rfl
theorem laid : laidOutB Try.prog = true := by kernel_rfl
set_option maxRecDepth 100000 in
set_option maxHeartbeats 4000000 in
theorem lifted (os : Os) (started : os.Started) (H : Type) (enc : TypeId × Value → H) :
    ReturnsInHanded {} Try.checked os 4 .any (Rows.shaPaddedSpec.pre6 enc Try.prog Try.f4 Rows.shaPaddedRow.domain false) (Rows.shaPaddedSpec.post enc Try.prog Try.f4 false true false false) := by
  refine returnsInHanded_of_change_sized (C := Try.checked) own started (by kernel_rfl) Try.func4
    (ChangeSpec.witness6 (enc := enc) (C := Try.checked) false ⟨#[], #[.int .u8 0, .int .u8 0], []⟩ 8 (by kernel_rfl) (by kernel_rfl) (by kernel_rfl) (by kernel_rfl)) ?_
  intro W base args ds gs before hval0 hW hcnd hsz0 _
  have hval : ∀ (j : Nat) t v, Try.f4.params[j]? = some t → args[j]? = some v → Value.okWide Try.prog W .any base t v := hval0
  have hW' := hW
  obtain ⟨p, q, hA0, hV, rfl, hfz, hnd⟩ := hW
  have hA : DataW.TrodAll enc Try.prog W 0 (fun _ => true) true Try.f4.params.toList args.toList ds p := hA0
  rw [Try.params4] at hA hval
  obtain ⟨v0, vs0, d0, ds0, p0, q0, hargs, rfl, rfl, h0, r0⟩ := trodAll_cons hA
  obtain ⟨v1, vs1, d1, ds1, p1, q1, rfl, rfl, rfl, h1, r1⟩ := trodAll_cons r0
  obtain ⟨rfl, rfl, rfl⟩ := trodAll_nil r1
  obtain rfl : args = #[v0, v1] := by cases args; simp_all
  obtain ⟨rfl, rfl⟩ := trodVars_none hV
  have hlt : ∀ x ∈ p0 ++ p1, x.block < W.heap.size := fun x hx => hW'.lt x (by simpa using hx)
  have k0 := h0
  obtain ⟨a0, rfl, -, -, w0⟩ := open_int Try.underlying5 (hval 0 5 v0 rfl rfl) h0
  have k1 := h1
  obtain ⟨a1, rfl, -, -, w1⟩ := open_int Try.underlying5 (hval 1 5 v1 rfl rfl) h1
  refine (law W a0 w0 a1 w1).mono fun e W' ⟨he, bel⟩ => ?_
  subst he
  exact ⟨_, rfl, _, _, _, [], _, [], hW', trodAll_mk1 (shut_bool Try.underlying4 _), (trodAll_cons_mk (Below.trod laid (by kernel_rfl) (of_decide_eq_true (by kernel_rfl)) k0 bel (fun x hx => hlt x (by simp [hx]))) (trodAll_cons_mk (Below.trod laid (by kernel_rfl) (of_decide_eq_true (by kernel_rfl)) k1 bel (fun x hx => hlt x (by simp [hx]))) trodAll_mk0)), rfl, bel.frame _, fun h => by cases h⟩
theorem over : Rows.shaPaddedRow.holds Try.pinned (OpenSpec.ofChange Rows.shaPaddedSpec) :=
  OpenClaim.holds_of_wide 4 Try.f4 rfl rfl rfl rfl rfl rfl rfl ⟨rfl, rfl, rfl, rfl, rfl⟩ rfl rfl rfl rfl rfl (by kernel_rfl) Try.func4 (by kernel_rfl)
    (of_decide_eq_true (by kernel_rfl)) (by unfold Func.isWrapper; first | (rw [if_pos (by decide +kernel)]; kernel_rfl) | (rw [if_neg (by decide +kernel)]; exact ⟨rfl, rfl⟩))
    (fun os started H enc _ => lifted os started H enc)
theorem proved : Rows.ShaPaddedSaid := over
end Go.Proofs.Ytobhmahlenjheaa.shaPadded
namespace Go.Proofs.Ytobhmahlenjheaa
/-- The row, under a short name, for the claim. -/
theorem shaPadded_holds : Rows.ShaPaddedSaid := shaPadded.proved
end Go.Proofs.Ytobhmahlenjheaa
