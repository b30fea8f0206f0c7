/- The row of ShaKeys: whatever the input, the law answers true, and its arguments read as they did. -/
import Derived.Test.YtobhmahlenjheaaSHH
import Derived.Test.YtobhmahlenjheaaSHP04c
import Derived.Test.YtobhmahlenjheaaOP2
import Derived.Test.YtobhmahlenjheaaRows
namespace Go.Proofs.Ytobhmahlenjheaa.shaKeys
open Go.ChangeShapes Go.WideShapes Go.ChangeAt Go.RowKit
open Go.ChangeMaps (open_string shut_string)
open Go.Proofs.YtobhmahlenjheaaM
set_option linter.unusedVariables false
set_option linter.unusedSimpArgs false
set_option maxRecDepth 100000 in
set_option maxHeartbeats 4000000 in
theorem law (w : World) (a0 : ByteArray) : Calls Try.prog 3 #[.string a0] w fun e w' => e = .returned (.bool true) ∧ Below w.heap.size w w' := by
  have hF : F_law04_ShaKeys a0.data.toList = some true := true_law04_ShaKeys a0.data.toList
  obtain ⟨m, hm⟩ : ∃ m, NF + 2 ≤ m := ⟨_, Nat.le_refl _⟩
  obtain ⟨v, h1, e, rfl⟩ := (W_law04_ShaKeys (K := K16) rfl rfl rfl rfl rfl rfl rfl m hm ⟨0, []⟩ a0.data.toList hF).out
  exact law_of_run (φ := fun _ => ⟨0, 0, 0⟩) (args := [.str a0.data.toList]) (args' := [.string a0]) K16ok.hooks (drawnOf_ok (by kernel_rfl) K16ok.tab) noGoroutineK e (Rel.empty (Nat.le_refl _) _ 0) (fun id o hg => absurd hg (by simp [AH.get])) (VRs.cons (VR.strOf _ _ _) (VRs.nil _ _)) Try.func3 rfl rfl
theorem own : ownKnob Try.prog.godebug = none := by kernel_rfl
theorem laid : laidOutB Try.prog = true := by kernel_rfl
set_option maxRecDepth 100000 in
set_option maxHeartbeats 4000000 in
theorem lifted (os : Os) (started : os.Started) (H : Type) (enc : TypeId × Value → H) :
    ReturnsInHanded {} Try.checked os 3 .any (Rows.shaKeysSpec.pre6 enc Try.prog Try.f3 Rows.shaKeysRow.domain false) (Rows.shaKeysSpec.post enc Try.prog Try.f3 false true false false) := by
  refine returnsInHanded_of_change_sized (C := Try.checked) own started (by kernel_rfl) Try.func3
    (ChangeSpec.witness6 (enc := enc) (C := Try.checked) false ⟨#[], #[.string ByteArray.empty], []⟩ 8 (by kernel_rfl) (by kernel_rfl) (by kernel_rfl) (by kernel_rfl)) ?_
  intro W base args ds gs before hval0 hW hcnd hsz0 _
  have hval : ∀ (j : Nat) t v, Try.f3.params[j]? = some t → args[j]? = some v → Value.okWide Try.prog W .any base t v := hval0
  have hW' := hW
  obtain ⟨p, q, hA0, hV, rfl, hfz, hnd⟩ := hW
  have hA : DataW.TrodAll enc Try.prog W 0 (fun _ => true) true Try.f3.params.toList args.toList ds p := hA0
  rw [Try.params3] at hA hval
  obtain ⟨v0, vs0, d0, ds0, p0, q0, hargs, rfl, rfl, h0, r0⟩ := trodAll_cons hA
  obtain ⟨rfl, rfl, rfl⟩ := trodAll_nil r0
  obtain rfl : args = #[v0] := by cases args; simp_all
  obtain ⟨rfl, rfl⟩ := trodVars_none hV
  have hlt : ∀ x ∈ p0, x.block < W.heap.size := fun x hx => hW'.lt x (by simpa using hx)
  have k0 := h0
  obtain ⟨a0, rfl, -, -, y0⟩ := open_string Try.underlying9 (hval 0 9 v0 rfl rfl) h0
  refine (law W a0).mono fun e W' ⟨he, bel⟩ => ?_
  subst he
  exact ⟨_, rfl, _, _, _, [], _, [], hW', trodAll_mk1 (shut_bool Try.underlying4 _), (trodAll_cons_mk (Below.trod laid (by kernel_rfl) (of_decide_eq_true (by kernel_rfl)) k0 bel (fun x hx => hlt x (by simp [hx]))) trodAll_mk0), rfl, bel.frame _, fun h => by cases h⟩
theorem over : Rows.shaKeysRow.holds Try.pinned (OpenSpec.ofChange Rows.shaKeysSpec) :=
  OpenClaim.holds_of_wide 3 Try.f3 rfl rfl rfl rfl rfl rfl rfl ⟨rfl, rfl, rfl, rfl, rfl⟩ rfl rfl rfl rfl rfl (by kernel_rfl) Try.func3 (by kernel_rfl)
    (of_decide_eq_true (by kernel_rfl)) (by unfold Func.isWrapper; first | (rw [if_pos (by decide +kernel)]; kernel_rfl) | (rw [if_neg (by decide +kernel)]; exact ⟨rfl, rfl⟩))
    (fun os started H enc _ => lifted os started H enc)
theorem proved : Rows.ShaKeysSaid := over
end Go.Proofs.Ytobhmahlenjheaa.shaKeys
namespace Go.Proofs.Ytobhmahlenjheaa
/-- The row, under a short name, for the claim. -/
theorem shaKeys_holds : Rows.ShaKeysSaid := shaKeys.proved
end Go.Proofs.Ytobhmahlenjheaa
