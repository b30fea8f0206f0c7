/- The row of EndBack: whatever the input, the law answers true, and its arguments read as they did. -/
import Derived.Test.YtikkpmmhejjpaaaEAH
import Derived.Test.YtikkpmmhejjpaaaEAP19d
import Derived.Test.YtikkpmmhejjpaaaOP
import Derived.Test.YtikkpmmhejjpaaaRows
namespace Go.Proofs.Ytikkpmmhejjpaaa.endBack
open Go.ChangeShapes Go.WideShapes Go.ChangeAt Go.RowKit
open Go.ChangeMaps (open_string shut_string)
open Go.Proofs.YtikkpmmhejjpaaaM
set_option linter.unusedVariables false
set_option linter.unusedSimpArgs false
set_option maxRecDepth 100000 in
set_option maxHeartbeats 4000000 in
theorem law (a0_0 : Int) (wa0_0 : (Lit.int .i64 a0_0).wf = true) (a0_1 : Int) (wa0_1 : (Lit.int .i64 a0_1).wf = true) (a0_2 : Int) (wa0_2 : (Lit.int .i64 a0_2).wf = true) (a0_3 : Int) (wa0_3 : (Lit.int .i64 a0_3).wf = true) (a0_4 : List UInt8) (a0_5 : Bool) (w : World) : Calls Try.prog 8 #[.agg ([.int .i64 a0_0, .int .i64 a0_1, .int .i64 a0_2, .int .i64 a0_3, .string ⟨⟨a0_4⟩⟩, .bool a0_5] : List Value).toArray] w fun e w' => e = .returned (.bool true) ∧ Below w.heap.size w w' := by
  have hF : F_law19_EndBack (⟨a0_0, a0_1, a0_2, a0_3, a0_4, a0_5⟩ : Gapi_End) = some true := true_law19_EndBack (⟨a0_0, a0_1, a0_2, a0_3, a0_4, a0_5⟩ : Gapi_End) wa0_0 wa0_1 wa0_2 wa0_3
  obtain ⟨m, hm⟩ : ∃ m, NF + 2 ≤ m := ⟨_, Nat.le_refl _⟩
  obtain ⟨v, h1, e, rfl⟩ := (W_law19_EndBack (K := K31) rfl rfl rfl rfl rfl rfl m hm ⟨0, []⟩ (⟨a0_0, a0_1, a0_2, a0_3, a0_4, a0_5⟩ : Gapi_End) hF).out
  exact law_of_run (φ := fun _ => ⟨0, 0, 0⟩) (args := [.agg [.int .i64 a0_0, .int .i64 a0_1, .int .i64 a0_2, .int .i64 a0_3, .str a0_4, .bool a0_5]]) (args' := [.agg ([.int .i64 a0_0, .int .i64 a0_1, .int .i64 a0_2, .int .i64 a0_3, .string ⟨⟨a0_4⟩⟩, .bool a0_5] : List Value).toArray]) K31ok.hooks (drawnOf_ok (by kernel_rfl) K31ok.tab) noGoroutineK e (Rel.empty (Nat.le_refl _) _ 0) (fun id o hg => absurd hg (by simp [AH.get])) (VRs.cons (VR.aggOf (VRs.cons (.int _ _) (VRs.cons (.int _ _) (VRs.cons (.int _ _) (VRs.cons (.int _ _) (VRs.cons (.str _) (VRs.cons (.bool _) (VRs.nil _ _)))))))) (VRs.nil _ _)) Try.func8 rfl rfl
theorem own : ownKnob Try.prog.godebug = none := by kernel_rfl
theorem laid : laidOutB Try.prog = true := by kernel_rfl
set_option maxRecDepth 100000 in
set_option maxHeartbeats 4000000 in
theorem lifted (os : Os) (started : os.Started) (H : Type) (enc : TypeId × Value → H) :
    ReturnsInHanded {} Try.checked os 8 .any (Rows.endBackSpec.pre6 enc Try.prog Try.f8 Rows.endBackRow.domain false) (Rows.endBackSpec.post enc Try.prog Try.f8 false true false false) := by
  refine returnsInHanded_of_change_sized (C := Try.checked) own started (by kernel_rfl) Try.func8
    (ChangeSpec.witness6 (enc := enc) (C := Try.checked) false ⟨#[], #[.agg #[.int .i64 0, .int .i64 0, .int .i64 0, .int .i64 0, .string ByteArray.empty, .bool false]], []⟩ 8 (by kernel_rfl) (by kernel_rfl) (by kernel_rfl) (by kernel_rfl)) ?_
  intro W base args ds gs before hval0 hW hcnd hsz0 _
  have hval : ∀ (j : Nat) t v, Try.f8.params[j]? = some t → args[j]? = some v → Value.okWide Try.prog W .any base t v := hval0
  have hW' := hW
  obtain ⟨p, q, hA0, hV, rfl, hfz, hnd⟩ := hW
  have hA : DataW.TrodAll enc Try.prog W 0 (fun _ => true) true Try.f8.params.toList args.toList ds p := hA0
  rw [Try.params8] at hA hval
  obtain ⟨v0, vs0, d0, ds0, p0, q0, hargs, rfl, rfl, h0, r0⟩ := trodAll_cons hA
  obtain ⟨rfl, rfl, rfl⟩ := trodAll_nil r0
  obtain rfl : args = #[v0] := by cases args; simp_all
  obtain ⟨rfl, rfl⟩ := trodVars_none hV
  have hlt : ∀ x ∈ p0, x.block < W.heap.size := fun x hx => hW'.lt x (by simpa using hx)
  have k0 := h0
  obtain ⟨cl0, xs0, n0, rfl, hl0, hx0, hf0⟩ := open_structK Try.underlying62 (hval 0 62 v0 rfl rfl) h0
  replace hl0 : cl0.length = 6 := hl0.trans (by kernel_rfl)
  obtain ⟨c0_0, cr0_0, rfl, z0_0⟩ := uncons hl0
  obtain ⟨c0_1, cr0_1, rfl, z0_1⟩ := uncons z0_0
  obtain ⟨c0_2, cr0_2, rfl, z0_2⟩ := uncons z0_1
  obtain ⟨c0_3, cr0_3, rfl, z0_3⟩ := uncons z0_2
  obtain ⟨c0_4, cr0_4, rfl, z0_4⟩ := uncons z0_3
  obtain ⟨c0_5, cr0_5, rfl, z0_5⟩ := uncons z0_4
  obtain rfl := unnil z0_5
  obtain ⟨_, g0_0⟩ := field_at hf0 hx0 0 _ rfl c0_0 (by rw [show Try.prog.cellsOf _ = 1 from by kernel_rfl]; rfl)
  obtain ⟨a0_0, rfl, w0_0⟩ := leaf_int Try.underlying3 g0_0
  obtain ⟨_, g0_1⟩ := field_at hf0 hx0 1 _ rfl c0_1 (by rw [show Try.prog.cellsOf _ = 1 from by kernel_rfl]; rfl)
  obtain ⟨a0_1, rfl, w0_1⟩ := leaf_int Try.underlying3 g0_1
  obtain ⟨_, g0_2⟩ := field_at hf0 hx0 2 _ rfl c0_2 (by rw [show Try.prog.cellsOf _ = 1 from by kernel_rfl]; rfl)
  obtain ⟨a0_2, rfl, w0_2⟩ := leaf_int Try.underlying3 g0_2
  obtain ⟨_, g0_3⟩ := field_at hf0 hx0 3 _ rfl c0_3 (by rw [show Try.prog.cellsOf _ = 1 from by kernel_rfl]; rfl)
  obtain ⟨a0_3, rfl, w0_3⟩ := leaf_int Try.underlying3 g0_3
  obtain ⟨_, g0_4⟩ := field_at hf0 hx0 4 _ rfl c0_4 (by rw [show Try.prog.cellsOf _ = 1 from by kernel_rfl]; rfl)
  obtain ⟨a0_4, rfl, y0_4⟩ := leaf_str Try.underlying9 g0_4
  obtain ⟨_, g0_5⟩ := field_at hf0 hx0 5 _ rfl c0_5 (by rw [show Try.prog.cellsOf _ = 1 from by kernel_rfl]; rfl)
  obtain ⟨a0_5, rfl⟩ := leaf_bool Try.underlying4 g0_5
  refine (law a0_0 w0_0 a0_1 w0_1 a0_2 w0_2 a0_3 w0_3 a0_4 a0_5 W).mono fun e W' ⟨he, bel⟩ => ?_
  subst he
  exact ⟨_, rfl, _, _, _, [], _, [], hW', trodAll_mk1 (shut_bool Try.underlying4 _), (trodAll_cons_mk (Below.trod laid (by kernel_rfl) (of_decide_eq_true (by kernel_rfl)) k0 bel (fun x hx => hlt x (by simp [hx]))) trodAll_mk0), rfl, bel.frame _, fun h => by cases h⟩
theorem over : Rows.endBackRow.holds Try.pinned (OpenSpec.ofChange Rows.endBackSpec) :=
  OpenClaim.holds_of_wide 8 Try.f8 rfl rfl rfl rfl rfl rfl rfl ⟨rfl, rfl, rfl, rfl, rfl⟩ rfl rfl rfl rfl rfl (by kernel_rfl) Try.func8 (by kernel_rfl)
    (of_decide_eq_true (by kernel_rfl)) (by unfold Func.isWrapper; first | (rw [if_pos (by decide +kernel)]; kernel_rfl) | (rw [if_neg (by decide +kernel)]; exact ⟨rfl, rfl⟩))
    (fun os started H enc _ => lifted os started H enc)
theorem proved : Rows.EndBackSaid := over
end Go.Proofs.Ytikkpmmhejjpaaa.endBack
namespace Go.Proofs.Ytikkpmmhejjpaaa
/-- The row, under a short name, for the claim. -/
theorem endBack_holds : Rows.EndBackSaid := endBack.proved
end Go.Proofs.Ytikkpmmhejjpaaa
