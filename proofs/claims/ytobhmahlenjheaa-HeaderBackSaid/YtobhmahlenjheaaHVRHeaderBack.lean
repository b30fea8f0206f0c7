/- The row of HeaderBack: whatever the input, the law answers true, and its arguments read as they did. -/
import Derived.Test.YtobhmahlenjheaaHV
import Derived.Test.YtobhmahlenjheaaP18h
import Derived.Test.YtobhmahlenjheaaVC
import Derived.Test.YtobhmahlenjheaaRows
import Derived.ProofKit
import Derived.OpenShut
import Derived.LaidMore
import Derived.Lay
import Derived.SevenTiedAt
import Derived.Stop.Joined
namespace Go.Proofs.Ytobhmahlenjheaa.headerBack
open Go.ChangeShapes Go.WideShapes Go.ChangeAt Go.RowKit
open Go.ChangeMaps (open_string shut_string)
open Go.Proofs.YtobhmahlenjheaaM
set_option linter.unusedVariables false
set_option linter.unusedSimpArgs false
theorem own : ownKnob Try.prog.godebug = none := by kernel_rfl
theorem laid : laidOutB Try.prog = true := by kernel_rfl
set_option maxRecDepth 100000 in
set_option maxHeartbeats 4000000 in
theorem lifted (os : Os) (started : os.Started) (H : Type) (enc : TypeId × Value → H) :
    ReturnsInHanded {} Try.checked os 7 .any (Rows.headerBackSpec.pre6 enc Try.prog Try.f7 Rows.headerBackRow.domain false) (Rows.headerBackSpec.post enc Try.prog Try.f7 false true false false) := by
  refine returnsInHanded_of_change_sized (C := Try.checked) own started (by kernel_rfl) Try.func7
    (ChangeSpec.witness6 (enc := enc) (C := Try.checked) false ⟨#[], #[.agg #[.int .i64 0, .int .i64 0, .int .i64 0, .int .i64 0, .int .i64 0, .int .i64 0, .int .i64 0, .int .i64 0, .int .i64 0, .int .i64 0, .int .i64 0, .string ByteArray.empty, .string ByteArray.empty, .string ByteArray.empty], .bool false], []⟩ 8 (by kernel_rfl) (by kernel_rfl) (by kernel_rfl) (by kernel_rfl)) ?_
  intro W base args ds gs before hval0 hW hcnd hsz0 _
  have hval : ∀ (j : Nat) t v, Try.f7.params[j]? = some t → args[j]? = some v → Value.okWide Try.prog W .any base t v := hval0
  have hW' := hW
  obtain ⟨p, q, hA0, hV, rfl, hfz, hnd⟩ := hW
  have hA : DataW.TrodAll enc Try.prog W 0 (fun _ => true) true Try.f7.params.toList args.toList ds p := hA0
  rw [Try.params7] at hA hval
  obtain ⟨v0, vs0, d0, ds0, p0, q0, hargs, rfl, rfl, h0, r0⟩ := trodAll_cons hA
  obtain ⟨v1, vs1, d1, ds1, p1, q1, rfl, rfl, rfl, h1, r1⟩ := trodAll_cons r0
  obtain ⟨rfl, rfl, rfl⟩ := trodAll_nil r1
  obtain rfl : args = #[v0, v1] := by cases args; simp_all
  obtain ⟨rfl, rfl⟩ := trodVars_none hV
  have hlt : ∀ x ∈ p0 ++ p1, x.block < W.heap.size := fun x hx => hW'.lt x (by simpa using hx)
  obtain ⟨a0, A0, g0⟩ := open_arg (T := (.cons (.int .i64) (.cons (.int .i64) (.cons (.int .i64) (.cons (.int .i64) (.cons (.int .i64) (.cons (.int .i64) (.cons (.int .i64) (.cons (.int .i64) (.cons (.int .i64) (.cons (.int .i64) (.cons (.int .i64) (.cons .str (.cons .str (.cons .str .nil))))))))))))))) 9 (by kernel_rfl) (hval 0 31 v0 rfl rfl) h0
  obtain ⟨a1, A1, g1⟩ := open_arg (T := .bool) 9 (by kernel_rfl) (hval 1 4 v1 rfl rfl) h1
  have hF : F_law18_HeaderBack a0 a1 = some (true, ()) := true_law18_HeaderBack a0 a1
  have hgh : ∀ id o, hg0.get id = some o → ∃ c, o = .gvar id c ∧ GIn W id c := by
    intro id o hg
    match id, hg with
    | id + 0, hg => exact absurd hg (by show (if id + 0 < 0 then _ else none) ≠ _; rw [if_neg (by omega)]; exact fun h => by cases h)
  refine (law_args (p := (a0, (a1, ()))) (vs := [v0, v1]) CV63 (List.mem_cons_self ..) hF hg0 hgl0 hgh ⟨A0, ⟨A1, rfl⟩⟩ mixedV noGoroutineV Try.func7 rfl rfl).mono fun e W' ⟨he, bel⟩ => ?_
  subst he
  exact ⟨_, rfl, _, _, _, [], _, [], hW', trodAll_mk1 (shut_bool Try.underlying4 _), (trodAll_cons_mk (Below.trod laid (by kernel_rfl) (of_decide_eq_true (by kernel_rfl)) h0 bel (fun x hx => hlt x (by simp [hx]))) (trodAll_cons_mk (Below.trod laid (by kernel_rfl) (of_decide_eq_true (by kernel_rfl)) h1 bel (fun x hx => hlt x (by simp [hx]))) trodAll_mk0)), rfl, bel.frame _, fun h => by cases h⟩
theorem over : Rows.headerBackRow.holds Try.pinned (OpenSpec.ofChange Rows.headerBackSpec) :=
  OpenClaim.holds_of_wide 7 Try.f7 rfl rfl rfl rfl rfl rfl rfl ⟨rfl, rfl, rfl, rfl, rfl⟩ rfl rfl rfl rfl rfl (by kernel_rfl) Try.func7 (by kernel_rfl)
    (of_decide_eq_true (by kernel_rfl)) (by unfold Func.isWrapper; first | (rw [if_pos (by decide +kernel)]; kernel_rfl) | (rw [if_neg (by decide +kernel)]; exact ⟨rfl, rfl⟩))
    (fun os started H enc _ => lifted os started H enc)
theorem proved : Rows.HeaderBackSaid := over
end Go.Proofs.Ytobhmahlenjheaa.headerBack
namespace Go.Proofs.Ytobhmahlenjheaa
/-- The row, under a short name, for the claim. -/
theorem headerBack_holds : Rows.HeaderBackSaid := headerBack.proved
end Go.Proofs.Ytobhmahlenjheaa
