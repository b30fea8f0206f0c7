/- The row of ExtraAny: whatever the text and the number, the law answers true, and its arguments read as they did. -/
import Derived.Test.YtikkpmmhejjpaaaL17
import Derived.Test.YtikkpmmhejjpaaaRows
import Derived.WalkKit
import Derived.ProofKit
import Derived.OpenShut
import Derived.ShutString
import Derived.ChangeOld
import Derived.Below
import Derived.SizedLaws
namespace Go.Proofs.Ytikkpmmhejjpaaa.extraAny
open Go.ChangeShapes Go.WideShapes Go.ChangeAt Go.RowKit
open Go.ChangeMaps (open_string shut_string)
open Go.Proofs.YtikkpmmhejjpaaaM
set_option linter.unusedVariables false
def answer : List AV → Option AV
  | [.str _, .int .i64 _] => some (.bool true)
  | _ => none
set_option maxRecDepth 100000 in
theorem law (s : ByteArray) (a : Int) (w : World) : Calls Try.prog 4 #[.string s, .int .i64 a] w fun e w' => e = .returned (.bool true) ∧ Below w.heap.size w w' := by
  have hk : HookOK Try.prog w.heap.size 4 (fun args h => (answer args).map fun v => (v, h)) := by
    refine HookOK.apart (Γ := GL) (D := D17) GLok D17ok noGoroutine 4 _ ?_
    intro args v h
    unfold answer at h
    split at h
    · rename_i s a
      cases h
      obtain ⟨v, h', e, rfl⟩ := (law4_run s a).out
      exact ⟨rfl, rfl, 1001, h', e⟩
    · cases h
  exact law_of_hook (args := [.str s.data.toList, .int .i64 a]) (args' := [.string s, .int .i64 a]) hk
    (VRs.cons (VR.strOf _ _ _) (VRs.cons (.int _ _) (VRs.nil _ _))) (h' := ⟨0, []⟩) rfl Try.func4 rfl rfl
theorem own : ownKnob Try.prog.godebug = none := by kernel_rfl
set_option maxRecDepth 100000 in
theorem lifted (os : Os) (started : os.Started) (H : Type) (enc : TypeId × Value → H) :
    ReturnsInHanded {} Try.checked os 4 .any (Rows.extraAnySpec.pre6 enc Try.prog Try.f4 Rows.extraAnyRow.domain false) (Rows.extraAnySpec.post enc Try.prog Try.f4 false true false false) := by
  refine returnsInHanded_of_change_sized (C := Try.checked) own started (by kernel_rfl) Try.func4
    (ChangeSpec.witness6 (enc := enc) (C := Try.checked) false ⟨#[], #[.string ByteArray.empty, .int .i64 0], []⟩ 8 (by kernel_rfl) (by kernel_rfl) (by kernel_rfl) (by kernel_rfl)) ?_
  intro W base args ds gs before hval0 hW hcnd hsz0 _
  have hval : ∀ (j : Nat) t v, Try.f4.params[j]? = some t → args[j]? = some v → Value.okWide Try.prog W .any base t v := hval0
  have hW' := hW
  obtain ⟨p, q, hA0, hV, rfl, hfz, hnd⟩ := hW
  have hA : DataW.TrodAll enc Try.prog W 0 (fun _ => true) true Try.f4.params.toList args.toList ds p := hA0
  rw [Try.params4] at hA hval
  obtain ⟨v0, vs0, d0, ds0, p0, q0, hargs, rfl, rfl, h0, r0⟩ := trodAll_cons hA
  obtain ⟨v1, vs1, d1, ds1, p1, q1, rfl, rfl, rfl, h1, r1⟩ := trodAll_cons r0
  obtain ⟨rfl, rfl, rfl⟩ := trodAll_nil r1
  obtain rfl : args = #[v0, v1] := by cases args; simp_all
  obtain ⟨rfl, rfl⟩ := trodVars_none hV
  obtain ⟨a0, rfl, rfl, rfl, y0⟩ := open_string Try.underlying9 (hval 0 9 v0 rfl rfl) h0
  obtain ⟨a1, rfl, rfl, rfl, w1⟩ := open_int Try.underlying3 (hval 1 3 v1 rfl rfl) h1
  refine (law a0 a1 W).mono fun e W' ⟨he, bel⟩ => ?_
  subst he
  exact ⟨_, rfl, _, _, _, [], _, [], hW', trodAll_mk1 (shut_bool Try.underlying4 _), (trodAll_cons_mk (shut_string Try.underlying9 y0) (trodAll_cons_mk (shut_int Try.underlying3 w1) trodAll_mk0)), rfl, bel.frame _, fun h => by cases h⟩
theorem over : Rows.extraAnyRow.holds Try.pinned (OpenSpec.ofChange Rows.extraAnySpec) :=
  OpenClaim.holds_of_wide 4 Try.f4 rfl rfl rfl rfl rfl rfl rfl ⟨rfl, rfl, rfl, rfl, rfl⟩ rfl rfl rfl rfl rfl (by kernel_rfl) Try.func4 (by kernel_rfl)
    (of_decide_eq_true (by kernel_rfl)) (by unfold Func.isWrapper; first | (rw [if_pos (by decide +kernel)]; kernel_rfl) | (rw [if_neg (by decide +kernel)]; exact ⟨rfl, rfl⟩))
    (fun os started H enc _ => lifted os started H enc)
theorem proved : Rows.ExtraAnySaid := over
end Go.Proofs.Ytikkpmmhejjpaaa.extraAny
namespace Go.Proofs.Ytikkpmmhejjpaaa
/-- The row, under a short name, for the claim. -/
theorem extraAny_holds : Rows.ExtraAnySaid := extraAny.proved
end Go.Proofs.Ytikkpmmhejjpaaa
