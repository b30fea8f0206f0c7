/- The row of DeltaNumbers: whatever the number, the text and the place, the law answers true, and its arguments read as they did. -/
import Derived.Test.YtikkpmmhejjpaaaN40
import Derived.Test.YtikkpmmhejjpaaaRows
import Derived.WalkKit
import Derived.ProofKit
import Derived.OpenShut
import Derived.ShutString
import Derived.ChangeOld
import Derived.Below
import Derived.SizedLaws
namespace Go.Proofs.Ytikkpmmhejjpaaa.deltaNumbers
open Go.ChangeShapes Go.WideShapes Go.ChangeAt Go.RowKit
open Go.ChangeMaps (open_string shut_string)
open Go.Proofs.YtikkpmmhejjpaaaM
set_option linter.unusedVariables false
def answer : List AV → Option AV
  | [.int .i64 _, .str _, .int .i64 b] => if b < 9223372036854775808 then some (.bool true) else none
  | _ => none
set_option maxRecDepth 100000 in
theorem law (a : Int) (s : ByteArray) (b : Int) (hb : b < 9223372036854775808) (w : World) : Calls Try.prog 9 #[.int .i64 a, .string s, .int .i64 b] w fun e w' => e = .returned (.bool true) ∧ Below w.heap.size w w' := by
  have hk : HookOK Try.prog w.heap.size 9 (fun args h => (answer args).map fun v => (v, h)) := by
    refine HookOK.apart (Γ := GL) (D := D4) GLok D4ok noGoroutine 9 _ ?_
    intro args v h
    unfold answer at h
    split at h
    · rename_i a s b
      split at h
      · rename_i hb
        cases h
        obtain ⟨v, h', e, rfl⟩ := (law_run a s b hb).out
        exact ⟨rfl, rfl, 101, h', e⟩
      · cases h
    · cases h
  exact law_of_hook (args := [.int .i64 a, .str s.data.toList, .int .i64 b]) (args' := [.int .i64 a, .string s, .int .i64 b]) hk
    (VRs.cons (.int _ _) (VRs.cons (VR.strOf _ _ _) (VRs.cons (.int _ _) (VRs.nil _ _)))) (h' := ⟨0, []⟩) (by simp only [answer, hb, if_true, Option.map_some]) Try.func9 rfl rfl
theorem own : ownKnob Try.prog.godebug = none := by kernel_rfl
set_option maxRecDepth 100000 in
theorem lifted (os : Os) (started : os.Started) (H : Type) (enc : TypeId × Value → H) :
    ReturnsInHanded {} Try.checked os 9 .any (Rows.deltaNumbersSpec.pre6 enc Try.prog Try.f9 Rows.deltaNumbersRow.domain false) (Rows.deltaNumbersSpec.post enc Try.prog Try.f9 false true false false) := by
  refine returnsInHanded_of_change_sized (C := Try.checked) own started (by kernel_rfl) Try.func9
    (ChangeSpec.witness6 (enc := enc) (C := Try.checked) false ⟨#[], #[.int .i64 0, .string ByteArray.empty, .int .i64 0], []⟩ 8 (by kernel_rfl) (by kernel_rfl) (by kernel_rfl) (by kernel_rfl)) ?_
  intro W base args ds gs before hval0 hW hcnd hsz0 _
  have hval : ∀ (j : Nat) t v, Try.f9.params[j]? = some t → args[j]? = some v → Value.okWide Try.prog W .any base t v := hval0
  have hW' := hW
  obtain ⟨p, q, hA0, hV, rfl, hfz, hnd⟩ := hW
  have hA : DataW.TrodAll enc Try.prog W 0 (fun _ => true) true Try.f9.params.toList args.toList ds p := hA0
  rw [Try.params9] at hA hval
  obtain ⟨v0, vs0, d0, ds0, p0, q0, hargs, rfl, rfl, h0, r0⟩ := trodAll_cons hA
  obtain ⟨v1, vs1, d1, ds1, p1, q1, rfl, rfl, rfl, h1, r1⟩ := trodAll_cons r0
  obtain ⟨v2, vs2, d2, ds2, p2, q2, rfl, rfl, rfl, h2, r2⟩ := trodAll_cons r1
  obtain ⟨rfl, rfl, rfl⟩ := trodAll_nil r2
  obtain rfl : args = #[v0, v1, v2] := by cases args; simp_all
  obtain ⟨rfl, rfl⟩ := trodVars_none hV
  obtain ⟨a0, rfl, rfl, rfl, w0⟩ := open_int Try.underlying3 (hval 0 3 v0 rfl rfl) h0
  obtain ⟨a1, rfl, rfl, rfl, y1⟩ := open_string Try.underlying9 (hval 1 9 v1 rfl rfl) h1
  obtain ⟨a2, rfl, rfl, rfl, w2⟩ := open_int Try.underlying3 (hval 2 3 v2 rfl rfl) h2
  have hb : a2 < 9223372036854775808 := by
    have w2' := w2
    simp [Lit.wf, IntKind.min, IntKind.max, IntKind.bits, IntKind.signed] at w2'
    omega
  refine (law a0 a1 a2 hb W).mono fun e W' ⟨he, bel⟩ => ?_
  subst he
  exact ⟨_, rfl, _, _, _, [], _, [], hW', trodAll_mk1 (shut_bool Try.underlying4 _), (trodAll_cons_mk (shut_int Try.underlying3 w0) (trodAll_cons_mk (shut_string Try.underlying9 y1) (trodAll_cons_mk (shut_int Try.underlying3 w2) trodAll_mk0))), rfl, bel.frame _, fun h => by cases h⟩
theorem over : Rows.deltaNumbersRow.holds Try.pinned (OpenSpec.ofChange Rows.deltaNumbersSpec) :=
  OpenClaim.holds_of_wide 9 Try.f9 rfl rfl rfl rfl rfl rfl rfl ⟨rfl, rfl, rfl, rfl, rfl⟩ rfl rfl rfl rfl rfl (by kernel_rfl) Try.func9 (by kernel_rfl)
    (of_decide_eq_true (by kernel_rfl)) (by unfold Func.isWrapper; first | (rw [if_pos (by decide +kernel)]; kernel_rfl) | (rw [if_neg (by decide +kernel)]; exact ⟨rfl, rfl⟩))
    (fun os started H enc _ => lifted os started H enc)
theorem proved : Rows.DeltaNumbersSaid := over
end Go.Proofs.Ytikkpmmhejjpaaa.deltaNumbers
namespace Go.Proofs.Ytikkpmmhejjpaaa
/-- The row, under a short name, for the claim. -/
theorem deltaNumbers_holds : Rows.DeltaNumbersSaid := deltaNumbers.proved
end Go.Proofs.Ytikkpmmhejjpaaa
