/- Each function that looks at no memory stands for its calls: printed by lift.py. -/
import Derived.Test.YtikkpmmhejjpaaaDoorFOW2
set_option linter.unusedSimpArgs false
set_option linter.unusedVariables false
namespace Go.Proofs.YtikkpmmhejjpaaaDoorM
open Go Go.RowKit
theorem noGoroutineK : Tryd.prog.funcs.all (fun fn => !(fn.name == "runtime.NumGoroutine")) = true := by kernel_rfl
noncomputable def K0 : PureK := fun _ => none
theorem K0ok {B : Nat} : KOK Tryd.prog B K0 := KOK.none
noncomputable def K1 : PureK := addK K0 25 hb77
theorem K1ok {B : Nat} : KOK Tryd.prog B K1 := K0ok.add hb_ok
set_option maxRecDepth 100000 in
set_option maxHeartbeats 1000000 in
theorem hk_20 {B : Nat} : HookOK Tryd.prog B 20 (fun args h => (kf_20 args).map fun v => (v, h)) := by
  refine HookOK.apart (Γ := hooksOf K1) (D := drawnOf Tryd.prog (tabOf K1)) K1ok.hooks (drawnOf_ok (by kernel_rfl) K1ok.tab) noGoroutineK 20 kf_20 ?_
  intro args v hk
  unfold kf_20 at hk
  split at hk
  · rename_i z0 z1 z2 z3
    cases hF : F_fold_Small_1 [z0, z1, z2] z3 with
    | none => rw [hF] at hk; cases hk
    | some r =>
      rw [hF] at hk; cases hk
      obtain ⟨m, hm⟩ : ∃ m, NF + 1 ≤ m := ⟨_, Nat.le_refl _⟩
      obtain ⟨v, h1, e, rfl⟩ := (W_fold_Small_1 (K := K1) rfl m hm ⟨0, []⟩ z0 z1 z2 z3 hF).out
      exact ⟨rfl, rfl, _, _, e⟩
  · cases hk
noncomputable def K2 : PureK := addK K1 20 kf_20
theorem K2ok {B : Nat} : KOK Tryd.prog B K2 := K1ok.add hk_20
set_option maxRecDepth 100000 in
set_option maxHeartbeats 1000000 in
theorem hk_10 {B : Nat} : HookOK Tryd.prog B 10 (fun args h => (kf_10 args).map fun v => (v, h)) := by
  refine HookOK.apart (Γ := hooksOf K2) (D := drawnOf Tryd.prog (tabOf K2)) K2ok.hooks (drawnOf_ok (by kernel_rfl) K2ok.tab) noGoroutineK 10 kf_10 ?_
  intro args v hk
  unfold kf_10 at hk
  split at hk
  · rename_i z0
    cases hF : F_fold_Small z0 with
    | none => rw [hF] at hk; cases hk
    | some r =>
      rw [hF] at hk; cases hk
      obtain ⟨m, hm⟩ : ∃ m, NF + 2 ≤ m := ⟨_, Nat.le_refl _⟩
      obtain ⟨v, h1, e, rfl⟩ := (W_fold_Small (K := K2) rfl rfl rfl rfl m hm ⟨0, []⟩ z0 hF).out
      exact ⟨rfl, rfl, _, _, e⟩
  · cases hk
noncomputable def K3 : PureK := addK K2 10 kf_10
theorem K3ok {B : Nat} : KOK Tryd.prog B K3 := K2ok.add hk_10
set_option maxRecDepth 100000 in
set_option maxHeartbeats 1000000 in
theorem hk_24 {B : Nat} : HookOK Tryd.prog B 24 (fun args h => (kf_24 args).map fun v => (v, h)) := by
  refine HookOK.apart (Γ := hooksOf K3) (D := drawnOf Tryd.prog (tabOf K3)) K3ok.hooks (drawnOf_ok (by kernel_rfl) K3ok.tab) noGoroutineK 24 kf_24 ?_
  intro args v hk
  unfold kf_24 at hk
  split at hk
  · rename_i z0
    cases hF : F_ref13_long z0 with
    | none => rw [hF] at hk; cases hk
    | some r =>
      rw [hF] at hk; cases hk
      obtain ⟨m, hm⟩ : ∃ m, NF + 1 ≤ m := ⟨_, Nat.le_refl _⟩
      obtain ⟨v, h1, e, rfl⟩ := (W_ref13_long (K := K3) rfl m hm ⟨0, []⟩ z0 hF).out
      exact ⟨rfl, rfl, _, _, e⟩
  · cases hk
noncomputable def K4 : PureK := addK K3 24 kf_24
theorem K4ok {B : Nat} : KOK Tryd.prog B K4 := K3ok.add hk_24
set_option maxRecDepth 100000 in
set_option maxHeartbeats 1000000 in
theorem hk_17 {B : Nat} : HookOK Tryd.prog B 17 (fun args h => (kf_17 args).map fun v => (v, h)) := by
  refine HookOK.apart (Γ := hooksOf K4) (D := drawnOf Tryd.prog (tabOf K4)) K4ok.hooks (drawnOf_ok (by kernel_rfl) K4ok.tab) noGoroutineK 17 kf_17 ?_
  intro args v hk
  unfold kf_17 at hk
  split at hk
  · rename_i z0 z1
    cases hF : F_ref13_Next z0 z1 with
    | none => rw [hF] at hk; cases hk
    | some r =>
      rw [hF] at hk; cases hk
      obtain ⟨m, hm⟩ : ∃ m, NF + 1 ≤ m := ⟨_, Nat.le_refl _⟩
      obtain ⟨v, h1, e, rfl⟩ := (W_ref13_Next (K := K4) rfl rfl m hm ⟨0, []⟩ z0 z1 hF).out
      exact ⟨rfl, rfl, _, _, e⟩
  · cases hk
noncomputable def K5 : PureK := addK K4 17 kf_17
theorem K5ok {B : Nat} : KOK Tryd.prog B K5 := K4ok.add hk_17
set_option maxRecDepth 100000 in
set_option maxHeartbeats 1000000 in
theorem hk_11 {B : Nat} : HookOK Tryd.prog B 11 (fun args h => (kf_11 args).map fun v => (v, h)) := by
  refine HookOK.apart (Γ := hooksOf K5) (D := drawnOf Tryd.prog (tabOf K5)) K5ok.hooks (drawnOf_ok (by kernel_rfl) K5ok.tab) noGoroutineK 11 kf_11 ?_
  intro args v hk
  unfold kf_11 at hk
  split at hk
  · rename_i z0
    cases hF : F_ref14_Small z0 with
    | none => rw [hF] at hk; cases hk
    | some r =>
      rw [hF] at hk; cases hk
      obtain ⟨m, hm⟩ : ∃ m, NF + 1 ≤ m := ⟨_, Nat.le_refl _⟩
      obtain ⟨v, h1, e, rfl⟩ := (W_ref14_Small (K := K5) rfl m hm ⟨0, []⟩ z0 hF).out
      exact ⟨rfl, rfl, _, _, e⟩
  · cases hk
noncomputable def K6 : PureK := addK K5 11 kf_11
theorem K6ok {B : Nat} : KOK Tryd.prog B K6 := K5ok.add hk_11
set_option maxRecDepth 100000 in
set_option maxHeartbeats 1000000 in
theorem hk_18 {B : Nat} : HookOK Tryd.prog B 18 (fun args h => (kf_18 args).map fun v => (v, h)) := by
  refine HookOK.apart (Γ := hooksOf K6) (D := drawnOf Tryd.prog (tabOf K6)) K6ok.hooks (drawnOf_ok (by kernel_rfl) K6ok.tab) noGoroutineK 18 kf_18 ?_
  intro args v hk
  unfold kf_18 at hk
  split at hk
  · rename_i z0
    cases hF : F_ref14_utf8 z0 with
    | none => rw [hF] at hk; cases hk
    | some r =>
      rw [hF] at hk; cases hk
      obtain ⟨m, hm⟩ : ∃ m, NF + 1 ≤ m := ⟨_, Nat.le_refl _⟩
      obtain ⟨v, h1, e, rfl⟩ := (W_ref14_utf8 (K := K6) rfl m hm ⟨0, []⟩ z0 hF).out
      exact ⟨rfl, rfl, _, _, e⟩
  · cases hk
noncomputable def K7 : PureK := addK K6 18 kf_18
theorem K7ok {B : Nat} : KOK Tryd.prog B K7 := K6ok.add hk_18
set_option maxRecDepth 100000 in
set_option maxHeartbeats 1000000 in
theorem hk_8 {B : Nat} : HookOK Tryd.prog B 8 (fun args h => (kf_8 args).map fun v => (v, h)) := by
  refine HookOK.apart (Γ := hooksOf K7) (D := drawnOf Tryd.prog (tabOf K7)) K7ok.hooks (drawnOf_ok (by kernel_rfl) K7ok.tab) noGoroutineK 8 kf_8 ?_
  intro args v hk
  unfold kf_8 at hk
  split at hk
  · rename_i z0
    cases hF : F_ref14_Fold z0 with
    | none => rw [hF] at hk; cases hk
    | some r =>
      rw [hF] at hk; cases hk
      obtain ⟨m, hm⟩ : ∃ m, NF + 1 ≤ m := ⟨_, Nat.le_refl _⟩
      obtain ⟨v, h1, e, rfl⟩ := (W_ref14_Fold (K := K7) rfl rfl rfl rfl m hm ⟨0, []⟩ z0 hF).out
      exact ⟨rfl, rfl, _, _, e⟩
  · cases hk
noncomputable def K8 : PureK := addK K7 8 kf_8
theorem K8ok {B : Nat} : KOK Tryd.prog B K8 := K7ok.add hk_8
end Go.Proofs.YtikkpmmhejjpaaaDoorM
