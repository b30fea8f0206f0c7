/- Each function that looks at no memory stands for its calls: printed by lift.py. -/
import Derived.Test.YtikkpmmhejjpaaaEAW3
set_option linter.unusedSimpArgs false
set_option linter.unusedVariables false
namespace Go.Proofs.YtikkpmmhejjpaaaM
open Go Go.RowKit
theorem noGoroutineK : Try.prog.funcs.all (fun fn => !(fn.name == "runtime.NumGoroutine")) = true := by kernel_rfl
noncomputable def K0 : PureK := fun _ => none
theorem K0ok {B : Nat} : KOK Try.prog B K0 := KOK.none
set_option maxRecDepth 100000 in
set_option maxHeartbeats 1000000 in
theorem hk_73 {B : Nat} : HookOK Try.prog B 73 (fun args h => (kf_73 args).map fun v => (v, h)) := by
  refine HookOK.apart (Γ := hooksOf K0) (D := drawnOf Try.prog (tabOf K0)) K0ok.hooks (drawnOf_ok (by kernel_rfl) K0ok.tab) noGoroutineK 73 kf_73 ?_
  intro args v hk
  unfold kf_73 at hk
  split at hk
  · rename_i z0 z1
    cases hF : F_end_fits z0 z1 with
    | none => rw [hF] at hk; cases hk
    | some r =>
      rw [hF] at hk; cases hk
      obtain ⟨m, hm⟩ : ∃ m, NF + 1 ≤ m := ⟨_, Nat.le_refl _⟩
      obtain ⟨v, h1, e, rfl⟩ := (W_end_fits (K := K0) rfl m hm ⟨0, []⟩ z0 z1 hF).out
      exact ⟨rfl, rfl, _, _, e⟩
  · cases hk
noncomputable def K1 : PureK := addK K0 73 kf_73
theorem K1ok {B : Nat} : KOK Try.prog B K1 := K0ok.add hk_73
set_option maxRecDepth 100000 in
set_option maxHeartbeats 1000000 in
theorem hk_61 {B : Nat} : HookOK Try.prog B 61 (fun args h => (kf_61 args).map fun v => (v, h)) := by
  refine HookOK.apart (Γ := hooksOf K1) (D := drawnOf Try.prog (tabOf K1)) K1ok.hooks (drawnOf_ok (by kernel_rfl) K1ok.tab) noGoroutineK 61 kf_61 ?_
  intro args v hk
  unfold kf_61 at hk
  split at hk
  · rename_i z0 z1 z2 z3 z4 z5
    cases hF : F_end_right (⟨z0, z1, z2, z3, z4, z5⟩ : Gapi_End) with
    | none => rw [hF] at hk; cases hk
    | some r =>
      rw [hF] at hk; cases hk
      obtain ⟨m, hm⟩ : ∃ m, NF + 1 ≤ m := ⟨_, Nat.le_refl _⟩
      obtain ⟨v, h1, e, rfl⟩ := (W_end_right (K := K1) rfl rfl m hm ⟨0, []⟩ (⟨z0, z1, z2, z3, z4, z5⟩ : Gapi_End) hF).out
      exact ⟨rfl, rfl, _, _, e⟩
  · cases hk
noncomputable def K2 : PureK := addK K1 61 kf_61
theorem K2ok {B : Nat} : KOK Try.prog B K2 := K1ok.add hk_61
set_option maxRecDepth 100000 in
set_option maxHeartbeats 1000000 in
theorem hk_45 {B : Nat} : HookOK Try.prog B 45 (fun args h => (kf_45 args).map fun v => (v, h)) := by
  refine HookOK.apart (Γ := hooksOf K2) (D := drawnOf Try.prog (tabOf K2)) K2ok.hooks (drawnOf_ok (by kernel_rfl) K2ok.tab) noGoroutineK 45 kf_45 ?_
  intro args v hk
  unfold kf_45 at hk
  split at hk
  · rename_i z0 z1
    cases hF : F_field_put z0 z1 with
    | none => rw [hF] at hk; cases hk
    | some r =>
      rw [hF] at hk; cases hk
      obtain ⟨m, hm⟩ : ∃ m, NF + 1 ≤ m := ⟨_, Nat.le_refl _⟩
      obtain ⟨v, h1, e, rfl⟩ := (W_field_put (K := K2) rfl m hm ⟨0, []⟩ z0 z1 hF).out
      exact ⟨rfl, rfl, _, _, e⟩
  · cases hk
noncomputable def K3 : PureK := addK K2 45 kf_45
theorem K3ok {B : Nat} : KOK Try.prog B K3 := K2ok.add hk_45
set_option maxRecDepth 100000 in
set_option maxHeartbeats 1000000 in
theorem hk_14 {B : Nat} : HookOK Try.prog B 14 (fun args h => (kf_14 args).map fun v => (v, h)) := by
  refine HookOK.apart (Γ := hooksOf K3) (D := drawnOf Try.prog (tabOf K3)) K3ok.hooks (drawnOf_ok (by kernel_rfl) K3ok.tab) noGoroutineK 14 kf_14 ?_
  intro args v hk
  unfold kf_14 at hk
  split at hk
  · rename_i z0
    cases hF : F_field_P32 z0 with
    | none => rw [hF] at hk; cases hk
    | some r =>
      rw [hF] at hk; cases hk
      obtain ⟨m, hm⟩ : ∃ m, NF + 1 ≤ m := ⟨_, Nat.le_refl _⟩
      obtain ⟨v, h1, e, rfl⟩ := (W_field_P32 (K := K3) rfl rfl m hm ⟨0, []⟩ z0 hF).out
      exact ⟨rfl, rfl, _, _, e⟩
  · cases hk
noncomputable def K4 : PureK := addK K3 14 kf_14
theorem K4ok {B : Nat} : KOK Try.prog B K4 := K3ok.add hk_14
set_option maxRecDepth 100000 in
set_option maxHeartbeats 1000000 in
theorem hk_15 {B : Nat} : HookOK Try.prog B 15 (fun args h => (kf_15 args).map fun v => (v, h)) := by
  refine HookOK.apart (Γ := hooksOf K4) (D := drawnOf Try.prog (tabOf K4)) K4ok.hooks (drawnOf_ok (by kernel_rfl) K4ok.tab) noGoroutineK 15 kf_15 ?_
  intro args v hk
  unfold kf_15 at hk
  split at hk
  · rename_i z0
    cases hF : F_field_P64 z0 with
    | none => rw [hF] at hk; cases hk
    | some r =>
      rw [hF] at hk; cases hk
      obtain ⟨m, hm⟩ : ∃ m, NF + 1 ≤ m := ⟨_, Nat.le_refl _⟩
      obtain ⟨v, h1, e, rfl⟩ := (W_field_P64 (K := K4) rfl rfl m hm ⟨0, []⟩ z0 hF).out
      exact ⟨rfl, rfl, _, _, e⟩
  · cases hk
noncomputable def K5 : PureK := addK K4 15 kf_15
theorem K5ok {B : Nat} : KOK Try.prog B K5 := K4ok.add hk_15
set_option maxRecDepth 100000 in
set_option maxHeartbeats 1000000 in
theorem hk_13 {B : Nat} : HookOK Try.prog B 13 (fun args h => (kf_13 args).map fun v => (v, h)) := by
  refine HookOK.apart (Γ := hooksOf K5) (D := drawnOf Try.prog (tabOf K5)) K5ok.hooks (drawnOf_ok (by kernel_rfl) K5ok.tab) noGoroutineK 13 kf_13 ?_
  intro args v hk
  unfold kf_13 at hk
  split at hk
  · rename_i z0
    cases hF : F_field_P16 z0 with
    | none => rw [hF] at hk; cases hk
    | some r =>
      rw [hF] at hk; cases hk
      obtain ⟨m, hm⟩ : ∃ m, NF + 1 ≤ m := ⟨_, Nat.le_refl _⟩
      obtain ⟨v, h1, e, rfl⟩ := (W_field_P16 (K := K5) rfl rfl m hm ⟨0, []⟩ z0 hF).out
      exact ⟨rfl, rfl, _, _, e⟩
  · cases hk
noncomputable def K6 : PureK := addK K5 13 kf_13
theorem K6ok {B : Nat} : KOK Try.prog B K6 := K5ok.add hk_13
set_option maxRecDepth 100000 in
set_option maxHeartbeats 1000000 in
theorem hk_35 {B : Nat} : HookOK Try.prog B 35 (fun args h => (kf_35 args).map fun v => (v, h)) := by
  refine HookOK.apart (Γ := hooksOf K6) (D := drawnOf Try.prog (tabOf K6)) K6ok.hooks (drawnOf_ok (by kernel_rfl) K6ok.tab) noGoroutineK 35 kf_35 ?_
  intro args v hk
  unfold kf_35 at hk
  split at hk
  · rename_i z0 z1 z2 z3 z4 z5
    cases hF : F_end_Put (⟨z0, z1, z2, z3, z4, z5⟩ : Gapi_End) with
    | none => rw [hF] at hk; cases hk
    | some r =>
      rw [hF] at hk; cases hk
      obtain ⟨m, hm⟩ : ∃ m, NF + 2 ≤ m := ⟨_, Nat.le_refl _⟩
      obtain ⟨v, h1, e, rfl⟩ := (W_end_Put (K := K6) rfl rfl rfl rfl rfl rfl m hm ⟨0, []⟩ (⟨z0, z1, z2, z3, z4, z5⟩ : Gapi_End) hF).out
      exact ⟨rfl, rfl, _, _, e⟩
  · cases hk
noncomputable def K7 : PureK := addK K6 35 kf_35
theorem K7ok {B : Nat} : KOK Try.prog B K7 := K6ok.add hk_35
set_option maxRecDepth 100000 in
set_option maxHeartbeats 1000000 in
theorem hk_47 {B : Nat} : HookOK Try.prog B 47 (fun args h => (kf_47 args).map fun v => (v, h)) := by
  refine HookOK.apart (Γ := hooksOf K7) (D := drawnOf Try.prog (tabOf K7)) K7ok.hooks (drawnOf_ok (by kernel_rfl) K7ok.tab) noGoroutineK 47 kf_47 ?_
  intro args v hk
  unfold kf_47 at hk
  split at hk
  · rename_i z0 z1 z2
    cases hF : F_field_Cut z0 z1 z2 with
    | none => rw [hF] at hk; cases hk
    | some r =>
      rw [hF] at hk; cases hk
      obtain ⟨m, hm⟩ : ∃ m, NF + 1 ≤ m := ⟨_, Nat.le_refl _⟩
      obtain ⟨v, h1, e, rfl⟩ := (W_field_Cut (K := K7) rfl m hm ⟨0, []⟩ z0 z1 z2 hF).out
      exact ⟨rfl, rfl, _, _, e⟩
  · cases hk
noncomputable def K8 : PureK := addK K7 47 kf_47
theorem K8ok {B : Nat} : KOK Try.prog B K8 := K7ok.add hk_47
set_option maxRecDepth 100000 in
set_option maxHeartbeats 1000000 in
theorem hk_46 {B : Nat} : HookOK Try.prog B 46 (fun args h => (kf_46 args).map fun v => (v, h)) := by
  refine HookOK.apart (Γ := hooksOf K8) (D := drawnOf Try.prog (tabOf K8)) K8ok.hooks (drawnOf_ok (by kernel_rfl) K8ok.tab) noGoroutineK 46 kf_46 ?_
  intro args v hk
  unfold kf_46 at hk
  split at hk
  · rename_i z0 z1 z2
    cases hF : F_field_number z0 z1 z2 with
    | none => rw [hF] at hk; cases hk
    | some r =>
      rw [hF] at hk; cases hk
      obtain ⟨m, hm⟩ : ∃ m, NF + 1 ≤ m := ⟨_, Nat.le_refl _⟩
      obtain ⟨v, h1, e, rfl⟩ := (W_field_number (K := K8) rfl rfl m hm ⟨0, []⟩ z0 z1 z2 hF).out
      exact ⟨rfl, rfl, _, _, e⟩
  · cases hk
noncomputable def K9 : PureK := addK K8 46 kf_46
theorem K9ok {B : Nat} : KOK Try.prog B K9 := K8ok.add hk_46
set_option maxRecDepth 100000 in
set_option maxHeartbeats 1000000 in
theorem hk_17 {B : Nat} : HookOK Try.prog B 17 (fun args h => (kf_17 args).map fun v => (v, h)) := by
  refine HookOK.apart (Γ := hooksOf K9) (D := drawnOf Try.prog (tabOf K9)) K9ok.hooks (drawnOf_ok (by kernel_rfl) K9ok.tab) noGoroutineK 17 kf_17 ?_
  intro args v hk
  unfold kf_17 at hk
  split at hk
  · rename_i z0 z1
    cases hF : F_field_U32 z0 z1 with
    | none => rw [hF] at hk; cases hk
    | some r =>
      rw [hF] at hk; cases hk
      obtain ⟨m, hm⟩ : ∃ m, NF + 1 ≤ m := ⟨_, Nat.le_refl _⟩
      obtain ⟨v, h1, e, rfl⟩ := (W_field_U32 (K := K9) rfl rfl m hm ⟨0, []⟩ z0 z1 hF).out
      exact ⟨rfl, rfl, _, _, e⟩
  · cases hk
noncomputable def K10 : PureK := addK K9 17 kf_17
theorem K10ok {B : Nat} : KOK Try.prog B K10 := K9ok.add hk_17
set_option maxRecDepth 100000 in
set_option maxHeartbeats 1000000 in
theorem hk_56 {B : Nat} : HookOK Try.prog B 56 (fun args h => (kf_56 args).map fun v => (v, h)) := by
  refine HookOK.apart (Γ := hooksOf K10) (D := drawnOf Try.prog (tabOf K10)) K10ok.hooks (drawnOf_ok (by kernel_rfl) K10ok.tab) noGoroutineK 56 kf_56 ?_
  intro args v hk
  unfold kf_56 at hk
  split at hk
  · rename_i z0 z1
    cases hF : F_end_numbers_u32 (⟨z0⟩ : Gend_numbers) z1 with
    | none => rw [hF] at hk; cases hk
    | some r =>
      rw [hF] at hk; cases hk
      obtain ⟨m, hm⟩ : ∃ m, NF + 1 ≤ m := ⟨_, Nat.le_refl _⟩
      obtain ⟨v, h1, e, rfl⟩ := (W_end_numbers_u32 (K := K10) rfl rfl m hm ⟨0, []⟩ (⟨z0⟩ : Gend_numbers) z1 hF).out
      exact ⟨rfl, rfl, _, _, e⟩
  · cases hk
noncomputable def K11 : PureK := addK K10 56 kf_56
theorem K11ok {B : Nat} : KOK Try.prog B K11 := K10ok.add hk_56
set_option maxRecDepth 100000 in
set_option maxHeartbeats 1000000 in
theorem hk_16 {B : Nat} : HookOK Try.prog B 16 (fun args h => (kf_16 args).map fun v => (v, h)) := by
  refine HookOK.apart (Γ := hooksOf K11) (D := drawnOf Try.prog (tabOf K11)) K11ok.hooks (drawnOf_ok (by kernel_rfl) K11ok.tab) noGoroutineK 16 kf_16 ?_
  intro args v hk
  unfold kf_16 at hk
  split at hk
  · rename_i z0 z1
    cases hF : F_field_U16 z0 z1 with
    | none => rw [hF] at hk; cases hk
    | some r =>
      rw [hF] at hk; cases hk
      obtain ⟨m, hm⟩ : ∃ m, NF + 1 ≤ m := ⟨_, Nat.le_refl _⟩
      obtain ⟨v, h1, e, rfl⟩ := (W_field_U16 (K := K11) rfl rfl m hm ⟨0, []⟩ z0 z1 hF).out
      exact ⟨rfl, rfl, _, _, e⟩
  · cases hk
noncomputable def K12 : PureK := addK K11 16 kf_16
theorem K12ok {B : Nat} : KOK Try.prog B K12 := K11ok.add hk_16
set_option maxRecDepth 100000 in
set_option maxHeartbeats 1000000 in
theorem hk_55 {B : Nat} : HookOK Try.prog B 55 (fun args h => (kf_55 args).map fun v => (v, h)) := by
  refine HookOK.apart (Γ := hooksOf K12) (D := drawnOf Try.prog (tabOf K12)) K12ok.hooks (drawnOf_ok (by kernel_rfl) K12ok.tab) noGoroutineK 55 kf_55 ?_
  intro args v hk
  unfold kf_55 at hk
  split at hk
  · rename_i z0 z1
    cases hF : F_end_numbers_u16 (⟨z0⟩ : Gend_numbers) z1 with
    | none => rw [hF] at hk; cases hk
    | some r =>
      rw [hF] at hk; cases hk
      obtain ⟨m, hm⟩ : ∃ m, NF + 1 ≤ m := ⟨_, Nat.le_refl _⟩
      obtain ⟨v, h1, e, rfl⟩ := (W_end_numbers_u16 (K := K12) rfl rfl m hm ⟨0, []⟩ (⟨z0⟩ : Gend_numbers) z1 hF).out
      exact ⟨rfl, rfl, _, _, e⟩
  · cases hk
noncomputable def K13 : PureK := addK K12 55 kf_55
theorem K13ok {B : Nat} : KOK Try.prog B K13 := K12ok.add hk_55
set_option maxRecDepth 100000 in
set_option maxHeartbeats 1000000 in
theorem hk_54 {B : Nat} : HookOK Try.prog B 54 (fun args h => (kf_54 args).map fun v => (v, h)) := by
  refine HookOK.apart (Γ := hooksOf K13) (D := drawnOf Try.prog (tabOf K13)) K13ok.hooks (drawnOf_ok (by kernel_rfl) K13ok.tab) noGoroutineK 54 kf_54 ?_
  intro args v hk
  unfold kf_54 at hk
  split at hk
  · rename_i z0
    cases hF : F_end_last z0 with
    | none => rw [hF] at hk; cases hk
    | some r =>
      rw [hF] at hk; cases hk
      obtain ⟨m, hm⟩ : ∃ m, NF + 1 ≤ m := ⟨_, Nat.le_refl _⟩
      obtain ⟨v, h1, e, rfl⟩ := (W_end_last (K := K13) rfl rfl rfl m hm ⟨0, []⟩ z0 hF).out
      exact ⟨rfl, rfl, _, _, e⟩
  · cases hk
noncomputable def K14 : PureK := addK K13 54 kf_54
theorem K14ok {B : Nat} : KOK Try.prog B K14 := K13ok.add hk_54
set_option maxRecDepth 100000 in
set_option maxHeartbeats 1000000 in
theorem hk_18 {B : Nat} : HookOK Try.prog B 18 (fun args h => (kf_18 args).map fun v => (v, h)) := by
  refine HookOK.apart (Γ := hooksOf K14) (D := drawnOf Try.prog (tabOf K14)) K14ok.hooks (drawnOf_ok (by kernel_rfl) K14ok.tab) noGoroutineK 18 kf_18 ?_
  intro args v hk
  unfold kf_18 at hk
  split at hk
  · rename_i z0 z1
    cases hF : F_field_U64 z0 z1 with
    | none => rw [hF] at hk; cases hk
    | some r =>
      rw [hF] at hk; cases hk
      obtain ⟨m, hm⟩ : ∃ m, NF + 1 ≤ m := ⟨_, Nat.le_refl _⟩
      obtain ⟨v, h1, e, rfl⟩ := (W_field_U64 (K := K14) rfl rfl m hm ⟨0, []⟩ z0 z1 hF).out
      exact ⟨rfl, rfl, _, _, e⟩
  · cases hk
noncomputable def K15 : PureK := addK K14 18 kf_18
theorem K15ok {B : Nat} : KOK Try.prog B K15 := K14ok.add hk_18
set_option maxRecDepth 100000 in
set_option maxHeartbeats 1000000 in
theorem hk_71 {B : Nat} : HookOK Try.prog B 71 (fun args h => (kf_71 args).map fun v => (v, h)) := by
  refine HookOK.apart (Γ := hooksOf K15) (D := drawnOf Try.prog (tabOf K15)) K15ok.hooks (drawnOf_ok (by kernel_rfl) K15ok.tab) noGoroutineK 71 kf_71 ?_
  intro args v hk
  unfold kf_71 at hk
  split at hk
  · rename_i z0 z1
    cases hF : F_end_numbers_u64 (⟨z0⟩ : Gend_numbers) z1 with
    | none => rw [hF] at hk; cases hk
    | some r =>
      rw [hF] at hk; cases hk
      obtain ⟨m, hm⟩ : ∃ m, NF + 1 ≤ m := ⟨_, Nat.le_refl _⟩
      obtain ⟨v, h1, e, rfl⟩ := (W_end_numbers_u64 (K := K15) rfl rfl m hm ⟨0, []⟩ (⟨z0⟩ : Gend_numbers) z1 hF).out
      exact ⟨rfl, rfl, _, _, e⟩
  · cases hk
noncomputable def K16 : PureK := addK K15 71 kf_71
theorem K16ok {B : Nat} : KOK Try.prog B K16 := K15ok.add hk_71
set_option maxRecDepth 100000 in
set_option maxHeartbeats 1000000 in
theorem hk_70 {B : Nat} : HookOK Try.prog B 70 (fun args h => (kf_70 args).map fun v => (v, h)) := by
  refine HookOK.apart (Γ := hooksOf K16) (D := drawnOf Try.prog (tabOf K16)) K16ok.hooks (drawnOf_ok (by kernel_rfl) K16ok.tab) noGoroutineK 70 kf_70 ?_
  intro args v hk
  unfold kf_70 at hk
  split at hk
  · rename_i z0 z1
    cases hF : F_end_located z0 z1 with
    | none => rw [hF] at hk; cases hk
    | some r =>
      rw [hF] at hk; cases hk
      obtain ⟨m, hm⟩ : ∃ m, NF + 1 ≤ m := ⟨_, Nat.le_refl _⟩
      obtain ⟨v, h1, e, rfl⟩ := (W_end_located (K := K16) rfl rfl rfl m hm ⟨0, []⟩ z0 z1 hF).out
      exact ⟨rfl, rfl, _, _, e⟩
  · cases hk
noncomputable def K17 : PureK := addK K16 70 kf_70
theorem K17ok {B : Nat} : KOK Try.prog B K17 := K16ok.add hk_70
set_option maxRecDepth 100000 in
set_option maxHeartbeats 1000000 in
theorem hk_57 {B : Nat} : HookOK Try.prog B 57 (fun args h => (kf_57 args).map fun v => (v, h)) := by
  refine HookOK.apart (Γ := hooksOf K17) (D := drawnOf Try.prog (tabOf K17)) K17ok.hooks (drawnOf_ok (by kernel_rfl) K17ok.tab) noGoroutineK 57 kf_57 ?_
  intro args v hk
  unfold kf_57 at hk
  split at hk
  · rename_i z0 z1
    cases hF : F_end_ahead z0 z1 with
    | none => rw [hF] at hk; cases hk
    | some r =>
      rw [hF] at hk; cases hk
      obtain ⟨m, hm⟩ : ∃ m, NF + 1 ≤ m := ⟨_, Nat.le_refl _⟩
      obtain ⟨v, h1, e, rfl⟩ := (W_end_ahead (K := K17) rfl rfl rfl rfl m hm ⟨0, []⟩ z0 z1 hF).out
      exact ⟨rfl, rfl, _, _, e⟩
  · cases hk
noncomputable def K18 : PureK := addK K17 57 kf_57
theorem K18ok {B : Nat} : KOK Try.prog B K18 := K17ok.add hk_57
set_option maxRecDepth 100000 in
set_option maxHeartbeats 1000000 in
theorem hk_33 {B : Nat} : HookOK Try.prog B 33 (fun args h => (kf_33 args).map fun v => (v, h)) := by
  refine HookOK.apart (Γ := hooksOf K18) (D := drawnOf Try.prog (tabOf K18)) K18ok.hooks (drawnOf_ok (by kernel_rfl) K18ok.tab) noGoroutineK 33 kf_33 ?_
  intro args v hk
  unfold kf_33 at hk
  split at hk
  · rename_i z0
    cases hF : F_end_Find z0 with
    | none => rw [hF] at hk; cases hk
    | some r =>
      rw [hF] at hk; cases hk
      obtain ⟨m, hm⟩ : ∃ m, NF + 1 ≤ m := ⟨_, Nat.le_refl _⟩
      obtain ⟨v, h1, e, rfl⟩ := (W_end_Find (K := K18) rfl rfl rfl rfl rfl m hm ⟨0, []⟩ z0 hF).out
      exact ⟨rfl, rfl, _, _, e⟩
  · cases hk
noncomputable def K19 : PureK := addK K18 33 kf_33
theorem K19ok {B : Nat} : KOK Try.prog B K19 := K18ok.add hk_33
set_option maxRecDepth 100000 in
set_option maxHeartbeats 1000000 in
theorem hk_49 {B : Nat} : HookOK Try.prog B 49 (fun args h => (kf_49 args).map fun v => (v, h)) := by
  refine HookOK.apart (Γ := hooksOf K19) (D := drawnOf Try.prog (tabOf K19)) K19ok.hooks (drawnOf_ok (by kernel_rfl) K19ok.tab) noGoroutineK 49 kf_49 ?_
  intro args v hk
  unfold kf_49 at hk
  split at hk
  · rename_i z0 z1 z2
    cases hF : F_ref02_Cut z0 z1 z2 with
    | none => rw [hF] at hk; cases hk
    | some r =>
      rw [hF] at hk; cases hk
      obtain ⟨m, hm⟩ : ∃ m, NF + 1 ≤ m := ⟨_, Nat.le_refl _⟩
      obtain ⟨v, h1, e, rfl⟩ := (W_ref02_Cut (K := K19) rfl m hm ⟨0, []⟩ z0 z1 z2 hF).out
      exact ⟨rfl, rfl, _, _, e⟩
  · cases hk
noncomputable def K20 : PureK := addK K19 49 kf_49
theorem K20ok {B : Nat} : KOK Try.prog B K20 := K19ok.add hk_49
set_option maxRecDepth 100000 in
set_option maxHeartbeats 1000000 in
theorem hk_53 {B : Nat} : HookOK Try.prog B 53 (fun args h => (kf_53 args).map fun v => (v, h)) := by
  refine HookOK.apart (Γ := hooksOf K20) (D := drawnOf Try.prog (tabOf K20)) K20ok.hooks (drawnOf_ok (by kernel_rfl) K20ok.tab) noGoroutineK 53 kf_53 ?_
  intro args v hk
  unfold kf_53 at hk
  split at hk
  · rename_i z0 z1 z2
    cases hF : F_ref02_Num z0 z1 z2 with
    | none => rw [hF] at hk; cases hk
    | some r =>
      rw [hF] at hk; cases hk
      obtain ⟨m, hm⟩ : ∃ m, NF + 1 ≤ m := ⟨_, Nat.le_refl _⟩
      obtain ⟨v, h1, e, rfl⟩ := (W_ref02_Num (K := K20) rfl rfl m hm ⟨0, []⟩ z0 z1 z2 hF).out
      exact ⟨rfl, rfl, _, _, e⟩
  · cases hk
noncomputable def K21 : PureK := addK K20 53 kf_53
theorem K21ok {B : Nat} : KOK Try.prog B K21 := K20ok.add hk_53
set_option maxRecDepth 100000 in
set_option maxHeartbeats 1000000 in
theorem hk_59 {B : Nat} : HookOK Try.prog B 59 (fun args h => (kf_59 args).map fun v => (v, h)) := by
  refine HookOK.apart (Γ := hooksOf K21) (D := drawnOf Try.prog (tabOf K21)) K21ok.hooks (drawnOf_ok (by kernel_rfl) K21ok.tab) noGoroutineK 59 kf_59 ?_
  intro args v hk
  unfold kf_59 at hk
  split at hk
  · rename_i z0 z1
    cases hF : F_ref02_U32 z0 z1 with
    | none => rw [hF] at hk; cases hk
    | some r =>
      rw [hF] at hk; cases hk
      obtain ⟨m, hm⟩ : ∃ m, NF + 1 ≤ m := ⟨_, Nat.le_refl _⟩
      obtain ⟨v, h1, e, rfl⟩ := (W_ref02_U32 (K := K21) rfl rfl m hm ⟨0, []⟩ z0 z1 hF).out
      exact ⟨rfl, rfl, _, _, e⟩
  · cases hk
noncomputable def K22 : PureK := addK K21 59 kf_59
theorem K22ok {B : Nat} : KOK Try.prog B K22 := K21ok.add hk_59
set_option maxRecDepth 100000 in
set_option maxHeartbeats 1000000 in
theorem hk_48 {B : Nat} : HookOK Try.prog B 48 (fun args h => (kf_48 args).map fun v => (v, h)) := by
  refine HookOK.apart (Γ := hooksOf K22) (D := drawnOf Try.prog (tabOf K22)) K22ok.hooks (drawnOf_ok (by kernel_rfl) K22ok.tab) noGoroutineK 48 kf_48 ?_
  intro args v hk
  unfold kf_48 at hk
  split at hk
  · rename_i z0 z1
    cases hF : F_ref02_U16 z0 z1 with
    | none => rw [hF] at hk; cases hk
    | some r =>
      rw [hF] at hk; cases hk
      obtain ⟨m, hm⟩ : ∃ m, NF + 1 ≤ m := ⟨_, Nat.le_refl _⟩
      obtain ⟨v, h1, e, rfl⟩ := (W_ref02_U16 (K := K22) rfl rfl m hm ⟨0, []⟩ z0 z1 hF).out
      exact ⟨rfl, rfl, _, _, e⟩
  · cases hk
noncomputable def K23 : PureK := addK K22 48 kf_48
theorem K23ok {B : Nat} : KOK Try.prog B K23 := K22ok.add hk_48
set_option maxRecDepth 100000 in
set_option maxHeartbeats 1000000 in
theorem hk_58 {B : Nat} : HookOK Try.prog B 58 (fun args h => (kf_58 args).map fun v => (v, h)) := by
  refine HookOK.apart (Γ := hooksOf K23) (D := drawnOf Try.prog (tabOf K23)) K23ok.hooks (drawnOf_ok (by kernel_rfl) K23ok.tab) noGoroutineK 58 kf_58 ?_
  intro args v hk
  unfold kf_58 at hk
  split at hk
  · rename_i z0
    cases hF : F_ref19_record z0 with
    | none => rw [hF] at hk; cases hk
    | some r =>
      rw [hF] at hk; cases hk
      obtain ⟨m, hm⟩ : ∃ m, NF + 1 ≤ m := ⟨_, Nat.le_refl _⟩
      obtain ⟨v, h1, e, rfl⟩ := (W_ref19_record (K := K23) rfl rfl rfl m hm ⟨0, []⟩ z0 hF).out
      exact ⟨rfl, rfl, _, _, e⟩
  · cases hk
noncomputable def K24 : PureK := addK K23 58 kf_58
theorem K24ok {B : Nat} : KOK Try.prog B K24 := K23ok.add hk_58
set_option maxRecDepth 100000 in
set_option maxHeartbeats 1000000 in
theorem hk_72 {B : Nat} : HookOK Try.prog B 72 (fun args h => (kf_72 args).map fun v => (v, h)) := by
  refine HookOK.apart (Γ := hooksOf K24) (D := drawnOf Try.prog (tabOf K24)) K24ok.hooks (drawnOf_ok (by kernel_rfl) K24ok.tab) noGoroutineK 72 kf_72 ?_
  intro args v hk
  unfold kf_72 at hk
  split at hk
  · rename_i z0 z1
    cases hF : F_ref19_long z0 z1 with
    | none => rw [hF] at hk; cases hk
    | some r =>
      rw [hF] at hk; cases hk
      obtain ⟨m, hm⟩ : ∃ m, NF + 1 ≤ m := ⟨_, Nat.le_refl _⟩
      obtain ⟨v, h1, e, rfl⟩ := (W_ref19_long (K := K24) rfl rfl m hm ⟨0, []⟩ z0 z1 hF).out
      exact ⟨rfl, rfl, _, _, e⟩
  · cases hk
noncomputable def K25 : PureK := addK K24 72 kf_72
theorem K25ok {B : Nat} : KOK Try.prog B K25 := K24ok.add hk_72
set_option maxRecDepth 100000 in
set_option maxHeartbeats 1000000 in
theorem hk_60 {B : Nat} : HookOK Try.prog B 60 (fun args h => (kf_60 args).map fun v => (v, h)) := by
  refine HookOK.apart (Γ := hooksOf K25) (D := drawnOf Try.prog (tabOf K25)) K25ok.hooks (drawnOf_ok (by kernel_rfl) K25ok.tab) noGoroutineK 60 kf_60 ?_
  intro args v hk
  unfold kf_60 at hk
  split at hk
  · rename_i z0 z1
    cases hF : F_ref19_wide z0 z1 with
    | none => rw [hF] at hk; cases hk
    | some r =>
      rw [hF] at hk; cases hk
      obtain ⟨m, hm⟩ : ∃ m, NF + 1 ≤ m := ⟨_, Nat.le_refl _⟩
      obtain ⟨v, h1, e, rfl⟩ := (W_ref19_wide (K := K25) rfl rfl rfl m hm ⟨0, []⟩ z0 z1 hF).out
      exact ⟨rfl, rfl, _, _, e⟩
  · cases hk
noncomputable def K26 : PureK := addK K25 60 kf_60
theorem K26ok {B : Nat} : KOK Try.prog B K26 := K25ok.add hk_60
set_option maxRecDepth 100000 in
set_option maxHeartbeats 1000000 in
theorem hk_34 {B : Nat} : HookOK Try.prog B 34 (fun args h => (kf_34 args).map fun v => (v, h)) := by
  refine HookOK.apart (Γ := hooksOf K26) (D := drawnOf Try.prog (tabOf K26)) K26ok.hooks (drawnOf_ok (by kernel_rfl) K26ok.tab) noGoroutineK 34 kf_34 ?_
  intro args v hk
  unfold kf_34 at hk
  split at hk
  · rename_i z0
    cases hF : F_ref19_Find z0 with
    | none => rw [hF] at hk; cases hk
    | some r =>
      rw [hF] at hk; cases hk
      obtain ⟨m, hm⟩ : ∃ m, NF + 1 ≤ m := ⟨_, Nat.le_refl _⟩
      obtain ⟨v, h1, e, rfl⟩ := (W_ref19_Find (K := K26) rfl rfl rfl rfl rfl m hm ⟨0, []⟩ z0 hF).out
      exact ⟨rfl, rfl, _, _, e⟩
  · cases hk
noncomputable def K27 : PureK := addK K26 34 kf_34
theorem K27ok {B : Nat} : KOK Try.prog B K27 := K26ok.add hk_34
set_option maxRecDepth 100000 in
set_option maxHeartbeats 1000000 in
theorem hk_7 {B : Nat} : HookOK Try.prog B 7 (fun args h => (kf_7 args).map fun v => (v, h)) := by
  refine HookOK.apart (Γ := hooksOf K27) (D := drawnOf Try.prog (tabOf K27)) K27ok.hooks (drawnOf_ok (by kernel_rfl) K27ok.tab) noGoroutineK 7 kf_7 ?_
  intro args v hk
  unfold kf_7 at hk
  split at hk
  · rename_i z0
    cases hF : F_law19_EndAny z0 with
    | none => rw [hF] at hk; cases hk
    | some r =>
      rw [hF] at hk; cases hk
      obtain ⟨m, hm⟩ : ∃ m, NF + 2 ≤ m := ⟨_, Nat.le_refl _⟩
      obtain ⟨v, h1, e, rfl⟩ := (W_law19_EndAny (K := K27) rfl rfl rfl rfl rfl m hm ⟨0, []⟩ z0 hF).out
      exact ⟨rfl, rfl, _, _, e⟩
  · cases hk
noncomputable def K28 : PureK := addK K27 7 kf_7
theorem K28ok {B : Nat} : KOK Try.prog B K28 := K27ok.add hk_7
set_option maxRecDepth 100000 in
set_option maxHeartbeats 1000000 in
theorem hk_63 {B : Nat} : HookOK Try.prog B 63 (fun args h => (kf_63 args).map fun v => (v, h)) := by
  refine HookOK.apart (Γ := hooksOf K28) (D := drawnOf Try.prog (tabOf K28)) K28ok.hooks (drawnOf_ok (by kernel_rfl) K28ok.tab) noGoroutineK 63 kf_63 ?_
  intro args v hk
  unfold kf_63 at hk
  split at hk
  · rename_i z0 z1
    cases hF : F_ref19_in z0 z1 with
    | none => rw [hF] at hk; cases hk
    | some r =>
      rw [hF] at hk; cases hk
      obtain ⟨m, hm⟩ : ∃ m, NF + 1 ≤ m := ⟨_, Nat.le_refl _⟩
      obtain ⟨v, h1, e, rfl⟩ := (W_ref19_in (K := K28) rfl m hm ⟨0, []⟩ z0 z1 hF).out
      exact ⟨rfl, rfl, _, _, e⟩
  · cases hk
noncomputable def K29 : PureK := addK K28 63 kf_63
theorem K29ok {B : Nat} : KOK Try.prog B K29 := K28ok.add hk_63
set_option maxRecDepth 100000 in
set_option maxHeartbeats 1000000 in
theorem hk_19 {B : Nat} : HookOK Try.prog B 19 (fun args h => (kf_19 args).map fun v => (v, h)) := by
  refine HookOK.apart (Γ := hooksOf K29) (D := drawnOf Try.prog (tabOf K29)) K29ok.hooks (drawnOf_ok (by kernel_rfl) K29ok.tab) noGoroutineK 19 kf_19 ?_
  intro args v hk
  unfold kf_19 at hk
  split at hk
  · rename_i z0 z1
    cases hF : F_ref02_Put z0 z1 with
    | none => rw [hF] at hk; cases hk
    | some r =>
      rw [hF] at hk; cases hk
      obtain ⟨m, hm⟩ : ∃ m, NF + 1 ≤ m := ⟨_, Nat.le_refl _⟩
      obtain ⟨v, h1, e, rfl⟩ := (W_ref02_Put (K := K29) rfl m hm ⟨0, []⟩ z0 z1 hF).out
      exact ⟨rfl, rfl, _, _, e⟩
  · cases hk
noncomputable def K30 : PureK := addK K29 19 kf_19
theorem K30ok {B : Nat} : KOK Try.prog B K30 := K29ok.add hk_19
set_option maxRecDepth 100000 in
set_option maxHeartbeats 1000000 in
theorem hk_36 {B : Nat} : HookOK Try.prog B 36 (fun args h => (kf_36 args).map fun v => (v, h)) := by
  refine HookOK.apart (Γ := hooksOf K30) (D := drawnOf Try.prog (tabOf K30)) K30ok.hooks (drawnOf_ok (by kernel_rfl) K30ok.tab) noGoroutineK 36 kf_36 ?_
  intro args v hk
  unfold kf_36 at hk
  split at hk
  · rename_i z0 z1 z2 z3 z4 z5
    cases hF : F_ref19_Put (⟨z0, z1, z2, z3, z4, z5⟩ : Gapi_End) with
    | none => rw [hF] at hk; cases hk
    | some r =>
      rw [hF] at hk; cases hk
      obtain ⟨m, hm⟩ : ∃ m, NF + 1 ≤ m := ⟨_, Nat.le_refl _⟩
      obtain ⟨v, h1, e, rfl⟩ := (W_ref19_Put (K := K30) rfl rfl rfl m hm ⟨0, []⟩ (⟨z0, z1, z2, z3, z4, z5⟩ : Gapi_End) hF).out
      exact ⟨rfl, rfl, _, _, e⟩
  · cases hk
noncomputable def K31 : PureK := addK K30 36 kf_36
theorem K31ok {B : Nat} : KOK Try.prog B K31 := K30ok.add hk_36
set_option maxRecDepth 100000 in
set_option maxHeartbeats 1000000 in
theorem hk_8 {B : Nat} : HookOK Try.prog B 8 (fun args h => (kf_8 args).map fun v => (v, h)) := by
  refine HookOK.apart (Γ := hooksOf K31) (D := drawnOf Try.prog (tabOf K31)) K31ok.hooks (drawnOf_ok (by kernel_rfl) K31ok.tab) noGoroutineK 8 kf_8 ?_
  intro args v hk
  unfold kf_8 at hk
  split at hk
  · rename_i z0 z1 z2 z3 z4 z5
    cases hF : F_law19_EndBack (⟨z0, z1, z2, z3, z4, z5⟩ : Gapi_End) with
    | none => rw [hF] at hk; cases hk
    | some r =>
      rw [hF] at hk; cases hk
      obtain ⟨m, hm⟩ : ∃ m, NF + 2 ≤ m := ⟨_, Nat.le_refl _⟩
      obtain ⟨v, h1, e, rfl⟩ := (W_law19_EndBack (K := K31) rfl rfl rfl rfl rfl rfl m hm ⟨0, []⟩ (⟨z0, z1, z2, z3, z4, z5⟩ : Gapi_End) hF).out
      exact ⟨rfl, rfl, _, _, e⟩
  · cases hk
noncomputable def K32 : PureK := addK K31 8 kf_8
theorem K32ok {B : Nat} : KOK Try.prog B K32 := K31ok.add hk_8
end Go.Proofs.YtikkpmmhejjpaaaM
