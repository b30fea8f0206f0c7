/- Each function that looks at no memory stands for its calls: printed by lift.py. -/
import Derived.Test.YtikkpmmhejjpaaaDEW3
set_option linter.unusedSimpArgs false
set_option linter.unusedVariables false
namespace Go.Proofs.YtikkpmmhejjpaaaM
open Go Go.RowKit
theorem noGoroutineK : Try.prog.funcs.all (fun fn => !(fn.name == "runtime.NumGoroutine")) = true := by kernel_rfl
noncomputable def K0 : PureK := fun _ => none
theorem K0ok {B : Nat} : KOK Try.prog B K0 := KOK.none
noncomputable def K1 : PureK := addK K0 77 hb77
theorem K1ok {B : Nat} : KOK Try.prog B K1 := K0ok.add hb_ok
set_option maxRecDepth 100000 in
set_option maxHeartbeats 1000000 in
theorem hk_47 {B : Nat} : HookOK Try.prog B 47 (fun args h => (kf_47 args).map fun v => (v, h)) := by
  refine HookOK.apart (Γ := hooksOf K1) (D := drawnOf Try.prog (tabOf K1)) K1ok.hooks (drawnOf_ok (by kernel_rfl) K1ok.tab) noGoroutineK 47 kf_47 ?_
  intro args v hk
  unfold kf_47 at hk
  split at hk
  · rename_i z0 z1 z2
    cases hF : F_field_Cut z0 z1 z2 with
    | none => rw [hF] at hk; cases hk
    | some r =>
      rw [hF] at hk; cases hk
      obtain ⟨m, hm⟩ : ∃ m, NF + 1 ≤ m := ⟨_, Nat.le_refl _⟩
      obtain ⟨v, h1, e, rfl⟩ := (W_field_Cut (K := K1) rfl m hm ⟨0, []⟩ z0 z1 z2 hF).out
      exact ⟨rfl, rfl, _, _, e⟩
  · cases hk
noncomputable def K2 : PureK := addK K1 47 kf_47
theorem K2ok {B : Nat} : KOK Try.prog B K2 := K1ok.add hk_47
set_option maxRecDepth 100000 in
set_option maxHeartbeats 1000000 in
theorem hk_46 {B : Nat} : HookOK Try.prog B 46 (fun args h => (kf_46 args).map fun v => (v, h)) := by
  refine HookOK.apart (Γ := hooksOf K2) (D := drawnOf Try.prog (tabOf K2)) K2ok.hooks (drawnOf_ok (by kernel_rfl) K2ok.tab) noGoroutineK 46 kf_46 ?_
  intro args v hk
  unfold kf_46 at hk
  split at hk
  · rename_i z0 z1 z2
    cases hF : F_field_number z0 z1 z2 with
    | none => rw [hF] at hk; cases hk
    | some r =>
      rw [hF] at hk; cases hk
      obtain ⟨m, hm⟩ : ∃ m, NF + 1 ≤ m := ⟨_, Nat.le_refl _⟩
      obtain ⟨v, h1, e, rfl⟩ := (W_field_number (K := K2) rfl rfl m hm ⟨0, []⟩ z0 z1 z2 hF).out
      exact ⟨rfl, rfl, _, _, e⟩
  · cases hk
noncomputable def K3 : PureK := addK K2 46 kf_46
theorem K3ok {B : Nat} : KOK Try.prog B K3 := K2ok.add hk_46
set_option maxRecDepth 100000 in
set_option maxHeartbeats 1000000 in
theorem hk_16 {B : Nat} : HookOK Try.prog B 16 (fun args h => (kf_16 args).map fun v => (v, h)) := by
  refine HookOK.apart (Γ := hooksOf K3) (D := drawnOf Try.prog (tabOf K3)) K3ok.hooks (drawnOf_ok (by kernel_rfl) K3ok.tab) noGoroutineK 16 kf_16 ?_
  intro args v hk
  unfold kf_16 at hk
  split at hk
  · rename_i z0 z1
    cases hF : F_field_U16 z0 z1 with
    | none => rw [hF] at hk; cases hk
    | some r =>
      rw [hF] at hk; cases hk
      obtain ⟨m, hm⟩ : ∃ m, NF + 1 ≤ m := ⟨_, Nat.le_refl _⟩
      obtain ⟨v, h1, e, rfl⟩ := (W_field_U16 (K := K3) rfl rfl m hm ⟨0, []⟩ z0 z1 hF).out
      exact ⟨rfl, rfl, _, _, e⟩
  · cases hk
noncomputable def K4 : PureK := addK K3 16 kf_16
theorem K4ok {B : Nat} : KOK Try.prog B K4 := K3ok.add hk_16
set_option maxRecDepth 100000 in
set_option maxHeartbeats 1000000 in
theorem hk_17 {B : Nat} : HookOK Try.prog B 17 (fun args h => (kf_17 args).map fun v => (v, h)) := by
  refine HookOK.apart (Γ := hooksOf K4) (D := drawnOf Try.prog (tabOf K4)) K4ok.hooks (drawnOf_ok (by kernel_rfl) K4ok.tab) noGoroutineK 17 kf_17 ?_
  intro args v hk
  unfold kf_17 at hk
  split at hk
  · rename_i z0 z1
    cases hF : F_field_U32 z0 z1 with
    | none => rw [hF] at hk; cases hk
    | some r =>
      rw [hF] at hk; cases hk
      obtain ⟨m, hm⟩ : ∃ m, NF + 1 ≤ m := ⟨_, Nat.le_refl _⟩
      obtain ⟨v, h1, e, rfl⟩ := (W_field_U32 (K := K4) rfl rfl m hm ⟨0, []⟩ z0 z1 hF).out
      exact ⟨rfl, rfl, _, _, e⟩
  · cases hk
noncomputable def K5 : PureK := addK K4 17 kf_17
theorem K5ok {B : Nat} : KOK Try.prog B K5 := K4ok.add hk_17
set_option maxRecDepth 100000 in
set_option maxHeartbeats 1000000 in
theorem hk_18 {B : Nat} : HookOK Try.prog B 18 (fun args h => (kf_18 args).map fun v => (v, h)) := by
  refine HookOK.apart (Γ := hooksOf K5) (D := drawnOf Try.prog (tabOf K5)) K5ok.hooks (drawnOf_ok (by kernel_rfl) K5ok.tab) noGoroutineK 18 kf_18 ?_
  intro args v hk
  unfold kf_18 at hk
  split at hk
  · rename_i z0 z1
    cases hF : F_field_U64 z0 z1 with
    | none => rw [hF] at hk; cases hk
    | some r =>
      rw [hF] at hk; cases hk
      obtain ⟨m, hm⟩ : ∃ m, NF + 1 ≤ m := ⟨_, Nat.le_refl _⟩
      obtain ⟨v, h1, e, rfl⟩ := (W_field_U64 (K := K5) rfl rfl m hm ⟨0, []⟩ z0 z1 hF).out
      exact ⟨rfl, rfl, _, _, e⟩
  · cases hk
noncomputable def K6 : PureK := addK K5 18 kf_18
theorem K6ok {B : Nat} : KOK Try.prog B K6 := K5ok.add hk_18
set_option maxRecDepth 100000 in
set_option maxHeartbeats 1000000 in
theorem hk_45 {B : Nat} : HookOK Try.prog B 45 (fun args h => (kf_45 args).map fun v => (v, h)) := by
  refine HookOK.apart (Γ := hooksOf K6) (D := drawnOf Try.prog (tabOf K6)) K6ok.hooks (drawnOf_ok (by kernel_rfl) K6ok.tab) noGoroutineK 45 kf_45 ?_
  intro args v hk
  unfold kf_45 at hk
  split at hk
  · rename_i z0 z1
    cases hF : F_field_put z0 z1 with
    | none => rw [hF] at hk; cases hk
    | some r =>
      rw [hF] at hk; cases hk
      obtain ⟨m, hm⟩ : ∃ m, NF + 1 ≤ m := ⟨_, Nat.le_refl _⟩
      obtain ⟨v, h1, e, rfl⟩ := (W_field_put (K := K6) rfl m hm ⟨0, []⟩ z0 z1 hF).out
      exact ⟨rfl, rfl, _, _, e⟩
  · cases hk
noncomputable def K7 : PureK := addK K6 45 kf_45
theorem K7ok {B : Nat} : KOK Try.prog B K7 := K6ok.add hk_45
set_option maxRecDepth 100000 in
set_option maxHeartbeats 1000000 in
theorem hk_13 {B : Nat} : HookOK Try.prog B 13 (fun args h => (kf_13 args).map fun v => (v, h)) := by
  refine HookOK.apart (Γ := hooksOf K7) (D := drawnOf Try.prog (tabOf K7)) K7ok.hooks (drawnOf_ok (by kernel_rfl) K7ok.tab) noGoroutineK 13 kf_13 ?_
  intro args v hk
  unfold kf_13 at hk
  split at hk
  · rename_i z0
    cases hF : F_field_P16 z0 with
    | none => rw [hF] at hk; cases hk
    | some r =>
      rw [hF] at hk; cases hk
      obtain ⟨m, hm⟩ : ∃ m, NF + 1 ≤ m := ⟨_, Nat.le_refl _⟩
      obtain ⟨v, h1, e, rfl⟩ := (W_field_P16 (K := K7) rfl rfl m hm ⟨0, []⟩ z0 hF).out
      exact ⟨rfl, rfl, _, _, e⟩
  · cases hk
noncomputable def K8 : PureK := addK K7 13 kf_13
theorem K8ok {B : Nat} : KOK Try.prog B K8 := K7ok.add hk_13
set_option maxRecDepth 100000 in
set_option maxHeartbeats 1000000 in
theorem hk_14 {B : Nat} : HookOK Try.prog B 14 (fun args h => (kf_14 args).map fun v => (v, h)) := by
  refine HookOK.apart (Γ := hooksOf K8) (D := drawnOf Try.prog (tabOf K8)) K8ok.hooks (drawnOf_ok (by kernel_rfl) K8ok.tab) noGoroutineK 14 kf_14 ?_
  intro args v hk
  unfold kf_14 at hk
  split at hk
  · rename_i z0
    cases hF : F_field_P32 z0 with
    | none => rw [hF] at hk; cases hk
    | some r =>
      rw [hF] at hk; cases hk
      obtain ⟨m, hm⟩ : ∃ m, NF + 1 ≤ m := ⟨_, Nat.le_refl _⟩
      obtain ⟨v, h1, e, rfl⟩ := (W_field_P32 (K := K8) rfl rfl m hm ⟨0, []⟩ z0 hF).out
      exact ⟨rfl, rfl, _, _, e⟩
  · cases hk
noncomputable def K9 : PureK := addK K8 14 kf_14
theorem K9ok {B : Nat} : KOK Try.prog B K9 := K8ok.add hk_14
set_option maxRecDepth 100000 in
set_option maxHeartbeats 1000000 in
theorem hk_15 {B : Nat} : HookOK Try.prog B 15 (fun args h => (kf_15 args).map fun v => (v, h)) := by
  refine HookOK.apart (Γ := hooksOf K9) (D := drawnOf Try.prog (tabOf K9)) K9ok.hooks (drawnOf_ok (by kernel_rfl) K9ok.tab) noGoroutineK 15 kf_15 ?_
  intro args v hk
  unfold kf_15 at hk
  split at hk
  · rename_i z0
    cases hF : F_field_P64 z0 with
    | none => rw [hF] at hk; cases hk
    | some r =>
      rw [hF] at hk; cases hk
      obtain ⟨m, hm⟩ : ∃ m, NF + 1 ≤ m := ⟨_, Nat.le_refl _⟩
      obtain ⟨v, h1, e, rfl⟩ := (W_field_P64 (K := K9) rfl rfl m hm ⟨0, []⟩ z0 hF).out
      exact ⟨rfl, rfl, _, _, e⟩
  · cases hk
noncomputable def K10 : PureK := addK K9 15 kf_15
theorem K10ok {B : Nat} : KOK Try.prog B K10 := K9ok.add hk_15
set_option maxRecDepth 100000 in
set_option maxHeartbeats 1000000 in
theorem hk_49 {B : Nat} : HookOK Try.prog B 49 (fun args h => (kf_49 args).map fun v => (v, h)) := by
  refine HookOK.apart (Γ := hooksOf K10) (D := drawnOf Try.prog (tabOf K10)) K10ok.hooks (drawnOf_ok (by kernel_rfl) K10ok.tab) noGoroutineK 49 kf_49 ?_
  intro args v hk
  unfold kf_49 at hk
  split at hk
  · rename_i z0 z1 z2
    cases hF : F_ref02_Cut z0 z1 z2 with
    | none => rw [hF] at hk; cases hk
    | some r =>
      rw [hF] at hk; cases hk
      obtain ⟨m, hm⟩ : ∃ m, NF + 1 ≤ m := ⟨_, Nat.le_refl _⟩
      obtain ⟨v, h1, e, rfl⟩ := (W_ref02_Cut (K := K10) rfl m hm ⟨0, []⟩ z0 z1 z2 hF).out
      exact ⟨rfl, rfl, _, _, e⟩
  · cases hk
noncomputable def K11 : PureK := addK K10 49 kf_49
theorem K11ok {B : Nat} : KOK Try.prog B K11 := K10ok.add hk_49
set_option maxRecDepth 100000 in
set_option maxHeartbeats 1000000 in
theorem hk_53 {B : Nat} : HookOK Try.prog B 53 (fun args h => (kf_53 args).map fun v => (v, h)) := by
  refine HookOK.apart (Γ := hooksOf K11) (D := drawnOf Try.prog (tabOf K11)) K11ok.hooks (drawnOf_ok (by kernel_rfl) K11ok.tab) noGoroutineK 53 kf_53 ?_
  intro args v hk
  unfold kf_53 at hk
  split at hk
  · rename_i z0 z1 z2
    cases hF : F_ref02_Num z0 z1 z2 with
    | none => rw [hF] at hk; cases hk
    | some r =>
      rw [hF] at hk; cases hk
      obtain ⟨m, hm⟩ : ∃ m, NF + 1 ≤ m := ⟨_, Nat.le_refl _⟩
      obtain ⟨v, h1, e, rfl⟩ := (W_ref02_Num (K := K11) rfl rfl m hm ⟨0, []⟩ z0 z1 z2 hF).out
      exact ⟨rfl, rfl, _, _, e⟩
  · cases hk
noncomputable def K12 : PureK := addK K11 53 kf_53
theorem K12ok {B : Nat} : KOK Try.prog B K12 := K11ok.add hk_53
set_option maxRecDepth 100000 in
set_option maxHeartbeats 1000000 in
theorem hk_48 {B : Nat} : HookOK Try.prog B 48 (fun args h => (kf_48 args).map fun v => (v, h)) := by
  refine HookOK.apart (Γ := hooksOf K12) (D := drawnOf Try.prog (tabOf K12)) K12ok.hooks (drawnOf_ok (by kernel_rfl) K12ok.tab) noGoroutineK 48 kf_48 ?_
  intro args v hk
  unfold kf_48 at hk
  split at hk
  · rename_i z0 z1
    cases hF : F_ref02_U16 z0 z1 with
    | none => rw [hF] at hk; cases hk
    | some r =>
      rw [hF] at hk; cases hk
      obtain ⟨m, hm⟩ : ∃ m, NF + 1 ≤ m := ⟨_, Nat.le_refl _⟩
      obtain ⟨v, h1, e, rfl⟩ := (W_ref02_U16 (K := K12) rfl rfl m hm ⟨0, []⟩ z0 z1 hF).out
      exact ⟨rfl, rfl, _, _, e⟩
  · cases hk
noncomputable def K13 : PureK := addK K12 48 kf_48
theorem K13ok {B : Nat} : KOK Try.prog B K13 := K12ok.add hk_48
set_option maxRecDepth 100000 in
set_option maxHeartbeats 1000000 in
theorem hk_59 {B : Nat} : HookOK Try.prog B 59 (fun args h => (kf_59 args).map fun v => (v, h)) := by
  refine HookOK.apart (Γ := hooksOf K13) (D := drawnOf Try.prog (tabOf K13)) K13ok.hooks (drawnOf_ok (by kernel_rfl) K13ok.tab) noGoroutineK 59 kf_59 ?_
  intro args v hk
  unfold kf_59 at hk
  split at hk
  · rename_i z0 z1
    cases hF : F_ref02_U32 z0 z1 with
    | none => rw [hF] at hk; cases hk
    | some r =>
      rw [hF] at hk; cases hk
      obtain ⟨m, hm⟩ : ∃ m, NF + 1 ≤ m := ⟨_, Nat.le_refl _⟩
      obtain ⟨v, h1, e, rfl⟩ := (W_ref02_U32 (K := K13) rfl rfl m hm ⟨0, []⟩ z0 z1 hF).out
      exact ⟨rfl, rfl, _, _, e⟩
  · cases hk
noncomputable def K14 : PureK := addK K13 59 kf_59
theorem K14ok {B : Nat} : KOK Try.prog B K14 := K13ok.add hk_59
set_option maxRecDepth 100000 in
set_option maxHeartbeats 1000000 in
theorem hk_19 {B : Nat} : HookOK Try.prog B 19 (fun args h => (kf_19 args).map fun v => (v, h)) := by
  refine HookOK.apart (Γ := hooksOf K14) (D := drawnOf Try.prog (tabOf K14)) K14ok.hooks (drawnOf_ok (by kernel_rfl) K14ok.tab) noGoroutineK 19 kf_19 ?_
  intro args v hk
  unfold kf_19 at hk
  split at hk
  · rename_i z0 z1
    cases hF : F_ref02_Put z0 z1 with
    | none => rw [hF] at hk; cases hk
    | some r =>
      rw [hF] at hk; cases hk
      obtain ⟨m, hm⟩ : ∃ m, NF + 1 ≤ m := ⟨_, Nat.le_refl _⟩
      obtain ⟨v, h1, e, rfl⟩ := (W_ref02_Put (K := K14) rfl m hm ⟨0, []⟩ z0 z1 hF).out
      exact ⟨rfl, rfl, _, _, e⟩
  · cases hk
noncomputable def K15 : PureK := addK K14 19 kf_19
theorem K15ok {B : Nat} : KOK Try.prog B K15 := K14ok.add hk_19
set_option maxRecDepth 100000 in
set_option maxHeartbeats 1000000 in
theorem hk_64 {B : Nat} : HookOK Try.prog B 64 (fun args h => (kf_64 args).map fun v => (v, h)) := by
  refine HookOK.apart (Γ := hooksOf K15) (D := drawnOf Try.prog (tabOf K15)) K15ok.hooks (drawnOf_ok (by kernel_rfl) K15ok.tab) noGoroutineK 64 kf_64 ?_
  intro args v hk
  unfold kf_64 at hk
  split at hk
  · rename_i z0
    cases hF : F_delta_number z0 with
    | none => rw [hF] at hk; cases hk
    | some r =>
      rw [hF] at hk; cases hk
      obtain ⟨m, hm⟩ : ∃ m, NF + 1 ≤ m := ⟨_, Nat.le_refl _⟩
      obtain ⟨v, h1, e, rfl⟩ := (W_delta_number (K := K15) rfl m hm ⟨0, []⟩ z0 hF).out
      exact ⟨rfl, rfl, _, _, e⟩
  · cases hk
noncomputable def K16 : PureK := addK K15 64 kf_64
theorem K16ok {B : Nat} : KOK Try.prog B K16 := K15ok.add hk_64
set_option maxRecDepth 100000 in
set_option maxHeartbeats 1000000 in
theorem hk_42 {B : Nat} : HookOK Try.prog B 42 (fun args h => (kf_42 args).map fun v => (v, h)) := by
  refine HookOK.apart (Γ := hooksOf K16) (D := drawnOf Try.prog (tabOf K16)) K16ok.hooks (drawnOf_ok (by kernel_rfl) K16ok.tab) noGoroutineK 42 kf_42 ?_
  intro args v hk
  unfold kf_42 at hk
  split at hk
  · rename_i z0 z1
    cases hF : F_delta_Make z0 z1 with
    | none => rw [hF] at hk; cases hk
    | some r =>
      rw [hF] at hk; cases hk
      obtain ⟨m, hm⟩ : ∃ m, NF + 6 ≤ m := ⟨_, Nat.le_refl _⟩
      obtain ⟨v, h1, e, rfl⟩ := (W_delta_Make (K := K16) rfl rfl rfl rfl rfl rfl rfl rfl rfl rfl rfl rfl m hm ⟨0, []⟩ z0 z1 hF).out
      exact ⟨rfl, rfl, _, _, e⟩
  · cases hk
noncomputable def K17 : PureK := addK K16 42 kf_42
theorem K17ok {B : Nat} : KOK Try.prog B K17 := K16ok.add hk_42
set_option maxRecDepth 100000 in
set_option maxHeartbeats 1000000 in
theorem hk_40 {B : Nat} : HookOK Try.prog B 40 (fun args h => (kf_40 args).map fun v => (v, h)) := by
  refine HookOK.apart (Γ := hooksOf K17) (D := drawnOf Try.prog (tabOf K17)) K17ok.hooks (drawnOf_ok (by kernel_rfl) K17ok.tab) noGoroutineK 40 kf_40 ?_
  intro args v hk
  unfold kf_40 at hk
  split at hk
  · rename_i z0 z1
    cases hF : F_delta_Next z0 z1 with
    | none => rw [hF] at hk; cases hk
    | some r =>
      rw [hF] at hk; cases hk
      obtain ⟨m, hm⟩ : ∃ m, NF + 1 ≤ m := ⟨_, Nat.le_refl _⟩
      obtain ⟨v, h1, e, rfl⟩ := (W_delta_Next (K := K17) rfl m hm ⟨0, []⟩ z0 z1 hF).out
      exact ⟨rfl, rfl, _, _, e⟩
  · cases hk
noncomputable def K18 : PureK := addK K17 40 kf_40
theorem K18ok {B : Nat} : KOK Try.prog B K18 := K17ok.add hk_40
set_option maxRecDepth 100000 in
set_option maxHeartbeats 1000000 in
theorem hk_43 {B : Nat} : HookOK Try.prog B 43 (fun args h => (kf_43 args).map fun v => (v, h)) := by
  refine HookOK.apart (Γ := hooksOf K18) (D := drawnOf Try.prog (tabOf K18)) K18ok.hooks (drawnOf_ok (by kernel_rfl) K18ok.tab) noGoroutineK 43 kf_43 ?_
  intro args v hk
  unfold kf_43 at hk
  split at hk
  · rename_i z0 z1
    cases hF : F_delta_Apply z0 z1 with
    | none => rw [hF] at hk; cases hk
    | some r =>
      rw [hF] at hk; cases hk
      obtain ⟨m, hm⟩ : ∃ m, NF + 4 ≤ m := ⟨_, Nat.le_refl _⟩
      obtain ⟨v, h1, e, rfl⟩ := (W_delta_Apply (K := K18) rfl rfl rfl rfl rfl rfl rfl rfl rfl rfl m hm ⟨0, []⟩ z0 z1 hF).out
      exact ⟨rfl, rfl, _, _, e⟩
  · cases hk
noncomputable def K19 : PureK := addK K18 43 kf_43
theorem K19ok {B : Nat} : KOK Try.prog B K19 := K18ok.add hk_43
set_option maxRecDepth 100000 in
set_option maxHeartbeats 1000000 in
theorem hk_38 {B : Nat} : HookOK Try.prog B 38 (fun args h => (kf_38 args).map fun v => (v, h)) := by
  refine HookOK.apart (Γ := hooksOf K19) (D := drawnOf Try.prog (tabOf K19)) K19ok.hooks (drawnOf_ok (by kernel_rfl) K19ok.tab) noGoroutineK 38 kf_38 ?_
  intro args v hk
  unfold kf_38 at hk
  split at hk
  · rename_i z0
    cases hF : F_delta_Number z0 with
    | none => rw [hF] at hk; cases hk
    | some r =>
      rw [hF] at hk; cases hk
      obtain ⟨m, hm⟩ : ∃ m, NF + 1 ≤ m := ⟨_, Nat.le_refl _⟩
      obtain ⟨v, h1, e, rfl⟩ := (W_delta_Number (K := K19) rfl rfl m hm ⟨0, []⟩ z0 hF).out
      exact ⟨rfl, rfl, _, _, e⟩
  · cases hk
noncomputable def K20 : PureK := addK K19 38 kf_38
theorem K20ok {B : Nat} : KOK Try.prog B K20 := K19ok.add hk_38
set_option maxRecDepth 100000 in
set_option maxHeartbeats 1000000 in
theorem hk_41 {B : Nat} : HookOK Try.prog B 41 (fun args h => (kf_41 args).map fun v => (v, h)) := by
  refine HookOK.apart (Γ := hooksOf K20) (D := drawnOf Try.prog (tabOf K20)) K20ok.hooks (drawnOf_ok (by kernel_rfl) K20ok.tab) noGoroutineK 41 kf_41 ?_
  intro args v hk
  unfold kf_41 at hk
  split at hk
  · rename_i z0 z1
    cases hF : F_ref40_Next z0 z1 with
    | none => rw [hF] at hk; cases hk
    | some r =>
      rw [hF] at hk; cases hk
      obtain ⟨m, hm⟩ : ∃ m, NF + 1 ≤ m := ⟨_, Nat.le_refl _⟩
      obtain ⟨v, h1, e, rfl⟩ := (W_ref40_Next (K := K20) rfl m hm ⟨0, []⟩ z0 z1 hF).out
      exact ⟨rfl, rfl, _, _, e⟩
  · cases hk
noncomputable def K21 : PureK := addK K20 41 kf_41
theorem K21ok {B : Nat} : KOK Try.prog B K21 := K20ok.add hk_41
set_option maxRecDepth 100000 in
set_option maxHeartbeats 1000000 in
theorem hk_44 {B : Nat} : HookOK Try.prog B 44 (fun args h => (kf_44 args).map fun v => (v, h)) := by
  refine HookOK.apart (Γ := hooksOf K21) (D := drawnOf Try.prog (tabOf K21)) K21ok.hooks (drawnOf_ok (by kernel_rfl) K21ok.tab) noGoroutineK 44 kf_44 ?_
  intro args v hk
  unfold kf_44 at hk
  split at hk
  · rename_i z0 z1
    cases hF : F_ref40_Apply z0 z1 with
    | none => rw [hF] at hk; cases hk
    | some r =>
      rw [hF] at hk; cases hk
      obtain ⟨m, hm⟩ : ∃ m, NF + 1 ≤ m := ⟨_, Nat.le_refl _⟩
      obtain ⟨v, h1, e, rfl⟩ := (W_ref40_Apply (K := K21) rfl rfl m hm ⟨0, []⟩ z0 z1 hF).out
      exact ⟨rfl, rfl, _, _, e⟩
  · cases hk
noncomputable def K22 : PureK := addK K21 44 kf_44
theorem K22ok {B : Nat} : KOK Try.prog B K22 := K21ok.add hk_44
set_option maxRecDepth 100000 in
set_option maxHeartbeats 1000000 in
theorem hk_10 {B : Nat} : HookOK Try.prog B 10 (fun args h => (kf_10 args).map fun v => (v, h)) := by
  refine HookOK.apart (Γ := hooksOf K22) (D := drawnOf Try.prog (tabOf K22)) K22ok.hooks (drawnOf_ok (by kernel_rfl) K22ok.tab) noGoroutineK 10 kf_10 ?_
  intro args v hk
  unfold kf_10 at hk
  split at hk
  · rename_i z0 z1
    cases hF : F_law40_DeltaMakes z0 z1 with
    | none => rw [hF] at hk; cases hk
    | some r =>
      rw [hF] at hk; cases hk
      obtain ⟨m, hm⟩ : ∃ m, NF + 2 ≤ m := ⟨_, Nat.le_refl _⟩
      obtain ⟨v, h1, e, rfl⟩ := (W_law40_DeltaMakes (K := K22) rfl rfl rfl rfl rfl rfl rfl m hm ⟨0, []⟩ z0 z1 hF).out
      exact ⟨rfl, rfl, _, _, e⟩
  · cases hk
noncomputable def K23 : PureK := addK K22 10 kf_10
theorem K23ok {B : Nat} : KOK Try.prog B K23 := K22ok.add hk_10
set_option maxRecDepth 100000 in
set_option maxHeartbeats 1000000 in
theorem hk_11 {B : Nat} : HookOK Try.prog B 11 (fun args h => (kf_11 args).map fun v => (v, h)) := by
  refine HookOK.apart (Γ := hooksOf K23) (D := drawnOf Try.prog (tabOf K23)) K23ok.hooks (drawnOf_ok (by kernel_rfl) K23ok.tab) noGoroutineK 11 kf_11 ?_
  intro args v hk
  unfold kf_11 at hk
  split at hk
  · rename_i z0 z1
    cases hF : F_law40_DeltaApplies z0 z1 with
    | none => rw [hF] at hk; cases hk
    | some r =>
      rw [hF] at hk; cases hk
      obtain ⟨m, hm⟩ : ∃ m, NF + 2 ≤ m := ⟨_, Nat.le_refl _⟩
      obtain ⟨v, h1, e, rfl⟩ := (W_law40_DeltaApplies (K := K23) rfl rfl rfl rfl rfl rfl rfl m hm ⟨0, []⟩ z0 z1 hF).out
      exact ⟨rfl, rfl, _, _, e⟩
  · cases hk
noncomputable def K24 : PureK := addK K23 11 kf_11
theorem K24ok {B : Nat} : KOK Try.prog B K24 := K23ok.add hk_11
end Go.Proofs.YtikkpmmhejjpaaaM
