/- Each function that looks at no memory stands for its calls: printed by lift.py. -/
import Derived.Test.YtobhmahlenjheaaDGW5
import Derived.Test.YtobhmahlenjheaaSH
set_option linter.unusedSimpArgs false
set_option linter.unusedVariables false
namespace Go.Proofs.YtobhmahlenjheaaM
open Go Go.RowKit
set_option maxRecDepth 100000
theorem noGoroutineK : Try.prog.funcs.all (fun fn => !(fn.name == "runtime.NumGoroutine")) = true := by kernel_rfl
noncomputable def K0 : PureK := fun _ => none
theorem K0ok {B : Nat} : KOK Try.prog B K0 := KOK.none
noncomputable def K1 : PureK := addK K0 128 hb77
theorem K1ok {B : Nat} : KOK Try.prog B K1 := K0ok.add hb_ok
set_option maxRecDepth 100000 in
set_option maxHeartbeats 1000000 in
theorem hk_98 {B : Nat} : HookOK Try.prog B 98 (fun args h => (kf_98 args).map fun v => (v, h)) := by
  refine HookOK.apart (Γ := hooksOf K1) (D := drawnOf Try.prog (tabOf K1)) K1ok.hooks (drawnOf_ok (by kernel_rfl) K1ok.tab) noGoroutineK 98 kf_98 ?_
  intro args v hk
  unfold kf_98 at hk
  split at hk
  · rename_i z0 z1
    cases hF : F_ref04_root z0 z1 with
    | none => rw [hF] at hk; cases hk
    | some r =>
      rw [hF] at hk; cases hk
      obtain ⟨m, hm⟩ : ∃ m, NF + 2 ≤ m := ⟨_, Nat.le_refl _⟩
      obtain ⟨v, h1, e, rfl⟩ := (W_ref04_root (K := K1) rfl rfl rfl rfl m hm ⟨0, []⟩ z0 z1 hF).out
      exact ⟨rfl, rfl, _, _, e⟩
  · cases hk
noncomputable def K2 : PureK := addK K1 98 kf_98
theorem K2ok {B : Nat} : KOK Try.prog B K2 := K1ok.add hk_98
set_option maxRecDepth 100000 in
set_option maxHeartbeats 1000000 in
theorem hk_59 {B : Nat} : HookOK Try.prog B 59 (fun args h => (kf_59 args).map fun v => (v, h)) := by
  refine HookOK.apart (Γ := hooksOf K2) (D := drawnOf Try.prog (tabOf K2)) K2ok.hooks (drawnOf_ok (by kernel_rfl) K2ok.tab) noGoroutineK 59 kf_59 ?_
  intro args v hk
  unfold kf_59 at hk
  split at hk
  · rename_i z0
    cases hF : F_ref04_padded z0 with
    | none => rw [hF] at hk; cases hk
    | some r =>
      rw [hF] at hk; cases hk
      obtain ⟨m, hm⟩ : ∃ m, NF + 1 ≤ m := ⟨_, Nat.le_refl _⟩
      obtain ⟨v, h1, e, rfl⟩ := (W_ref04_padded (K := K2) rfl m hm ⟨0, []⟩ z0 hF).out
      exact ⟨rfl, rfl, _, _, e⟩
  · cases hk
noncomputable def K3 : PureK := addK K2 59 kf_59
theorem K3ok {B : Nat} : KOK Try.prog B K3 := K2ok.add hk_59
set_option maxRecDepth 100000 in
set_option maxHeartbeats 1000000 in
theorem hk_61 {B : Nat} : HookOK Try.prog B 61 (fun args h => (kf_61 args).map fun v => (v, h)) := by
  refine HookOK.apart (Γ := hooksOf K3) (D := drawnOf Try.prog (tabOf K3)) K3ok.hooks (drawnOf_ok (by kernel_rfl) K3ok.tab) noGoroutineK 61 kf_61 ?_
  intro args v hk
  unfold kf_61 at hk
  split at hk
  · rename_i z0 z1
    cases hF : F_ref04_right z0 z1 with
    | none => rw [hF] at hk; cases hk
    | some r =>
      rw [hF] at hk; cases hk
      obtain ⟨m, hm⟩ : ∃ m, NF + 1 ≤ m := ⟨_, Nat.le_refl _⟩
      obtain ⟨v, h1, e, rfl⟩ := (W_ref04_right (K := K3) rfl m hm ⟨0, []⟩ z0 z1 hF).out
      exact ⟨rfl, rfl, _, _, e⟩
  · cases hk
noncomputable def K4 : PureK := addK K3 61 kf_61
theorem K4ok {B : Nat} : KOK Try.prog B K4 := K3ok.add hk_61
set_option maxRecDepth 100000 in
set_option maxHeartbeats 1000000 in
theorem hk_15 {B : Nat} : HookOK Try.prog B 15 (fun args h => (kf_15 args).map fun v => (v, h)) := by
  refine HookOK.apart (Γ := hooksOf K4) (D := drawnOf Try.prog (tabOf K4)) K4ok.hooks (drawnOf_ok (by kernel_rfl) K4ok.tab) noGoroutineK 15 kf_15 ?_
  intro args v hk
  unfold kf_15 at hk
  split at hk
  · rename_i z0
    cases hF : F_ref04_Of z0 with
    | none => rw [hF] at hk; cases hk
    | some r =>
      rw [hF] at hk; cases hk
      obtain ⟨m, hm⟩ : ∃ m, NF + 3 ≤ m := ⟨_, Nat.le_refl _⟩
      obtain ⟨v, h1, e, rfl⟩ := (W_ref04_Of (K := K4) rfl rfl rfl rfl rfl rfl rfl m hm ⟨0, []⟩ z0 hF).out
      exact ⟨rfl, rfl, _, _, e⟩
  · cases hk
noncomputable def K5 : PureK := addK K4 15 kf_15
theorem K5ok {B : Nat} : KOK Try.prog B K5 := K4ok.add hk_15
set_option maxRecDepth 100000 in
set_option maxHeartbeats 1000000 in
theorem hk_62 {B : Nat} : HookOK Try.prog B 62 (fun args h => (kf_62 args).map fun v => (v, h)) := by
  refine HookOK.apart (Γ := hooksOf K5) (D := drawnOf Try.prog (tabOf K5)) K5ok.hooks (drawnOf_ok (by kernel_rfl) K5ok.tab) noGoroutineK 62 kf_62 ?_
  intro args v hk
  unfold kf_62 at hk
  split at hk
  · cases hF : F_sha_first with
    | none => rw [hF] at hk; cases hk
    | some r =>
      rw [hF] at hk; cases hk
      obtain ⟨m, hm⟩ : ∃ m, NF + 1 ≤ m := ⟨_, Nat.le_refl _⟩
      obtain ⟨v, h1, e, rfl⟩ := (W_sha_first (K := K5) rfl m hm ⟨0, []⟩  hF).out
      exact ⟨by simp [freeAV, free2, free1, List.all_map, Function.comp_def], rfl, _, _, e⟩
  · cases hk
noncomputable def K6 : PureK := addK K5 62 kf_62
theorem K6ok {B : Nat} : KOK Try.prog B K6 := K5ok.add hk_62
set_option maxRecDepth 100000 in
set_option maxHeartbeats 1000000 in
theorem hk_134 {B : Nat} : HookOK Try.prog B 134 (fun args h => (kf_134 args).map fun v => (v, h)) := by
  refine HookOK.apart (Γ := hooksOf K6) (D := drawnOf Try.prog (tabOf K6)) K6ok.hooks (drawnOf_ok (by kernel_rfl) K6ok.tab) noGoroutineK 134 kf_134 ?_
  intro args v hk
  unfold kf_134 at hk
  split at hk
  · rename_i z0 z1
    cases hF : F_math_bits_RotateLeft32 z0 z1 with
    | none => rw [hF] at hk; cases hk
    | some r =>
      rw [hF] at hk; cases hk
      obtain ⟨m, hm⟩ : ∃ m, NF + 1 ≤ m := ⟨_, Nat.le_refl _⟩
      obtain ⟨v, h1, e, rfl⟩ := (W_math_bits_RotateLeft32 (K := K6) rfl m hm ⟨0, []⟩ z0 z1 hF).out
      exact ⟨rfl, rfl, _, _, e⟩
  · cases hk
noncomputable def K7 : PureK := addK K6 134 kf_134
theorem K7ok {B : Nat} : KOK Try.prog B K7 := K6ok.add hk_134
set_option maxRecDepth 100000 in
set_option maxHeartbeats 1000000 in
theorem hk_123 {B : Nat} : HookOK Try.prog B 123 (fun args h => (kf_123 args).map fun v => (v, h)) := by
  refine HookOK.apart (Γ := hooksOf K7) (D := drawnOf Try.prog (tabOf K7)) K7ok.hooks (drawnOf_ok (by kernel_rfl) K7ok.tab) noGoroutineK 123 kf_123 ?_
  intro args v hk
  unfold kf_123 at hk
  split at hk
  · rename_i z0 z1
    cases hF : F_sha_right z0 z1 with
    | none => rw [hF] at hk; cases hk
    | some r =>
      rw [hF] at hk; cases hk
      obtain ⟨m, hm⟩ : ∃ m, NF + 1 ≤ m := ⟨_, Nat.le_refl _⟩
      obtain ⟨v, h1, e, rfl⟩ := (W_sha_right (K := K7) rfl rfl m hm ⟨0, []⟩ z0 z1 hF).out
      exact ⟨rfl, rfl, _, _, e⟩
  · cases hk
noncomputable def K8 : PureK := addK K7 123 kf_123
theorem K8ok {B : Nat} : KOK Try.prog B K8 := K7ok.add hk_123
set_option maxRecDepth 100000 in
set_option maxHeartbeats 1000000 in
theorem hk_101 {B : Nat} : HookOK Try.prog B 101 (fun args h => (kf_101 args).map fun v => (v, h)) := by
  refine HookOK.apart (Γ := hooksOf K8) (D := drawnOf Try.prog (tabOf K8)) K8ok.hooks (drawnOf_ok (by kernel_rfl) K8ok.tab) noGoroutineK 101 kf_101 ?_
  intro args v hk
  unfold kf_101 at hk
  split at hk
  · rename_i z0 z1 z2 z3 z4 z5 z6 z7 z8 z9
    cases hF : F_sha_state_step (⟨z0, z1, z2, z3, z4, z5, z6, z7⟩ : GA8_u32) z8 z9 with
    | none => rw [hF] at hk; cases hk
    | some r =>
      rw [hF] at hk; cases hk
      obtain ⟨m, hm⟩ : ∃ m, NF + 1 ≤ m := ⟨_, Nat.le_refl _⟩
      obtain ⟨v, h1, e, rfl⟩ := (W_sha_state_step (K := K8) rfl rfl m hm ⟨0, []⟩ (⟨z0, z1, z2, z3, z4, z5, z6, z7⟩ : GA8_u32) z8 z9 hF).out
      exact ⟨by simp [freeAV, free2, free1, List.all_map, Function.comp_def], rfl, _, _, e⟩
  · cases hk
noncomputable def K9 : PureK := addK K8 101 kf_101
theorem K9ok {B : Nat} : KOK Try.prog B K9 := K8ok.add hk_101
set_option maxRecDepth 100000 in
set_option maxHeartbeats 1000000 in
theorem hk_63 {B : Nat} : HookOK Try.prog B 63 (fun args h => (kf_63 args).map fun v => (v, h)) := by
  refine HookOK.apart (Γ := hooksOf K9) (D := drawnOf Try.prog (tabOf K9)) K9ok.hooks (drawnOf_ok (by kernel_rfl) K9ok.tab) noGoroutineK 63 kf_63 ?_
  intro args v hk
  unfold kf_63 at hk
  split at hk
  · rename_i z0 z1 z2 z3 z4 z5 z6 z7 z8
    cases hF : F_sha_state_blocks (⟨z0, z1, z2, z3, z4, z5, z6, z7⟩ : GA8_u32) z8 with
    | none => rw [hF] at hk; cases hk
    | some r =>
      rw [hF] at hk; cases hk
      obtain ⟨m, hm⟩ : ∃ m, NF + 2 ≤ m := ⟨_, Nat.le_refl _⟩
      obtain ⟨v, h1, e, rfl⟩ := (W_sha_state_blocks (K := K9) rfl rfl rfl rfl rfl m hm ⟨0, []⟩ (⟨z0, z1, z2, z3, z4, z5, z6, z7⟩ : GA8_u32) z8 hF).out
      exact ⟨by simp [freeAV, free2, free1, List.all_map, Function.comp_def], rfl, _, _, e⟩
  · cases hk
noncomputable def K10 : PureK := addK K9 63 kf_63
theorem K10ok {B : Nat} : KOK Try.prog B K10 := K9ok.add hk_63
theorem hk_64 {B : Nat} : HookOK Try.prog B 64 (fun args h => (kf_64 args).map fun v => (v, h)) := ext_repeat Try.func64 rfl rfl Go.Proofs.Try.strings_Repeat
noncomputable def K11 : PureK := addK K10 64 kf_64
theorem K11ok {B : Nat} : KOK Try.prog B K11 := K10ok.add hk_64
set_option maxRecDepth 100000 in
set_option maxHeartbeats 1000000 in
theorem hk_65 {B : Nat} : HookOK Try.prog B 65 (fun args h => (kf_65 args).map fun v => (v, h)) := by
  refine HookOK.apart (Γ := hooksOf K11) (D := drawnOf Try.prog (tabOf K11)) K11ok.hooks (drawnOf_ok (by kernel_rfl) K11ok.tab) noGoroutineK 65 kf_65 ?_
  intro args v hk
  unfold kf_65 at hk
  split at hk
  · rename_i z0 z1
    cases hF : F_sha_high z0 z1 with
    | none => rw [hF] at hk; cases hk
    | some r =>
      rw [hF] at hk; cases hk
      obtain ⟨m, hm⟩ : ∃ m, NF + 1 ≤ m := ⟨_, Nat.le_refl _⟩
      obtain ⟨v, h1, e, rfl⟩ := (W_sha_high (K := K11) rfl m hm ⟨0, []⟩ z0 z1 hF).out
      exact ⟨rfl, rfl, _, _, e⟩
  · cases hk
noncomputable def K12 : PureK := addK K11 65 kf_65
theorem K12ok {B : Nat} : KOK Try.prog B K12 := K11ok.add hk_65
set_option maxRecDepth 100000 in
set_option maxHeartbeats 1000000 in
theorem hk_16 {B : Nat} : HookOK Try.prog B 16 (fun args h => (kf_16 args).map fun v => (v, h)) := by
  refine HookOK.apart (Γ := hooksOf K12) (D := drawnOf Try.prog (tabOf K12)) K12ok.hooks (drawnOf_ok (by kernel_rfl) K12ok.tab) noGoroutineK 16 kf_16 ?_
  intro args v hk
  unfold kf_16 at hk
  split at hk
  · rename_i z0
    cases hF : F_sha_Of z0 with
    | none => rw [hF] at hk; cases hk
    | some r =>
      rw [hF] at hk; cases hk
      obtain ⟨m, hm⟩ : ∃ m, NF + 4 ≤ m := ⟨_, Nat.le_refl _⟩
      obtain ⟨v, h1, e, rfl⟩ := (W_sha_Of (K := K12) rfl rfl rfl rfl rfl rfl rfl rfl rfl m hm ⟨0, []⟩ z0 hF).out
      exact ⟨rfl, rfl, _, _, e⟩
  · cases hk
noncomputable def K13 : PureK := addK K12 16 kf_16
theorem K13ok {B : Nat} : KOK Try.prog B K13 := K12ok.add hk_16
set_option maxRecDepth 100000 in
set_option maxHeartbeats 1000000 in
theorem hk_117 {B : Nat} : HookOK Try.prog B 117 (fun args h => (kf_117 args).map fun v => (v, h)) := by
  refine HookOK.apart (Γ := hooksOf K13) (D := drawnOf Try.prog (tabOf K13)) K13ok.hooks (drawnOf_ok (by kernel_rfl) K13ok.tab) noGoroutineK 117 kf_117 ?_
  intro args v hk
  unfold kf_117 at hk
  split at hk
  · rename_i z0 z1
    cases hF : F_field_put z0 z1 with
    | none => rw [hF] at hk; cases hk
    | some r =>
      rw [hF] at hk; cases hk
      obtain ⟨m, hm⟩ : ∃ m, NF + 1 ≤ m := ⟨_, Nat.le_refl _⟩
      obtain ⟨v, h1, e, rfl⟩ := (W_field_put (K := K13) rfl m hm ⟨0, []⟩ z0 z1 hF).out
      exact ⟨rfl, rfl, _, _, e⟩
  · cases hk
noncomputable def K14 : PureK := addK K13 117 kf_117
theorem K14ok {B : Nat} : KOK Try.prog B K14 := K13ok.add hk_117
set_option maxRecDepth 100000 in
set_option maxHeartbeats 1000000 in
theorem hk_90 {B : Nat} : HookOK Try.prog B 90 (fun args h => (kf_90 args).map fun v => (v, h)) := by
  refine HookOK.apart (Γ := hooksOf K14) (D := drawnOf Try.prog (tabOf K14)) K14ok.hooks (drawnOf_ok (by kernel_rfl) K14ok.tab) noGoroutineK 90 kf_90 ?_
  intro args v hk
  unfold kf_90 at hk
  split at hk
  · rename_i z0
    cases hF : F_field_P32 z0 with
    | none => rw [hF] at hk; cases hk
    | some r =>
      rw [hF] at hk; cases hk
      obtain ⟨m, hm⟩ : ∃ m, NF + 1 ≤ m := ⟨_, Nat.le_refl _⟩
      obtain ⟨v, h1, e, rfl⟩ := (W_field_P32 (K := K14) rfl rfl m hm ⟨0, []⟩ z0 hF).out
      exact ⟨rfl, rfl, _, _, e⟩
  · cases hk
noncomputable def K15 : PureK := addK K14 90 kf_90
theorem K15ok {B : Nat} : KOK Try.prog B K15 := K14ok.add hk_90
set_option maxRecDepth 100000 in
set_option maxHeartbeats 1000000 in
theorem hk_116 {B : Nat} : HookOK Try.prog B 116 (fun args h => (kf_116 args).map fun v => (v, h)) := by
  refine HookOK.apart (Γ := hooksOf K15) (D := drawnOf Try.prog (tabOf K15)) K15ok.hooks (drawnOf_ok (by kernel_rfl) K15ok.tab) noGoroutineK 116 kf_116 ?_
  intro args v hk
  unfold kf_116 at hk
  split at hk
  · rename_i z0
    cases hF : F_field_P16 z0 with
    | none => rw [hF] at hk; cases hk
    | some r =>
      rw [hF] at hk; cases hk
      obtain ⟨m, hm⟩ : ∃ m, NF + 1 ≤ m := ⟨_, Nat.le_refl _⟩
      obtain ⟨v, h1, e, rfl⟩ := (W_field_P16 (K := K15) rfl rfl m hm ⟨0, []⟩ z0 hF).out
      exact ⟨rfl, rfl, _, _, e⟩
  · cases hk
noncomputable def K16 : PureK := addK K15 116 kf_116
theorem K16ok {B : Nat} : KOK Try.prog B K16 := K15ok.add hk_116
set_option maxRecDepth 100000 in
set_option maxHeartbeats 1000000 in
theorem hk_49 {B : Nat} : HookOK Try.prog B 49 (fun args h => (kf_49 args).map fun v => (v, h)) := by
  refine HookOK.apart (Γ := hooksOf K16) (D := drawnOf Try.prog (tabOf K16)) K16ok.hooks (drawnOf_ok (by kernel_rfl) K16ok.tab) noGoroutineK 49 kf_49 ?_
  intro args v hk
  unfold kf_49 at hk
  split at hk
  · rename_i z0 z1 z2 z3 z4
    cases hF : F_digest_Node (⟨z0, z1, z2, z3, z4⟩ : Gapi_Node) with
    | none => rw [hF] at hk; cases hk
    | some r =>
      rw [hF] at hk; cases hk
      obtain ⟨m, hm⟩ : ∃ m, NF + 6 ≤ m := ⟨_, Nat.le_refl _⟩
      obtain ⟨v, h1, e, rfl⟩ := (W_digest_Node (K := K16) rfl rfl rfl rfl rfl rfl rfl rfl rfl rfl rfl m hm ⟨0, []⟩ (⟨z0, z1, z2, z3, z4⟩ : Gapi_Node) hF).out
      exact ⟨rfl, rfl, _, _, e⟩
  · cases hk
noncomputable def K17 : PureK := addK K16 49 kf_49
theorem K17ok {B : Nat} : KOK Try.prog B K17 := K16ok.add hk_49
set_option maxRecDepth 100000 in
set_option maxHeartbeats 1000000 in
theorem hk_88 {B : Nat} : HookOK Try.prog B 88 (fun args h => (kf_88 args).map fun v => (v, h)) := by
  refine HookOK.apart (Γ := hooksOf K17) (D := drawnOf Try.prog (tabOf K17)) K17ok.hooks (drawnOf_ok (by kernel_rfl) K17ok.tab) noGoroutineK 88 kf_88 ?_
  intro args v hk
  unfold kf_88 at hk
  split at hk
  · rename_i z0 z1
    cases hF : F_ref02_Put z0 z1 with
    | none => rw [hF] at hk; cases hk
    | some r =>
      rw [hF] at hk; cases hk
      obtain ⟨m, hm⟩ : ∃ m, NF + 1 ≤ m := ⟨_, Nat.le_refl _⟩
      obtain ⟨v, h1, e, rfl⟩ := (W_ref02_Put (K := K17) rfl m hm ⟨0, []⟩ z0 z1 hF).out
      exact ⟨rfl, rfl, _, _, e⟩
  · cases hk
noncomputable def K18 : PureK := addK K17 88 kf_88
theorem K18ok {B : Nat} : KOK Try.prog B K18 := K17ok.add hk_88
set_option maxRecDepth 100000 in
set_option maxHeartbeats 1000000 in
theorem hk_50 {B : Nat} : HookOK Try.prog B 50 (fun args h => (kf_50 args).map fun v => (v, h)) := by
  refine HookOK.apart (Γ := hooksOf K18) (D := drawnOf Try.prog (tabOf K18)) K18ok.hooks (drawnOf_ok (by kernel_rfl) K18ok.tab) noGoroutineK 50 kf_50 ?_
  intro args v hk
  unfold kf_50 at hk
  split at hk
  · rename_i z0 z1 z2 z3 z4
    cases hF : F_ref39_Node (⟨z0, z1, z2, z3, z4⟩ : Gapi_Node) with
    | none => rw [hF] at hk; cases hk
    | some r =>
      rw [hF] at hk; cases hk
      obtain ⟨m, hm⟩ : ∃ m, NF + 1 ≤ m := ⟨_, Nat.le_refl _⟩
      obtain ⟨v, h1, e, rfl⟩ := (W_ref39_Node (K := K18) rfl rfl rfl m hm ⟨0, []⟩ (⟨z0, z1, z2, z3, z4⟩ : Gapi_Node) hF).out
      exact ⟨rfl, rfl, _, _, e⟩
  · cases hk
noncomputable def K19 : PureK := addK K18 50 kf_50
theorem K19ok {B : Nat} : KOK Try.prog B K19 := K18ok.add hk_50
set_option maxRecDepth 100000 in
set_option maxHeartbeats 1000000 in
theorem hk_126 {B : Nat} : HookOK Try.prog B 126 (fun args h => (kf_126 args).map fun v => (v, h)) := by
  refine HookOK.apart (Γ := hooksOf K19) (D := drawnOf Try.prog (tabOf K19)) K19ok.hooks (drawnOf_ok (by kernel_rfl) K19ok.tab) noGoroutineK 126 kf_126 ?_
  intro args v hk
  unfold kf_126 at hk
  split at hk
  · rename_i z0 z1
    cases hF : F_internal_stringslite_HasPrefix z0 z1 with
    | none => rw [hF] at hk; cases hk
    | some r =>
      rw [hF] at hk; cases hk
      obtain ⟨m, hm⟩ : ∃ m, NF + 1 ≤ m := ⟨_, Nat.le_refl _⟩
      obtain ⟨v, h1, e, rfl⟩ := (W_internal_stringslite_HasPrefix (K := K19) rfl m hm ⟨0, []⟩ z0 z1 hF).out
      exact ⟨rfl, rfl, _, _, e⟩
  · cases hk
noncomputable def K20 : PureK := addK K19 126 kf_126
theorem K20ok {B : Nat} : KOK Try.prog B K20 := K19ok.add hk_126
set_option maxRecDepth 100000 in
set_option maxHeartbeats 1000000 in
theorem hk_103 {B : Nat} : HookOK Try.prog B 103 (fun args h => (kf_103 args).map fun v => (v, h)) := by
  refine HookOK.apart (Γ := hooksOf K20) (D := drawnOf Try.prog (tabOf K20)) K20ok.hooks (drawnOf_ok (by kernel_rfl) K20ok.tab) noGoroutineK 103 kf_103 ?_
  intro args v hk
  unfold kf_103 at hk
  split at hk
  · rename_i z0 z1
    cases hF : F_strings_HasPrefix z0 z1 with
    | none => rw [hF] at hk; cases hk
    | some r =>
      rw [hF] at hk; cases hk
      obtain ⟨m, hm⟩ : ∃ m, NF + 1 ≤ m := ⟨_, Nat.le_refl _⟩
      obtain ⟨v, h1, e, rfl⟩ := (W_strings_HasPrefix (K := K20) rfl rfl m hm ⟨0, []⟩ z0 z1 hF).out
      exact ⟨rfl, rfl, _, _, e⟩
  · cases hk
noncomputable def K21 : PureK := addK K20 103 kf_103
theorem K21ok {B : Nat} : KOK Try.prog B K21 := K20ok.add hk_103
set_option maxRecDepth 100000 in
set_option maxHeartbeats 1000000 in
theorem hk_95 {B : Nat} : HookOK Try.prog B 95 (fun args h => (kf_95 args).map fun v => (v, h)) := by
  refine HookOK.apart (Γ := hooksOf K21) (D := drawnOf Try.prog (tabOf K21)) K21ok.hooks (drawnOf_ok (by kernel_rfl) K21ok.tab) noGoroutineK 95 kf_95 ?_
  intro args v hk
  unfold kf_95 at hk
  split at hk
  · rename_i z0 z1
    cases hF : F_route_Under z0 z1 with
    | none => rw [hF] at hk; cases hk
    | some r =>
      rw [hF] at hk; cases hk
      obtain ⟨m, hm⟩ : ∃ m, NF + 1 ≤ m := ⟨_, Nat.le_refl _⟩
      obtain ⟨v, h1, e, rfl⟩ := (W_route_Under (K := K21) rfl rfl m hm ⟨0, []⟩ z0 z1 hF).out
      exact ⟨rfl, rfl, _, _, e⟩
  · cases hk
noncomputable def K22 : PureK := addK K21 95 kf_95
theorem K22ok {B : Nat} : KOK Try.prog B K22 := K21ok.add hk_95
set_option maxRecDepth 100000 in
set_option maxHeartbeats 1000000 in
theorem hk_96 {B : Nat} : HookOK Try.prog B 96 (fun args h => (kf_96 args).map fun v => (v, h)) := by
  refine HookOK.apart (Γ := hooksOf K22) (D := drawnOf Try.prog (tabOf K22)) K22ok.hooks (drawnOf_ok (by kernel_rfl) K22ok.tab) noGoroutineK 96 kf_96 ?_
  intro args v hk
  unfold kf_96 at hk
  split at hk
  · rename_i z0 z1
    cases hF : F_ref13_Under z0 z1 with
    | none => rw [hF] at hk; cases hk
    | some r =>
      rw [hF] at hk; cases hk
      obtain ⟨m, hm⟩ : ∃ m, NF + 2 ≤ m := ⟨_, Nat.le_refl _⟩
      obtain ⟨v, h1, e, rfl⟩ := (W_ref13_Under (K := K22) rfl rfl m hm ⟨0, []⟩ z0 z1 hF).out
      exact ⟨rfl, rfl, _, _, e⟩
  · cases hk
noncomputable def K23 : PureK := addK K22 96 kf_96
theorem K23ok {B : Nat} : KOK Try.prog B K23 := K22ok.add hk_96
set_option maxRecDepth 100000 in
set_option maxHeartbeats 1000000 in
theorem hk_107 {B : Nat} : HookOK Try.prog B 107 (fun args h => (kf_107 args).map fun v => (v, h)) := by
  refine HookOK.apart (Γ := hooksOf K23) (D := drawnOf Try.prog (tabOf K23)) K23ok.hooks (drawnOf_ok (by kernel_rfl) K23ok.tab) noGoroutineK 107 kf_107 ?_
  intro args v hk
  unfold kf_107 at hk
  split at hk
  · rename_i z0 z1 z2
    cases hF : F_field_Cut z0 z1 z2 with
    | none => rw [hF] at hk; cases hk
    | some r =>
      rw [hF] at hk; cases hk
      obtain ⟨m, hm⟩ : ∃ m, NF + 1 ≤ m := ⟨_, Nat.le_refl _⟩
      obtain ⟨v, h1, e, rfl⟩ := (W_field_Cut (K := K23) rfl m hm ⟨0, []⟩ z0 z1 z2 hF).out
      exact ⟨rfl, rfl, _, _, e⟩
  · cases hk
noncomputable def K24 : PureK := addK K23 107 kf_107
theorem K24ok {B : Nat} : KOK Try.prog B K24 := K23ok.add hk_107
set_option maxRecDepth 100000 in
set_option maxHeartbeats 1000000 in
theorem hk_129 {B : Nat} : HookOK Try.prog B 129 (fun args h => (kf_129 args).map fun v => (v, h)) := by
  refine HookOK.apart (Γ := hooksOf K24) (D := drawnOf Try.prog (tabOf K24)) K24ok.hooks (drawnOf_ok (by kernel_rfl) K24ok.tab) noGoroutineK 129 kf_129 ?_
  intro args v hk
  unfold kf_129 at hk
  split at hk
  · rename_i z0 z1 z2
    cases hF : F_field_number z0 z1 z2 with
    | none => rw [hF] at hk; cases hk
    | some r =>
      rw [hF] at hk; cases hk
      obtain ⟨m, hm⟩ : ∃ m, NF + 1 ≤ m := ⟨_, Nat.le_refl _⟩
      obtain ⟨v, h1, e, rfl⟩ := (W_field_number (K := K24) rfl rfl m hm ⟨0, []⟩ z0 z1 z2 hF).out
      exact ⟨rfl, rfl, _, _, e⟩
  · cases hk
noncomputable def K25 : PureK := addK K24 129 kf_129
theorem K25ok {B : Nat} : KOK Try.prog B K25 := K24ok.add hk_129
set_option maxRecDepth 100000 in
set_option maxHeartbeats 1000000 in
theorem hk_108 {B : Nat} : HookOK Try.prog B 108 (fun args h => (kf_108 args).map fun v => (v, h)) := by
  refine HookOK.apart (Γ := hooksOf K25) (D := drawnOf Try.prog (tabOf K25)) K25ok.hooks (drawnOf_ok (by kernel_rfl) K25ok.tab) noGoroutineK 108 kf_108 ?_
  intro args v hk
  unfold kf_108 at hk
  split at hk
  · rename_i z0 z1
    cases hF : F_field_U16 z0 z1 with
    | none => rw [hF] at hk; cases hk
    | some r =>
      rw [hF] at hk; cases hk
      obtain ⟨m, hm⟩ : ∃ m, NF + 1 ≤ m := ⟨_, Nat.le_refl _⟩
      obtain ⟨v, h1, e, rfl⟩ := (W_field_U16 (K := K25) rfl rfl m hm ⟨0, []⟩ z0 z1 hF).out
      exact ⟨rfl, rfl, _, _, e⟩
  · cases hk
noncomputable def K26 : PureK := addK K25 108 kf_108
theorem K26ok {B : Nat} : KOK Try.prog B K26 := K25ok.add hk_108
set_option maxRecDepth 100000 in
set_option maxHeartbeats 1000000 in
theorem hk_109 {B : Nat} : HookOK Try.prog B 109 (fun args h => (kf_109 args).map fun v => (v, h)) := by
  refine HookOK.apart (Γ := hooksOf K26) (D := drawnOf Try.prog (tabOf K26)) K26ok.hooks (drawnOf_ok (by kernel_rfl) K26ok.tab) noGoroutineK 109 kf_109 ?_
  intro args v hk
  unfold kf_109 at hk
  split at hk
  · rename_i z0 z1
    cases hF : F_field_U32 z0 z1 with
    | none => rw [hF] at hk; cases hk
    | some r =>
      rw [hF] at hk; cases hk
      obtain ⟨m, hm⟩ : ∃ m, NF + 1 ≤ m := ⟨_, Nat.le_refl _⟩
      obtain ⟨v, h1, e, rfl⟩ := (W_field_U32 (K := K26) rfl rfl m hm ⟨0, []⟩ z0 z1 hF).out
      exact ⟨rfl, rfl, _, _, e⟩
  · cases hk
noncomputable def K27 : PureK := addK K26 109 kf_109
theorem K27ok {B : Nat} : KOK Try.prog B K27 := K26ok.add hk_109
set_option maxRecDepth 100000 in
set_option maxHeartbeats 1000000 in
theorem hk_131 {B : Nat} : HookOK Try.prog B 131 (fun args h => (kf_131 args).map fun v => (v, h)) := by
  refine HookOK.apart (Γ := hooksOf K27) (D := drawnOf Try.prog (tabOf K27)) K27ok.hooks (drawnOf_ok (by kernel_rfl) K27ok.tab) noGoroutineK 131 kf_131 ?_
  intro args v hk
  unfold kf_131 at hk
  split at hk
  · rename_i z0 z1
    cases hF : F_field_U64 z0 z1 with
    | none => rw [hF] at hk; cases hk
    | some r =>
      rw [hF] at hk; cases hk
      obtain ⟨m, hm⟩ : ∃ m, NF + 1 ≤ m := ⟨_, Nat.le_refl _⟩
      obtain ⟨v, h1, e, rfl⟩ := (W_field_U64 (K := K27) rfl rfl m hm ⟨0, []⟩ z0 z1 hF).out
      exact ⟨rfl, rfl, _, _, e⟩
  · cases hk
noncomputable def K28 : PureK := addK K27 131 kf_131
theorem K28ok {B : Nat} : KOK Try.prog B K28 := K27ok.add hk_131
set_option maxRecDepth 100000 in
set_option maxHeartbeats 1000000 in
theorem hk_133 {B : Nat} : HookOK Try.prog B 133 (fun args h => (kf_133 args).map fun v => (v, h)) := by
  refine HookOK.apart (Γ := hooksOf K28) (D := drawnOf Try.prog (tabOf K28)) K28ok.hooks (drawnOf_ok (by kernel_rfl) K28ok.tab) noGoroutineK 133 kf_133 ?_
  intro args v hk
  unfold kf_133 at hk
  split at hk
  · rename_i z0
    cases hF : F_field_P64 z0 with
    | none => rw [hF] at hk; cases hk
    | some r =>
      rw [hF] at hk; cases hk
      obtain ⟨m, hm⟩ : ∃ m, NF + 1 ≤ m := ⟨_, Nat.le_refl _⟩
      obtain ⟨v, h1, e, rfl⟩ := (W_field_P64 (K := K28) rfl rfl m hm ⟨0, []⟩ z0 hF).out
      exact ⟨rfl, rfl, _, _, e⟩
  · cases hk
noncomputable def K29 : PureK := addK K28 133 kf_133
theorem K29ok {B : Nat} : KOK Try.prog B K29 := K28ok.add hk_133
set_option maxRecDepth 100000 in
set_option maxHeartbeats 1000000 in
theorem hk_74 {B : Nat} : HookOK Try.prog B 74 (fun args h => (kf_74 args).map fun v => (v, h)) := by
  refine HookOK.apart (Γ := hooksOf K29) (D := drawnOf Try.prog (tabOf K29)) K29ok.hooks (drawnOf_ok (by kernel_rfl) K29ok.tab) noGoroutineK 74 kf_74 ?_
  intro args v hk
  unfold kf_74 at hk
  split at hk
  · rename_i z0 z1 z2
    cases hF : F_ref02_Cut z0 z1 z2 with
    | none => rw [hF] at hk; cases hk
    | some r =>
      rw [hF] at hk; cases hk
      obtain ⟨m, hm⟩ : ∃ m, NF + 1 ≤ m := ⟨_, Nat.le_refl _⟩
      obtain ⟨v, h1, e, rfl⟩ := (W_ref02_Cut (K := K29) rfl m hm ⟨0, []⟩ z0 z1 z2 hF).out
      exact ⟨rfl, rfl, _, _, e⟩
  · cases hk
noncomputable def K30 : PureK := addK K29 74 kf_74
theorem K30ok {B : Nat} : KOK Try.prog B K30 := K29ok.add hk_74
set_option maxRecDepth 100000 in
set_option maxHeartbeats 1000000 in
theorem hk_112 {B : Nat} : HookOK Try.prog B 112 (fun args h => (kf_112 args).map fun v => (v, h)) := by
  refine HookOK.apart (Γ := hooksOf K30) (D := drawnOf Try.prog (tabOf K30)) K30ok.hooks (drawnOf_ok (by kernel_rfl) K30ok.tab) noGoroutineK 112 kf_112 ?_
  intro args v hk
  unfold kf_112 at hk
  split at hk
  · rename_i z0 z1 z2
    cases hF : F_ref02_Num z0 z1 z2 with
    | none => rw [hF] at hk; cases hk
    | some r =>
      rw [hF] at hk; cases hk
      obtain ⟨m, hm⟩ : ∃ m, NF + 1 ≤ m := ⟨_, Nat.le_refl _⟩
      obtain ⟨v, h1, e, rfl⟩ := (W_ref02_Num (K := K30) rfl rfl m hm ⟨0, []⟩ z0 z1 z2 hF).out
      exact ⟨rfl, rfl, _, _, e⟩
  · cases hk
noncomputable def K31 : PureK := addK K30 112 kf_112
theorem K31ok {B : Nat} : KOK Try.prog B K31 := K30ok.add hk_112
set_option maxRecDepth 100000 in
set_option maxHeartbeats 1000000 in
theorem hk_76 {B : Nat} : HookOK Try.prog B 76 (fun args h => (kf_76 args).map fun v => (v, h)) := by
  refine HookOK.apart (Γ := hooksOf K31) (D := drawnOf Try.prog (tabOf K31)) K31ok.hooks (drawnOf_ok (by kernel_rfl) K31ok.tab) noGoroutineK 76 kf_76 ?_
  intro args v hk
  unfold kf_76 at hk
  split at hk
  · rename_i z0 z1
    cases hF : F_ref02_U16 z0 z1 with
    | none => rw [hF] at hk; cases hk
    | some r =>
      rw [hF] at hk; cases hk
      obtain ⟨m, hm⟩ : ∃ m, NF + 1 ≤ m := ⟨_, Nat.le_refl _⟩
      obtain ⟨v, h1, e, rfl⟩ := (W_ref02_U16 (K := K31) rfl rfl m hm ⟨0, []⟩ z0 z1 hF).out
      exact ⟨rfl, rfl, _, _, e⟩
  · cases hk
noncomputable def K32 : PureK := addK K31 76 kf_76
theorem K32ok {B : Nat} : KOK Try.prog B K32 := K31ok.add hk_76
set_option maxRecDepth 100000 in
set_option maxHeartbeats 1000000 in
theorem hk_75 {B : Nat} : HookOK Try.prog B 75 (fun args h => (kf_75 args).map fun v => (v, h)) := by
  refine HookOK.apart (Γ := hooksOf K32) (D := drawnOf Try.prog (tabOf K32)) K32ok.hooks (drawnOf_ok (by kernel_rfl) K32ok.tab) noGoroutineK 75 kf_75 ?_
  intro args v hk
  unfold kf_75 at hk
  split at hk
  · rename_i z0 z1
    cases hF : F_ref02_U32 z0 z1 with
    | none => rw [hF] at hk; cases hk
    | some r =>
      rw [hF] at hk; cases hk
      obtain ⟨m, hm⟩ : ∃ m, NF + 1 ≤ m := ⟨_, Nat.le_refl _⟩
      obtain ⟨v, h1, e, rfl⟩ := (W_ref02_U32 (K := K32) rfl rfl m hm ⟨0, []⟩ z0 z1 hF).out
      exact ⟨rfl, rfl, _, _, e⟩
  · cases hk
noncomputable def K33 : PureK := addK K32 75 kf_75
theorem K33ok {B : Nat} : KOK Try.prog B K33 := K32ok.add hk_75
end Go.Proofs.YtobhmahlenjheaaM
