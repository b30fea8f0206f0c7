/- Each function that looks at no memory stands for its calls: printed by lift.py. -/
import Derived.Test.YtobhmahlenjheaaSHW3
import Derived.Test.YtobhmahlenjheaaSH
set_option linter.unusedSimpArgs false
set_option linter.unusedVariables false
namespace Go.Proofs.YtobhmahlenjheaaM
open Go Go.RowKit
set_option maxRecDepth 100000
theorem noGoroutineK : Try.prog.funcs.all (fun fn => !(fn.name == "runtime.NumGoroutine")) = true := by kernel_rfl
noncomputable def K0 : PureK := fun _ => none
theorem K0ok {B : Nat} : KOK Try.prog B K0 := KOK.none
noncomputable def K1 : PureK := addK K0 128 hb77
theorem K1ok {B : Nat} : KOK Try.prog B K1 := K0ok.add hb_ok
set_option maxRecDepth 100000 in
set_option maxHeartbeats 1000000 in
theorem hk_62 {B : Nat} : HookOK Try.prog B 62 (fun args h => (kf_62 args).map fun v => (v, h)) := by
  refine HookOK.apart (Γ := hooksOf K1) (D := drawnOf Try.prog (tabOf K1)) K1ok.hooks (drawnOf_ok (by kernel_rfl) K1ok.tab) noGoroutineK 62 kf_62 ?_
  intro args v hk
  unfold kf_62 at hk
  split at hk
  · cases hF : F_sha_first with
    | none => rw [hF] at hk; cases hk
    | some r =>
      rw [hF] at hk; cases hk
      obtain ⟨m, hm⟩ : ∃ m, NF + 1 ≤ m := ⟨_, Nat.le_refl _⟩
      obtain ⟨v, h1, e, rfl⟩ := (W_sha_first (K := K1) rfl m hm ⟨0, []⟩  hF).out
      exact ⟨by simp [freeAV, free2, free1, List.all_map, Function.comp_def], rfl, _, _, e⟩
  · cases hk
noncomputable def K2 : PureK := addK K1 62 kf_62
theorem K2ok {B : Nat} : KOK Try.prog B K2 := K1ok.add hk_62
set_option maxRecDepth 100000 in
set_option maxHeartbeats 1000000 in
theorem hk_134 {B : Nat} : HookOK Try.prog B 134 (fun args h => (kf_134 args).map fun v => (v, h)) := by
  refine HookOK.apart (Γ := hooksOf K2) (D := drawnOf Try.prog (tabOf K2)) K2ok.hooks (drawnOf_ok (by kernel_rfl) K2ok.tab) noGoroutineK 134 kf_134 ?_
  intro args v hk
  unfold kf_134 at hk
  split at hk
  · rename_i z0 z1
    cases hF : F_math_bits_RotateLeft32 z0 z1 with
    | none => rw [hF] at hk; cases hk
    | some r =>
      rw [hF] at hk; cases hk
      obtain ⟨m, hm⟩ : ∃ m, NF + 1 ≤ m := ⟨_, Nat.le_refl _⟩
      obtain ⟨v, h1, e, rfl⟩ := (W_math_bits_RotateLeft32 (K := K2) rfl m hm ⟨0, []⟩ z0 z1 hF).out
      exact ⟨rfl, rfl, _, _, e⟩
  · cases hk
noncomputable def K3 : PureK := addK K2 134 kf_134
theorem K3ok {B : Nat} : KOK Try.prog B K3 := K2ok.add hk_134
set_option maxRecDepth 100000 in
set_option maxHeartbeats 1000000 in
theorem hk_123 {B : Nat} : HookOK Try.prog B 123 (fun args h => (kf_123 args).map fun v => (v, h)) := by
  refine HookOK.apart (Γ := hooksOf K3) (D := drawnOf Try.prog (tabOf K3)) K3ok.hooks (drawnOf_ok (by kernel_rfl) K3ok.tab) noGoroutineK 123 kf_123 ?_
  intro args v hk
  unfold kf_123 at hk
  split at hk
  · rename_i z0 z1
    cases hF : F_sha_right z0 z1 with
    | none => rw [hF] at hk; cases hk
    | some r =>
      rw [hF] at hk; cases hk
      obtain ⟨m, hm⟩ : ∃ m, NF + 1 ≤ m := ⟨_, Nat.le_refl _⟩
      obtain ⟨v, h1, e, rfl⟩ := (W_sha_right (K := K3) rfl rfl m hm ⟨0, []⟩ z0 z1 hF).out
      exact ⟨rfl, rfl, _, _, e⟩
  · cases hk
noncomputable def K4 : PureK := addK K3 123 kf_123
theorem K4ok {B : Nat} : KOK Try.prog B K4 := K3ok.add hk_123
set_option maxRecDepth 100000 in
set_option maxHeartbeats 1000000 in
theorem hk_101 {B : Nat} : HookOK Try.prog B 101 (fun args h => (kf_101 args).map fun v => (v, h)) := by
  refine HookOK.apart (Γ := hooksOf K4) (D := drawnOf Try.prog (tabOf K4)) K4ok.hooks (drawnOf_ok (by kernel_rfl) K4ok.tab) noGoroutineK 101 kf_101 ?_
  intro args v hk
  unfold kf_101 at hk
  split at hk
  · rename_i z0 z1 z2 z3 z4 z5 z6 z7 z8 z9
    cases hF : F_sha_state_step (⟨z0, z1, z2, z3, z4, z5, z6, z7⟩ : GA8_u32) z8 z9 with
    | none => rw [hF] at hk; cases hk
    | some r =>
      rw [hF] at hk; cases hk
      obtain ⟨m, hm⟩ : ∃ m, NF + 1 ≤ m := ⟨_, Nat.le_refl _⟩
      obtain ⟨v, h1, e, rfl⟩ := (W_sha_state_step (K := K4) rfl rfl m hm ⟨0, []⟩ (⟨z0, z1, z2, z3, z4, z5, z6, z7⟩ : GA8_u32) z8 z9 hF).out
      exact ⟨by simp [freeAV, free2, free1, List.all_map, Function.comp_def], rfl, _, _, e⟩
  · cases hk
noncomputable def K5 : PureK := addK K4 101 kf_101
theorem K5ok {B : Nat} : KOK Try.prog B K5 := K4ok.add hk_101
set_option maxRecDepth 100000 in
set_option maxHeartbeats 1000000 in
theorem hk_63 {B : Nat} : HookOK Try.prog B 63 (fun args h => (kf_63 args).map fun v => (v, h)) := by
  refine HookOK.apart (Γ := hooksOf K5) (D := drawnOf Try.prog (tabOf K5)) K5ok.hooks (drawnOf_ok (by kernel_rfl) K5ok.tab) noGoroutineK 63 kf_63 ?_
  intro args v hk
  unfold kf_63 at hk
  split at hk
  · rename_i z0 z1 z2 z3 z4 z5 z6 z7 z8
    cases hF : F_sha_state_blocks (⟨z0, z1, z2, z3, z4, z5, z6, z7⟩ : GA8_u32) z8 with
    | none => rw [hF] at hk; cases hk
    | some r =>
      rw [hF] at hk; cases hk
      obtain ⟨m, hm⟩ : ∃ m, NF + 2 ≤ m := ⟨_, Nat.le_refl _⟩
      obtain ⟨v, h1, e, rfl⟩ := (W_sha_state_blocks (K := K5) rfl rfl rfl rfl rfl m hm ⟨0, []⟩ (⟨z0, z1, z2, z3, z4, z5, z6, z7⟩ : GA8_u32) z8 hF).out
      exact ⟨by simp [freeAV, free2, free1, List.all_map, Function.comp_def], rfl, _, _, e⟩
  · cases hk
noncomputable def K6 : PureK := addK K5 63 kf_63
theorem K6ok {B : Nat} : KOK Try.prog B K6 := K5ok.add hk_63
theorem hk_64 {B : Nat} : HookOK Try.prog B 64 (fun args h => (kf_64 args).map fun v => (v, h)) := ext_repeat Try.func64 rfl rfl Go.Proofs.Try.strings_Repeat
noncomputable def K7 : PureK := addK K6 64 kf_64
theorem K7ok {B : Nat} : KOK Try.prog B K7 := K6ok.add hk_64
set_option maxRecDepth 100000 in
set_option maxHeartbeats 1000000 in
theorem hk_65 {B : Nat} : HookOK Try.prog B 65 (fun args h => (kf_65 args).map fun v => (v, h)) := by
  refine HookOK.apart (Γ := hooksOf K7) (D := drawnOf Try.prog (tabOf K7)) K7ok.hooks (drawnOf_ok (by kernel_rfl) K7ok.tab) noGoroutineK 65 kf_65 ?_
  intro args v hk
  unfold kf_65 at hk
  split at hk
  · rename_i z0 z1
    cases hF : F_sha_high z0 z1 with
    | none => rw [hF] at hk; cases hk
    | some r =>
      rw [hF] at hk; cases hk
      obtain ⟨m, hm⟩ : ∃ m, NF + 1 ≤ m := ⟨_, Nat.le_refl _⟩
      obtain ⟨v, h1, e, rfl⟩ := (W_sha_high (K := K7) rfl m hm ⟨0, []⟩ z0 z1 hF).out
      exact ⟨rfl, rfl, _, _, e⟩
  · cases hk
noncomputable def K8 : PureK := addK K7 65 kf_65
theorem K8ok {B : Nat} : KOK Try.prog B K8 := K7ok.add hk_65
set_option maxRecDepth 100000 in
set_option maxHeartbeats 1000000 in
theorem hk_16 {B : Nat} : HookOK Try.prog B 16 (fun args h => (kf_16 args).map fun v => (v, h)) := by
  refine HookOK.apart (Γ := hooksOf K8) (D := drawnOf Try.prog (tabOf K8)) K8ok.hooks (drawnOf_ok (by kernel_rfl) K8ok.tab) noGoroutineK 16 kf_16 ?_
  intro args v hk
  unfold kf_16 at hk
  split at hk
  · rename_i z0
    cases hF : F_sha_Of z0 with
    | none => rw [hF] at hk; cases hk
    | some r =>
      rw [hF] at hk; cases hk
      obtain ⟨m, hm⟩ : ∃ m, NF + 4 ≤ m := ⟨_, Nat.le_refl _⟩
      obtain ⟨v, h1, e, rfl⟩ := (W_sha_Of (K := K8) rfl rfl rfl rfl rfl rfl rfl rfl rfl m hm ⟨0, []⟩ z0 hF).out
      exact ⟨rfl, rfl, _, _, e⟩
  · cases hk
noncomputable def K9 : PureK := addK K8 16 kf_16
theorem K9ok {B : Nat} : KOK Try.prog B K9 := K8ok.add hk_16
set_option maxRecDepth 100000 in
set_option maxHeartbeats 1000000 in
theorem hk_17 {B : Nat} : HookOK Try.prog B 17 (fun args h => (kf_17 args).map fun v => (v, h)) := by
  refine HookOK.apart (Γ := hooksOf K9) (D := drawnOf Try.prog (tabOf K9)) K9ok.hooks (drawnOf_ok (by kernel_rfl) K9ok.tab) noGoroutineK 17 kf_17 ?_
  intro args v hk
  unfold kf_17 at hk
  split at hk
  · rename_i z0
    cases hF : F_sha_Hex z0 with
    | none => rw [hF] at hk; cases hk
    | some r =>
      rw [hF] at hk; cases hk
      obtain ⟨m, hm⟩ : ∃ m, NF + 4 ≤ m := ⟨_, Nat.le_refl _⟩
      obtain ⟨v, h1, e, rfl⟩ := (W_sha_Hex (K := K9) rfl rfl rfl rfl rfl rfl m hm ⟨0, []⟩ z0 hF).out
      exact ⟨rfl, rfl, _, _, e⟩
  · cases hk
noncomputable def K10 : PureK := addK K9 17 kf_17
theorem K10ok {B : Nat} : KOK Try.prog B K10 := K9ok.add hk_17
set_option maxRecDepth 100000 in
set_option maxHeartbeats 1000000 in
theorem hk_19 {B : Nat} : HookOK Try.prog B 19 (fun args h => (kf_19 args).map fun v => (v, h)) := by
  refine HookOK.apart (Γ := hooksOf K10) (D := drawnOf Try.prog (tabOf K10)) K10ok.hooks (drawnOf_ok (by kernel_rfl) K10ok.tab) noGoroutineK 19 kf_19 ?_
  intro args v hk
  unfold kf_19 at hk
  split at hk
  · rename_i z0
    cases hF : F_sha_Short z0 with
    | none => rw [hF] at hk; cases hk
    | some r =>
      rw [hF] at hk; cases hk
      obtain ⟨m, hm⟩ : ∃ m, NF + 1 ≤ m := ⟨_, Nat.le_refl _⟩
      obtain ⟨v, h1, e, rfl⟩ := (W_sha_Short (K := K10) rfl rfl m hm ⟨0, []⟩ z0 hF).out
      exact ⟨rfl, rfl, _, _, e⟩
  · cases hk
noncomputable def K11 : PureK := addK K10 19 kf_19
theorem K11ok {B : Nat} : KOK Try.prog B K11 := K10ok.add hk_19
set_option maxRecDepth 100000 in
set_option maxHeartbeats 1000000 in
theorem hk_98 {B : Nat} : HookOK Try.prog B 98 (fun args h => (kf_98 args).map fun v => (v, h)) := by
  refine HookOK.apart (Γ := hooksOf K11) (D := drawnOf Try.prog (tabOf K11)) K11ok.hooks (drawnOf_ok (by kernel_rfl) K11ok.tab) noGoroutineK 98 kf_98 ?_
  intro args v hk
  unfold kf_98 at hk
  split at hk
  · rename_i z0 z1
    cases hF : F_ref04_root z0 z1 with
    | none => rw [hF] at hk; cases hk
    | some r =>
      rw [hF] at hk; cases hk
      obtain ⟨m, hm⟩ : ∃ m, NF + 2 ≤ m := ⟨_, Nat.le_refl _⟩
      obtain ⟨v, h1, e, rfl⟩ := (W_ref04_root (K := K11) rfl rfl rfl rfl m hm ⟨0, []⟩ z0 z1 hF).out
      exact ⟨rfl, rfl, _, _, e⟩
  · cases hk
noncomputable def K12 : PureK := addK K11 98 kf_98
theorem K12ok {B : Nat} : KOK Try.prog B K12 := K11ok.add hk_98
set_option maxRecDepth 100000 in
set_option maxHeartbeats 1000000 in
theorem hk_59 {B : Nat} : HookOK Try.prog B 59 (fun args h => (kf_59 args).map fun v => (v, h)) := by
  refine HookOK.apart (Γ := hooksOf K12) (D := drawnOf Try.prog (tabOf K12)) K12ok.hooks (drawnOf_ok (by kernel_rfl) K12ok.tab) noGoroutineK 59 kf_59 ?_
  intro args v hk
  unfold kf_59 at hk
  split at hk
  · rename_i z0
    cases hF : F_ref04_padded z0 with
    | none => rw [hF] at hk; cases hk
    | some r =>
      rw [hF] at hk; cases hk
      obtain ⟨m, hm⟩ : ∃ m, NF + 1 ≤ m := ⟨_, Nat.le_refl _⟩
      obtain ⟨v, h1, e, rfl⟩ := (W_ref04_padded (K := K12) rfl m hm ⟨0, []⟩ z0 hF).out
      exact ⟨rfl, rfl, _, _, e⟩
  · cases hk
noncomputable def K13 : PureK := addK K12 59 kf_59
theorem K13ok {B : Nat} : KOK Try.prog B K13 := K12ok.add hk_59
set_option maxRecDepth 100000 in
set_option maxHeartbeats 1000000 in
theorem hk_61 {B : Nat} : HookOK Try.prog B 61 (fun args h => (kf_61 args).map fun v => (v, h)) := by
  refine HookOK.apart (Γ := hooksOf K13) (D := drawnOf Try.prog (tabOf K13)) K13ok.hooks (drawnOf_ok (by kernel_rfl) K13ok.tab) noGoroutineK 61 kf_61 ?_
  intro args v hk
  unfold kf_61 at hk
  split at hk
  · rename_i z0 z1
    cases hF : F_ref04_right z0 z1 with
    | none => rw [hF] at hk; cases hk
    | some r =>
      rw [hF] at hk; cases hk
      obtain ⟨m, hm⟩ : ∃ m, NF + 1 ≤ m := ⟨_, Nat.le_refl _⟩
      obtain ⟨v, h1, e, rfl⟩ := (W_ref04_right (K := K13) rfl m hm ⟨0, []⟩ z0 z1 hF).out
      exact ⟨rfl, rfl, _, _, e⟩
  · cases hk
noncomputable def K14 : PureK := addK K13 61 kf_61
theorem K14ok {B : Nat} : KOK Try.prog B K14 := K13ok.add hk_61
set_option maxRecDepth 100000 in
set_option maxHeartbeats 1000000 in
theorem hk_15 {B : Nat} : HookOK Try.prog B 15 (fun args h => (kf_15 args).map fun v => (v, h)) := by
  refine HookOK.apart (Γ := hooksOf K14) (D := drawnOf Try.prog (tabOf K14)) K14ok.hooks (drawnOf_ok (by kernel_rfl) K14ok.tab) noGoroutineK 15 kf_15 ?_
  intro args v hk
  unfold kf_15 at hk
  split at hk
  · rename_i z0
    cases hF : F_ref04_Of z0 with
    | none => rw [hF] at hk; cases hk
    | some r =>
      rw [hF] at hk; cases hk
      obtain ⟨m, hm⟩ : ∃ m, NF + 3 ≤ m := ⟨_, Nat.le_refl _⟩
      obtain ⟨v, h1, e, rfl⟩ := (W_ref04_Of (K := K14) rfl rfl rfl rfl rfl rfl rfl m hm ⟨0, []⟩ z0 hF).out
      exact ⟨rfl, rfl, _, _, e⟩
  · cases hk
noncomputable def K15 : PureK := addK K14 15 kf_15
theorem K15ok {B : Nat} : KOK Try.prog B K15 := K14ok.add hk_15
set_option maxRecDepth 100000 in
set_option maxHeartbeats 1000000 in
theorem hk_18 {B : Nat} : HookOK Try.prog B 18 (fun args h => (kf_18 args).map fun v => (v, h)) := by
  refine HookOK.apart (Γ := hooksOf K15) (D := drawnOf Try.prog (tabOf K15)) K15ok.hooks (drawnOf_ok (by kernel_rfl) K15ok.tab) noGoroutineK 18 kf_18 ?_
  intro args v hk
  unfold kf_18 at hk
  split at hk
  · rename_i z0
    cases hF : F_law04_hex z0 with
    | none => rw [hF] at hk; cases hk
    | some r =>
      rw [hF] at hk; cases hk
      obtain ⟨m, hm⟩ : ∃ m, NF + 1 ≤ m := ⟨_, Nat.le_refl _⟩
      obtain ⟨v, h1, e, rfl⟩ := (W_law04_hex (K := K15) rfl m hm ⟨0, []⟩ z0 hF).out
      exact ⟨rfl, rfl, _, _, e⟩
  · cases hk
noncomputable def K16 : PureK := addK K15 18 kf_18
theorem K16ok {B : Nat} : KOK Try.prog B K16 := K15ok.add hk_18
set_option maxRecDepth 100000 in
set_option maxHeartbeats 1000000 in
theorem hk_3 {B : Nat} : HookOK Try.prog B 3 (fun args h => (kf_3 args).map fun v => (v, h)) := by
  refine HookOK.apart (Γ := hooksOf K16) (D := drawnOf Try.prog (tabOf K16)) K16ok.hooks (drawnOf_ok (by kernel_rfl) K16ok.tab) noGoroutineK 3 kf_3 ?_
  intro args v hk
  unfold kf_3 at hk
  split at hk
  · rename_i z0
    cases hF : F_law04_ShaKeys z0 with
    | none => rw [hF] at hk; cases hk
    | some r =>
      rw [hF] at hk; cases hk
      obtain ⟨m, hm⟩ : ∃ m, NF + 2 ≤ m := ⟨_, Nat.le_refl _⟩
      obtain ⟨v, h1, e, rfl⟩ := (W_law04_ShaKeys (K := K16) rfl rfl rfl rfl rfl rfl rfl m hm ⟨0, []⟩ z0 hF).out
      exact ⟨rfl, rfl, _, _, e⟩
  · cases hk
noncomputable def K17 : PureK := addK K16 3 kf_3
theorem K17ok {B : Nat} : KOK Try.prog B K17 := K16ok.add hk_3
set_option maxRecDepth 100000 in
set_option maxHeartbeats 1000000 in
theorem hk_4 {B : Nat} : HookOK Try.prog B 4 (fun args h => (kf_4 args).map fun v => (v, h)) := by
  refine HookOK.apart (Γ := hooksOf K17) (D := drawnOf Try.prog (tabOf K17)) K17ok.hooks (drawnOf_ok (by kernel_rfl) K17ok.tab) noGoroutineK 4 kf_4 ?_
  intro args v hk
  unfold kf_4 at hk
  split at hk
  · rename_i z0 z1
    cases hF : F_law04_ShaPadded z0 z1 with
    | none => rw [hF] at hk; cases hk
    | some r =>
      rw [hF] at hk; cases hk
      obtain ⟨m, hm⟩ : ∃ m, NF + 2 ≤ m := ⟨_, Nat.le_refl _⟩
      obtain ⟨v, h1, e, rfl⟩ := (W_law04_ShaPadded (K := K17) rfl rfl rfl rfl rfl rfl m hm ⟨0, []⟩ z0 z1 hF).out
      exact ⟨rfl, rfl, _, _, e⟩
  · cases hk
noncomputable def K18 : PureK := addK K17 4 kf_4
theorem K18ok {B : Nat} : KOK Try.prog B K18 := K17ok.add hk_4
end Go.Proofs.YtobhmahlenjheaaM
