/- Facts of the program's types, and its functions as hooks: printed by lift.py. -/
import Derived.Test.YtobhmahlenjheaaDGF
import Derived.Test.YtobhmahlenjheaaChecked
import Derived.KernelRfl
set_option linter.unusedSimpArgs false
set_option linter.unusedVariables false
namespace Go.Proofs.YtobhmahlenjheaaM
open Go Go.RowKit
set_option maxRecDepth 100000
theorem sl_141 : SlTy Try.prog 141 24 1 := ⟨Try.underlying141, by kernel_rfl, by kernel_rfl, by omega, by omega⟩
theorem ag_24 : isAg Try.prog 24 = some false := by kernel_rfl
theorem sz_24 : szOf Try.prog 24 = some 1 := by kernel_rfl
theorem zero_24 : zeroOf Try.prog 24 = some (.int .u64 0) := by kernel_rfl
theorem sl_82 : SlTy Try.prog 82 85 1 := ⟨Try.underlying82, by kernel_rfl, by kernel_rfl, by omega, by omega⟩
theorem sl_28 : SlTy Try.prog 28 5 1 := ⟨Try.underlying28, by kernel_rfl, by kernel_rfl, by omega, by omega⟩
theorem zero_5 : zeroOf Try.prog 5 = some (.int .u8 0) := by kernel_rfl
theorem sz_5 : szOf Try.prog 5 = some 1 := by kernel_rfl
theorem ag_85 : isAg Try.prog 85 = some false := by kernel_rfl
theorem sz_85 : szOf Try.prog 85 = some 1 := by kernel_rfl
theorem zero_88 : zeroOf Try.prog 88 = some (.agg [.int .u32 0, .int .u32 0, .int .u32 0, .int .u32 0, .int .u32 0, .int .u32 0, .int .u32 0, .int .u32 0]) := by kernel_rfl
theorem bd_88_0_1_2_3_4_5_6_7 (a0 a1 a2 a3 a4 a5 a6 a7 : Int) : abuild Try.prog 88 [(0, .int .u32 a0), (1, .int .u32 a1), (2, .int .u32 a2), (3, .int .u32 a3), (4, .int .u32 a4), (5, .int .u32 a5), (6, .int .u32 a6), (7, .int .u32 a7)] = some (.agg [.int .u32 a0, .int .u32 a1, .int .u32 a2, .int .u32 a3, .int .u32 a4, .int .u32 a5, .int .u32 a6, .int .u32 a7]) := by kernel_rfl
theorem sz_88 : szOf Try.prog 88 = some 8 := by kernel_rfl
theorem ag_88 : isAg Try.prog 88 = some true := by kernel_rfl
theorem bd_147_0_1_2_3_4_5_6_7_8_9_10_11_12_13_14_15_16_17_18_19_20_21_22_23_24_25_26_27_28_29_30_31_32_33_34_35_36_37_38_39_40_41_42_43_44_45_46_47_48_49_50_51_52_53_54_55_56_57_58_59_60_61_62_63 (a0 a1 a2 a3 a4 a5 a6 a7 a8 a9 a10 a11 a12 a13 a14 a15 a16 a17 a18 a19 a20 a21 a22 a23 a24 a25 a26 a27 a28 a29 a30 a31 a32 a33 a34 a35 a36 a37 a38 a39 a40 a41 a42 a43 a44 a45 a46 a47 a48 a49 a50 a51 a52 a53 a54 a55 a56 a57 a58 a59 a60 a61 a62 a63 : Int) : abuild Try.prog 147 [(0, .int .u32 a0), (1, .int .u32 a1), (2, .int .u32 a2), (3, .int .u32 a3), (4, .int .u32 a4), (5, .int .u32 a5), (6, .int .u32 a6), (7, .int .u32 a7), (8, .int .u32 a8), (9, .int .u32 a9), (10, .int .u32 a10), (11, .int .u32 a11), (12, .int .u32 a12), (13, .int .u32 a13), (14, .int .u32 a14), (15, .int .u32 a15), (16, .int .u32 a16), (17, .int .u32 a17), (18, .int .u32 a18), (19, .int .u32 a19), (20, .int .u32 a20), (21, .int .u32 a21), (22, .int .u32 a22), (23, .int .u32 a23), (24, .int .u32 a24), (25, .int .u32 a25), (26, .int .u32 a26), (27, .int .u32 a27), (28, .int .u32 a28), (29, .int .u32 a29), (30, .int .u32 a30), (31, .int .u32 a31), (32, .int .u32 a32), (33, .int .u32 a33), (34, .int .u32 a34), (35, .int .u32 a35), (36, .int .u32 a36), (37, .int .u32 a37), (38, .int .u32 a38), (39, .int .u32 a39), (40, .int .u32 a40), (41, .int .u32 a41), (42, .int .u32 a42), (43, .int .u32 a43), (44, .int .u32 a44), (45, .int .u32 a45), (46, .int .u32 a46), (47, .int .u32 a47), (48, .int .u32 a48), (49, .int .u32 a49), (50, .int .u32 a50), (51, .int .u32 a51), (52, .int .u32 a52), (53, .int .u32 a53), (54, .int .u32 a54), (55, .int .u32 a55), (56, .int .u32 a56), (57, .int .u32 a57), (58, .int .u32 a58), (59, .int .u32 a59), (60, .int .u32 a60), (61, .int .u32 a61), (62, .int .u32 a62), (63, .int .u32 a63)] = some (.agg [.int .u32 a0, .int .u32 a1, .int .u32 a2, .int .u32 a3, .int .u32 a4, .int .u32 a5, .int .u32 a6, .int .u32 a7, .int .u32 a8, .int .u32 a9, .int .u32 a10, .int .u32 a11, .int .u32 a12, .int .u32 a13, .int .u32 a14, .int .u32 a15, .int .u32 a16, .int .u32 a17, .int .u32 a18, .int .u32 a19, .int .u32 a20, .int .u32 a21, .int .u32 a22, .int .u32 a23, .int .u32 a24, .int .u32 a25, .int .u32 a26, .int .u32 a27, .int .u32 a28, .int .u32 a29, .int .u32 a30, .int .u32 a31, .int .u32 a32, .int .u32 a33, .int .u32 a34, .int .u32 a35, .int .u32 a36, .int .u32 a37, .int .u32 a38, .int .u32 a39, .int .u32 a40, .int .u32 a41, .int .u32 a42, .int .u32 a43, .int .u32 a44, .int .u32 a45, .int .u32 a46, .int .u32 a47, .int .u32 a48, .int .u32 a49, .int .u32 a50, .int .u32 a51, .int .u32 a52, .int .u32 a53, .int .u32 a54, .int .u32 a55, .int .u32 a56, .int .u32 a57, .int .u32 a58, .int .u32 a59, .int .u32 a60, .int .u32 a61, .int .u32 a62, .int .u32 a63]) := by kernel_rfl
theorem zero_147 : zeroOf Try.prog 147 = some (.agg [.int .u32 0, .int .u32 0, .int .u32 0, .int .u32 0, .int .u32 0, .int .u32 0, .int .u32 0, .int .u32 0, .int .u32 0, .int .u32 0, .int .u32 0, .int .u32 0, .int .u32 0, .int .u32 0, .int .u32 0, .int .u32 0, .int .u32 0, .int .u32 0, .int .u32 0, .int .u32 0, .int .u32 0, .int .u32 0, .int .u32 0, .int .u32 0, .int .u32 0, .int .u32 0, .int .u32 0, .int .u32 0, .int .u32 0, .int .u32 0, .int .u32 0, .int .u32 0, .int .u32 0, .int .u32 0, .int .u32 0, .int .u32 0, .int .u32 0, .int .u32 0, .int .u32 0, .int .u32 0, .int .u32 0, .int .u32 0, .int .u32 0, .int .u32 0, .int .u32 0, .int .u32 0, .int .u32 0, .int .u32 0, .int .u32 0, .int .u32 0, .int .u32 0, .int .u32 0, .int .u32 0, .int .u32 0, .int .u32 0, .int .u32 0, .int .u32 0, .int .u32 0, .int .u32 0, .int .u32 0, .int .u32 0, .int .u32 0, .int .u32 0, .int .u32 0]) := by kernel_rfl
theorem ia_147 (id off : Nat) (k : IntKind) {i : Int} (h0 : 0 ≤ i) (h1 : i < 64) : aindexAddr Try.prog 147 (.ptr id off) (.int k i) = some (.ptr id (off + i.toNat * 1)) := by
  have hs := sz_85
  simp only [aindexAddr, Try.underlying147, hs]
  rw [if_pos ⟨h0, h1⟩]
theorem ia_88 (id off : Nat) (k : IntKind) {i : Int} (h0 : 0 ≤ i) (h1 : i < 8) : aindexAddr Try.prog 88 (.ptr id off) (.int k i) = some (.ptr id (off + i.toNat * 1)) := by
  have hs := sz_85
  simp only [aindexAddr, Try.underlying88, hs]
  rw [if_pos ⟨h0, h1⟩]
theorem xm_u32 : (if (IntKind.u32).signed = true then (-1 : Int) else IntKind.u32.max) = 4294967295 := by decide
theorem zero_95 : zeroOf Try.prog 95 = some (.agg [.val (.pointer none), .val (.slice none 0 0)]) := by kernel_rfl
theorem iv_88_0 (a0 a1 a2 a3 a4 a5 a6 a7 : Int) (k : IntKind) : aindex Try.prog 88 (.agg [.int .u32 a0, .int .u32 a1, .int .u32 a2, .int .u32 a3, .int .u32 a4, .int .u32 a5, .int .u32 a6, .int .u32 a7]) (.int k 0) = some (.int .u32 a0) := by
  have hs := sz_85
  have ha := ag_85
  simp only [aindex, Try.underlying88, hs]
  simp [apart, ha]
theorem sl_67 : SlTy Try.prog 67 75 5 := ⟨Try.underlying67, by kernel_rfl, by kernel_rfl, by omega, by omega⟩
theorem ag_75 : isAg Try.prog 75 = some true := by kernel_rfl
theorem sz_75 : szOf Try.prog 75 = some 5 := by kernel_rfl
theorem zero_75 : zeroOf Try.prog 75 = some (.agg [.str [], .bool false, .str [], .int .i64 0, .int .i64 0]) := by kernel_rfl
theorem fa_75_1 (id off : Nat) : afieldAddr Try.prog 75 (.ptr id off) 1 = some (.ptr id (off + 1)) := by kernel_rfl
theorem ag_4 : isAg Try.prog 4 = some false := by kernel_rfl
theorem sz_4 : szOf Try.prog 4 = some 1 := by kernel_rfl
theorem fa_75_2 (id off : Nat) : afieldAddr Try.prog 75 (.ptr id off) 2 = some (.ptr id (off + 2)) := by kernel_rfl
theorem ag_9 : isAg Try.prog 9 = some false := by kernel_rfl
theorem sz_9 : szOf Try.prog 9 = some 1 := by kernel_rfl
theorem fa_75_0 (id off : Nat) : afieldAddr Try.prog 75 (.ptr id off) 0 = some (.ptr id (off + 0)) := by kernel_rfl
theorem sl_51 : SlTy Try.prog 51 9 1 := ⟨Try.underlying51, by kernel_rfl, by kernel_rfl, by omega, by omega⟩
theorem fa_135_0 (id off : Nat) : afieldAddr Try.prog 135 (.ptr id off) 0 = some (.ptr id (off + 0)) := by kernel_rfl
theorem bl_135_0 : BLies 135 0 0 := by unfold BLies; kernel_rfl
theorem fa_75_3 (id off : Nat) : afieldAddr Try.prog 75 (.ptr id off) 3 = some (.ptr id (off + 3)) := by kernel_rfl
theorem ag_3 : isAg Try.prog 3 = some false := by kernel_rfl
theorem sz_3 : szOf Try.prog 3 = some 1 := by kernel_rfl
theorem fa_75_4 (id off : Nat) : afieldAddr Try.prog 75 (.ptr id off) 4 = some (.ptr id (off + 4)) := by kernel_rfl
theorem bd_135_  : abuild Try.prog 135 [] = some (.agg [.val (.pointer none), .val (.slice none 0 0)]) := by kernel_rfl
theorem fa_69_0 (id off : Nat) : afieldAddr Try.prog 69 (.ptr id off) 0 = some (.ptr id (off + 0)) := by kernel_rfl
theorem ag_67 : isAg Try.prog 67 = some false := by kernel_rfl
theorem sz_67 : szOf Try.prog 67 = some 1 := by kernel_rfl
theorem fa_69_1 (id off : Nat) : afieldAddr Try.prog 69 (.ptr id off) 1 = some (.ptr id (off + 1)) := by kernel_rfl
theorem ag_51 : isAg Try.prog 51 = some false := by kernel_rfl
theorem sz_51 : szOf Try.prog 51 = some 1 := by kernel_rfl
theorem fa_69_2 (id off : Nat) : afieldAddr Try.prog 69 (.ptr id off) 2 = some (.ptr id (off + 2)) := by kernel_rfl
theorem bd_75_0_2_3 (a0 : List UInt8) (a1 : List UInt8) (a2 : Int) : abuild Try.prog 75 [(0, .str a0), (2, .str a1), (3, .int .i64 a2)] = some (.agg [.str a0, .bool false, .str a1, .int .i64 a2, .int .i64 0]) := by kernel_rfl
theorem bd_69_  : abuild Try.prog 69 [] = some (.agg [.val (.slice none 0 0), .val (.slice none 0 0), .val (.slice none 0 0)]) := by kernel_rfl
def kf_98 : List AV → Option AV
  | [.int .u64 p, .int .i64 power] => (F_ref04_root p power).map fun r => .int .u32 r
  | _ => none
theorem kf_98_eq (p : Int) (power : Int) : kf_98 [.int .u64 p, .int .i64 power] = (F_ref04_root p power).map fun r => .int .u32 r := rfl
def kf_59 : List AV → Option AV
  | [.str s_] => (F_ref04_padded s_).map fun r => .str r
  | _ => none
theorem kf_59_eq (s_ : List UInt8) : kf_59 [.str s_] = (F_ref04_padded s_).map fun r => .str r := rfl
def kf_61 : List AV → Option AV
  | [.int .u32 a, .int .i64 n_] => (F_ref04_right a n_).map fun r => .int .u32 r
  | _ => none
theorem kf_61_eq (a : Int) (n_ : Int) : kf_61 [.int .u32 a, .int .i64 n_] = (F_ref04_right a n_).map fun r => .int .u32 r := rfl
def kf_15 : List AV → Option AV
  | [.str s_] => (F_ref04_Of s_).map fun r => .str r
  | _ => none
theorem kf_15_eq (s_ : List UInt8) : kf_15 [.str s_] = (F_ref04_Of s_).map fun r => .str r := rfl
def kf_62 : List AV → Option AV
  | [] => (F_sha_first).map fun r => .agg [.int .u32 r.x0, .int .u32 r.x1, .int .u32 r.x2, .int .u32 r.x3, .int .u32 r.x4, .int .u32 r.x5, .int .u32 r.x6, .int .u32 r.x7]
  | _ => none
theorem kf_62_eq : kf_62 [] = (F_sha_first ).map fun r => .agg [.int .u32 r.x0, .int .u32 r.x1, .int .u32 r.x2, .int .u32 r.x3, .int .u32 r.x4, .int .u32 r.x5, .int .u32 r.x6, .int .u32 r.x7] := rfl
def kf_134 : List AV → Option AV
  | [.int .u32 x_, .int .i64 k] => (F_math_bits_RotateLeft32 x_ k).map fun r => .int .u32 r
  | _ => none
theorem kf_134_eq (x_ : Int) (k : Int) : kf_134 [.int .u32 x_, .int .i64 k] = (F_math_bits_RotateLeft32 x_ k).map fun r => .int .u32 r := rfl
def kf_123 : List AV → Option AV
  | [.int .u32 a, .int .i64 n_] => (F_sha_right a n_).map fun r => .int .u32 r
  | _ => none
theorem kf_123_eq (a : Int) (n_ : Int) : kf_123 [.int .u32 a, .int .i64 n_] = (F_sha_right a n_).map fun r => .int .u32 r := rfl
def kf_101 : List AV → Option AV
  | [.agg [.int .u32 v_0, .int .u32 v_1, .int .u32 v_2, .int .u32 v_3, .int .u32 v_4, .int .u32 v_5, .int .u32 v_6, .int .u32 v_7], .int .u32 k, .int .u32 w] => (F_sha_state_step (⟨v_0, v_1, v_2, v_3, v_4, v_5, v_6, v_7⟩ : GA8_u32) k w).map fun r => .agg [.int .u32 r.x0, .int .u32 r.x1, .int .u32 r.x2, .int .u32 r.x3, .int .u32 r.x4, .int .u32 r.x5, .int .u32 r.x6, .int .u32 r.x7]
  | _ => none
theorem kf_101_eq (v : GA8_u32) (k : Int) (w : Int) : kf_101 [.agg [.int .u32 v.x0, .int .u32 v.x1, .int .u32 v.x2, .int .u32 v.x3, .int .u32 v.x4, .int .u32 v.x5, .int .u32 v.x6, .int .u32 v.x7], .int .u32 k, .int .u32 w] = (F_sha_state_step v k w).map fun r => .agg [.int .u32 r.x0, .int .u32 r.x1, .int .u32 r.x2, .int .u32 r.x3, .int .u32 r.x4, .int .u32 r.x5, .int .u32 r.x6, .int .u32 r.x7] := rfl
def kf_63 : List AV → Option AV
  | [.agg [.int .u32 v_0, .int .u32 v_1, .int .u32 v_2, .int .u32 v_3, .int .u32 v_4, .int .u32 v_5, .int .u32 v_6, .int .u32 v_7], .str s_] => (F_sha_state_blocks (⟨v_0, v_1, v_2, v_3, v_4, v_5, v_6, v_7⟩ : GA8_u32) s_).map fun r => .agg [.int .u32 r.x0, .int .u32 r.x1, .int .u32 r.x2, .int .u32 r.x3, .int .u32 r.x4, .int .u32 r.x5, .int .u32 r.x6, .int .u32 r.x7]
  | _ => none
theorem kf_63_eq (v : GA8_u32) (s_ : List UInt8) : kf_63 [.agg [.int .u32 v.x0, .int .u32 v.x1, .int .u32 v.x2, .int .u32 v.x3, .int .u32 v.x4, .int .u32 v.x5, .int .u32 v.x6, .int .u32 v.x7], .str s_] = (F_sha_state_blocks v s_).map fun r => .agg [.int .u32 r.x0, .int .u32 r.x1, .int .u32 r.x2, .int .u32 r.x3, .int .u32 r.x4, .int .u32 r.x5, .int .u32 r.x6, .int .u32 r.x7] := rfl
def kf_64 : List AV → Option AV := kx_repeat
theorem kf_64_eq (x0 : List UInt8) (x1 : Int) : kf_64 [.str x0, .int .i64 x1] = (F_strings_Repeat x0 x1).map fun r => .str r := rfl
def kf_65 : List AV → Option AV
  | [.int .u64 n_, .int .i64 size] => (F_sha_high n_ size).map fun r => .str r
  | _ => none
theorem kf_65_eq (n_ : Int) (size : Int) : kf_65 [.int .u64 n_, .int .i64 size] = (F_sha_high n_ size).map fun r => .str r := rfl
def kf_16 : List AV → Option AV
  | [.str s_] => (F_sha_Of s_).map fun r => .str r
  | _ => none
theorem kf_16_eq (s_ : List UInt8) : kf_16 [.str s_] = (F_sha_Of s_).map fun r => .str r := rfl
def kf_117 : List AV → Option AV
  | [.int .u64 v, .int .i64 n_] => (F_field_put v n_).map fun r => .str r
  | _ => none
theorem kf_117_eq (v : Int) (n_ : Int) : kf_117 [.int .u64 v, .int .i64 n_] = (F_field_put v n_).map fun r => .str r := rfl
def kf_90 : List AV → Option AV
  | [.int .i64 n_] => (F_field_P32 n_).map fun r => .str r
  | _ => none
theorem kf_90_eq (n_ : Int) : kf_90 [.int .i64 n_] = (F_field_P32 n_).map fun r => .str r := rfl
def kf_116 : List AV → Option AV
  | [.int .i64 n_] => (F_field_P16 n_).map fun r => .str r
  | _ => none
theorem kf_116_eq (n_ : Int) : kf_116 [.int .i64 n_] = (F_field_P16 n_).map fun r => .str r := rfl
def kf_49 : List AV → Option AV
  | [.agg [.str n__0, .bool n__1, .str n__2, .int .i64 n__3, .int .i64 n__4]] => (F_digest_Node (⟨n__0, n__1, n__2, n__3, n__4⟩ : Gapi_Node)).map fun r => .str r
  | _ => none
theorem kf_49_eq (n_ : Gapi_Node) : kf_49 [.agg [.str n_.xPath, .bool n_.xDir, .str n_.xData, .int .i64 n_.xMode, .int .i64 n_.xTime]] = (F_digest_Node n_).map fun r => .str r := rfl
def kf_88 : List AV → Option AV
  | [.int .u64 v, .int .i64 n_] => (F_ref02_Put v n_).map fun r => .str r
  | _ => none
theorem kf_88_eq (v : Int) (n_ : Int) : kf_88 [.int .u64 v, .int .i64 n_] = (F_ref02_Put v n_).map fun r => .str r := rfl
def kf_50 : List AV → Option AV
  | [.agg [.str n__0, .bool n__1, .str n__2, .int .i64 n__3, .int .i64 n__4]] => (F_ref39_Node (⟨n__0, n__1, n__2, n__3, n__4⟩ : Gapi_Node)).map fun r => .str r
  | _ => none
theorem kf_50_eq (n_ : Gapi_Node) : kf_50 [.agg [.str n_.xPath, .bool n_.xDir, .str n_.xData, .int .i64 n_.xMode, .int .i64 n_.xTime]] = (F_ref39_Node n_).map fun r => .str r := rfl
def kf_126 : List AV → Option AV
  | [.str s_, .str prefix_] => (F_internal_stringslite_HasPrefix s_ prefix_).map fun r => .bool r
  | _ => none
theorem kf_126_eq (s_ : List UInt8) (prefix_ : List UInt8) : kf_126 [.str s_, .str prefix_] = (F_internal_stringslite_HasPrefix s_ prefix_).map fun r => .bool r := rfl
def kf_103 : List AV → Option AV
  | [.str s_, .str prefix_] => (F_strings_HasPrefix s_ prefix_).map fun r => .bool r
  | _ => none
theorem kf_103_eq (s_ : List UInt8) (prefix_ : List UInt8) : kf_103 [.str s_, .str prefix_] = (F_strings_HasPrefix s_ prefix_).map fun r => .bool r := rfl
def kf_95 : List AV → Option AV
  | [.str p, .str dir] => (F_route_Under p dir).map fun r => .bool r
  | _ => none
theorem kf_95_eq (p : List UInt8) (dir : List UInt8) : kf_95 [.str p, .str dir] = (F_route_Under p dir).map fun r => .bool r := rfl
def kf_96 : List AV → Option AV
  | [.str p, .str dir] => (F_ref13_Under p dir).map fun r => .bool r
  | _ => none
theorem kf_96_eq (p : List UInt8) (dir : List UInt8) : kf_96 [.str p, .str dir] = (F_ref13_Under p dir).map fun r => .bool r := rfl
def kf_107 : List AV → Option AV
  | [.str s_, .int .i64 at_, .int .i64 n_] => (F_field_Cut s_ at_ n_).map fun r => .tup [.str r.1, .int .i64 r.2]
  | _ => none
theorem kf_107_eq (s_ : List UInt8) (at_ : Int) (n_ : Int) : kf_107 [.str s_, .int .i64 at_, .int .i64 n_] = (F_field_Cut s_ at_ n_).map fun r => .tup [.str r.1, .int .i64 r.2] := rfl
def kf_129 : List AV → Option AV
  | [.str s_, .int .i64 at_, .int .i64 n_] => (F_field_number s_ at_ n_).map fun r => .tup [.int .u64 r.1, .int .i64 r.2]
  | _ => none
theorem kf_129_eq (s_ : List UInt8) (at_ : Int) (n_ : Int) : kf_129 [.str s_, .int .i64 at_, .int .i64 n_] = (F_field_number s_ at_ n_).map fun r => .tup [.int .u64 r.1, .int .i64 r.2] := rfl
def kf_108 : List AV → Option AV
  | [.str s_, .int .i64 at_] => (F_field_U16 s_ at_).map fun r => .tup [.int .i64 r.1, .int .i64 r.2]
  | _ => none
theorem kf_108_eq (s_ : List UInt8) (at_ : Int) : kf_108 [.str s_, .int .i64 at_] = (F_field_U16 s_ at_).map fun r => .tup [.int .i64 r.1, .int .i64 r.2] := rfl
def kf_109 : List AV → Option AV
  | [.str s_, .int .i64 at_] => (F_field_U32 s_ at_).map fun r => .tup [.int .i64 r.1, .int .i64 r.2]
  | _ => none
theorem kf_109_eq (s_ : List UInt8) (at_ : Int) : kf_109 [.str s_, .int .i64 at_] = (F_field_U32 s_ at_).map fun r => .tup [.int .i64 r.1, .int .i64 r.2] := rfl
def kf_131 : List AV → Option AV
  | [.str s_, .int .i64 at_] => (F_field_U64 s_ at_).map fun r => .tup [.int .u64 r.1, .int .i64 r.2]
  | _ => none
theorem kf_131_eq (s_ : List UInt8) (at_ : Int) : kf_131 [.str s_, .int .i64 at_] = (F_field_U64 s_ at_).map fun r => .tup [.int .u64 r.1, .int .i64 r.2] := rfl
def kf_133 : List AV → Option AV
  | [.int .u64 n_] => (F_field_P64 n_).map fun r => .str r
  | _ => none
theorem kf_133_eq (n_ : Int) : kf_133 [.int .u64 n_] = (F_field_P64 n_).map fun r => .str r := rfl
def kf_74 : List AV → Option AV
  | [.str s_, .int .i64 at_, .int .i64 n_] => (F_ref02_Cut s_ at_ n_).map fun r => .tup [.str r.1, .int .i64 r.2]
  | _ => none
theorem kf_74_eq (s_ : List UInt8) (at_ : Int) (n_ : Int) : kf_74 [.str s_, .int .i64 at_, .int .i64 n_] = (F_ref02_Cut s_ at_ n_).map fun r => .tup [.str r.1, .int .i64 r.2] := rfl
def kf_112 : List AV → Option AV
  | [.str s_, .int .i64 at_, .int .i64 n_] => (F_ref02_Num s_ at_ n_).map fun r => .tup [.int .u64 r.1, .int .i64 r.2]
  | _ => none
theorem kf_112_eq (s_ : List UInt8) (at_ : Int) (n_ : Int) : kf_112 [.str s_, .int .i64 at_, .int .i64 n_] = (F_ref02_Num s_ at_ n_).map fun r => .tup [.int .u64 r.1, .int .i64 r.2] := rfl
def kf_76 : List AV → Option AV
  | [.str s_, .int .i64 at_] => (F_ref02_U16 s_ at_).map fun r => .int .i64 r
  | _ => none
theorem kf_76_eq (s_ : List UInt8) (at_ : Int) : kf_76 [.str s_, .int .i64 at_] = (F_ref02_U16 s_ at_).map fun r => .int .i64 r := rfl
def kf_75 : List AV → Option AV
  | [.str s_, .int .i64 at_] => (F_ref02_U32 s_ at_).map fun r => .int .i64 r
  | _ => none
theorem kf_75_eq (s_ : List UInt8) (at_ : Int) : kf_75 [.str s_, .int .i64 at_] = (F_ref02_U32 s_ at_).map fun r => .int .i64 r := rfl
end Go.Proofs.YtobhmahlenjheaaM
