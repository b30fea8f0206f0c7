/- Facts of the program's types, and its functions as hooks: printed by lift.py. -/
import Derived.Test.YtikkpmmhejjpaaaDEF
import Derived.Test.YtikkpmmhejjpaaaChecked
import Derived.KernelRfl
set_option linter.unusedSimpArgs false
set_option linter.unusedVariables false
namespace Go.Proofs.YtikkpmmhejjpaaaM
open Go Go.RowKit
set_option maxRecDepth 100000
theorem sl_70 : SlTy Try.prog 70 5 1 := ⟨Try.underlying70, by kernel_rfl, by kernel_rfl, by omega, by omega⟩
theorem zero_5 : zeroOf Try.prog 5 = some (.int .u8 0) := by kernel_rfl
theorem sz_5 : szOf Try.prog 5 = some 1 := by kernel_rfl
theorem fa_110_0 (id off : Nat) : afieldAddr Try.prog 110 (.ptr id off) 0 = some (.ptr id (off + 0)) := by kernel_rfl
theorem ag_9 : isAg Try.prog 9 = some false := by kernel_rfl
theorem sz_9 : szOf Try.prog 9 = some 1 := by kernel_rfl
theorem fa_110_4 (id off : Nat) : afieldAddr Try.prog 110 (.ptr id off) 4 = some (.ptr id (off + 5)) := by kernel_rfl
theorem ag_108 : isAg Try.prog 108 = some false := by kernel_rfl
theorem sz_108 : szOf Try.prog 108 = some 1 := by kernel_rfl
theorem mp_108 : mapOf Try.prog 108 = some (9, 3) := by kernel_rfl
theorem ky_108 : KeyTy (Try.prog.underlying 9) AV.str := by rw [Try.underlying9]; exact KeyTy.str
theorem zero_3 : zeroOf Try.prog 3 = some (.int .i64 0) := by kernel_rfl
theorem fa_110_1 (id off : Nat) : afieldAddr Try.prog 110 (.ptr id off) 1 = some (.ptr id (off + 1)) := by kernel_rfl
theorem fa_110_3 (id off : Nat) : afieldAddr Try.prog 110 (.ptr id off) 3 = some (.ptr id (off + 4)) := by kernel_rfl
theorem ag_3 : isAg Try.prog 3 = some false := by kernel_rfl
theorem sz_3 : szOf Try.prog 3 = some 1 := by kernel_rfl
theorem fa_110_2 (id off : Nat) : afieldAddr Try.prog 110 (.ptr id off) 2 = some (.ptr id (off + 2)) := by kernel_rfl
theorem bl_110_2 : BLies 110 2 2 := by unfold BLies; kernel_rfl
theorem bd_110_0_1_4 (a0 : List UInt8) (a1 : List UInt8) (a2 : Nat) : abuild Try.prog 110 [(0, .str a0), (1, .str a1), (4, .map a2)] = some (.agg [.str a0, .str a1, .val (.pointer none), .val (.slice none 0 0), .int .i64 0, .map a2]) := by kernel_rfl
theorem fa_113_2 (id off : Nat) : afieldAddr Try.prog 113 (.ptr id off) 2 = some (.ptr id (off + 2)) := by kernel_rfl
theorem ag_26 : isAg Try.prog 26 = some false := by kernel_rfl
theorem sz_26 : szOf Try.prog 26 = some 1 := by kernel_rfl
theorem fa_113_0 (id off : Nat) : afieldAddr Try.prog 113 (.ptr id off) 0 = some (.ptr id (off + 0)) := by kernel_rfl
theorem fa_113_1 (id off : Nat) : afieldAddr Try.prog 113 (.ptr id off) 1 = some (.ptr id (off + 1)) := by kernel_rfl
theorem bd_113_0 (a0 : List UInt8) : abuild Try.prog 113 [(0, .str a0)] = some (.agg [.str a0, .int .i64 0, .int .i64 0]) := by kernel_rfl
theorem zero_88 : zeroOf Try.prog 88 = some (.agg [.val (.pointer none), .val (.slice none 0 0)]) := by kernel_rfl
def kf_47 : List AV → Option AV
  | [.str s_, .int .i64 at_, .int .i64 n_] => (F_field_Cut s_ at_ n_).map fun r => .tup [.str r.1, .int .i64 r.2]
  | _ => none
theorem kf_47_eq (s_ : List UInt8) (at_ : Int) (n_ : Int) : kf_47 [.str s_, .int .i64 at_, .int .i64 n_] = (F_field_Cut s_ at_ n_).map fun r => .tup [.str r.1, .int .i64 r.2] := rfl
def kf_46 : List AV → Option AV
  | [.str s_, .int .i64 at_, .int .i64 n_] => (F_field_number s_ at_ n_).map fun r => .tup [.int .u64 r.1, .int .i64 r.2]
  | _ => none
theorem kf_46_eq (s_ : List UInt8) (at_ : Int) (n_ : Int) : kf_46 [.str s_, .int .i64 at_, .int .i64 n_] = (F_field_number s_ at_ n_).map fun r => .tup [.int .u64 r.1, .int .i64 r.2] := rfl
def kf_16 : List AV → Option AV
  | [.str s_, .int .i64 at_] => (F_field_U16 s_ at_).map fun r => .tup [.int .i64 r.1, .int .i64 r.2]
  | _ => none
theorem kf_16_eq (s_ : List UInt8) (at_ : Int) : kf_16 [.str s_, .int .i64 at_] = (F_field_U16 s_ at_).map fun r => .tup [.int .i64 r.1, .int .i64 r.2] := rfl
def kf_17 : List AV → Option AV
  | [.str s_, .int .i64 at_] => (F_field_U32 s_ at_).map fun r => .tup [.int .i64 r.1, .int .i64 r.2]
  | _ => none
theorem kf_17_eq (s_ : List UInt8) (at_ : Int) : kf_17 [.str s_, .int .i64 at_] = (F_field_U32 s_ at_).map fun r => .tup [.int .i64 r.1, .int .i64 r.2] := rfl
def kf_18 : List AV → Option AV
  | [.str s_, .int .i64 at_] => (F_field_U64 s_ at_).map fun r => .tup [.int .u64 r.1, .int .i64 r.2]
  | _ => none
theorem kf_18_eq (s_ : List UInt8) (at_ : Int) : kf_18 [.str s_, .int .i64 at_] = (F_field_U64 s_ at_).map fun r => .tup [.int .u64 r.1, .int .i64 r.2] := rfl
def kf_45 : List AV → Option AV
  | [.int .u64 v, .int .i64 n_] => (F_field_put v n_).map fun r => .str r
  | _ => none
theorem kf_45_eq (v : Int) (n_ : Int) : kf_45 [.int .u64 v, .int .i64 n_] = (F_field_put v n_).map fun r => .str r := rfl
def kf_13 : List AV → Option AV
  | [.int .i64 n_] => (F_field_P16 n_).map fun r => .str r
  | _ => none
theorem kf_13_eq (n_ : Int) : kf_13 [.int .i64 n_] = (F_field_P16 n_).map fun r => .str r := rfl
def kf_14 : List AV → Option AV
  | [.int .i64 n_] => (F_field_P32 n_).map fun r => .str r
  | _ => none
theorem kf_14_eq (n_ : Int) : kf_14 [.int .i64 n_] = (F_field_P32 n_).map fun r => .str r := rfl
def kf_15 : List AV → Option AV
  | [.int .u64 n_] => (F_field_P64 n_).map fun r => .str r
  | _ => none
theorem kf_15_eq (n_ : Int) : kf_15 [.int .u64 n_] = (F_field_P64 n_).map fun r => .str r := rfl
def kf_49 : List AV → Option AV
  | [.str s_, .int .i64 at_, .int .i64 n_] => (F_ref02_Cut s_ at_ n_).map fun r => .tup [.str r.1, .int .i64 r.2]
  | _ => none
theorem kf_49_eq (s_ : List UInt8) (at_ : Int) (n_ : Int) : kf_49 [.str s_, .int .i64 at_, .int .i64 n_] = (F_ref02_Cut s_ at_ n_).map fun r => .tup [.str r.1, .int .i64 r.2] := rfl
def kf_53 : List AV → Option AV
  | [.str s_, .int .i64 at_, .int .i64 n_] => (F_ref02_Num s_ at_ n_).map fun r => .tup [.int .u64 r.1, .int .i64 r.2]
  | _ => none
theorem kf_53_eq (s_ : List UInt8) (at_ : Int) (n_ : Int) : kf_53 [.str s_, .int .i64 at_, .int .i64 n_] = (F_ref02_Num s_ at_ n_).map fun r => .tup [.int .u64 r.1, .int .i64 r.2] := rfl
def kf_48 : List AV → Option AV
  | [.str s_, .int .i64 at_] => (F_ref02_U16 s_ at_).map fun r => .int .i64 r
  | _ => none
theorem kf_48_eq (s_ : List UInt8) (at_ : Int) : kf_48 [.str s_, .int .i64 at_] = (F_ref02_U16 s_ at_).map fun r => .int .i64 r := rfl
def kf_59 : List AV → Option AV
  | [.str s_, .int .i64 at_] => (F_ref02_U32 s_ at_).map fun r => .int .i64 r
  | _ => none
theorem kf_59_eq (s_ : List UInt8) (at_ : Int) : kf_59 [.str s_, .int .i64 at_] = (F_ref02_U32 s_ at_).map fun r => .int .i64 r := rfl
def kf_19 : List AV → Option AV
  | [.int .u64 v, .int .i64 n_] => (F_ref02_Put v n_).map fun r => .str r
  | _ => none
theorem kf_19_eq (v : Int) (n_ : Int) : kf_19 [.int .u64 v, .int .i64 n_] = (F_ref02_Put v n_).map fun r => .str r := rfl
def kf_64 : List AV → Option AV
  | [.int .i64 n_] => (F_delta_number n_).map fun r => .str r
  | _ => none
theorem kf_64_eq (n_ : Int) : kf_64 [.int .i64 n_] = (F_delta_number n_).map fun r => .str r := rfl
def kf_42 : List AV → Option AV
  | [.str old_, .str to_] => (F_delta_Make old_ to_).map fun r => .tup [.str r.1, .int .i64 r.2]
  | _ => none
theorem kf_42_eq (old_ : List UInt8) (to_ : List UInt8) : kf_42 [.str old_, .str to_] = (F_delta_Make old_ to_).map fun r => .tup [.str r.1, .int .i64 r.2] := rfl
def kf_40 : List AV → Option AV
  | [.str s_, .int .i64 at_] => (F_delta_Next s_ at_).map fun r => .tup [.int .i64 r.1, .int .i64 r.2.1, .int .i64 r.2.2]
  | _ => none
theorem kf_40_eq (s_ : List UInt8) (at_ : Int) : kf_40 [.str s_, .int .i64 at_] = (F_delta_Next s_ at_).map fun r => .tup [.int .i64 r.1, .int .i64 r.2.1, .int .i64 r.2.2] := rfl
def kf_43 : List AV → Option AV
  | [.str old_, .str delta] => (F_delta_Apply old_ delta).map fun r => .tup [.str r.1, .int .i64 r.2]
  | _ => none
theorem kf_43_eq (old_ : List UInt8) (delta : List UInt8) : kf_43 [.str old_, .str delta] = (F_delta_Apply old_ delta).map fun r => .tup [.str r.1, .int .i64 r.2] := rfl
def kf_38 : List AV → Option AV
  | [.int .i64 n_] => (F_delta_Number n_).map fun r => .tup [.str r.1, .int .i64 r.2]
  | _ => none
theorem kf_38_eq (n_ : Int) : kf_38 [.int .i64 n_] = (F_delta_Number n_).map fun r => .tup [.str r.1, .int .i64 r.2] := rfl
def kf_41 : List AV → Option AV
  | [.str s_, .int .i64 at_] => (F_ref40_Next s_ at_).map fun r => .tup [.int .i64 r.1, .int .i64 r.2.1, .int .i64 r.2.2]
  | _ => none
theorem kf_41_eq (s_ : List UInt8) (at_ : Int) : kf_41 [.str s_, .int .i64 at_] = (F_ref40_Next s_ at_).map fun r => .tup [.int .i64 r.1, .int .i64 r.2.1, .int .i64 r.2.2] := rfl
def kf_44 : List AV → Option AV
  | [.str old_, .str delta] => (F_ref40_Apply old_ delta).map fun r => .tup [.str r.1, .int .i64 r.2]
  | _ => none
theorem kf_44_eq (old_ : List UInt8) (delta : List UInt8) : kf_44 [.str old_, .str delta] = (F_ref40_Apply old_ delta).map fun r => .tup [.str r.1, .int .i64 r.2] := rfl
def kf_10 : List AV → Option AV
  | [.str old_, .str to_] => (F_law40_DeltaMakes old_ to_).map fun r => .bool r
  | _ => none
theorem kf_10_eq (old_ : List UInt8) (to_ : List UInt8) : kf_10 [.str old_, .str to_] = (F_law40_DeltaMakes old_ to_).map fun r => .bool r := rfl
def kf_11 : List AV → Option AV
  | [.str old_, .str d] => (F_law40_DeltaApplies old_ d).map fun r => .bool r
  | _ => none
theorem kf_11_eq (old_ : List UInt8) (d : List UInt8) : kf_11 [.str old_, .str d] = (F_law40_DeltaApplies old_ d).map fun r => .bool r := rfl
end Go.Proofs.YtikkpmmhejjpaaaM
