/- Facts of the program's types, and its functions as hooks: printed by lift.py. -/
import Derived.Test.YtikkpmmhejjpaaaDoorFOF
import Derived.Test.YtikkpmmhejjpaaaDoorChecked
import Derived.KernelRfl
set_option linter.unusedSimpArgs false
set_option linter.unusedVariables false
namespace Go.Proofs.YtikkpmmhejjpaaaDoorM
open Go Go.RowKit
set_option maxRecDepth 100000
theorem gvl_0 : gv_0.length = 256 := by kernel_rfl
theorem sz_5 : szOf Tryd.prog 5 = some 1 := by kernel_rfl
theorem gvz_0 (z : Int) : ((cellI .u8) z).length = 1 := rfl
theorem ag_5 : isAg Tryd.prog 5 = some false := by kernel_rfl
theorem gvl_1 : gv_1.length = 16 := by kernel_rfl
theorem sz_58 : szOf Tryd.prog 58 = some 2 := by kernel_rfl
theorem gvz_1 (z : Gunicode_utf8_acceptRange) : (Gunicode_utf8_acceptRange.cells z).length = 2 := rfl
theorem ag_58 : isAg Tryd.prog 58 = some true := by kernel_rfl
theorem zero_58 : zeroOf Tryd.prog 58 = some (.agg [.int .u8 0, .int .u8 0]) := by kernel_rfl
theorem fa_58_0 (id off : Nat) : afieldAddr Tryd.prog 58 (.ptr id off) 0 = some (.ptr id (off + 0)) := by kernel_rfl
theorem fa_58_1 (id off : Nat) : afieldAddr Tryd.prog 58 (.ptr id off) 1 = some (.ptr id (off + 1)) := by kernel_rfl
theorem bd_49_0_1_2_3 (a0 a1 a2 a3 : Int) : abuild Tryd.prog 49 [(0, .int .i64 a0), (1, .int .i64 a1), (2, .int .i64 a2), (3, .int .i64 a3)] = some (.agg [.int .i64 a0, .int .i64 a1, .int .i64 a2, .int .i64 a3]) := by kernel_rfl
theorem sl_50 : SlTy Tryd.prog 50 49 4 := ⟨Tryd.underlying50, by kernel_rfl, by kernel_rfl, by omega, by omega⟩
theorem ag_49 : isAg Tryd.prog 49 = some true := by kernel_rfl
theorem sz_49 : szOf Tryd.prog 49 = some 4 := by kernel_rfl
theorem zero_49 : zeroOf Tryd.prog 49 = some (.agg [.int .i64 0, .int .i64 0, .int .i64 0, .int .i64 0]) := by kernel_rfl
theorem sz_3 : szOf Tryd.prog 3 = some 1 := by kernel_rfl
theorem ia_49 (id off : Nat) (k : IntKind) {i : Int} (h0 : 0 ≤ i) (h1 : i < 4) : aindexAddr Tryd.prog 49 (.ptr id off) (.int k i) = some (.ptr id (off + i.toNat * 1)) := by
  have hs := sz_3
  simp only [aindexAddr, Tryd.underlying49, hs]
  rw [if_pos ⟨h0, h1⟩]
theorem ag_3 : isAg Tryd.prog 3 = some false := by kernel_rfl
theorem bd_29_0_1_2 (a0 a1 a2 : Int) : abuild Tryd.prog 29 [(0, .int .i64 a0), (1, .int .i64 a1), (2, .int .i64 a2)] = some (.agg [.int .i64 a0, .int .i64 a1, .int .i64 a2]) := by kernel_rfl
theorem sl_27 : SlTy Tryd.prog 27 29 3 := ⟨Tryd.underlying27, by kernel_rfl, by kernel_rfl, by omega, by omega⟩
theorem ia_29 (id off : Nat) (k : IntKind) {i : Int} (h0 : 0 ≤ i) (h1 : i < 3) : aindexAddr Tryd.prog 29 (.ptr id off) (.int k i) = some (.ptr id (off + i.toNat * 1)) := by
  have hs := sz_3
  simp only [aindexAddr, Tryd.underlying29, hs]
  rw [if_pos ⟨h0, h1⟩]
theorem ag_29 : isAg Tryd.prog 29 = some true := by kernel_rfl
theorem sz_29 : szOf Tryd.prog 29 = some 3 := by kernel_rfl
theorem ix_29_2 (id off : Nat) (k : IntKind) : aindexAddr Tryd.prog 29 (.ptr id off) (.int k 2) = some (.ptr id (off + 2)) := by
  have hs := sz_3
  simp only [aindexAddr, Tryd.underlying29, hs]
  rfl
theorem sl_32 : SlTy Tryd.prog 32 5 1 := ⟨Tryd.underlying32, by kernel_rfl, by kernel_rfl, by omega, by omega⟩
theorem zero_34 : zeroOf Tryd.prog 34 = some (.agg [.val (.pointer none), .val (.slice none 0 0)]) := by kernel_rfl
theorem sl_54 : SlTy Tryd.prog 54 3 1 := ⟨Tryd.underlying54, by kernel_rfl, by kernel_rfl, by omega, by omega⟩
theorem zero_29 : zeroOf Tryd.prog 29 = some (.agg [.int .i64 0, .int .i64 0, .int .i64 0]) := by kernel_rfl
theorem eqb_4_neq_00 (a b : Bool) : aeqOp Tryd.prog .neq 4 false false (.bool a) (.bool b) = some (.bool (!(a == b))) := by cases a <;> cases b <;> kernel_rfl
def kf_20 : List AV → Option AV
  | [.agg [.int .i64 r_0, .int .i64 r_1, .int .i64 r_2], .int .i64 code] => (F_fold_Small_1 [r_0, r_1, r_2] code).map fun r => .int .i64 r
  | _ => none
theorem kf_20_eq (r_0 r_1 r_2 : Int) (code : Int) : kf_20 [.agg [.int .i64 r_0, .int .i64 r_1, .int .i64 r_2], .int .i64 code] = (F_fold_Small_1 [r_0, r_1, r_2] code).map fun r => .int .i64 r := rfl
def kf_10 : List AV → Option AV
  | [.int .i64 code] => (F_fold_Small code).map fun r => .int .i64 r
  | _ => none
theorem kf_10_eq (code : Int) : kf_10 [.int .i64 code] = (F_fold_Small code).map fun r => .int .i64 r := rfl
def kf_24 : List AV → Option AV
  | [.int .u8 c] => (F_ref13_long c).map fun r => .tup [.int .i64 r.1, .int .i64 r.2]
  | _ => none
theorem kf_24_eq (c : Int) : kf_24 [.int .u8 c] = (F_ref13_long c).map fun r => .tup [.int .i64 r.1, .int .i64 r.2] := rfl
def kf_17 : List AV → Option AV
  | [.str s_, .int .i64 at_] => (F_ref13_Next s_ at_).map fun r => .tup [.int .i64 r.1, .int .i64 r.2]
  | _ => none
theorem kf_17_eq (s_ : List UInt8) (at_ : Int) : kf_17 [.str s_, .int .i64 at_] = (F_ref13_Next s_ at_).map fun r => .tup [.int .i64 r.1, .int .i64 r.2] := rfl
def kf_11 : List AV → Option AV
  | [.int .i64 c] => (F_ref14_Small c).map fun r => .int .i64 r
  | _ => none
theorem kf_11_eq (c : Int) : kf_11 [.int .i64 c] = (F_ref14_Small c).map fun r => .int .i64 r := rfl
def kf_18 : List AV → Option AV
  | [.int .i64 c] => (F_ref14_utf8 c).map fun r => .str r
  | _ => none
theorem kf_18_eq (c : Int) : kf_18 [.int .i64 c] = (F_ref14_utf8 c).map fun r => .str r := rfl
def kf_8 : List AV → Option AV
  | [.str s_] => (F_ref14_Fold s_).map fun r => .str r
  | _ => none
theorem kf_8_eq (s_ : List UInt8) : kf_8 [.str s_] = (F_ref14_Fold s_).map fun r => .str r := rfl
end Go.Proofs.YtikkpmmhejjpaaaDoorM
