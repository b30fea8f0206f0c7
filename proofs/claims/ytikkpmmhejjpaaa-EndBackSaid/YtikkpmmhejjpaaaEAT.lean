/- Facts of the program's types, and its functions as hooks: printed by lift.py. -/
import Derived.Test.YtikkpmmhejjpaaaEAF
import Derived.Test.YtikkpmmhejjpaaaChecked
import Derived.KernelRfl
set_option linter.unusedSimpArgs false
set_option linter.unusedVariables false
namespace Go.Proofs.YtikkpmmhejjpaaaM
open Go Go.RowKit
set_option maxRecDepth 100000
theorem fa_62_5 (id off : Nat) : afieldAddr Try.prog 62 (.ptr id off) 5 = some (.ptr id (off + 5)) := by kernel_rfl
theorem ag_4 : isAg Try.prog 4 = some false := by kernel_rfl
theorem sz_4 : szOf Try.prog 4 = some 1 := by kernel_rfl
theorem fa_62_1 (id off : Nat) : afieldAddr Try.prog 62 (.ptr id off) 1 = some (.ptr id (off + 1)) := by kernel_rfl
theorem ag_3 : isAg Try.prog 3 = some false := by kernel_rfl
theorem sz_3 : szOf Try.prog 3 = some 1 := by kernel_rfl
theorem fa_62_2 (id off : Nat) : afieldAddr Try.prog 62 (.ptr id off) 2 = some (.ptr id (off + 2)) := by kernel_rfl
theorem fa_62_3 (id off : Nat) : afieldAddr Try.prog 62 (.ptr id off) 3 = some (.ptr id (off + 3)) := by kernel_rfl
theorem fa_62_0 (id off : Nat) : afieldAddr Try.prog 62 (.ptr id off) 0 = some (.ptr id (off + 0)) := by kernel_rfl
theorem fa_62_4 (id off : Nat) : afieldAddr Try.prog 62 (.ptr id off) 4 = some (.ptr id (off + 4)) := by kernel_rfl
theorem ag_9 : isAg Try.prog 9 = some false := by kernel_rfl
theorem sz_9 : szOf Try.prog 9 = some 1 := by kernel_rfl
theorem sl_70 : SlTy Try.prog 70 5 1 := ⟨Try.underlying70, by kernel_rfl, by kernel_rfl, by omega, by omega⟩
theorem zero_5 : zeroOf Try.prog 5 = some (.int .u8 0) := by kernel_rfl
theorem sz_5 : szOf Try.prog 5 = some 1 := by kernel_rfl
theorem sl_52 : SlTy Try.prog 52 3 1 := ⟨Try.underlying52, by kernel_rfl, by kernel_rfl, by omega, by omega⟩
theorem ag_62 : isAg Try.prog 62 = some true := by kernel_rfl
theorem sz_62 : szOf Try.prog 62 = some 6 := by kernel_rfl
theorem fa_100_0 (id off : Nat) : afieldAddr Try.prog 100 (.ptr id off) 0 = some (.ptr id (off + 0)) := by kernel_rfl
theorem bd_100_0 (a0 : List UInt8) : abuild Try.prog 100 [(0, .str a0)] = some (.agg [.str a0]) := by kernel_rfl
theorem zero_100 : zeroOf Try.prog 100 = some (.agg [.str []]) := by kernel_rfl
theorem sz_100 : szOf Try.prog 100 = some 1 := by kernel_rfl
theorem ag_100 : isAg Try.prog 100 = some true := by kernel_rfl
theorem zero_62 : zeroOf Try.prog 62 = some (.agg [.int .i64 0, .int .i64 0, .int .i64 0, .int .i64 0, .str [], .bool false]) := by kernel_rfl
theorem bd_62_  : abuild Try.prog 62 [] = some (.agg [.int .i64 0, .int .i64 0, .int .i64 0, .int .i64 0, .str [], .bool false]) := by kernel_rfl
theorem bd_62_0_1_2_3_5 (a0 : Int) (a1 : Int) (a2 : Int) (a3 : Int) (a4 : Bool) : abuild Try.prog 62 [(0, .int .i64 a0), (1, .int .i64 a1), (2, .int .i64 a2), (3, .int .i64 a3), (5, .bool a4)] = some (.agg [.int .i64 a0, .int .i64 a1, .int .i64 a2, .int .i64 a3, .str [], .bool a4]) := by kernel_rfl
theorem bd_62_0_1_2_3 (a0 : Int) (a1 : Int) (a2 : Int) (a3 : Int) : abuild Try.prog 62 [(0, .int .i64 a0), (1, .int .i64 a1), (2, .int .i64 a2), (3, .int .i64 a3)] = some (.agg [.int .i64 a0, .int .i64 a1, .int .i64 a2, .int .i64 a3, .str [], .bool false]) := by kernel_rfl
theorem bd_62_4 (a0 : List UInt8) : abuild Try.prog 62 [(4, .str a0)] = some (.agg [.int .i64 0, .int .i64 0, .int .i64 0, .int .i64 0, .str a0, .bool false]) := by kernel_rfl
theorem bd_62_0_3_5 (a0 : Int) (a1 : Int) (a2 : Bool) : abuild Try.prog 62 [(0, .int .i64 a0), (3, .int .i64 a1), (5, .bool a2)] = some (.agg [.int .i64 a0, .int .i64 0, .int .i64 0, .int .i64 a1, .str [], .bool a2]) := by kernel_rfl
theorem eq_62_eql (a0 b0 : Int) (a1 b1 : Int) (a2 b2 : Int) (a3 b3 : Int) (a4 b4 : List UInt8) (a5 b5 : Bool) : aeqOp Try.prog .eql 62 false false (.agg [.int .i64 a0, .int .i64 a1, .int .i64 a2, .int .i64 a3, .str a4, .bool a5]) (.agg [.int .i64 b0, .int .i64 b1, .int .i64 b2, .int .i64 b3, .str b4, .bool b5]) = some (.bool (a0 == b0 && (a1 == b1 && (a2 == b2 && (a3 == b3 && (a4 == b4 && (a5 == b5))))))) := by
  have hg : Try.prog.eqGuardType Try.prog.depth 62 = false := by kernel_rfl
  have hs : Try.prog.stoodInHeld 62 = false := by kernel_rfl
  have key : aeq Try.prog 8 62 (.agg [.int .i64 a0, .int .i64 a1, .int .i64 a2, .int .i64 a3, .str a4, .bool a5]) (.agg [.int .i64 b0, .int .i64 b1, .int .i64 b2, .int .i64 b3, .str b4, .bool b5]) = some (a0 == b0 && (a1 == b1 && (a2 == b2 && (a3 == b3 && (a4 == b4 && (a5 == b5)))))) := by
    rw [aeq_struct Try.underlying62 hs]
    simp only [eqFields, apart, ag_3, ag_4, ag_9, aeq, aeqCell, Try.underlying3, Try.underlying4, Try.underlying9, List.getElem?_cons_zero, List.getElem?_cons_succ, if_true, String.reduceEq, ↓reduceIte, reduceCtorEq]
    cases (a0 == b0) <;> cases (a1 == b1) <;> cases (a2 == b2) <;> cases (a3 == b3) <;> cases (a4 == b4) <;> cases (a5 == b5) <;> rfl
  unfold aeqOp
  rw [key]
  simp [eqForm, isNilI, isAggV, hg]
theorem eq_62_neq (a0 b0 : Int) (a1 b1 : Int) (a2 b2 : Int) (a3 b3 : Int) (a4 b4 : List UInt8) (a5 b5 : Bool) : aeqOp Try.prog .neq 62 false false (.agg [.int .i64 a0, .int .i64 a1, .int .i64 a2, .int .i64 a3, .str a4, .bool a5]) (.agg [.int .i64 b0, .int .i64 b1, .int .i64 b2, .int .i64 b3, .str b4, .bool b5]) = some (.bool (!(a0 == b0 && (a1 == b1 && (a2 == b2 && (a3 == b3 && (a4 == b4 && (a5 == b5)))))))) := by
  have hg : Try.prog.eqGuardType Try.prog.depth 62 = false := by kernel_rfl
  have hs : Try.prog.stoodInHeld 62 = false := by kernel_rfl
  have key : aeq Try.prog 8 62 (.agg [.int .i64 a0, .int .i64 a1, .int .i64 a2, .int .i64 a3, .str a4, .bool a5]) (.agg [.int .i64 b0, .int .i64 b1, .int .i64 b2, .int .i64 b3, .str b4, .bool b5]) = some (a0 == b0 && (a1 == b1 && (a2 == b2 && (a3 == b3 && (a4 == b4 && (a5 == b5)))))) := by
    rw [aeq_struct Try.underlying62 hs]
    simp only [eqFields, apart, ag_3, ag_4, ag_9, aeq, aeqCell, Try.underlying3, Try.underlying4, Try.underlying9, List.getElem?_cons_zero, List.getElem?_cons_succ, if_true, String.reduceEq, ↓reduceIte, reduceCtorEq]
    cases (a0 == b0) <;> cases (a1 == b1) <;> cases (a2 == b2) <;> cases (a3 == b3) <;> cases (a4 == b4) <;> cases (a5 == b5) <;> rfl
  unfold aeqOp
  rw [key]
  simp [eqForm, isNilI, isAggV, hg]
def kf_73 : List AV → Option AV
  | [.int .i64 n_, .int .i64 most_] => (F_end_fits n_ most_).map fun r => .bool r
  | _ => none
theorem kf_73_eq (n_ : Int) (most_ : Int) : kf_73 [.int .i64 n_, .int .i64 most_] = (F_end_fits n_ most_).map fun r => .bool r := rfl
def kf_61 : List AV → Option AV
  | [.agg [.int .i64 e__0, .int .i64 e__1, .int .i64 e__2, .int .i64 e__3, .str e__4, .bool e__5]] => (F_end_right (⟨e__0, e__1, e__2, e__3, e__4, e__5⟩ : Gapi_End)).map fun r => .bool r
  | _ => none
theorem kf_61_eq (e_ : Gapi_End) : kf_61 [.agg [.int .i64 e_.xAt, .int .i64 e_.xCount, .int .i64 e_.xSize, .int .i64 e_.xOffset, .str e_.xComment, .bool e_.xWide]] = (F_end_right e_).map fun r => .bool r := rfl
def kf_45 : List AV → Option AV
  | [.int .u64 v, .int .i64 n_] => (F_field_put v n_).map fun r => .str r
  | _ => none
theorem kf_45_eq (v : Int) (n_ : Int) : kf_45 [.int .u64 v, .int .i64 n_] = (F_field_put v n_).map fun r => .str r := rfl
def kf_14 : List AV → Option AV
  | [.int .i64 n_] => (F_field_P32 n_).map fun r => .str r
  | _ => none
theorem kf_14_eq (n_ : Int) : kf_14 [.int .i64 n_] = (F_field_P32 n_).map fun r => .str r := rfl
def kf_15 : List AV → Option AV
  | [.int .u64 n_] => (F_field_P64 n_).map fun r => .str r
  | _ => none
theorem kf_15_eq (n_ : Int) : kf_15 [.int .u64 n_] = (F_field_P64 n_).map fun r => .str r := rfl
def kf_13 : List AV → Option AV
  | [.int .i64 n_] => (F_field_P16 n_).map fun r => .str r
  | _ => none
theorem kf_13_eq (n_ : Int) : kf_13 [.int .i64 n_] = (F_field_P16 n_).map fun r => .str r := rfl
def kf_35 : List AV → Option AV
  | [.agg [.int .i64 e__0, .int .i64 e__1, .int .i64 e__2, .int .i64 e__3, .str e__4, .bool e__5]] => (F_end_Put (⟨e__0, e__1, e__2, e__3, e__4, e__5⟩ : Gapi_End)).map fun r => .tup [.str r.1, .int .i64 r.2]
  | _ => none
theorem kf_35_eq (e_ : Gapi_End) : kf_35 [.agg [.int .i64 e_.xAt, .int .i64 e_.xCount, .int .i64 e_.xSize, .int .i64 e_.xOffset, .str e_.xComment, .bool e_.xWide]] = (F_end_Put e_).map fun r => .tup [.str r.1, .int .i64 r.2] := rfl
def kf_47 : List AV → Option AV
  | [.str s_, .int .i64 at_, .int .i64 n_] => (F_field_Cut s_ at_ n_).map fun r => .tup [.str r.1, .int .i64 r.2]
  | _ => none
theorem kf_47_eq (s_ : List UInt8) (at_ : Int) (n_ : Int) : kf_47 [.str s_, .int .i64 at_, .int .i64 n_] = (F_field_Cut s_ at_ n_).map fun r => .tup [.str r.1, .int .i64 r.2] := rfl
def kf_46 : List AV → Option AV
  | [.str s_, .int .i64 at_, .int .i64 n_] => (F_field_number s_ at_ n_).map fun r => .tup [.int .u64 r.1, .int .i64 r.2]
  | _ => none
theorem kf_46_eq (s_ : List UInt8) (at_ : Int) (n_ : Int) : kf_46 [.str s_, .int .i64 at_, .int .i64 n_] = (F_field_number s_ at_ n_).map fun r => .tup [.int .u64 r.1, .int .i64 r.2] := rfl
def kf_17 : List AV → Option AV
  | [.str s_, .int .i64 at_] => (F_field_U32 s_ at_).map fun r => .tup [.int .i64 r.1, .int .i64 r.2]
  | _ => none
theorem kf_17_eq (s_ : List UInt8) (at_ : Int) : kf_17 [.str s_, .int .i64 at_] = (F_field_U32 s_ at_).map fun r => .tup [.int .i64 r.1, .int .i64 r.2] := rfl
def kf_56 : List AV → Option AV
  | [.agg [.str x__0], .int .i64 at_] => (F_end_numbers_u32 (⟨x__0⟩ : Gend_numbers) at_).map fun r => .int .i64 r
  | _ => none
theorem kf_56_eq (x_ : Gend_numbers) (at_ : Int) : kf_56 [.agg [.str x_.xs], .int .i64 at_] = (F_end_numbers_u32 x_ at_).map fun r => .int .i64 r := rfl
def kf_16 : List AV → Option AV
  | [.str s_, .int .i64 at_] => (F_field_U16 s_ at_).map fun r => .tup [.int .i64 r.1, .int .i64 r.2]
  | _ => none
theorem kf_16_eq (s_ : List UInt8) (at_ : Int) : kf_16 [.str s_, .int .i64 at_] = (F_field_U16 s_ at_).map fun r => .tup [.int .i64 r.1, .int .i64 r.2] := rfl
def kf_55 : List AV → Option AV
  | [.agg [.str x__0], .int .i64 at_] => (F_end_numbers_u16 (⟨x__0⟩ : Gend_numbers) at_).map fun r => .int .i64 r
  | _ => none
theorem kf_55_eq (x_ : Gend_numbers) (at_ : Int) : kf_55 [.agg [.str x_.xs], .int .i64 at_] = (F_end_numbers_u16 x_ at_).map fun r => .int .i64 r := rfl
def kf_54 : List AV → Option AV
  | [.str s_] => (F_end_last s_).map fun r => .tup [.int .i64 r.1, .bool r.2]
  | _ => none
theorem kf_54_eq (s_ : List UInt8) : kf_54 [.str s_] = (F_end_last s_).map fun r => .tup [.int .i64 r.1, .bool r.2] := rfl
def kf_18 : List AV → Option AV
  | [.str s_, .int .i64 at_] => (F_field_U64 s_ at_).map fun r => .tup [.int .u64 r.1, .int .i64 r.2]
  | _ => none
theorem kf_18_eq (s_ : List UInt8) (at_ : Int) : kf_18 [.str s_, .int .i64 at_] = (F_field_U64 s_ at_).map fun r => .tup [.int .u64 r.1, .int .i64 r.2] := rfl
def kf_71 : List AV → Option AV
  | [.agg [.str x__0], .int .i64 at_] => (F_end_numbers_u64 (⟨x__0⟩ : Gend_numbers) at_).map fun r => .int .u64 r
  | _ => none
theorem kf_71_eq (x_ : Gend_numbers) (at_ : Int) : kf_71 [.agg [.str x_.xs], .int .i64 at_] = (F_end_numbers_u64 x_ at_).map fun r => .int .u64 r := rfl
def kf_70 : List AV → Option AV
  | [.str s_, .int .i64 at_] => (F_end_located s_ at_).map fun r => .bool r
  | _ => none
theorem kf_70_eq (s_ : List UInt8) (at_ : Int) : kf_70 [.str s_, .int .i64 at_] = (F_end_located s_ at_).map fun r => .bool r := rfl
def kf_57 : List AV → Option AV
  | [.str s_, .int .i64 at_] => (F_end_ahead s_ at_).map fun r => .tup [.agg [.int .i64 r.1.xAt, .int .i64 r.1.xCount, .int .i64 r.1.xSize, .int .i64 r.1.xOffset, .str r.1.xComment, .bool r.1.xWide], .int .i64 r.2]
  | _ => none
theorem kf_57_eq (s_ : List UInt8) (at_ : Int) : kf_57 [.str s_, .int .i64 at_] = (F_end_ahead s_ at_).map fun r => .tup [.agg [.int .i64 r.1.xAt, .int .i64 r.1.xCount, .int .i64 r.1.xSize, .int .i64 r.1.xOffset, .str r.1.xComment, .bool r.1.xWide], .int .i64 r.2] := rfl
def kf_33 : List AV → Option AV
  | [.str s_] => (F_end_Find s_).map fun r => .tup [.agg [.int .i64 r.1.xAt, .int .i64 r.1.xCount, .int .i64 r.1.xSize, .int .i64 r.1.xOffset, .str r.1.xComment, .bool r.1.xWide], .int .i64 r.2]
  | _ => none
theorem kf_33_eq (s_ : List UInt8) : kf_33 [.str s_] = (F_end_Find s_).map fun r => .tup [.agg [.int .i64 r.1.xAt, .int .i64 r.1.xCount, .int .i64 r.1.xSize, .int .i64 r.1.xOffset, .str r.1.xComment, .bool r.1.xWide], .int .i64 r.2] := rfl
def kf_49 : List AV → Option AV
  | [.str s_, .int .i64 at_, .int .i64 n_] => (F_ref02_Cut s_ at_ n_).map fun r => .tup [.str r.1, .int .i64 r.2]
  | _ => none
theorem kf_49_eq (s_ : List UInt8) (at_ : Int) (n_ : Int) : kf_49 [.str s_, .int .i64 at_, .int .i64 n_] = (F_ref02_Cut s_ at_ n_).map fun r => .tup [.str r.1, .int .i64 r.2] := rfl
def kf_53 : List AV → Option AV
  | [.str s_, .int .i64 at_, .int .i64 n_] => (F_ref02_Num s_ at_ n_).map fun r => .tup [.int .u64 r.1, .int .i64 r.2]
  | _ => none
theorem kf_53_eq (s_ : List UInt8) (at_ : Int) (n_ : Int) : kf_53 [.str s_, .int .i64 at_, .int .i64 n_] = (F_ref02_Num s_ at_ n_).map fun r => .tup [.int .u64 r.1, .int .i64 r.2] := rfl
def kf_59 : List AV → Option AV
  | [.str s_, .int .i64 at_] => (F_ref02_U32 s_ at_).map fun r => .int .i64 r
  | _ => none
theorem kf_59_eq (s_ : List UInt8) (at_ : Int) : kf_59 [.str s_, .int .i64 at_] = (F_ref02_U32 s_ at_).map fun r => .int .i64 r := rfl
def kf_48 : List AV → Option AV
  | [.str s_, .int .i64 at_] => (F_ref02_U16 s_ at_).map fun r => .int .i64 r
  | _ => none
theorem kf_48_eq (s_ : List UInt8) (at_ : Int) : kf_48 [.str s_, .int .i64 at_] = (F_ref02_U16 s_ at_).map fun r => .int .i64 r := rfl
def kf_58 : List AV → Option AV
  | [.str s_] => (F_ref19_record s_).map fun r => .int .i64 r
  | _ => none
theorem kf_58_eq (s_ : List UInt8) : kf_58 [.str s_] = (F_ref19_record s_).map fun r => .int .i64 r := rfl
def kf_72 : List AV → Option AV
  | [.str s_, .int .i64 at_] => (F_ref19_long s_ at_).map fun r => .int .u64 r
  | _ => none
theorem kf_72_eq (s_ : List UInt8) (at_ : Int) : kf_72 [.str s_, .int .i64 at_] = (F_ref19_long s_ at_).map fun r => .int .u64 r := rfl
def kf_60 : List AV → Option AV
  | [.str s_, .int .i64 at_] => (F_ref19_wide s_ at_).map fun r => .tup [.agg [.int .i64 r.1.xAt, .int .i64 r.1.xCount, .int .i64 r.1.xSize, .int .i64 r.1.xOffset, .str r.1.xComment, .bool r.1.xWide], .int .i64 r.2]
  | _ => none
theorem kf_60_eq (s_ : List UInt8) (at_ : Int) : kf_60 [.str s_, .int .i64 at_] = (F_ref19_wide s_ at_).map fun r => .tup [.agg [.int .i64 r.1.xAt, .int .i64 r.1.xCount, .int .i64 r.1.xSize, .int .i64 r.1.xOffset, .str r.1.xComment, .bool r.1.xWide], .int .i64 r.2] := rfl
def kf_34 : List AV → Option AV
  | [.str s_] => (F_ref19_Find s_).map fun r => .tup [.agg [.int .i64 r.1.xAt, .int .i64 r.1.xCount, .int .i64 r.1.xSize, .int .i64 r.1.xOffset, .str r.1.xComment, .bool r.1.xWide], .int .i64 r.2]
  | _ => none
theorem kf_34_eq (s_ : List UInt8) : kf_34 [.str s_] = (F_ref19_Find s_).map fun r => .tup [.agg [.int .i64 r.1.xAt, .int .i64 r.1.xCount, .int .i64 r.1.xSize, .int .i64 r.1.xOffset, .str r.1.xComment, .bool r.1.xWide], .int .i64 r.2] := rfl
def kf_7 : List AV → Option AV
  | [.str s_] => (F_law19_EndAny s_).map fun r => .bool r
  | _ => none
theorem kf_7_eq (s_ : List UInt8) : kf_7 [.str s_] = (F_law19_EndAny s_).map fun r => .bool r := rfl
def kf_63 : List AV → Option AV
  | [.int .i64 n_, .int .i64 most_] => (F_ref19_in n_ most_).map fun r => .bool r
  | _ => none
theorem kf_63_eq (n_ : Int) (most_ : Int) : kf_63 [.int .i64 n_, .int .i64 most_] = (F_ref19_in n_ most_).map fun r => .bool r := rfl
def kf_19 : List AV → Option AV
  | [.int .u64 v, .int .i64 n_] => (F_ref02_Put v n_).map fun r => .str r
  | _ => none
theorem kf_19_eq (v : Int) (n_ : Int) : kf_19 [.int .u64 v, .int .i64 n_] = (F_ref02_Put v n_).map fun r => .str r := rfl
def kf_36 : List AV → Option AV
  | [.agg [.int .i64 e__0, .int .i64 e__1, .int .i64 e__2, .int .i64 e__3, .str e__4, .bool e__5]] => (F_ref19_Put (⟨e__0, e__1, e__2, e__3, e__4, e__5⟩ : Gapi_End)).map fun r => .tup [.str r.1, .int .i64 r.2]
  | _ => none
theorem kf_36_eq (e_ : Gapi_End) : kf_36 [.agg [.int .i64 e_.xAt, .int .i64 e_.xCount, .int .i64 e_.xSize, .int .i64 e_.xOffset, .str e_.xComment, .bool e_.xWide]] = (F_ref19_Put e_).map fun r => .tup [.str r.1, .int .i64 r.2] := rfl
def kf_8 : List AV → Option AV
  | [.agg [.int .i64 x__0, .int .i64 x__1, .int .i64 x__2, .int .i64 x__3, .str x__4, .bool x__5]] => (F_law19_EndBack (⟨x__0, x__1, x__2, x__3, x__4, x__5⟩ : Gapi_End)).map fun r => .bool r
  | _ => none
theorem kf_8_eq (x_ : Gapi_End) : kf_8 [.agg [.int .i64 x_.xAt, .int .i64 x_.xCount, .int .i64 x_.xSize, .int .i64 x_.xOffset, .str x_.xComment, .bool x_.xWide]] = (F_law19_EndBack x_).map fun r => .bool r := rfl
end Go.Proofs.YtikkpmmhejjpaaaM
