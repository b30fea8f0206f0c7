/- Facts of the program's types, and its functions as hooks: printed by lift.py. -/
import Derived.Test.YtikkpmmhejjpaaaEXF
import Derived.Test.YtikkpmmhejjpaaaChecked
import Derived.KernelRfl
set_option linter.unusedSimpArgs false
set_option linter.unusedVariables false
namespace Go.Proofs.YtikkpmmhejjpaaaM
open Go Go.RowKit
set_option maxRecDepth 100000
theorem sl_70 : SlTy Try.prog 70 5 1 := ⟨Try.underlying70, by kernel_rfl, by kernel_rfl, by omega, by omega⟩
theorem zero_5 : zeroOf Try.prog 5 = some (.int .u8 0) := by kernel_rfl
theorem sz_5 : szOf Try.prog 5 = some 1 := by kernel_rfl
theorem zero_47 : zeroOf Try.prog 47 = some (.agg [.int .i64 0, .str []]) := by kernel_rfl
theorem zero_88 : zeroOf Try.prog 88 = some (.agg [.val (.pointer none), .val (.slice none 0 0)]) := by kernel_rfl
theorem sl_52 : SlTy Try.prog 52 3 1 := ⟨Try.underlying52, by kernel_rfl, by kernel_rfl, by omega, by omega⟩
theorem ag_3 : isAg Try.prog 3 = some false := by kernel_rfl
theorem sz_3 : szOf Try.prog 3 = some 1 := by kernel_rfl
theorem bd_47_0_1 (a0 : Int) (a1 : List UInt8) : abuild Try.prog 47 [(0, .int .i64 a0), (1, .str a1)] = some (.agg [.int .i64 a0, .str a1]) := by kernel_rfl
theorem sz_47 : szOf Try.prog 47 = some 2 := by kernel_rfl
theorem ag_47 : isAg Try.prog 47 = some true := by kernel_rfl
theorem sl_35 : SlTy Try.prog 35 47 2 := ⟨Try.underlying35, by kernel_rfl, by kernel_rfl, by omega, by omega⟩
theorem fa_47_0 (id off : Nat) : afieldAddr Try.prog 47 (.ptr id off) 0 = some (.ptr id (off + 0)) := by kernel_rfl
theorem fa_47_1 (id off : Nat) : afieldAddr Try.prog 47 (.ptr id off) 1 = some (.ptr id (off + 1)) := by kernel_rfl
theorem ag_9 : isAg Try.prog 9 = some false := by kernel_rfl
theorem sz_9 : szOf Try.prog 9 = some 1 := by kernel_rfl
theorem zero_53 : zeroOf Try.prog 53 = some (.agg [.int .i64 0, .int .i64 0, .int .i64 0]) := by kernel_rfl
theorem ag_53 : isAg Try.prog 53 = some true := by kernel_rfl
theorem sz_53 : szOf Try.prog 53 = some 3 := by kernel_rfl
theorem ia_53 (id off : Nat) (k : IntKind) {i : Int} (h0 : 0 ≤ i) (h1 : i < 3) : aindexAddr Try.prog 53 (.ptr id off) (.int k i) = some (.ptr id (off + i.toNat * 1)) := by
  have hs := sz_3
  simp only [aindexAddr, Try.underlying53, hs]
  rw [if_pos ⟨h0, h1⟩]
theorem bd_53 : abuild Try.prog 53 [] = some (.agg [.int .i64 0, .int .i64 0, .int .i64 0]) := by kernel_rfl
theorem bd_53_0_1_2 (a0 a1 a2 : Int) : abuild Try.prog 53 [(0, .int .i64 a0), (1, .int .i64 a1), (2, .int .i64 a2)] = some (.agg [.int .i64 a0, .int .i64 a1, .int .i64 a2]) := by kernel_rfl
theorem eqa_53_eql (a0 b0 a1 b1 a2 b2 : Int) : aeqOp Try.prog .eql 53 false false (.agg [.int .i64 a0, .int .i64 a1, .int .i64 a2]) (.agg [.int .i64 b0, .int .i64 b1, .int .i64 b2]) = some (.bool (a0 == b0 && (a1 == b1 && (a2 == b2)))) := by
  have hg : Try.prog.eqGuardType Try.prog.depth 53 = false := by kernel_rfl
  have hz := sz_3
  have ha := ag_3
  have key : aeq Try.prog 8 53 (.agg [.int .i64 a0, .int .i64 a1, .int .i64 a2]) (.agg [.int .i64 b0, .int .i64 b1, .int .i64 b2]) = some (a0 == b0 && (a1 == b1 && (a2 == b2))) := by
    simp only [aeq, Try.underlying53, hz]
    rw [show List.range 3 = [0, 1, 2] from rfl]
    simp only [eqElems, apart, ha, aeq, aeqCell, Try.underlying3, Nat.mul_one, List.getElem?_cons_zero, List.getElem?_cons_succ, if_true]
    cases (a0 == b0) <;> cases (a1 == b1) <;> cases (a2 == b2) <;> rfl
  unfold aeqOp
  rw [key]
  simp [eqForm, isNilI, isAggV, hg]
theorem eq_47_neq (a0 b0 : Int) (a1 b1 : List UInt8) : aeqOp Try.prog .neq 47 false false (.agg [.int .i64 a0, .str a1]) (.agg [.int .i64 b0, .str b1]) = some (.bool (!(a0 == b0 && (a1 == b1)))) := by
  have hg : Try.prog.eqGuardType Try.prog.depth 47 = false := by kernel_rfl
  have hs : Try.prog.stoodInHeld 47 = false := by kernel_rfl
  have key : aeq Try.prog 8 47 (.agg [.int .i64 a0, .str a1]) (.agg [.int .i64 b0, .str b1]) = some (a0 == b0 && (a1 == b1)) := by
    rw [aeq_struct Try.underlying47 hs]
    simp only [eqFields, apart, ag_3, ag_9, aeq, aeqCell, Try.underlying3, Try.underlying9, List.getElem?_cons_zero, List.getElem?_cons_succ, if_true, String.reduceEq, ↓reduceIte, reduceCtorEq]
    cases (a0 == b0) <;> cases (a1 == b1) <;> rfl
  unfold aeqOp
  rw [key]
  simp [eqForm, isNilI, isAggV, hg]
theorem sz_33 : szOf Try.prog 33 = some 1 := by kernel_rfl
theorem ia_51 (id off : Nat) (k : IntKind) {i : Int} (h0 : 0 ≤ i) (h1 : i < 3) : aindexAddr Try.prog 51 (.ptr id off) (.int k i) = some (.ptr id (off + i.toNat * 1)) := by
  have hs := sz_33
  simp only [aindexAddr, Try.underlying51, hs]
  rw [if_pos ⟨h0, h1⟩]
theorem ag_33 : isAg Try.prog 33 = some false := by kernel_rfl
theorem eq_47_eql (a0 b0 : Int) (a1 b1 : List UInt8) : aeqOp Try.prog .eql 47 false false (.agg [.int .i64 a0, .str a1]) (.agg [.int .i64 b0, .str b1]) = some (.bool (a0 == b0 && (a1 == b1))) := by
  have hg : Try.prog.eqGuardType Try.prog.depth 47 = false := by kernel_rfl
  have hs : Try.prog.stoodInHeld 47 = false := by kernel_rfl
  have key : aeq Try.prog 8 47 (.agg [.int .i64 a0, .str a1]) (.agg [.int .i64 b0, .str b1]) = some (a0 == b0 && (a1 == b1)) := by
    rw [aeq_struct Try.underlying47 hs]
    simp only [eqFields, apart, ag_3, ag_9, aeq, aeqCell, Try.underlying3, Try.underlying9, List.getElem?_cons_zero, List.getElem?_cons_succ, if_true, String.reduceEq, ↓reduceIte, reduceCtorEq]
    cases (a0 == b0) <;> cases (a1 == b1) <;> rfl
  unfold aeqOp
  rw [key]
  simp [eqForm, isNilI, isAggV, hg]
def kf_47 : List AV → Option AV
  | [.str s_, .int .i64 at_, .int .i64 n_] => (F_field_Cut s_ at_ n_).map fun r => .tup [.str r.1, .int .i64 r.2]
  | _ => none
theorem kf_47_eq (s_ : List UInt8) (at_ : Int) (n_ : Int) : kf_47 [.str s_, .int .i64 at_, .int .i64 n_] = (F_field_Cut s_ at_ n_).map fun r => .tup [.str r.1, .int .i64 r.2] := rfl
def kf_46 : List AV → Option AV
  | [.str s_, .int .i64 at_, .int .i64 n_] => (F_field_number s_ at_ n_).map fun r => .tup [.int .u64 r.1, .int .i64 r.2]
  | _ => none
theorem kf_46_eq (s_ : List UInt8) (at_ : Int) (n_ : Int) : kf_46 [.str s_, .int .i64 at_, .int .i64 n_] = (F_field_number s_ at_ n_).map fun r => .tup [.int .u64 r.1, .int .i64 r.2] := rfl
def kf_17 : List AV → Option AV
  | [.str s_, .int .i64 at_] => (F_field_U32 s_ at_).map fun r => .tup [.int .i64 r.1, .int .i64 r.2]
  | _ => none
theorem kf_17_eq (s_ : List UInt8) (at_ : Int) : kf_17 [.str s_, .int .i64 at_] = (F_field_U32 s_ at_).map fun r => .tup [.int .i64 r.1, .int .i64 r.2] := rfl
def kf_45 : List AV → Option AV
  | [.int .u64 v, .int .i64 n_] => (F_field_put v n_).map fun r => .str r
  | _ => none
theorem kf_45_eq (v : Int) (n_ : Int) : kf_45 [.int .u64 v, .int .i64 n_] = (F_field_put v n_).map fun r => .str r := rfl
def kf_14 : List AV → Option AV
  | [.int .i64 n_] => (F_field_P32 n_).map fun r => .str r
  | _ => none
theorem kf_14_eq (n_ : Int) : kf_14 [.int .i64 n_] = (F_field_P32 n_).map fun r => .str r := rfl
def kf_49 : List AV → Option AV
  | [.str s_, .int .i64 at_, .int .i64 n_] => (F_ref02_Cut s_ at_ n_).map fun r => .tup [.str r.1, .int .i64 r.2]
  | _ => none
theorem kf_49_eq (s_ : List UInt8) (at_ : Int) (n_ : Int) : kf_49 [.str s_, .int .i64 at_, .int .i64 n_] = (F_ref02_Cut s_ at_ n_).map fun r => .tup [.str r.1, .int .i64 r.2] := rfl
def kf_53 : List AV → Option AV
  | [.str s_, .int .i64 at_, .int .i64 n_] => (F_ref02_Num s_ at_ n_).map fun r => .tup [.int .u64 r.1, .int .i64 r.2]
  | _ => none
theorem kf_53_eq (s_ : List UInt8) (at_ : Int) (n_ : Int) : kf_53 [.str s_, .int .i64 at_, .int .i64 n_] = (F_ref02_Num s_ at_ n_).map fun r => .tup [.int .u64 r.1, .int .i64 r.2] := rfl
def kf_48 : List AV → Option AV
  | [.str s_, .int .i64 at_] => (F_ref02_U16 s_ at_).map fun r => .int .i64 r
  | _ => none
theorem kf_48_eq (s_ : List UInt8) (at_ : Int) : kf_48 [.str s_, .int .i64 at_] = (F_ref02_U16 s_ at_).map fun r => .int .i64 r := rfl
def kf_59 : List AV → Option AV
  | [.str s_, .int .i64 at_] => (F_ref02_U32 s_ at_).map fun r => .int .i64 r
  | _ => none
theorem kf_59_eq (s_ : List UInt8) (at_ : Int) : kf_59 [.str s_, .int .i64 at_] = (F_ref02_U32 s_ at_).map fun r => .int .i64 r := rfl
def kf_15 : List AV → Option AV
  | [.int .u64 n_] => (F_field_P64 n_).map fun r => .str r
  | _ => none
theorem kf_15_eq (n_ : Int) : kf_15 [.int .u64 n_] = (F_field_P64 n_).map fun r => .str r := rfl
def kf_13 : List AV → Option AV
  | [.int .i64 n_] => (F_field_P16 n_).map fun r => .str r
  | _ => none
theorem kf_13_eq (n_ : Int) : kf_13 [.int .i64 n_] = (F_field_P16 n_).map fun r => .str r := rfl
def kf_16 : List AV → Option AV
  | [.str s_, .int .i64 at_] => (F_field_U16 s_ at_).map fun r => .tup [.int .i64 r.1, .int .i64 r.2]
  | _ => none
theorem kf_16_eq (s_ : List UInt8) (at_ : Int) : kf_16 [.str s_, .int .i64 at_] = (F_field_U16 s_ at_).map fun r => .tup [.int .i64 r.1, .int .i64 r.2] := rfl
def kf_18 : List AV → Option AV
  | [.str s_, .int .i64 at_] => (F_field_U64 s_ at_).map fun r => .tup [.int .u64 r.1, .int .i64 r.2]
  | _ => none
theorem kf_18_eq (s_ : List UInt8) (at_ : Int) : kf_18 [.str s_, .int .i64 at_] = (F_field_U64 s_ at_).map fun r => .tup [.int .u64 r.1, .int .i64 r.2] := rfl
def kf_19 : List AV → Option AV
  | [.int .u64 v, .int .i64 n_] => (F_ref02_Put v n_).map fun r => .str r
  | _ => none
theorem kf_19_eq (v : Int) (n_ : Int) : kf_19 [.int .u64 v, .int .i64 n_] = (F_ref02_Put v n_).map fun r => .str r := rfl
end Go.Proofs.YtikkpmmhejjpaaaM
