/- The law FieldBack, gone through by the abstract machine: it answers true for every number. -/
import Derived.Test.YtikkpmmhejjpaaaFieldBackW
set_option linter.unusedSimpArgs false
set_option linter.unusedVariables false
namespace Go.Proofs.YtikkpmmhejjpaaaM
open Go Go.RowKit

theorem noGoroutine : Try.prog.funcs.all (fun fn => !(fn.name == "runtime.NumGoroutine")) = true := by kernel_rfl
theorem D0ok {B : Nat} : ∀ callF, CallOK Try.prog B callF → DrawnOK Try.prog B (D0 callF) := by
  intro callF _ id ops env h env' h' hr
  cases hr

def k12 : List AV → Option AV
  | [] => some (.bool true)
  | _ => none
def k13 : List AV → Option AV
  | [.int .i64 n] => some (.str [pb (IntKind.u64.wrap n) 0, pb (IntKind.u64.wrap n) 1])
  | _ => none
def k14 : List AV → Option AV
  | [.int .i64 n] => some (.str [pb (IntKind.u64.wrap n) 0, pb (IntKind.u64.wrap n) 1, pb (IntKind.u64.wrap n) 2, pb (IntKind.u64.wrap n) 3])
  | _ => none
def k15 : List AV → Option AV
  | [.int .u64 n] => some (.str [pb n 0, pb n 1, pb n 2, pb n 3, pb n 4, pb n 5, pb n 6, pb n 7])
  | _ => none
def k16 : List AV → Option AV
  | [.str [a, b], .int .i64 0] => some (.tup [.int .i64 (IntKind.i64.wrap (nb 0 0 [a, b])), .int .i64 0])
  | _ => none
def k17 : List AV → Option AV
  | [.str [a, b, c, d], .int .i64 0] => some (.tup [.int .i64 (IntKind.i64.wrap (nb 0 0 [a, b, c, d])), .int .i64 0])
  | _ => none
def k18 : List AV → Option AV
  | [.str [a, b, c, d, e, f, g, i], .int .i64 0] => some (.tup [.int .u64 (nb 0 0 [a, b, c, d, e, f, g, i]), .int .i64 0])
  | _ => none
def k19 : List AV → Option AV
  | [.int .u64 n, .int .i64 2] => some (.str (rp n 2))
  | [.int .u64 n, .int .i64 4] => some (.str (rp n 4))
  | [.int .u64 n, .int .i64 8] => some (.str (rp n 8))
  | _ => none

def lift (k : List AV → Option AV) : List AV → AH → Option (AV × AH) := fun args h => (k args).map fun v => (v, h)

theorem h12 {B : Nat} : HookOK Try.prog B 12 (lift k12) := by
  refine HookOK.apart (Γ := G0) (D := D0) HooksOK.none D0ok noGoroutine 12 k12 ?_
  intro args v h; unfold k12 at h; split at h <;> cases h
  exact ⟨rfl, rfl, 60, ex_of awake_run⟩
theorem h13 {B : Nat} : HookOK Try.prog B 13 (lift k13) := by
  refine HookOK.apart (Γ := G0) (D := D0) HooksOK.none D0ok noGoroutine 13 k13 ?_
  intro args v h; unfold k13 at h; split at h <;> cases h
  exact ⟨rfl, rfl, 60, ex_of (p16_run _)⟩
theorem h14 {B : Nat} : HookOK Try.prog B 14 (lift k14) := by
  refine HookOK.apart (Γ := G0) (D := D0) HooksOK.none D0ok noGoroutine 14 k14 ?_
  intro args v h; unfold k14 at h; split at h <;> cases h
  exact ⟨rfl, rfl, 60, ex_of (p32_run _)⟩
theorem h15 {B : Nat} : HookOK Try.prog B 15 (lift k15) := by
  refine HookOK.apart (Γ := G0) (D := D0) HooksOK.none D0ok noGoroutine 15 k15 ?_
  intro args v h; unfold k15 at h; split at h <;> cases h
  exact ⟨rfl, rfl, 60, ex_of (p64_run _)⟩
theorem h16 {B : Nat} : HookOK Try.prog B 16 (lift k16) := by
  refine HookOK.apart (Γ := G0) (D := D0) HooksOK.none D0ok noGoroutine 16 k16 ?_
  intro args v h; unfold k16 at h; split at h <;> cases h
  exact ⟨rfl, rfl, 60, ex_of (u16_run _ _)⟩
theorem h17 {B : Nat} : HookOK Try.prog B 17 (lift k17) := by
  refine HookOK.apart (Γ := G0) (D := D0) HooksOK.none D0ok noGoroutine 17 k17 ?_
  intro args v h; unfold k17 at h; split at h <;> cases h
  exact ⟨rfl, rfl, 60, ex_of (u32_run _ _ _ _)⟩
theorem h18 {B : Nat} : HookOK Try.prog B 18 (lift k18) := by
  refine HookOK.apart (Γ := G0) (D := D0) HooksOK.none D0ok noGoroutine 18 k18 ?_
  intro args v h; unfold k18 at h; split at h <;> cases h
  exact ⟨rfl, rfl, 60, ex_of (u64_run _ _ _ _ _ _ _ _)⟩
theorem h19 {B : Nat} : HookOK Try.prog B 19 (lift k19) := by
  refine HookOK.apart (Γ := G0) (D := D0) HooksOK.none D0ok noGoroutine 19 k19 ?_
  intro args v h; unfold k19 at h; split at h <;> cases h
  · exact ⟨rfl, rfl, 60, ex_of (put2_run _)⟩
  · exact ⟨rfl, rfl, 60, ex_of (put4_run _)⟩
  · exact ⟨rfl, rfl, 60, ex_of (put8_run _)⟩

noncomputable def G1 : Hooks := ((((((((G0.add 12 (lift k12)).add 13 (lift k13)).add 14 (lift k14)).add 15 (lift k15)).add 16 (lift k16)).add 17 (lift k17)).add 18 (lift k18)).add 19 (lift k19))
theorem G1ok {B : Nat} : HooksOK Try.prog B G1 := ((((((((HooksOK.none.add h12).add h13).add h14).add h15).add h16).add h17).add h18).add h19)

theorem c12 (n : Nat) (args : List AV) (h : AH) : acall Try.prog G1 D0 n 12 args h = (k12 args).map fun v => (v, h) := acall_hook (g := lift k12) rfl _ _ _
theorem c13 (n : Nat) (args : List AV) (h : AH) : acall Try.prog G1 D0 n 13 args h = (k13 args).map fun v => (v, h) := acall_hook (g := lift k13) rfl _ _ _
theorem c14 (n : Nat) (args : List AV) (h : AH) : acall Try.prog G1 D0 n 14 args h = (k14 args).map fun v => (v, h) := acall_hook (g := lift k14) rfl _ _ _
theorem c15 (n : Nat) (args : List AV) (h : AH) : acall Try.prog G1 D0 n 15 args h = (k15 args).map fun v => (v, h) := acall_hook (g := lift k15) rfl _ _ _
theorem c16 (n : Nat) (args : List AV) (h : AH) : acall Try.prog G1 D0 n 16 args h = (k16 args).map fun v => (v, h) := acall_hook (g := lift k16) rfl _ _ _
theorem c17 (n : Nat) (args : List AV) (h : AH) : acall Try.prog G1 D0 n 17 args h = (k17 args).map fun v => (v, h) := acall_hook (g := lift k17) rfl _ _ _
theorem c18 (n : Nat) (args : List AV) (h : AH) : acall Try.prog G1 D0 n 18 args h = (k18 args).map fun v => (v, h) := acall_hook (g := lift k18) rfl _ _ _
theorem c19 (n : Nat) (args : List AV) (h : AH) : acall Try.prog G1 D0 n 19 args h = (k19 args).map fun v => (v, h) := acall_hook (g := lift k19) rfl _ _ _

theorem w64 (n : Int) : ∃ m : Nat, m < 2 ^ 64 ∧ IntKind.u64.wrap n = (m : Int) ∧ IntKind.u16.wrap n = ((m % 65536 : Nat) : Int) ∧ IntKind.u32.wrap n = ((m % 4294967296 : Nat) : Int) :=
  ⟨(n % 18446744073709551616).toNat, by omega, by rw [wrap_u64]; omega, by rw [wrap_u16]; omega, by rw [wrap_u32]; omega⟩

theorem pb2 (m : Nat) : [pb m 0, pb m 1] = leB m 2 := by
  rw [pb_bt _ _ (by omega), pb_bt _ _ (by omega), leB_bt]; rfl
theorem pb4 (m : Nat) : [pb m 0, pb m 1, pb m 2, pb m 3] = leB m 4 := by
  rw [pb_bt _ _ (by omega), pb_bt _ _ (by omega), pb_bt _ _ (by omega), pb_bt _ _ (by omega), leB_bt]; rfl
theorem pb8 (m : Nat) : [pb m 0, pb m 1, pb m 2, pb m 3, pb m 4, pb m 5, pb m 6, pb m 7] = leB m 8 := by
  rw [pb_bt _ _ (by omega), pb_bt _ _ (by omega), pb_bt _ _ (by omega), pb_bt _ _ (by omega), pb_bt _ _ (by omega), pb_bt _ _ (by omega), pb_bt _ _ (by omega), pb_bt _ _ (by omega), leB_bt]; rfl
theorem nbB (m k : Nat) (hk : k ≤ 8) : nb 0 0 (leB m k) = ((m % 256 ^ k : Nat) : Int) := by
  have := nb_num (leB m k) 0 0 (by rw [leB_length]; omega) (by simp)
  rw [leNum_leB, Nat.pow_zero, Nat.mul_one, Nat.zero_add] at this
  exact this

theorem eq2 (n : Int) : ([pb (IntKind.u64.wrap n) 0, pb (IntKind.u64.wrap n) 1] == rp (IntKind.u64.wrap n) 2) = true := by
  obtain ⟨m, hm, e, _⟩ := w64 n
  rw [e, pb2, rp_leB _ _ hm]; exact beq_self_eq_true _
theorem eq4 (n : Int) : ([pb (IntKind.u64.wrap n) 0, pb (IntKind.u64.wrap n) 1, pb (IntKind.u64.wrap n) 2, pb (IntKind.u64.wrap n) 3] == rp (IntKind.u64.wrap n) 4) = true := by
  obtain ⟨m, hm, e, _⟩ := w64 n
  rw [e, pb4, rp_leB _ _ hm]; exact beq_self_eq_true _
theorem eq8 (n : Int) : ([pb (IntKind.u64.wrap n) 0, pb (IntKind.u64.wrap n) 1, pb (IntKind.u64.wrap n) 2, pb (IntKind.u64.wrap n) 3, pb (IntKind.u64.wrap n) 4, pb (IntKind.u64.wrap n) 5, pb (IntKind.u64.wrap n) 6, pb (IntKind.u64.wrap n) 7] == rp (IntKind.u64.wrap n) 8) = true := by
  obtain ⟨m, hm, e, _⟩ := w64 n
  rw [e, pb8, rp_leB _ _ hm]; exact beq_self_eq_true _
theorem nu2 (n : Int) : (IntKind.i64.wrap (nb 0 0 [pb (IntKind.u64.wrap n) 0, pb (IntKind.u64.wrap n) 1]) == IntKind.i64.wrap (IntKind.u16.wrap n)) = true := by
  obtain ⟨m, hm, e, e2, e3⟩ := w64 n
  rw [e, pb2, nbB _ _ (by omega), e2]; exact beq_self_eq_true _
theorem nu4 (n : Int) : (IntKind.i64.wrap (nb 0 0 [pb (IntKind.u64.wrap n) 0, pb (IntKind.u64.wrap n) 1, pb (IntKind.u64.wrap n) 2, pb (IntKind.u64.wrap n) 3]) == IntKind.i64.wrap (IntKind.u32.wrap n)) = true := by
  obtain ⟨m, hm, e, e2, e3⟩ := w64 n
  rw [e, pb4, nbB _ _ (by omega), e3]; exact beq_self_eq_true _
theorem nu8 (n : Int) : (nb 0 0 [pb (IntKind.u64.wrap n) 0, pb (IntKind.u64.wrap n) 1, pb (IntKind.u64.wrap n) 2, pb (IntKind.u64.wrap n) 3, pb (IntKind.u64.wrap n) 4, pb (IntKind.u64.wrap n) 5, pb (IntKind.u64.wrap n) 6, pb (IntKind.u64.wrap n) 7] == IntKind.u64.wrap n) = true := by
  obtain ⟨m, hm, e, e2, e3⟩ := w64 n
  rw [e, pb8, nbB _ _ (by omega), Nat.mod_eq_of_lt (by omega)]; exact beq_self_eq_true _

set_option maxRecDepth 100000 in
set_option maxHeartbeats 4000000 in
theorem law_run (n : Int) : ∃ h', acall Try.prog G1 D0 60 3 [.int .i64 n] ⟨0, []⟩ = some (.bool true, h') := by
  have a2 := eq2 n
  have a4 := eq4 n
  have a8 := eq8 n
  have b2 := nu2 n
  have b4 := nu4 n
  have b8 := nu8 n
  refine ⟨⟨0, []⟩, acall_succ rfl Try.func3 rfl _ _ ?_⟩
  simp only [Try.f3, List.length_cons, List.length_nil, Nat.reduceAdd, Nat.reduceSub, List.reduceReplicate, List.cons_append, List.nil_append]
  simp [acode, aops, astep, awanted, aop, evalOp, eput, ofValue, ofCell, abin, aun, aint, astrop, isConst, acall1, aconv, c12, c13, c14, c15, c16, c17, c18, c19, k12, k13, k14, k15, k16, k17, k18, k19, Try.underlying9, Try.underlying3, Try.underlying4, Try.underlying25, aresults, aresult, packed, a2, a4, a8, b2, b4, b8, List.set, -beq_iff_eq]
end Go.Proofs.YtikkpmmhejjpaaaM
