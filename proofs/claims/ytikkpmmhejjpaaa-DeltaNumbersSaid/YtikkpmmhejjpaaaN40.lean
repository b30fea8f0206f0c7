/- The law DeltaNumbers, its function gone through by the machine: it answers true for every number, text and place. -/
import Derived.Test.YtikkpmmhejjpaaaL40
set_option linter.unusedSimpArgs false
set_option linter.unusedVariables false
namespace Go.Proofs.YtikkpmmhejjpaaaM
open Go Go.RowKit

theorem nsp_cases (a : Int) : (nsp a = ([], 1)) ∨ ∃ m : Nat, a = (m : Int) ∧ m < 268435456 ∧ nsp a = (numB 3 m, 0) := by
  unfold nsp
  split
  · exact .inl rfl
  · right
    obtain ⟨m, rfl⟩ := Int.eq_ofNat_of_zero_le (by omega : 0 ≤ a)
    exact ⟨m, rfl, by omega, by rw [Int.toNat_natCast]⟩

theorem numB_len (f m : Nat) : (numB f m).length ≤ f + 1 := by
  induction f generalizing m with
  | zero => simp [numB]
  | succ f ih =>
    unfold numB
    split
    · simp
    · have := ih (m / 128); simp; omega

set_option maxRecDepth 100000 in
set_option maxHeartbeats 4000000 in
theorem law_run (a : Int) (s : List UInt8) (at_ : Int) (ha : at_ < 9223372036854775808) : AR (acall Try.prog GL D4 101 9 [.int .i64 a, .str s, .int .i64 at_] ⟨0, []⟩) fun v h' => v = .bool true := by
  refine AR_call rfl Try.func9 rfl _ _ fun env hl he => ?_
  have e0 := he 0; have e1 := he 1; have e2 := he 2
  simp only [List.getD_cons_zero, List.getD_cons_succ] at e0 e1 e2
  simp only [Try.f9] at hl ⊢
  simp only [List.length_cons, List.length_nil, Nat.reduceAdd, Nat.reduceSub] at hl
  have a37 := c37 100
  by_cases c1 : (s.length : Int) > 30
  · simp only [↓KP_nil, ↓KP_seq, ↓KP_seqE, ↓KP_seqR, ↓KP_block, ↓KP_blockE, ↓KP_blockR, ↓AW_skip, ↓AW_region, ↓AW_drawn, ↓AW_seq, ↓AW_cond, ↓AW_block, ↓AW_exit, ↓AW_scope, ↓AW_label, ↓AW_ret, ↓AW_loop, ↓AE_nil, ↓AE_step, ↓AE_guard, ↓KA_some, ↓KA_none, ↓CondK_true, ↓CondK_false, ↓GuardK_some, ↓GuardW_yes, ↓GuardW_tf, ↓GuardW_ft, ↓GuardW_undef, ↓dstAt_zero, ↓dstAt_succ, ↓AR_some, ↓AR_none, ↓AVK_some, ↓AVM_some, ↓AHK_some, CondK_true, CondK_false, GuardW_yes, GuardW_tf, GuardW_ft, GuardW_undef, Qfun_normal, Qfun_ret, Qloop_normal, Qloop_exit, Qloop_ret, AR_some, AR_none, AR_map, AR_mapH, AR_ite, AVK_some, AVK_none, AVK_map, AVK_ite, AVM_some, AVM_none, AHK_some, AHK_none, AHK_ite, aop, gs, List.length_set, evalOp, ofValue, ofCell, isConst, abin, aint, astrop, ashift, aun, acall1, abuiltin, alenOf, aresults, aresult, packed, List.nil_append, List.append_nil, List.map_cons, List.map_nil, List.getElem?_toArray, List.getElem?_cons_zero, List.getElem?_cons_succ, Option.bind_some, Option.map_some, Option.map_none, Nat.reduceEqDiff, Nat.reduceLT, Int.reduceLT, Int.reduceLE, Int.reduceGT, Int.reduceGE,  Nat.reduceAdd, Nat.reduceSub, ↓reduceIte, reduceCtorEq, Bool.false_eq_true, Bool.true_eq_false, Bool.not_true, Bool.not_false, true_and, and_true, false_and, and_false, not_true_eq_false, not_false_eq_true, forall_const, false_implies, true_implies, implies_true, decide_true, decide_false, or_self, false_or, or_false, true_or, or_true, hl, e0, e1, e2, Try.underlying9, a37, c1]
  obtain ⟨v1, g1, h1, rfl⟩ := (Number_run (Γ := GL) (D := D4) rfl rfl 99 (by omega) a ⟨0, []⟩).out
  obtain ⟨v2, g2, h2, rfl⟩ := (RefNumber_run (Γ := GL) (D := D4) rfl 99 (by omega) a g1).out
  obtain ⟨v3, g3, h3, rfl, rfl⟩ := (Next_run (Γ := GL) (D := D4) rfl 99 (by omega) s (by omega) at_ g2).out
  obtain ⟨v4, g4, h4, rfl, rfl⟩ := (RefNext_run (Γ := GL) (D := D4) rfl 99 (by omega) s (by omega) at_ ha g3).out
  simp only [Nat.reduceAdd] at h1 h2 h3 h4
  have bs : ∀ l : List UInt8, (l == l) = true := fun l => beq_self_eq_true l
  have bi : ∀ i : Int, (i != i) = false := fun i => by simp
  have bj : ∀ i : Int, (i == i) = true := fun i => by simp
  rcases nsp_cases a with hn | ⟨m, rfl, hm, hn⟩
  · rw [hn] at h1 h2
    have q : ((1 : Int) != 0) = true := by decide
    simp only [↓KP_nil, ↓KP_seq, ↓KP_seqE, ↓KP_seqR, ↓KP_block, ↓KP_blockE, ↓KP_blockR, ↓AW_skip, ↓AW_region, ↓AW_drawn, ↓AW_seq, ↓AW_cond, ↓AW_block, ↓AW_exit, ↓AW_scope, ↓AW_label, ↓AW_ret, ↓AW_loop, ↓AE_nil, ↓AE_step, ↓AE_guard, ↓KA_some, ↓KA_none, ↓CondK_true, ↓CondK_false, ↓GuardK_some, ↓GuardW_yes, ↓GuardW_tf, ↓GuardW_ft, ↓GuardW_undef, ↓dstAt_zero, ↓dstAt_succ, ↓AR_some, ↓AR_none, ↓AVK_some, ↓AVM_some, ↓AHK_some, CondK_true, CondK_false, GuardW_yes, GuardW_tf, GuardW_ft, GuardW_undef, Qfun_normal, Qfun_ret, Qloop_normal, Qloop_exit, Qloop_ret, AR_some, AR_none, AR_map, AR_mapH, AR_ite, AVK_some, AVK_none, AVK_map, AVK_ite, AVM_some, AVM_none, AHK_some, AHK_none, AHK_ite, aop, gs, List.length_set, evalOp, ofValue, ofCell, isConst, abin, aint, astrop, ashift, aun, acall1, abuiltin, alenOf, aresults, aresult, packed, List.nil_append, List.append_nil, List.map_cons, List.map_nil, List.getElem?_toArray, List.getElem?_cons_zero, List.getElem?_cons_succ, Option.bind_some, Option.map_some, Option.map_none, Nat.reduceEqDiff, Nat.reduceLT, Int.reduceLT, Int.reduceLE, Int.reduceGT, Int.reduceGE,  Nat.reduceAdd, Nat.reduceSub, ↓reduceIte, reduceCtorEq, Bool.false_eq_true, Bool.true_eq_false, Bool.not_true, Bool.not_false, true_and, and_true, false_and, and_false, not_true_eq_false, not_false_eq_true, forall_const, false_implies, true_implies, implies_true, decide_true, decide_false, or_self, false_or, or_false, true_or, or_true, hl, e0, e1, e2, Try.underlying9, a37, c1, h1, h2, h3, h4, bs, bi, q]
  · rw [hn] at h1 h2
    have hb := numB_len 3 m
    obtain ⟨v5, g5, h5, rfl, rfl⟩ := (Next_run (Γ := GL) (D := D4) rfl 99 (by omega) ([63] ++ numB 3 m ++ s) (by simp; omega) 1 g4).out
    rw [back m hm s] at h5
    simp only [Nat.reduceAdd] at h5
    have q : ((0 : Int) != 0) = false := by decide
    have k1 : ([63] : List UInt8).length + (numB 3 m).length ≤ sizeCap := by simp [sizeCap]; omega
    have k2 : ([63] ++ numB 3 m : List UInt8).length + s.length ≤ sizeCap := by simp [sizeCap]; omega
    have w : IntKind.i64.wrap (1 + ((numB 3 m).length : Int)) = ((1 + (numB 3 m).length : Nat) : Int) := by rw [wrap_i64 (by omega) (by omega)]; omega
    have b63 : (⟨#[63]⟩ : ByteArray).data.toList = [63] := rfl
    simp only [↓KP_nil, ↓KP_seq, ↓KP_seqE, ↓KP_seqR, ↓KP_block, ↓KP_blockE, ↓KP_blockR, ↓AW_skip, ↓AW_region, ↓AW_drawn, ↓AW_seq, ↓AW_cond, ↓AW_block, ↓AW_exit, ↓AW_scope, ↓AW_label, ↓AW_ret, ↓AW_loop, ↓AE_nil, ↓AE_step, ↓AE_guard, ↓KA_some, ↓KA_none, ↓CondK_true, ↓CondK_false, ↓GuardK_some, ↓GuardW_yes, ↓GuardW_tf, ↓GuardW_ft, ↓GuardW_undef, ↓dstAt_zero, ↓dstAt_succ, ↓AR_some, ↓AR_none, ↓AVK_some, ↓AVM_some, ↓AHK_some, CondK_true, CondK_false, GuardW_yes, GuardW_tf, GuardW_ft, GuardW_undef, Qfun_normal, Qfun_ret, Qloop_normal, Qloop_exit, Qloop_ret, AR_some, AR_none, AR_map, AR_mapH, AR_ite, AVK_some, AVK_none, AVK_map, AVK_ite, AVM_some, AVM_none, AHK_some, AHK_none, AHK_ite, aop, gs, List.length_set, evalOp, ofValue, ofCell, isConst, abin, aint, astrop, ashift, aun, acall1, abuiltin, alenOf, aresults, aresult, packed, List.nil_append, List.append_nil, List.map_cons, List.map_nil, List.getElem?_toArray, List.getElem?_cons_zero, List.getElem?_cons_succ, Option.bind_some, Option.map_some, Option.map_none, Nat.reduceEqDiff, Nat.reduceLT, Int.reduceLT, Int.reduceLE, Int.reduceGT, Int.reduceGE,  Nat.reduceAdd, Nat.reduceSub, ↓reduceIte, reduceCtorEq, Bool.false_eq_true, Bool.true_eq_false, Bool.not_true, Bool.not_false, true_and, and_true, false_and, and_false, not_true_eq_false, not_false_eq_true, forall_const, false_implies, true_implies, implies_true, decide_true, decide_false, or_self, false_or, or_false, true_or, or_true, hl, e0, e1, e2, Try.underlying9, a37, c1, h1, h2, h3, h4, bs, bi, bj, q, b63, k1, k2, h5, w, Int.natCast_zero]
end Go.Proofs.YtikkpmmhejjpaaaM
