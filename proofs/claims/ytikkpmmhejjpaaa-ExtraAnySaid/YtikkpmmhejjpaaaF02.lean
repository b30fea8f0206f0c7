/- The functions of layer 2 for every input: bytes that are cut out, numbers that are read, by the machine. -/
import Derived.Test.YtikkpmmhejjpaaaFieldBackL
import Derived.Test.YtikkpmmhejjpaaaM22
import Derived.Test.YtikkpmmhejjpaaaChecked
import Derived.KernelRfl
set_option linter.unusedSimpArgs false
set_option linter.unusedVariables false
namespace Go.Proofs.YtikkpmmhejjpaaaM
open Go Go.RowKit
variable {Γ : Hooks} {D : Drawn}

def cutOf (s : List UInt8) (a m : Int) : List UInt8 × Int :=
  if a < 0 ∨ m < 0 ∨ a > s.length ∨ m > s.length - a then ([], 3) else ((s.take (a + m).toNat).drop a.toNat, 0)

set_option maxRecDepth 100000 in
set_option maxHeartbeats 1000000 in
theorem cut_run (h47 : Γ 47 = none) (n : Nat) (s : List UInt8) (a m : Int) (h : AH) (hs : s.length < 1000000000) : AR (acall Try.prog Γ D (n + 1) 47 [.str s, .int .i64 a, .int .i64 m] h) fun v h' => h' = h ∧ v = .tup [.str (cutOf s a m).1, .int .i64 (cutOf s a m).2] := by
  refine AR_call h47 Try.func47 rfl _ _ fun env hl he => ?_
  have e0 := he 0; have e1 := he 1; have e2 := he 2
  simp only [List.getD_cons_zero, List.getD_cons_succ] at e0 e1 e2
  simp only [Try.f47] at hl ⊢
  simp only [List.length_cons, List.length_nil, Nat.reduceAdd, Nat.reduceSub] at hl
  unfold cutOf
  by_cases c1 : a < 0
  · simp only [↓KP_nil, ↓KP_seq, ↓KP_seqE, ↓KP_seqR, ↓KP_block, ↓KP_blockE, ↓KP_blockR, ↓AW_skip, ↓AW_region, ↓AW_drawn, ↓AW_seq, ↓AW_cond, ↓AW_block, ↓AW_exit, ↓AW_scope, ↓AW_label, ↓AW_ret, ↓AW_loop, ↓AE_nil, ↓AE_step, ↓AE_guard, ↓KA_some, ↓KA_none, ↓CondK_true, ↓CondK_false, ↓GuardK_some, ↓GuardW_yes, ↓GuardW_tf, ↓GuardW_ft, ↓GuardW_undef, ↓dstAt_zero, ↓dstAt_succ, ↓AR_some, ↓AR_none, ↓AVK_some, ↓AVM_some, ↓AHK_some, CondK_true, CondK_false, GuardW_yes, GuardW_tf, GuardW_ft, GuardW_undef, Qfun_normal, Qfun_ret, Qloop_normal, Qloop_exit, Qloop_ret, AR_some, AR_none, AR_map, AR_mapH, AR_ite, AVK_some, AVK_none, AVK_map, AVK_ite, AVM_some, AVM_none, AHK_some, AHK_none, AHK_ite, aop, gs, List.length_set, evalOp, ofValue, ofCell, isConst, abin, aint, astrop, ashift, aun, acall1, abuiltin, alenOf, aresults, aresult, packed, List.nil_append, List.append_nil, List.map_cons, List.map_nil, List.getElem?_toArray, List.getElem?_cons_zero, List.getElem?_cons_succ, Option.bind_some, Option.map_some, Option.map_none, Nat.reduceEqDiff, Nat.reduceLT, Int.reduceLT, Int.reduceLE, Int.reduceGT, Int.reduceGE,  Nat.reduceAdd, Nat.reduceSub, ↓reduceIte, reduceCtorEq, Bool.false_eq_true, Bool.true_eq_false, Bool.not_true, Bool.not_false, true_and, and_true, false_and, and_false, not_true_eq_false, not_false_eq_true, forall_const, false_implies, true_implies, implies_true, decide_true, decide_false, or_self, false_or, or_false, true_or, or_true, hl, e0, e1, e2, Try.underlying9, c1]
  by_cases c2 : m < 0
  · simp only [↓KP_nil, ↓KP_seq, ↓KP_seqE, ↓KP_seqR, ↓KP_block, ↓KP_blockE, ↓KP_blockR, ↓AW_skip, ↓AW_region, ↓AW_drawn, ↓AW_seq, ↓AW_cond, ↓AW_block, ↓AW_exit, ↓AW_scope, ↓AW_label, ↓AW_ret, ↓AW_loop, ↓AE_nil, ↓AE_step, ↓AE_guard, ↓KA_some, ↓KA_none, ↓CondK_true, ↓CondK_false, ↓GuardK_some, ↓GuardW_yes, ↓GuardW_tf, ↓GuardW_ft, ↓GuardW_undef, ↓dstAt_zero, ↓dstAt_succ, ↓AR_some, ↓AR_none, ↓AVK_some, ↓AVM_some, ↓AHK_some, CondK_true, CondK_false, GuardW_yes, GuardW_tf, GuardW_ft, GuardW_undef, Qfun_normal, Qfun_ret, Qloop_normal, Qloop_exit, Qloop_ret, AR_some, AR_none, AR_map, AR_mapH, AR_ite, AVK_some, AVK_none, AVK_map, AVK_ite, AVM_some, AVM_none, AHK_some, AHK_none, AHK_ite, aop, gs, List.length_set, evalOp, ofValue, ofCell, isConst, abin, aint, astrop, ashift, aun, acall1, abuiltin, alenOf, aresults, aresult, packed, List.nil_append, List.append_nil, List.map_cons, List.map_nil, List.getElem?_toArray, List.getElem?_cons_zero, List.getElem?_cons_succ, Option.bind_some, Option.map_some, Option.map_none, Nat.reduceEqDiff, Nat.reduceLT, Int.reduceLT, Int.reduceLE, Int.reduceGT, Int.reduceGE,  Nat.reduceAdd, Nat.reduceSub, ↓reduceIte, reduceCtorEq, Bool.false_eq_true, Bool.true_eq_false, Bool.not_true, Bool.not_false, true_and, and_true, false_and, and_false, not_true_eq_false, not_false_eq_true, forall_const, false_implies, true_implies, implies_true, decide_true, decide_false, or_self, false_or, or_false, true_or, or_true, hl, e0, e1, e2, Try.underlying9, c1, c2]
  by_cases c3 : a > s.length
  · simp only [↓KP_nil, ↓KP_seq, ↓KP_seqE, ↓KP_seqR, ↓KP_block, ↓KP_blockE, ↓KP_blockR, ↓AW_skip, ↓AW_region, ↓AW_drawn, ↓AW_seq, ↓AW_cond, ↓AW_block, ↓AW_exit, ↓AW_scope, ↓AW_label, ↓AW_ret, ↓AW_loop, ↓AE_nil, ↓AE_step, ↓AE_guard, ↓KA_some, ↓KA_none, ↓CondK_true, ↓CondK_false, ↓GuardK_some, ↓GuardW_yes, ↓GuardW_tf, ↓GuardW_ft, ↓GuardW_undef, ↓dstAt_zero, ↓dstAt_succ, ↓AR_some, ↓AR_none, ↓AVK_some, ↓AVM_some, ↓AHK_some, CondK_true, CondK_false, GuardW_yes, GuardW_tf, GuardW_ft, GuardW_undef, Qfun_normal, Qfun_ret, Qloop_normal, Qloop_exit, Qloop_ret, AR_some, AR_none, AR_map, AR_mapH, AR_ite, AVK_some, AVK_none, AVK_map, AVK_ite, AVM_some, AVM_none, AHK_some, AHK_none, AHK_ite, aop, gs, List.length_set, evalOp, ofValue, ofCell, isConst, abin, aint, astrop, ashift, aun, acall1, abuiltin, alenOf, aresults, aresult, packed, List.nil_append, List.append_nil, List.map_cons, List.map_nil, List.getElem?_toArray, List.getElem?_cons_zero, List.getElem?_cons_succ, Option.bind_some, Option.map_some, Option.map_none, Nat.reduceEqDiff, Nat.reduceLT, Int.reduceLT, Int.reduceLE, Int.reduceGT, Int.reduceGE,  Nat.reduceAdd, Nat.reduceSub, ↓reduceIte, reduceCtorEq, Bool.false_eq_true, Bool.true_eq_false, Bool.not_true, Bool.not_false, true_and, and_true, false_and, and_false, not_true_eq_false, not_false_eq_true, forall_const, false_implies, true_implies, implies_true, decide_true, decide_false, or_self, false_or, or_false, true_or, or_true, hl, e0, e1, e2, Try.underlying9, c1, c2, c3]
  have w1 : IntKind.i64.wrap (s.length - a) = s.length - a := wrap_i64 (by omega) (by omega)
  by_cases c4 : m > s.length - a
  · simp only [↓KP_nil, ↓KP_seq, ↓KP_seqE, ↓KP_seqR, ↓KP_block, ↓KP_blockE, ↓KP_blockR, ↓AW_skip, ↓AW_region, ↓AW_drawn, ↓AW_seq, ↓AW_cond, ↓AW_block, ↓AW_exit, ↓AW_scope, ↓AW_label, ↓AW_ret, ↓AW_loop, ↓AE_nil, ↓AE_step, ↓AE_guard, ↓KA_some, ↓KA_none, ↓CondK_true, ↓CondK_false, ↓GuardK_some, ↓GuardW_yes, ↓GuardW_tf, ↓GuardW_ft, ↓GuardW_undef, ↓dstAt_zero, ↓dstAt_succ, ↓AR_some, ↓AR_none, ↓AVK_some, ↓AVM_some, ↓AHK_some, CondK_true, CondK_false, GuardW_yes, GuardW_tf, GuardW_ft, GuardW_undef, Qfun_normal, Qfun_ret, Qloop_normal, Qloop_exit, Qloop_ret, AR_some, AR_none, AR_map, AR_mapH, AR_ite, AVK_some, AVK_none, AVK_map, AVK_ite, AVM_some, AVM_none, AHK_some, AHK_none, AHK_ite, aop, gs, List.length_set, evalOp, ofValue, ofCell, isConst, abin, aint, astrop, ashift, aun, acall1, abuiltin, alenOf, aresults, aresult, packed, List.nil_append, List.append_nil, List.map_cons, List.map_nil, List.getElem?_toArray, List.getElem?_cons_zero, List.getElem?_cons_succ, Option.bind_some, Option.map_some, Option.map_none, Nat.reduceEqDiff, Nat.reduceLT, Int.reduceLT, Int.reduceLE, Int.reduceGT, Int.reduceGE,  Nat.reduceAdd, Nat.reduceSub, ↓reduceIte, reduceCtorEq, Bool.false_eq_true, Bool.true_eq_false, Bool.not_true, Bool.not_false, true_and, and_true, false_and, and_false, not_true_eq_false, not_false_eq_true, forall_const, false_implies, true_implies, implies_true, decide_true, decide_false, or_self, false_or, or_false, true_or, or_true, hl, e0, e1, e2, Try.underlying9, c1, c2, c3, w1, c4]
  have w2 : IntKind.i64.wrap (a + m) = a + m := wrap_i64 (by omega) (by omega)
  have sl := aslice_str (P := Try.prog) (l := s) (k := .i64) (k' := .i64) (h := h) Try.underlying9 (a := a) (b := a + m) (by omega) (by omega) (by omega)
  simp only [↓KP_nil, ↓KP_seq, ↓KP_seqE, ↓KP_seqR, ↓KP_block, ↓KP_blockE, ↓KP_blockR, ↓AW_skip, ↓AW_region, ↓AW_drawn, ↓AW_seq, ↓AW_cond, ↓AW_block, ↓AW_exit, ↓AW_scope, ↓AW_label, ↓AW_ret, ↓AW_loop, ↓AE_nil, ↓AE_step, ↓AE_guard, ↓KA_some, ↓KA_none, ↓CondK_true, ↓CondK_false, ↓GuardK_some, ↓GuardW_yes, ↓GuardW_tf, ↓GuardW_ft, ↓GuardW_undef, ↓dstAt_zero, ↓dstAt_succ, ↓AR_some, ↓AR_none, ↓AVK_some, ↓AVM_some, ↓AHK_some, CondK_true, CondK_false, GuardW_yes, GuardW_tf, GuardW_ft, GuardW_undef, Qfun_normal, Qfun_ret, Qloop_normal, Qloop_exit, Qloop_ret, AR_some, AR_none, AR_map, AR_mapH, AR_ite, AVK_some, AVK_none, AVK_map, AVK_ite, AVM_some, AVM_none, AHK_some, AHK_none, AHK_ite, aop, gs, List.length_set, evalOp, ofValue, ofCell, isConst, abin, aint, astrop, ashift, aun, acall1, abuiltin, alenOf, aresults, aresult, packed, List.nil_append, List.append_nil, List.map_cons, List.map_nil, List.getElem?_toArray, List.getElem?_cons_zero, List.getElem?_cons_succ, Option.bind_some, Option.map_some, Option.map_none, Nat.reduceEqDiff, Nat.reduceLT, Int.reduceLT, Int.reduceLE, Int.reduceGT, Int.reduceGE,  Nat.reduceAdd, Nat.reduceSub, ↓reduceIte, reduceCtorEq, Bool.false_eq_true, Bool.true_eq_false, Bool.not_true, Bool.not_false, true_and, and_true, false_and, and_false, not_true_eq_false, not_false_eq_true, forall_const, false_implies, true_implies, implies_true, decide_true, decide_false, or_self, false_or, or_false, true_or, or_true, hl, e0, e1, e2, Try.underlying9, c1, c2, c3, w1, c4, w2, sl]

theorem cut_length (s : List UInt8) (a m : Int) : (cutOf s a m).1.length = 0 ∨ ((cutOf s a m).1.length : Int) = m := by
  unfold cutOf
  split
  · left; rfl
  · right; simp; omega

theorem leNum_take_succ (b : List UInt8) : ∀ i, i < b.length → leNum (b.take (i + 1)) = leNum (b.take i) + (b.getD i 0).toNat * 256 ^ i := by
  induction b with
  | nil => intro i hi; simp at hi
  | cons c b ih =>
    intro i hi
    cases i with
    | zero => simp [leNum]
    | succ i =>
      simp only [List.take_succ_cons, leNum]
      rw [ih i (by simpa using hi), Nat.mul_add, Nat.add_assoc, List.getD_cons_succ, Nat.pow_succ]
      congr 2
      rw [Nat.mul_comm (256 ^ i), ← Nat.mul_assoc, ← Nat.mul_assoc, Nat.mul_comm 256]

set_option maxRecDepth 100000 in
set_option maxHeartbeats 1000000 in
theorem number_run (h47 : Γ 47 = none) (h46 : Γ 46 = none) (n : Nat) (hn : 10 ≤ n) (s : List UInt8) (a m : Int) (h : AH) (hs : s.length < 1000000000) (hm : m ≤ 8) :
    AR (acall Try.prog Γ D (n + 1) 46 [.str s, .int .i64 a, .int .i64 m] h) fun v h' => h' = h ∧ v = .tup [.int .u64 (leNum (cutOf s a m).1), .int .i64 (cutOf s a m).2] := by
  refine AR_call h46 Try.func46 rfl _ _ fun env hl he => ?_
  have e0 := he 0; have e1 := he 1; have e2 := he 2
  simp only [List.getD_cons_zero, List.getD_cons_succ] at e0 e1 e2
  simp only [Try.f46] at hl ⊢
  simp only [List.length_cons, List.length_nil, Nat.reduceAdd, Nat.reduceSub] at hl
  obtain ⟨v, h', hc, rfl, rfl⟩ := (cut_run (D := D) h47 (n - 1) s a m h hs).out
  rw [show n - 1 + 1 = n by omega] at hc
  have hlen := cut_length s a m
  generalize hb : cutOf s a m = c at *
  obtain ⟨b, e⟩ := c
  simp only at *
  have hbl : b.length ≤ 8 := by omega
  simp only [↓KP_nil, ↓KP_seq, ↓KP_seqE, ↓KP_seqR, ↓KP_block, ↓KP_blockE, ↓KP_blockR, ↓AW_skip, ↓AW_region, ↓AW_drawn, ↓AW_seq, ↓AW_cond, ↓AW_block, ↓AW_exit, ↓AW_scope, ↓AW_label, ↓AW_ret, ↓AW_loop, ↓AE_nil, ↓AE_step, ↓AE_guard, ↓KA_some, ↓KA_none, ↓CondK_true, ↓CondK_false, ↓GuardK_some, ↓GuardW_yes, ↓GuardW_tf, ↓GuardW_ft, ↓GuardW_undef, ↓dstAt_zero, ↓dstAt_succ, ↓AR_some, ↓AR_none, ↓AVK_some, ↓AVM_some, ↓AHK_some, CondK_true, CondK_false, GuardW_yes, GuardW_tf, GuardW_ft, GuardW_undef, Qfun_normal, Qfun_ret, Qloop_normal, Qloop_exit, Qloop_ret, AR_some, AR_none, AR_map, AR_mapH, AR_ite, AVK_some, AVK_none, AVK_map, AVK_ite, AVM_some, AVM_none, AHK_some, AHK_none, AHK_ite, aop, gs, List.length_set, evalOp, ofValue, ofCell, isConst, abin, aint, astrop, ashift, aun, acall1, abuiltin, alenOf, aresults, aresult, packed, List.nil_append, List.append_nil, List.map_cons, List.map_nil, List.getElem?_toArray, List.getElem?_cons_zero, List.getElem?_cons_succ, Option.bind_some, Option.map_some, Option.map_none, Nat.reduceEqDiff, Nat.reduceLT, Int.reduceLT, Int.reduceLE, Int.reduceGT, Int.reduceGE,  Nat.reduceAdd, Nat.reduceSub, ↓reduceIte, reduceCtorEq, Bool.false_eq_true, Bool.true_eq_false, Bool.not_true, Bool.not_false, true_and, and_true, false_and, and_false, not_true_eq_false, not_false_eq_true, forall_const, false_implies, true_implies, implies_true, decide_true, decide_false, or_self, false_or, or_false, true_or, or_true, hl, e0, e1, e2, Try.underlying9, hc]
  refine AW_loopI (fun k env h1 => h1 = h' ∧ env.length = 36 ∧ env.getD 8 .undef = .str b ∧ env.getD 9 .undef = .int .i64 e ∧ env.getD 20 .undef = .int .i64 b.length ∧ ∃ i : Nat, k + i = b.length ∧ env.getD 21 .undef = .int .i64 i ∧ env.getD 10 .undef = .int .u64 (leNum (b.take i))) ?_ b.length _ _ ?_ (by omega)
  · rintro k env1 _ ⟨rfl, hl, e8, e9, e20, i, hi, e21, e10⟩
    by_cases hlt : (i : Int) < b.length
    · have ix := aindex_str (P := Try.prog) Try.underlying9 (l := b) (k := .i64) (i := i) (by omega) hlt
      have cv := fun x g => aconv_int (P := Try.prog) (h := g) (n := x) (k' := .u8) Try.underlying5 Try.underlying25
      have w8 : IntKind.i64.wrap (8 * (i : Int)) = ((8 * i : Nat) : Int) := by rw [wrap_i64 (by omega) (by omega)]; omega
      have wi : IntKind.i64.wrap ((i : Int) + 1) = ((i + 1 : Nat) : Int) := by rw [wrap_i64 (by omega) (by omega)]; omega
      have hlb : leNum (b.take i) < 256 ^ i := by
        have := leNum_lt (b.take i)
        rwa [List.length_take, Nat.min_eq_left (by omega)] at this
      have ob : IntKind.u64.wrap ((BitVec.ofInt IntKind.u64.bits (leNum (b.take i) : Int) ||| BitVec.ofInt IntKind.u64.bits (IntKind.u64.wrap (IntKind.u64.wrap (b.getD i 0).toNat * 2 ^ min (8 * i) IntKind.u64.bits))).toNat) = ((leNum (b.take (i + 1)) : Nat) : Int) := by
        rw [leNum_take_succ b i (by omega)]
        exact or_byte (leNum (b.take i)) i (b.getD i 0) (by omega) hlb
      have hn8 : ¬ ((8 * i : Nat) : Int) < 0 := by omega
      simp only [↓KP_nil, ↓KP_seq, ↓KP_seqE, ↓KP_seqR, ↓KP_block, ↓KP_blockE, ↓KP_blockR, ↓AW_skip, ↓AW_region, ↓AW_drawn, ↓AW_seq, ↓AW_cond, ↓AW_block, ↓AW_exit, ↓AW_scope, ↓AW_label, ↓AW_ret, ↓AW_loop, ↓AE_nil, ↓AE_step, ↓AE_guard, ↓KA_some, ↓KA_none, ↓CondK_true, ↓CondK_false, ↓GuardK_some, ↓GuardW_yes, ↓GuardW_tf, ↓GuardW_ft, ↓GuardW_undef, ↓dstAt_zero, ↓dstAt_succ, ↓AR_some, ↓AR_none, ↓AVK_some, ↓AVM_some, ↓AHK_some, CondK_true, CondK_false, GuardW_yes, GuardW_tf, GuardW_ft, GuardW_undef, Qfun_normal, Qfun_ret, Qloop_normal, Qloop_exit, Qloop_ret, AR_some, AR_none, AR_map, AR_mapH, AR_ite, AVK_some, AVK_none, AVK_map, AVK_ite, AVM_some, AVM_none, AHK_some, AHK_none, AHK_ite, aop, gs, List.length_set, evalOp, ofValue, ofCell, isConst, abin, aint, astrop, ashift, aun, acall1, abuiltin, alenOf, aresults, aresult, packed, List.nil_append, List.append_nil, List.map_cons, List.map_nil, List.getElem?_toArray, List.getElem?_cons_zero, List.getElem?_cons_succ, Option.bind_some, Option.map_some, Option.map_none, Nat.reduceEqDiff, Nat.reduceLT, Int.reduceLT, Int.reduceLE, Int.reduceGT, Int.reduceGE,  Nat.reduceAdd, Nat.reduceSub, ↓reduceIte, reduceCtorEq, Bool.false_eq_true, Bool.true_eq_false, Bool.not_true, Bool.not_false, true_and, and_true, false_and, and_false, not_true_eq_false, not_false_eq_true, forall_const, false_implies, true_implies, implies_true, decide_true, decide_false, or_self, false_or, or_false, true_or, or_true, hl, e8, e9, e10, e20, e21, Try.underlying9, hlt, ix, cv, w8, wi, Int.toNat_natCast, ob, hn8]
      exact ⟨k - 1, by omega, i + 1, by omega, rfl, rfl⟩
    · simp only [↓KP_nil, ↓KP_seq, ↓KP_seqE, ↓KP_seqR, ↓KP_block, ↓KP_blockE, ↓KP_blockR, ↓AW_skip, ↓AW_region, ↓AW_drawn, ↓AW_seq, ↓AW_cond, ↓AW_block, ↓AW_exit, ↓AW_scope, ↓AW_label, ↓AW_ret, ↓AW_loop, ↓AE_nil, ↓AE_step, ↓AE_guard, ↓KA_some, ↓KA_none, ↓CondK_true, ↓CondK_false, ↓GuardK_some, ↓GuardW_yes, ↓GuardW_tf, ↓GuardW_ft, ↓GuardW_undef, ↓dstAt_zero, ↓dstAt_succ, ↓AR_some, ↓AR_none, ↓AVK_some, ↓AVM_some, ↓AHK_some, CondK_true, CondK_false, GuardW_yes, GuardW_tf, GuardW_ft, GuardW_undef, Qfun_normal, Qfun_ret, Qloop_normal, Qloop_exit, Qloop_ret, AR_some, AR_none, AR_map, AR_mapH, AR_ite, AVK_some, AVK_none, AVK_map, AVK_ite, AVM_some, AVM_none, AHK_some, AHK_none, AHK_ite, aop, gs, List.length_set, evalOp, ofValue, ofCell, isConst, abin, aint, astrop, ashift, aun, acall1, abuiltin, alenOf, aresults, aresult, packed, List.nil_append, List.append_nil, List.map_cons, List.map_nil, List.getElem?_toArray, List.getElem?_cons_zero, List.getElem?_cons_succ, Option.bind_some, Option.map_some, Option.map_none, Nat.reduceEqDiff, Nat.reduceLT, Int.reduceLT, Int.reduceLE, Int.reduceGT, Int.reduceGE,  Nat.reduceAdd, Nat.reduceSub, ↓reduceIte, reduceCtorEq, Bool.false_eq_true, Bool.true_eq_false, Bool.not_true, Bool.not_false, true_and, and_true, false_and, and_false, not_true_eq_false, not_false_eq_true, forall_const, false_implies, true_implies, implies_true, decide_true, decide_false, or_self, false_or, or_false, true_or, or_true, hl, e8, e9, e10, e20, e21, Try.underlying9, hlt]
      rw [List.take_of_length_le (by omega)]
  · simp only [↓KP_nil, ↓KP_seq, ↓KP_seqE, ↓KP_seqR, ↓KP_block, ↓KP_blockE, ↓KP_blockR, ↓AW_skip, ↓AW_region, ↓AW_drawn, ↓AW_seq, ↓AW_cond, ↓AW_block, ↓AW_exit, ↓AW_scope, ↓AW_label, ↓AW_ret, ↓AW_loop, ↓AE_nil, ↓AE_step, ↓AE_guard, ↓KA_some, ↓KA_none, ↓CondK_true, ↓CondK_false, ↓GuardK_some, ↓GuardW_yes, ↓GuardW_tf, ↓GuardW_ft, ↓GuardW_undef, ↓dstAt_zero, ↓dstAt_succ, ↓AR_some, ↓AR_none, ↓AVK_some, ↓AVM_some, ↓AHK_some, CondK_true, CondK_false, GuardW_yes, GuardW_tf, GuardW_ft, GuardW_undef, Qfun_normal, Qfun_ret, Qloop_normal, Qloop_exit, Qloop_ret, AR_some, AR_none, AR_map, AR_mapH, AR_ite, AVK_some, AVK_none, AVK_map, AVK_ite, AVM_some, AVM_none, AHK_some, AHK_none, AHK_ite, aop, gs, List.length_set, evalOp, ofValue, ofCell, isConst, abin, aint, astrop, ashift, aun, acall1, abuiltin, alenOf, aresults, aresult, packed, List.nil_append, List.append_nil, List.map_cons, List.map_nil, List.getElem?_toArray, List.getElem?_cons_zero, List.getElem?_cons_succ, Option.bind_some, Option.map_some, Option.map_none, Nat.reduceEqDiff, Nat.reduceLT, Int.reduceLT, Int.reduceLE, Int.reduceGT, Int.reduceGE,  Nat.reduceAdd, Nat.reduceSub, ↓reduceIte, reduceCtorEq, Bool.false_eq_true, Bool.true_eq_false, Bool.not_true, Bool.not_false, true_and, and_true, false_and, and_false, not_true_eq_false, not_false_eq_true, forall_const, false_implies, true_implies, implies_true, decide_true, decide_false, or_self, false_or, or_false, true_or, or_true, hl, e0, e1, e2]
    exact ⟨0, by omega, rfl, rfl⟩
end Go.Proofs.YtikkpmmhejjpaaaM
