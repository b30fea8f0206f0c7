/- The abstract machine computes what the plain functions say: printed by lift.py. -/
import Derived.Test.YtobhmahlenjheaaSHT
import Derived.KernelRfl
set_option linter.unusedSimpArgs false
set_option linter.unusedVariables false
namespace Go.Proofs.YtobhmahlenjheaaM
open Go Go.RowKit
set_option maxRecDepth 100000 in
set_option maxHeartbeats 4000000 in
theorem W_sha_first {K : PureK} (n62 : K 62 = none) (m : Nat) (hm : NF + 1 ≤ m) (h : AH)  {r : GA8_u32} (hF : F_sha_first  = some r) :
    AR (acall Try.prog (hooksOf K) (drawnOf Try.prog (tabOf K)) m 62 [] h) (fun v h' => v = .agg [.int .u32 r.x0, .int .u32 r.x1, .int .u32 r.x2, .int .u32 r.x3, .int .u32 r.x4, .int .u32 r.x5, .int .u32 r.x6, .int .u32 r.x7]) := by
  obtain ⟨m, rfl⟩ : ∃ k, m = k + 1 := ⟨m - 1, by omega⟩
  refine AR_call (hooksOf_none n62) Try.func62 rfl _ _ fun env hl he => ?_
  simp only [Try.f62] at hl ⊢
  simp only [List.length_cons, List.length_nil, Nat.reduceAdd, Nat.reduceSub] at hl
  clear he
  have S0 : Sep h [] h [] := Sep.nil h
  rw [F_sha_first] at hF
  try simp only [↓WD, W0, evalOp, Nat.reduceEqDiff, Nat.reduceLT, ↓reduceIte, reduceCtorEq, hl]
  rw [AW_region]
  obtain ⟨i1, h2, oa3, S4⟩ := S0.alloc 88 [.int .u32 0, .int .u32 0, .int .u32 0, .int .u32 0, .int .u32 0, .int .u32 0, .int .u32 0, .int .u32 0]
  have S6 : Sep h [] h2 [.blk i1 ([0, 0, 0, 0, 0, 0, 0, 0].map (AV.int .u32)) 88] := S4
  refine AE_joinR (fun e h' => h2 = h' ∧ e.length = 2 ∧ e.getD 0 .undef = .ptr i1 0) (by
    simp only [↓WE, WA, WL, aop, ofValue, ofCell, isConst, abin, acall1, abuiltin, aun, AV.cells, AV.one, Nat.reduceAdd, Int.reduceLT, Int.reduceLE, ↓WD, W0, evalOp, Nat.reduceEqDiff, Nat.reduceLT, ↓reduceIte, reduceCtorEq, hl, zero_88, oa3]
    exact ⟨rfl, (by simp only [List.length_set, hl]), (by simp only [W0, Nat.reduceEqDiff, Nat.reduceLT, ↓reduceIte, hl])⟩) ?_
  rintro envg7 _ ⟨rfl, hl, e0⟩
  try simp only [↓WD, W0, evalOp, Nat.reduceEqDiff, Nat.reduceLT, ↓reduceIte, reduceCtorEq, hl, e0]
  rw [AW_region]
  obtain ⟨_, q11, hF⟩ := obind hF
  obtain ⟨_, q12, hF⟩ := obind hF
  obtain ⟨h8, os9, S10⟩ := S6.storeAll (P := Try.prog) 0 rfl (t := 88) sz_88 q11 q12
  simp only [List.map_cons, List.map_nil] at os9
  have S13 : Sep h [] h8 [.blk i1 ([1779033703, 3144134277, 1013904242, 2773480762, 1359893119, 2600822924, 528734635, 1541459225].map (AV.int .u32)) 88] := S10
  refine AE_joinR (fun e h' => h8 = h' ∧ e.length = 2 ∧ e.getD 0 .undef = .ptr i1 0) (by
    simp only [↓WE, WA, WL, aop, ofValue, ofCell, isConst, abin, acall1, abuiltin, aun, AV.cells, AV.one, Nat.reduceAdd, Int.reduceLT, Int.reduceLE, ↓WD, W0, evalOp, Nat.reduceEqDiff, Nat.reduceLT, ↓reduceIte, reduceCtorEq, hl, e0, bd_88_0_1_2_3_4_5_6_7, os9]
    exact ⟨rfl, (by simp only [List.length_set, hl]), (by simp only [W0, Nat.reduceEqDiff, Nat.reduceLT, ↓reduceIte, hl, e0])⟩) ?_
  rintro envg14 _ ⟨rfl, hl, e0⟩
  try simp only [↓WD, W0, evalOp, Nat.reduceEqDiff, Nat.reduceLT, ↓reduceIte, reduceCtorEq, hl, e0]
  have ol15 := S13.load (P := Try.prog) 0 rfl (t := 88) (off := 0) (v := .agg [.int .u32 1779033703, .int .u32 3144134277, .int .u32 1013904242, .int .u32 2773480762, .int .u32 1359893119, .int .u32 2600822924, .int .u32 528734635, .int .u32 1541459225]) (by simp only [apart, ag_88, sz_88, List.map_cons, List.map_nil]; rfl)
  refine KP_ret (vs := [.agg [.int .u32 1779033703, .int .u32 3144134277, .int .u32 1013904242, .int .u32 2773480762, .int .u32 1359893119, .int .u32 2600822924, .int .u32 528734635, .int .u32 1541459225]]) (by simp only [aresults, aresult, gs, List.length_set, Nat.reduceEqDiff, Nat.reduceLT, ↓reduceIte, hl, e0, ol15]) ?_
  obtain rfl := Option.some.inj hF
  exact rfl
set_option maxRecDepth 100000 in
set_option maxHeartbeats 4000000 in
theorem W_sha_added {K : PureK} (n99 : K 99 = none) (m : Nat) (hm : NF + 1 ≤ m) (h : AH)  {r : (List Int)} (hF : F_sha_added  = some r) :
    AR (acall Try.prog (hooksOf K) (drawnOf Try.prog (tabOf K)) m 99 [] h) (fun v h' => ∃ w0 : Nat, v = .ptr w0 0 ∧ Sep h [] h' [.blk w0 (r.map (AV.int .u32)) 147]) := by
  obtain ⟨m, rfl⟩ : ∃ k, m = k + 1 := ⟨m - 1, by omega⟩
  obtain ⟨i, h1, oa, S⟩ := (Sep.nil h).alloc 147 (KL_99.map (AV.int .u32))
  have e : acall Try.prog (hooksOf K) (drawnOf Try.prog (tabOf K)) (m + 1) 99 [] h = some (anew 147 (KL_99.map (AV.int .u32)) h) :=
    acall_succ (hooksOf_none n99) Try.func99 (c := Try.f99.body.getD .skip) (by kernel_rfl) [] h (by kernel_rfl)
  rw [oa] at e
  obtain rfl : KL_99 = r := Option.some.inj hF
  rw [e]
  exact ⟨i, rfl, S⟩
set_option maxRecDepth 100000 in
set_option maxHeartbeats 4000000 in
theorem W_math_bits_RotateLeft32 {K : PureK} (n134 : K 134 = none) (m : Nat) (hm : NF + 1 ≤ m) (h : AH) (x_ : Int) (k : Int) {r : Int} (hF : F_math_bits_RotateLeft32 x_ k = some r) :
    AR (acall Try.prog (hooksOf K) (drawnOf Try.prog (tabOf K)) m 134 [.int .u32 x_, .int .i64 k] h) (fun v h' => v = .int .u32 r) := by
  obtain ⟨m, rfl⟩ : ∃ k, m = k + 1 := ⟨m - 1, by omega⟩
  refine AR_call (hooksOf_none n134) Try.func134 rfl _ _ fun env hl he => ?_
  have e0 := he 0
  have e1 := he 1
  simp only [List.getD_cons_zero, List.getD_cons_succ] at e0 e1
  simp only [Try.f134] at hl ⊢
  simp only [List.length_cons, List.length_nil, Nat.reduceAdd, Nat.reduceSub] at hl
  clear he
  have S0 : Sep h [] h [] := Sep.nil h
  rw [F_math_bits_RotateLeft32] at hF
  try simp only [↓WD, W0, evalOp, Nat.reduceEqDiff, Nat.reduceLT, ↓reduceIte, reduceCtorEq, hl, e0, e1]
  rw [AW_region]
  refine AE_joinR (fun e h' => h = h' ∧ e.length = 17 ∧ e.getD 0 .undef = .int .u32 x_ ∧ e.getD 1 .undef = .int .i64 k) (by
    simp only [↓WE, WA, WL, aop, ofValue, ofCell, isConst, abin, acall1, abuiltin, aun, AV.cells, AV.one, Nat.reduceAdd, Int.reduceLT, Int.reduceLE, ↓WD, W0, evalOp, Nat.reduceEqDiff, Nat.reduceLT, ↓reduceIte, reduceCtorEq, hl, e0, e1]
    exact ⟨rfl, (by simp only [List.length_set, hl]), (by simp only [W0, Nat.reduceEqDiff, Nat.reduceLT, ↓reduceIte, hl, e0, e1]), (by simp only [W0, Nat.reduceEqDiff, Nat.reduceLT, ↓reduceIte, hl, e0, e1])⟩) ?_
  rintro envg1 _ ⟨rfl, hl, e0, e1⟩
  try simp only [↓WD, W0, evalOp, Nat.reduceEqDiff, Nat.reduceLT, ↓reduceIte, reduceCtorEq, hl, e0, e1]
  rw [AW_region]
  have oc2 := fun g : AH => aconv_int (P := Try.prog) (h := g) (n := k) (k' := .i64) Try.underlying3 Try.underlying25
  refine AE_joinR (fun e h' => h = h' ∧ e.length = 17 ∧ e.getD 0 .undef = .int .u32 x_ ∧ e.getD 5 .undef = .int .u64 (andI .u64 (IntKind.u64.wrap k) 31)) (by
    simp only [↓WE, WA, WL, aop, ofValue, ofCell, isConst, abin, acall1, abuiltin, aun, AV.cells, AV.one, Nat.reduceAdd, Int.reduceLT, Int.reduceLE, ↓WD, W0, evalOp, Nat.reduceEqDiff, Nat.reduceLT, ↓reduceIte, reduceCtorEq, hl, e0, e1, oc2]
    exact ⟨rfl, (by simp only [List.length_set, hl]), (by simp only [W0, Nat.reduceEqDiff, Nat.reduceLT, ↓reduceIte, hl, e0, e1]), (by simp only [W0, Nat.reduceEqDiff, Nat.reduceLT, ↓reduceIte, hl, e0, e1])⟩) ?_
  rintro envg3 _ ⟨rfl, hl, e0, e5⟩
  try simp only [↓WD, W0, evalOp, Nat.reduceEqDiff, Nat.reduceLT, ↓reduceIte, reduceCtorEq, hl, e0, e5]
  rw [AW_region]
  obtain ⟨y4, qy4, hF⟩ := obind hF
  have oy4 := shl_int (k := .u32) qy4
  obtain ⟨y5, qy5, hF⟩ := obind hF
  have oy5 := shr_int (k := .u32) qy5
  refine AE_joinR (fun e h' => h = h' ∧ e.length = 17 ∧ e.getD 4 .undef = .int .u32 (orI .u32 y4 y5)) (by
    simp only [↓WE, WA, WL, aop, ofValue, ofCell, isConst, abin, acall1, abuiltin, aun, AV.cells, AV.one, Nat.reduceAdd, Int.reduceLT, Int.reduceLE, ↓WD, W0, evalOp, Nat.reduceEqDiff, Nat.reduceLT, ↓reduceIte, reduceCtorEq, hl, e0, e5, oy4, oy5]
    exact ⟨rfl, (by simp only [List.length_set, hl]), (by simp only [W0, Nat.reduceEqDiff, Nat.reduceLT, ↓reduceIte, hl, e0, e5])⟩) ?_
  rintro envg6 _ ⟨rfl, hl, e4⟩
  try simp only [↓WD, W0, evalOp, Nat.reduceEqDiff, Nat.reduceLT, ↓reduceIte, reduceCtorEq, hl, e4]
  refine KP_ret (vs := [.int .u32 (orI .u32 y4 y5)]) (by simp only [aresults, aresult, gs, List.length_set, Nat.reduceEqDiff, Nat.reduceLT, ↓reduceIte, hl, e4]) ?_
  obtain rfl := Option.some.inj hF
  exact rfl
set_option maxRecDepth 100000 in
set_option maxHeartbeats 4000000 in
theorem W_sha_right {K : PureK} (k134 : K 134 = some kf_134) (n123 : K 123 = none) (m : Nat) (hm : NF + 1 ≤ m) (h : AH) (a : Int) (n_ : Int) {r : Int} (hF : F_sha_right a n_ = some r) :
    AR (acall Try.prog (hooksOf K) (drawnOf Try.prog (tabOf K)) m 123 [.int .u32 a, .int .i64 n_] h) (fun v h' => v = .int .u32 r) := by
  obtain ⟨m, rfl⟩ : ∃ k, m = k + 1 := ⟨m - 1, by omega⟩
  refine AR_call (hooksOf_none n123) Try.func123 rfl _ _ fun env hl he => ?_
  have e0 := he 0
  have e1 := he 1
  simp only [List.getD_cons_zero, List.getD_cons_succ] at e0 e1
  simp only [Try.f123] at hl ⊢
  simp only [List.length_cons, List.length_nil, Nat.reduceAdd, Nat.reduceSub] at hl
  clear he
  have S0 : Sep h [] h [] := Sep.nil h
  rw [F_sha_right] at hF
  try simp only [↓WD, W0, evalOp, Nat.reduceEqDiff, Nat.reduceLT, ↓reduceIte, reduceCtorEq, hl, e0, e1]
  rw [AW_region]
  refine AE_joinR (fun e h' => h = h' ∧ e.length = 9 ∧ e.getD 0 .undef = .int .u32 a ∧ e.getD 1 .undef = .int .i64 n_) (by
    simp only [↓WE, WA, WL, aop, ofValue, ofCell, isConst, abin, acall1, abuiltin, aun, AV.cells, AV.one, Nat.reduceAdd, Int.reduceLT, Int.reduceLE, ↓WD, W0, evalOp, Nat.reduceEqDiff, Nat.reduceLT, ↓reduceIte, reduceCtorEq, hl, e0, e1]
    exact ⟨rfl, (by simp only [List.length_set, hl]), (by simp only [W0, Nat.reduceEqDiff, Nat.reduceLT, ↓reduceIte, hl, e0, e1]), (by simp only [W0, Nat.reduceEqDiff, Nat.reduceLT, ↓reduceIte, hl, e0, e1])⟩) ?_
  rintro envg1 _ ⟨rfl, hl, e0, e1⟩
  try simp only [↓WD, W0, evalOp, Nat.reduceEqDiff, Nat.reduceLT, ↓reduceIte, reduceCtorEq, hl, e0, e1]
  rw [AW_region]
  obtain ⟨y2, qy2, hF⟩ := obind hF
  have og3 := fun (D : Drawn) (n : Nat) (g : AH) => call_hook (P := Try.prog) (D := D) k134 n (args := [.int .u32 a, .int .i64 (IntKind.i64.wrap (0 - n_))]) (v := .int .u32 y2) ((kf_134_eq a (IntKind.i64.wrap (0 - n_))).trans (by rw [qy2]; rfl)) g
  refine AE_joinR (fun e h' => h = h' ∧ e.length = 9 ∧ e.getD 4 .undef = .int .u32 y2) (by
    simp only [↓WE, WA, WL, aop, ofValue, ofCell, isConst, abin, acall1, abuiltin, aun, AV.cells, AV.one, Nat.reduceAdd, Int.reduceLT, Int.reduceLE, ↓WD, W0, evalOp, Nat.reduceEqDiff, Nat.reduceLT, ↓reduceIte, reduceCtorEq, hl, e0, e1, og3]
    exact ⟨rfl, (by simp only [List.length_set, hl]), (by simp only [W0, Nat.reduceEqDiff, Nat.reduceLT, ↓reduceIte, hl, e0, e1])⟩) ?_
  rintro envg4 _ ⟨rfl, hl, e4⟩
  try simp only [↓WD, W0, evalOp, Nat.reduceEqDiff, Nat.reduceLT, ↓reduceIte, reduceCtorEq, hl, e4]
  refine KP_ret (vs := [.int .u32 y2]) (by simp only [aresults, aresult, gs, List.length_set, Nat.reduceEqDiff, Nat.reduceLT, ↓reduceIte, hl, e4]) ?_
  obtain rfl := Option.some.inj hF
  exact rfl
set_option maxRecDepth 100000 in
set_option maxHeartbeats 4000000 in
theorem W_sha_words {K : PureK} (k123 : K 123 = some kf_123) (n100 : K 100 = none) (m : Nat) (hm : NF + 1 ≤ m) (h : AH) (s_ : List UInt8) {r : (List Int)} (hF : F_sha_words s_ = some r) :
    AR (acall Try.prog (hooksOf K) (drawnOf Try.prog (tabOf K)) m 100 [.str s_] h) (fun v h' => ∃ w0 : Nat, v = .ptr w0 0 ∧ Sep h [] h' [.blk w0 (r.map (AV.int .u32)) 147]) := by
  obtain ⟨m, rfl⟩ : ∃ k, m = k + 1 := ⟨m - 1, by omega⟩
  refine AR_call (hooksOf_none n100) Try.func100 rfl _ _ fun env hl he => ?_
  have e0 := he 0
  simp only [List.getD_cons_zero, List.getD_cons_succ] at e0
  simp only [Try.f100] at hl ⊢
  simp only [List.length_cons, List.length_nil, Nat.reduceAdd, Nat.reduceSub] at hl
  clear he
  have S0 : Sep h [] h [] := Sep.nil h
  rw [F_sha_words] at hF
  try simp only [↓WD, W0, evalOp, Nat.reduceEqDiff, Nat.reduceLT, ↓reduceIte, reduceCtorEq, hl, e0]
  rw [AW_region]
  refine AE_joinR (fun e h' => h = h' ∧ e.length = 84 ∧ e.getD 0 .undef = .str s_) (by
    simp only [↓WE, WA, WL, aop, ofValue, ofCell, isConst, abin, acall1, abuiltin, aun, AV.cells, AV.one, Nat.reduceAdd, Int.reduceLT, Int.reduceLE, ↓WD, W0, evalOp, Nat.reduceEqDiff, Nat.reduceLT, ↓reduceIte, reduceCtorEq, hl, e0]
    exact ⟨rfl, (by simp only [List.length_set, hl]), (by simp only [W0, Nat.reduceEqDiff, Nat.reduceLT, ↓reduceIte, hl, e0])⟩) ?_
  rintro envg1 _ ⟨rfl, hl, e0⟩
  try simp only [↓WD, W0, evalOp, Nat.reduceEqDiff, Nat.reduceLT, ↓reduceIte, reduceCtorEq, hl, e0]
  rw [AW_region]
  obtain ⟨i2, h3, oa4, S5⟩ := S0.alloc 147 [.int .u32 0, .int .u32 0, .int .u32 0, .int .u32 0, .int .u32 0, .int .u32 0, .int .u32 0, .int .u32 0, .int .u32 0, .int .u32 0, .int .u32 0, .int .u32 0, .int .u32 0, .int .u32 0, .int .u32 0, .int .u32 0, .int .u32 0, .int .u32 0, .int .u32 0, .int .u32 0, .int .u32 0, .int .u32 0, .int .u32 0, .int .u32 0, .int .u32 0, .int .u32 0, .int .u32 0, .int .u32 0, .int .u32 0, .int .u32 0, .int .u32 0, .int .u32 0, .int .u32 0, .int .u32 0, .int .u32 0, .int .u32 0, .int .u32 0, .int .u32 0, .int .u32 0, .int .u32 0, .int .u32 0, .int .u32 0, .int .u32 0, .int .u32 0, .int .u32 0, .int .u32 0, .int .u32 0, .int .u32 0, .int .u32 0, .int .u32 0, .int .u32 0, .int .u32 0, .int .u32 0, .int .u32 0, .int .u32 0, .int .u32 0, .int .u32 0, .int .u32 0, .int .u32 0, .int .u32 0, .int .u32 0, .int .u32 0, .int .u32 0, .int .u32 0]
  have S7 : Sep h [] h3 [.blk i2 ([0, 0, 0, 0, 0, 0, 0, 0, 0, 0, 0, 0, 0, 0, 0, 0, 0, 0, 0, 0, 0, 0, 0, 0, 0, 0, 0, 0, 0, 0, 0, 0, 0, 0, 0, 0, 0, 0, 0, 0, 0, 0, 0, 0, 0, 0, 0, 0, 0, 0, 0, 0, 0, 0, 0, 0, 0, 0, 0, 0, 0, 0, 0, 0].map (AV.int .u32)) 147] := S5
  refine AE_joinR (fun e h' => h3 = h' ∧ e.length = 84 ∧ e.getD 0 .undef = .str s_ ∧ e.getD 3 .undef = .ptr i2 0) (by
    simp only [↓WE, WA, WL, aop, ofValue, ofCell, isConst, abin, acall1, abuiltin, aun, AV.cells, AV.one, Nat.reduceAdd, Int.reduceLT, Int.reduceLE, ↓WD, W0, evalOp, Nat.reduceEqDiff, Nat.reduceLT, ↓reduceIte, reduceCtorEq, hl, e0, zero_147, oa4]
    exact ⟨rfl, (by simp only [List.length_set, hl]), (by simp only [W0, Nat.reduceEqDiff, Nat.reduceLT, ↓reduceIte, hl, e0]), (by simp only [W0, Nat.reduceEqDiff, Nat.reduceLT, ↓reduceIte, hl, e0])⟩) ?_
  rintro envg8 _ ⟨rfl, hl, e0, e3⟩
  try simp only [↓WD, W0, evalOp, Nat.reduceEqDiff, Nat.reduceLT, ↓reduceIte, reduceCtorEq, hl, e0, e3]
  rw [AW_region]
  refine AE_joinR (fun e h' => h3 = h' ∧ e.length = 84 ∧ e.getD 0 .undef = .str s_ ∧ e.getD 3 .undef = .ptr i2 0 ∧ e.getD 8 .undef = .int .i64 0) (by
    simp only [↓WE, WA, WL, aop, ofValue, ofCell, isConst, abin, acall1, abuiltin, aun, AV.cells, AV.one, Nat.reduceAdd, Int.reduceLT, Int.reduceLE, ↓WD, W0, evalOp, Nat.reduceEqDiff, Nat.reduceLT, ↓reduceIte, reduceCtorEq, hl, e0, e3]
    exact ⟨rfl, (by simp only [List.length_set, hl]), (by simp only [W0, Nat.reduceEqDiff, Nat.reduceLT, ↓reduceIte, hl, e0, e3]), (by simp only [W0, Nat.reduceEqDiff, Nat.reduceLT, ↓reduceIte, hl, e0, e3]), (by simp only [W0, Nat.reduceEqDiff, Nat.reduceLT, ↓reduceIte, hl, e0, e3])⟩) ?_
  rintro envg9 _ ⟨rfl, hl, e0, e3, e8⟩
  try simp only [↓WD, W0, evalOp, Nat.reduceEqDiff, Nat.reduceLT, ↓reduceIte, reduceCtorEq, hl, e0, e3, e8]
  obtain ⟨r62, qr62, hF⟩ := obind hF
  refine AW_lift (L_sha_words_1 s_) (fun s e h' => e.length = 84 ∧ e.getD 0 .undef = .str s_ ∧ e.getD 3 .undef = .ptr i2 0 ∧ e.getD 8 .undef = .int .i64 s.2 ∧ Sep h [] h' [.blk i2 (s.1.map (AV.int .u32)) 147]) (fun r62 x e h' => x = .exit 0 ∧ e.length = 84 ∧ e.getD 3 .undef = .ptr i2 0 ∧ Sep h [] h' [.blk i2 (r62.map (AV.int .u32)) 147]) qr62 (by omega) ?_ ?_ ?_
  · rintro s envr62 h36 or62 ⟨hl, e0, e3, e8, S37⟩ wr62
    rw [L_sha_words_1] at wr62
    try simp only [↓WD, W0, evalOp, Nat.reduceEqDiff, Nat.reduceLT, ↓reduceIte, reduceCtorEq, hl, e0, e3, e8]
    rw [AW_region]
    refine AE_joinR (fun e h' => h36 = h' ∧ e.length = 84 ∧ e.getD 0 .undef = .str s_ ∧ e.getD 3 .undef = .ptr i2 0 ∧ e.getD 8 .undef = .int .i64 s.2 ∧ e.getD 9 .undef = .bool (decide (s.2 < 16))) (by
      simp only [↓WE, WA, WL, aop, ofValue, ofCell, isConst, abin, acall1, abuiltin, aun, AV.cells, AV.one, Nat.reduceAdd, Int.reduceLT, Int.reduceLE, ↓WD, W0, evalOp, Nat.reduceEqDiff, Nat.reduceLT, ↓reduceIte, reduceCtorEq, hl, e0, e3, e8]
      exact ⟨rfl, (by simp only [List.length_set, hl]), (by simp only [W0, Nat.reduceEqDiff, Nat.reduceLT, ↓reduceIte, hl, e0, e3, e8]), (by simp only [W0, Nat.reduceEqDiff, Nat.reduceLT, ↓reduceIte, hl, e0, e3, e8]), (by simp only [W0, Nat.reduceEqDiff, Nat.reduceLT, ↓reduceIte, hl, e0, e3, e8]), (by simp only [W0, Nat.reduceEqDiff, Nat.reduceLT, ↓reduceIte, hl, e0, e3, e8])⟩) ?_
    rintro envg38 _ ⟨rfl, hl, e0, e3, e8, e9⟩
    try simp only [↓WD, W0, evalOp, Nat.reduceEqDiff, Nat.reduceLT, ↓reduceIte, reduceCtorEq, hl, e0, e3, e8, e9]
    refine CondK_dec (fun c40 => ?_) (fun c40 => ?_)
    · rw [if_pos c40] at wr62
      try simp only [↓WD, W0, evalOp, Nat.reduceEqDiff, Nat.reduceLT, ↓reduceIte, reduceCtorEq, hl, e0, e3, e8, e9]
      rw [AW_region]
      refine AE_joinR (fun e h' => h36 = h' ∧ e.length = 84 ∧ e.getD 0 .undef = .str s_ ∧ e.getD 3 .undef = .ptr i2 0 ∧ e.getD 4 .undef = .int .i64 s.2 ∧ e.getD 8 .undef = .int .i64 s.2) (by
        simp only [↓WE, WA, WL, aop, ofValue, ofCell, isConst, abin, acall1, abuiltin, aun, AV.cells, AV.one, Nat.reduceAdd, Int.reduceLT, Int.reduceLE, ↓WD, W0, evalOp, Nat.reduceEqDiff, Nat.reduceLT, ↓reduceIte, reduceCtorEq, hl, e0, e3, e8, e9]
        exact ⟨rfl, (by simp only [List.length_set, hl]), (by simp only [W0, Nat.reduceEqDiff, Nat.reduceLT, ↓reduceIte, hl, e0, e3, e8, e9]), (by simp only [W0, Nat.reduceEqDiff, Nat.reduceLT, ↓reduceIte, hl, e0, e3, e8, e9]), (by simp only [W0, Nat.reduceEqDiff, Nat.reduceLT, ↓reduceIte, hl, e0, e3, e8, e9]), (by simp only [W0, Nat.reduceEqDiff, Nat.reduceLT, ↓reduceIte, hl, e0, e3, e8, e9])⟩) ?_
      rintro envg41 _ ⟨rfl, hl, e0, e3, e4, e8⟩
      try simp only [↓WD, W0, evalOp, Nat.reduceEqDiff, Nat.reduceLT, ↓reduceIte, reduceCtorEq, hl, e0, e3, e4, e8]
      rw [AW_drawn, AE_drawnK (Ksub.cons k123 Ksub.nil) (by kernel_rfl)]
      obtain ⟨c42, qc42, wr62⟩ := obind wr62
      have oc42 := idx_str (P := Try.prog) (k := .i64) Try.underlying9 qc42
      have oc43 := fun g : AH => aconv_int (P := Try.prog) (h := g) (n := c42) (k' := .u8) Try.underlying5 Try.underlying85
      obtain ⟨y44, qy44, wr62⟩ := obind wr62
      have oy44 := shl_int (k := .u32) qy44
      obtain ⟨c45, qc45, wr62⟩ := obind wr62
      have oc45 := idx_str (P := Try.prog) (k := .i64) Try.underlying9 qc45
      have oc46 := fun g : AH => aconv_int (P := Try.prog) (h := g) (n := c45) (k' := .u8) Try.underlying5 Try.underlying85
      obtain ⟨y47, qy47, wr62⟩ := obind wr62
      have oy47 := shl_int (k := .u32) qy47
      obtain ⟨c48, qc48, wr62⟩ := obind wr62
      have oc48 := idx_str (P := Try.prog) (k := .i64) Try.underlying9 qc48
      have oc49 := fun g : AH => aconv_int (P := Try.prog) (h := g) (n := c48) (k' := .u8) Try.underlying5 Try.underlying85
      obtain ⟨y50, qy50, wr62⟩ := obind wr62
      have oy50 := shl_int (k := .u32) qy50
      obtain ⟨c51, qc51, wr62⟩ := obind wr62
      have oc51 := idx_str (P := Try.prog) (k := .i64) Try.underlying9 qc51
      have oc52 := fun g : AH => aconv_int (P := Try.prog) (h := g) (n := c51) (k' := .u8) Try.underlying5 Try.underlying85
      obtain ⟨_, q53, wr62⟩ := obind wr62
      have oi54 := ia_147 i2 0 .i64 (chkIdx_lo q53) (chkIdx_hi q53)
      obtain ⟨y58, qy58, wr62⟩ := obind wr62
      obtain ⟨h55, os56, S57⟩ := S37.storeA (P := Try.prog) 0 rfl sz_85 qy58
      have S59 : Sep h [] h55 [.blk i2 (y58.map (AV.int .u32)) 147] := S57
      refine AE_joinR (fun e h' => h55 = h' ∧ e.length = 84 ∧ e.getD 0 .undef = .str s_ ∧ e.getD 3 .undef = .ptr i2 0 ∧ e.getD 8 .undef = .int .i64 s.2) (by
        simp only [↓WE, WA, WL, aop, ofValue, ofCell, isConst, abin, acall1, abuiltin, aun, AV.cells, AV.one, Nat.reduceAdd, Int.reduceLT, Int.reduceLE, ↓WD, W0, evalOp, Nat.reduceEqDiff, Nat.reduceLT, ↓reduceIte, reduceCtorEq, hl, e0, e3, e4, e8, oc42, oc43, oy44, oc45, oc46, oy47, oc48, oc49, oy50, oc51, oc52, oi54, os56]
        exact ⟨rfl, (by simp only [List.length_set, hl]), (by simp only [W0, Nat.reduceEqDiff, Nat.reduceLT, ↓reduceIte, hl, e0, e3, e4, e8]), (by simp only [W0, Nat.reduceEqDiff, Nat.reduceLT, ↓reduceIte, hl, e0, e3, e4, e8]), (by simp only [W0, Nat.reduceEqDiff, Nat.reduceLT, ↓reduceIte, hl, e0, e3, e4, e8])⟩) ?_
      rintro envg60 _ ⟨rfl, hl, e0, e3, e8⟩
      try simp only [↓WD, W0, evalOp, Nat.reduceEqDiff, Nat.reduceLT, ↓reduceIte, reduceCtorEq, hl, e0, e3, e8]
      rw [AW_region]
      refine AE_joinR (fun e h' => h55 = h' ∧ e.length = 84 ∧ e.getD 0 .undef = .str s_ ∧ e.getD 3 .undef = .ptr i2 0 ∧ e.getD 8 .undef = .int .i64 (IntKind.i64.wrap (s.2 + 1))) (by
        simp only [↓WE, WA, WL, aop, ofValue, ofCell, isConst, abin, acall1, abuiltin, aun, AV.cells, AV.one, Nat.reduceAdd, Int.reduceLT, Int.reduceLE, ↓WD, W0, evalOp, Nat.reduceEqDiff, Nat.reduceLT, ↓reduceIte, reduceCtorEq, hl, e0, e3, e8]
        exact ⟨rfl, (by simp only [List.length_set, hl]), (by simp only [W0, Nat.reduceEqDiff, Nat.reduceLT, ↓reduceIte, hl, e0, e3, e8]), (by simp only [W0, Nat.reduceEqDiff, Nat.reduceLT, ↓reduceIte, hl, e0, e3, e8]), (by simp only [W0, Nat.reduceEqDiff, Nat.reduceLT, ↓reduceIte, hl, e0, e3, e8])⟩) ?_
      rintro envg61 _ ⟨rfl, hl, e0, e3, e8⟩
      try simp only [↓WD, W0, evalOp, Nat.reduceEqDiff, Nat.reduceLT, ↓reduceIte, reduceCtorEq, hl, e0, e3, e8]
      obtain rfl := Option.some.inj wr62
      rw [KP_nil, QL_normal]
      exact ⟨_, rfl, (by simp only [List.length_set, hl]), (by simp only [W0, Nat.reduceEqDiff, Nat.reduceLT, ↓reduceIte, hl, e0, e3, e8]), (by simp only [W0, Nat.reduceEqDiff, Nat.reduceLT, ↓reduceIte, hl, e0, e3, e8]), (by simp only [W0, Nat.reduceEqDiff, Nat.reduceLT, ↓reduceIte, hl, e0, e3, e8]), S59⟩
    · rw [if_neg c40] at wr62
      try simp only [↓WD, W0, evalOp, Nat.reduceEqDiff, Nat.reduceLT, ↓reduceIte, reduceCtorEq, hl, e0, e3, e8, e9]
      obtain rfl := Option.some.inj wr62
      rw [KP_nil, QL_exit]
      exact ⟨_, rfl, rfl, (by simp only [List.length_set, hl]), (by simp only [W0, Nat.reduceEqDiff, Nat.reduceLT, ↓reduceIte, hl, e0, e3, e8, e9]), S37⟩
  · exact ⟨(by simp only [List.length_set, hl]), (by simp only [W0, Nat.reduceEqDiff, Nat.reduceLT, ↓reduceIte, hl, e0, e3, e8]), (by simp only [W0, Nat.reduceEqDiff, Nat.reduceLT, ↓reduceIte, hl, e0, e3, e8]), (by simp only [W0, Nat.reduceEqDiff, Nat.reduceLT, ↓reduceIte, hl, e0, e3, e8]), S7⟩
  · rintro x envr62 h63 ⟨rfl, hl, e3, S64⟩
    try simp only [↓WD, W0, evalOp, Nat.reduceEqDiff, Nat.reduceLT, ↓reduceIte, reduceCtorEq, hl, e3]
    rw [AW_region]
    refine AE_joinR (fun e h' => h63 = h' ∧ e.length = 84 ∧ e.getD 3 .undef = .ptr i2 0 ∧ e.getD 5 .undef = .int .i64 16) (by
      simp only [↓WE, WA, WL, aop, ofValue, ofCell, isConst, abin, acall1, abuiltin, aun, AV.cells, AV.one, Nat.reduceAdd, Int.reduceLT, Int.reduceLE, ↓WD, W0, evalOp, Nat.reduceEqDiff, Nat.reduceLT, ↓reduceIte, reduceCtorEq, hl, e3]
      exact ⟨rfl, (by simp only [List.length_set, hl]), (by simp only [W0, Nat.reduceEqDiff, Nat.reduceLT, ↓reduceIte, hl, e3]), (by simp only [W0, Nat.reduceEqDiff, Nat.reduceLT, ↓reduceIte, hl, e3])⟩) ?_
    rintro envg65 _ ⟨rfl, hl, e3, e5⟩
    try simp only [↓WD, W0, evalOp, Nat.reduceEqDiff, Nat.reduceLT, ↓reduceIte, reduceCtorEq, hl, e3, e5]
    obtain ⟨r148, qr148, hF⟩ := obind hF
    refine AW_lift (L_sha_words_2) (fun s e h' => e.length = 84 ∧ e.getD 3 .undef = .ptr i2 0 ∧ e.getD 5 .undef = .int .i64 s.2 ∧ Sep h [] h' [.blk i2 (s.1.map (AV.int .u32)) 147]) (fun r148 x e h' => x = .exit 2 ∧ e.length = 84 ∧ e.getD 3 .undef = .ptr i2 0 ∧ Sep h [] h' [.blk i2 (r148.map (AV.int .u32)) 147]) qr148 (by omega) ?_ ?_ ?_
    · rintro s envr148 h107 or148 ⟨hl, e3, e5, S108⟩ wr148
      rw [L_sha_words_2] at wr148
      try simp only [↓WD, W0, evalOp, Nat.reduceEqDiff, Nat.reduceLT, ↓reduceIte, reduceCtorEq, hl, e3, e5]
      rw [AW_region]
      refine AE_joinR (fun e h' => h107 = h' ∧ e.length = 84 ∧ e.getD 3 .undef = .ptr i2 0 ∧ e.getD 5 .undef = .int .i64 s.2 ∧ e.getD 44 .undef = .bool (decide (s.2 < 64))) (by
        simp only [↓WE, WA, WL, aop, ofValue, ofCell, isConst, abin, acall1, abuiltin, aun, AV.cells, AV.one, Nat.reduceAdd, Int.reduceLT, Int.reduceLE, ↓WD, W0, evalOp, Nat.reduceEqDiff, Nat.reduceLT, ↓reduceIte, reduceCtorEq, hl, e3, e5]
        exact ⟨rfl, (by simp only [List.length_set, hl]), (by simp only [W0, Nat.reduceEqDiff, Nat.reduceLT, ↓reduceIte, hl, e3, e5]), (by simp only [W0, Nat.reduceEqDiff, Nat.reduceLT, ↓reduceIte, hl, e3, e5]), (by simp only [W0, Nat.reduceEqDiff, Nat.reduceLT, ↓reduceIte, hl, e3, e5])⟩) ?_
      rintro envg109 _ ⟨rfl, hl, e3, e5, e44⟩
      try simp only [↓WD, W0, evalOp, Nat.reduceEqDiff, Nat.reduceLT, ↓reduceIte, reduceCtorEq, hl, e3, e5, e44]
      refine CondK_dec (fun c111 => ?_) (fun c111 => ?_)
      · rw [if_pos c111] at wr148
        try simp only [↓WD, W0, evalOp, Nat.reduceEqDiff, Nat.reduceLT, ↓reduceIte, reduceCtorEq, hl, e3, e5, e44]
        rw [AW_drawn, AE_drawnK (Ksub.cons k123 Ksub.nil) (by kernel_rfl)]
        obtain ⟨_, q112, wr148⟩ := obind wr148
        have oi113 := ia_147 i2 0 .i64 (chkIdx_lo q112) (chkIdx_hi q112)
        obtain ⟨y115, qy115, wr148⟩ := obind wr148
        have ol114 := S108.load (P := Try.prog) 0 rfl (t := 85) (apart_idxA ag_85 qy115)
        obtain ⟨_, q116, wr148⟩ := obind wr148
        have oi117 := ia_147 i2 0 .i64 (chkIdx_lo q116) (chkIdx_hi q116)
        obtain ⟨y119, qy119, wr148⟩ := obind wr148
        have ol118 := S108.load (P := Try.prog) 0 rfl (t := 85) (apart_idxA ag_85 qy119)
        refine AE_joinR (fun e h' => h107 = h' ∧ e.length = 84 ∧ e.getD 3 .undef = .ptr i2 0 ∧ e.getD 5 .undef = .int .i64 s.2 ∧ e.getD 6 .undef = .int .u32 y115 ∧ e.getD 7 .undef = .int .u32 y119) (by
          simp only [↓WE, WA, WL, aop, ofValue, ofCell, isConst, abin, acall1, abuiltin, aun, AV.cells, AV.one, Nat.reduceAdd, Int.reduceLT, Int.reduceLE, ↓WD, W0, evalOp, Nat.reduceEqDiff, Nat.reduceLT, ↓reduceIte, reduceCtorEq, hl, e3, e5, e44, oi113, ol114, oi117, ol118]
          exact ⟨rfl, (by simp only [List.length_set, hl]), (by simp only [W0, Nat.reduceEqDiff, Nat.reduceLT, ↓reduceIte, hl, e3, e5, e44]), (by simp only [W0, Nat.reduceEqDiff, Nat.reduceLT, ↓reduceIte, hl, e3, e5, e44]), (by simp only [W0, Nat.reduceEqDiff, Nat.reduceLT, ↓reduceIte, hl, e3, e5, e44]), (by simp only [W0, Nat.reduceEqDiff, Nat.reduceLT, ↓reduceIte, hl, e3, e5, e44])⟩) ?_
        rintro envg120 _ ⟨rfl, hl, e3, e5, e6, e7⟩
        try simp only [↓WD, W0, evalOp, Nat.reduceEqDiff, Nat.reduceLT, ↓reduceIte, reduceCtorEq, hl, e3, e5, e6, e7]
        rw [AW_drawn, AE_drawnK (Ksub.cons k123 Ksub.nil) (by kernel_rfl)]
        obtain ⟨_, q121, wr148⟩ := obind wr148
        have oi122 := ia_147 i2 0 .i64 (chkIdx_lo q121) (chkIdx_hi q121)
        obtain ⟨y124, qy124, wr148⟩ := obind wr148
        have ol123 := S108.load (P := Try.prog) 0 rfl (t := 85) (apart_idxA ag_85 qy124)
        obtain ⟨_, q125, wr148⟩ := obind wr148
        have oi126 := ia_147 i2 0 .i64 (chkIdx_lo q125) (chkIdx_hi q125)
        obtain ⟨y128, qy128, wr148⟩ := obind wr148
        have ol127 := S108.load (P := Try.prog) 0 rfl (t := 85) (apart_idxA ag_85 qy128)
        obtain ⟨y129, qy129, wr148⟩ := obind wr148
        have og130 := fun (cf : CallF) (g : AH) => tab_hook (cf := cf) k123 (args := [.int .u32 y115, .int .i64 7]) (v := .int .u32 y129) ((kf_123_eq y115 7).trans (by rw [qy129]; rfl)) g
        obtain ⟨y131, qy131, wr148⟩ := obind wr148
        have og132 := fun (cf : CallF) (g : AH) => tab_hook (cf := cf) k123 (args := [.int .u32 y115, .int .i64 18]) (v := .int .u32 y131) ((kf_123_eq y115 18).trans (by rw [qy131]; rfl)) g
        obtain ⟨y133, qy133, wr148⟩ := obind wr148
        have oy133 := shr_int (k := .u32) qy133
        obtain ⟨y134, qy134, wr148⟩ := obind wr148
        have og135 := fun (cf : CallF) (g : AH) => tab_hook (cf := cf) k123 (args := [.int .u32 y119, .int .i64 17]) (v := .int .u32 y134) ((kf_123_eq y119 17).trans (by rw [qy134]; rfl)) g
        obtain ⟨y136, qy136, wr148⟩ := obind wr148
        have og137 := fun (cf : CallF) (g : AH) => tab_hook (cf := cf) k123 (args := [.int .u32 y119, .int .i64 19]) (v := .int .u32 y136) ((kf_123_eq y119 19).trans (by rw [qy136]; rfl)) g
        obtain ⟨y138, qy138, wr148⟩ := obind wr148
        have oy138 := shr_int (k := .u32) qy138
        obtain ⟨_, q139, wr148⟩ := obind wr148
        have oi140 := ia_147 i2 0 .i64 (chkIdx_lo q139) (chkIdx_hi q139)
        obtain ⟨y144, qy144, wr148⟩ := obind wr148
        obtain ⟨h141, os142, S143⟩ := S108.storeA (P := Try.prog) 0 rfl sz_85 qy144
        have S145 : Sep h [] h141 [.blk i2 (y144.map (AV.int .u32)) 147] := S143
        refine AE_joinR (fun e h' => h141 = h' ∧ e.length = 84 ∧ e.getD 3 .undef = .ptr i2 0 ∧ e.getD 5 .undef = .int .i64 s.2) (by
          simp only [↓WE, WA, WL, aop, ofValue, ofCell, isConst, abin, acall1, abuiltin, aun, AV.cells, AV.one, Nat.reduceAdd, Int.reduceLT, Int.reduceLE, ↓WD, W0, evalOp, Nat.reduceEqDiff, Nat.reduceLT, ↓reduceIte, reduceCtorEq, hl, e3, e5, e6, e7, oi122, ol123, oi126, ol127, og130, og132, oy133, og135, og137, oy138, oi140, os142]
          exact ⟨rfl, (by simp only [List.length_set, hl]), (by simp only [W0, Nat.reduceEqDiff, Nat.reduceLT, ↓reduceIte, hl, e3, e5, e6, e7]), (by simp only [W0, Nat.reduceEqDiff, Nat.reduceLT, ↓reduceIte, hl, e3, e5, e6, e7])⟩) ?_
        rintro envg146 _ ⟨rfl, hl, e3, e5⟩
        try simp only [↓WD, W0, evalOp, Nat.reduceEqDiff, Nat.reduceLT, ↓reduceIte, reduceCtorEq, hl, e3, e5]
        rw [AW_region]
        refine AE_joinR (fun e h' => h141 = h' ∧ e.length = 84 ∧ e.getD 3 .undef = .ptr i2 0 ∧ e.getD 5 .undef = .int .i64 (IntKind.i64.wrap (s.2 + 1))) (by
          simp only [↓WE, WA, WL, aop, ofValue, ofCell, isConst, abin, acall1, abuiltin, aun, AV.cells, AV.one, Nat.reduceAdd, Int.reduceLT, Int.reduceLE, ↓WD, W0, evalOp, Nat.reduceEqDiff, Nat.reduceLT, ↓reduceIte, reduceCtorEq, hl, e3, e5]
          exact ⟨rfl, (by simp only [List.length_set, hl]), (by simp only [W0, Nat.reduceEqDiff, Nat.reduceLT, ↓reduceIte, hl, e3, e5]), (by simp only [W0, Nat.reduceEqDiff, Nat.reduceLT, ↓reduceIte, hl, e3, e5])⟩) ?_
        rintro envg147 _ ⟨rfl, hl, e3, e5⟩
        try simp only [↓WD, W0, evalOp, Nat.reduceEqDiff, Nat.reduceLT, ↓reduceIte, reduceCtorEq, hl, e3, e5]
        obtain rfl := Option.some.inj wr148
        rw [KP_nil, QL_normal]
        exact ⟨_, rfl, (by simp only [List.length_set, hl]), (by simp only [W0, Nat.reduceEqDiff, Nat.reduceLT, ↓reduceIte, hl, e3, e5]), (by simp only [W0, Nat.reduceEqDiff, Nat.reduceLT, ↓reduceIte, hl, e3, e5]), S145⟩
      · rw [if_neg c111] at wr148
        try simp only [↓WD, W0, evalOp, Nat.reduceEqDiff, Nat.reduceLT, ↓reduceIte, reduceCtorEq, hl, e3, e5, e44]
        obtain rfl := Option.some.inj wr148
        rw [KP_nil, QL_exit]
        exact ⟨_, rfl, rfl, (by simp only [List.length_set, hl]), (by simp only [W0, Nat.reduceEqDiff, Nat.reduceLT, ↓reduceIte, hl, e3, e5, e44]), S108⟩
    · exact ⟨(by simp only [List.length_set, hl]), (by simp only [W0, Nat.reduceEqDiff, Nat.reduceLT, ↓reduceIte, hl, e3, e5]), (by simp only [W0, Nat.reduceEqDiff, Nat.reduceLT, ↓reduceIte, hl, e3, e5]), S64⟩
    · rintro x envr148 h149 ⟨rfl, hl, e3, S150⟩
      try simp only [↓WD, W0, evalOp, Nat.reduceEqDiff, Nat.reduceLT, ↓reduceIte, reduceCtorEq, hl, e3]
      rw [AW_region]
      refine AE_joinR (fun e h' => h149 = h' ∧ e.length = 84 ∧ e.getD 2 .undef = .ptr i2 0) (by
        simp only [↓WE, WA, WL, aop, ofValue, ofCell, isConst, abin, acall1, abuiltin, aun, AV.cells, AV.one, Nat.reduceAdd, Int.reduceLT, Int.reduceLE, ↓WD, W0, evalOp, Nat.reduceEqDiff, Nat.reduceLT, ↓reduceIte, reduceCtorEq, hl, e3]
        exact ⟨rfl, (by simp only [List.length_set, hl]), (by simp only [W0, Nat.reduceEqDiff, Nat.reduceLT, ↓reduceIte, hl, e3])⟩) ?_
      rintro envg151 _ ⟨rfl, hl, e2⟩
      try simp only [↓WD, W0, evalOp, Nat.reduceEqDiff, Nat.reduceLT, ↓reduceIte, reduceCtorEq, hl, e2]
      refine KP_ret (vs := [.ptr i2 0]) (by simp only [aresults, aresult, gs, List.length_set, Nat.reduceEqDiff, Nat.reduceLT, ↓reduceIte, hl, e2]) ?_
      obtain rfl := Option.some.inj hF
      exact ⟨i2, rfl, S150⟩
set_option maxRecDepth 100000 in
set_option maxHeartbeats 4000000 in
theorem W_sha_state_step {K : PureK} (k123 : K 123 = some kf_123) (n101 : K 101 = none) (m : Nat) (hm : NF + 1 ≤ m) (h : AH) (v : GA8_u32) (k : Int) (w : Int) {r : GA8_u32} (hF : F_sha_state_step v k w = some r) :
    AR (acall Try.prog (hooksOf K) (drawnOf Try.prog (tabOf K)) m 101 [.agg [.int .u32 v.x0, .int .u32 v.x1, .int .u32 v.x2, .int .u32 v.x3, .int .u32 v.x4, .int .u32 v.x5, .int .u32 v.x6, .int .u32 v.x7], .int .u32 k, .int .u32 w] h) (fun v h' => v = .agg [.int .u32 r.x0, .int .u32 r.x1, .int .u32 r.x2, .int .u32 r.x3, .int .u32 r.x4, .int .u32 r.x5, .int .u32 r.x6, .int .u32 r.x7]) := by
  obtain ⟨m, rfl⟩ : ∃ k, m = k + 1 := ⟨m - 1, by omega⟩
  refine AR_call (hooksOf_none n101) Try.func101 rfl _ _ fun env hl he => ?_
  have e0 := he 0
  have e1 := he 1
  have e2 := he 2
  simp only [List.getD_cons_zero, List.getD_cons_succ] at e0 e1 e2
  simp only [Try.f101] at hl ⊢
  simp only [List.length_cons, List.length_nil, Nat.reduceAdd, Nat.reduceSub] at hl
  clear he
  have S0 : Sep h [] h [] := Sep.nil h
  rw [F_sha_state_step] at hF
  try simp only [↓WD, W0, evalOp, Nat.reduceEqDiff, Nat.reduceLT, ↓reduceIte, reduceCtorEq, hl, e0, e1, e2]
  rw [AW_region]
  obtain ⟨i1, h2, oa3, S4⟩ := S0.alloc 88 [.int .u32 v.x0, .int .u32 v.x1, .int .u32 v.x2, .int .u32 v.x3, .int .u32 v.x4, .int .u32 v.x5, .int .u32 v.x6, .int .u32 v.x7]
  have S6 : Sep h [] h2 [.blk i1 ([v.x0, v.x1, v.x2, v.x3, v.x4, v.x5, v.x6, v.x7].map (AV.int .u32)) 88] := S4
  obtain ⟨i7, h8, oa9, S10⟩ := S6.alloc 88 [.int .u32 0, .int .u32 0, .int .u32 0, .int .u32 0, .int .u32 0, .int .u32 0, .int .u32 0, .int .u32 0]
  have S12 : Sep h [] h8 [.blk i1 ([v.x0, v.x1, v.x2, v.x3, v.x4, v.x5, v.x6, v.x7].map (AV.int .u32)) 88, .blk i7 ([0, 0, 0, 0, 0, 0, 0, 0].map (AV.int .u32)) 88] := S10
  refine AE_joinR (fun e h' => h8 = h' ∧ e.length = 93 ∧ e.getD 1 .undef = .int .u32 k ∧ e.getD 2 .undef = .int .u32 w ∧ e.getD 3 .undef = .ptr i1 0 ∧ e.getD 6 .undef = .ptr i7 0) (by
    simp only [↓WE, WA, WL, aop, ofValue, ofCell, isConst, abin, acall1, abuiltin, aun, AV.cells, AV.one, Nat.reduceAdd, Int.reduceLT, Int.reduceLE, ↓WD, W0, evalOp, Nat.reduceEqDiff, Nat.reduceLT, ↓reduceIte, reduceCtorEq, hl, e0, e1, e2, oa3, zero_88, oa9]
    exact ⟨rfl, (by simp only [List.length_set, hl]), (by simp only [W0, Nat.reduceEqDiff, Nat.reduceLT, ↓reduceIte, hl, e0, e1, e2]), (by simp only [W0, Nat.reduceEqDiff, Nat.reduceLT, ↓reduceIte, hl, e0, e1, e2]), (by simp only [W0, Nat.reduceEqDiff, Nat.reduceLT, ↓reduceIte, hl, e0, e1, e2]), (by simp only [W0, Nat.reduceEqDiff, Nat.reduceLT, ↓reduceIte, hl, e0, e1, e2])⟩) ?_
  rintro envg13 _ ⟨rfl, hl, e1, e2, e3, e6⟩
  try simp only [↓WD, W0, evalOp, Nat.reduceEqDiff, Nat.reduceLT, ↓reduceIte, reduceCtorEq, hl, e1, e2, e3, e6]
  rw [AW_drawn, AE_drawnK (Ksub.cons k123 Ksub.nil) (by kernel_rfl)]
  obtain ⟨_, q14, hF⟩ := obind hF
  have oi15 := ia_88 i1 0 .i64 (chkIdx_lo q14) (chkIdx_hi q14)
  obtain ⟨y17, qy17, hF⟩ := obind hF
  have ol16 := S12.load (P := Try.prog) 0 rfl (t := 85) (apart_idxA ag_85 qy17)
  obtain ⟨y18, qy18, hF⟩ := obind hF
  have og19 := fun (cf : CallF) (g : AH) => tab_hook (cf := cf) k123 (args := [.int .u32 y17, .int .i64 6]) (v := .int .u32 y18) ((kf_123_eq y17 6).trans (by rw [qy18]; rfl)) g
  obtain ⟨_, q20, hF⟩ := obind hF
  have oi21 := ia_88 i1 0 .i64 (chkIdx_lo q20) (chkIdx_hi q20)
  have ol22 := S12.load (P := Try.prog) 0 rfl (t := 85) (apart_idxA ag_85 qy17)
  obtain ⟨y24, qy24, hF⟩ := obind hF
  have og25 := fun (cf : CallF) (g : AH) => tab_hook (cf := cf) k123 (args := [.int .u32 y17, .int .i64 11]) (v := .int .u32 y24) ((kf_123_eq y17 11).trans (by rw [qy24]; rfl)) g
  obtain ⟨_, q26, hF⟩ := obind hF
  have oi27 := ia_88 i1 0 .i64 (chkIdx_lo q26) (chkIdx_hi q26)
  have ol28 := S12.load (P := Try.prog) 0 rfl (t := 85) (apart_idxA ag_85 qy17)
  obtain ⟨y30, qy30, hF⟩ := obind hF
  have og31 := fun (cf : CallF) (g : AH) => tab_hook (cf := cf) k123 (args := [.int .u32 y17, .int .i64 25]) (v := .int .u32 y30) ((kf_123_eq y17 25).trans (by rw [qy30]; rfl)) g
  refine AE_joinR (fun e h' => h8 = h' ∧ e.length = 93 ∧ e.getD 1 .undef = .int .u32 k ∧ e.getD 2 .undef = .int .u32 w ∧ e.getD 3 .undef = .ptr i1 0 ∧ e.getD 6 .undef = .ptr i7 0 ∧ e.getD 7 .undef = .int .u32 (xorI .u32 (xorI .u32 y18 y24) y30)) (by
    simp only [↓WE, WA, WL, aop, ofValue, ofCell, isConst, abin, acall1, abuiltin, aun, AV.cells, AV.one, Nat.reduceAdd, Int.reduceLT, Int.reduceLE, ↓WD, W0, evalOp, Nat.reduceEqDiff, Nat.reduceLT, ↓reduceIte, reduceCtorEq, hl, e1, e2, e3, e6, oi15, ol16, og19, oi21, ol22, og25, oi27, ol28, og31]
    exact ⟨rfl, (by simp only [List.length_set, hl]), (by simp only [W0, Nat.reduceEqDiff, Nat.reduceLT, ↓reduceIte, hl, e1, e2, e3, e6]), (by simp only [W0, Nat.reduceEqDiff, Nat.reduceLT, ↓reduceIte, hl, e1, e2, e3, e6]), (by simp only [W0, Nat.reduceEqDiff, Nat.reduceLT, ↓reduceIte, hl, e1, e2, e3, e6]), (by simp only [W0, Nat.reduceEqDiff, Nat.reduceLT, ↓reduceIte, hl, e1, e2, e3, e6]), (by simp only [W0, Nat.reduceEqDiff, Nat.reduceLT, ↓reduceIte, hl, e1, e2, e3, e6])⟩) ?_
  rintro envg32 _ ⟨rfl, hl, e1, e2, e3, e6, e7⟩
  try simp only [↓WD, W0, evalOp, Nat.reduceEqDiff, Nat.reduceLT, ↓reduceIte, reduceCtorEq, hl, e1, e2, e3, e6, e7]
  rw [AW_region]
  obtain ⟨_, q33, hF⟩ := obind hF
  have oi34 := ia_88 i1 0 .i64 (chkIdx_lo q33) (chkIdx_hi q33)
  obtain ⟨y36, qy36, hF⟩ := obind hF
  have ol35 := S12.load (P := Try.prog) 0 rfl (t := 85) (apart_idxA ag_85 qy36)
  obtain ⟨_, q37, hF⟩ := obind hF
  have oi38 := ia_88 i1 0 .i64 (chkIdx_lo q37) (chkIdx_hi q37)
  have ol39 := S12.load (P := Try.prog) 0 rfl (t := 85) (apart_idxA ag_85 qy17)
  obtain ⟨_, q41, hF⟩ := obind hF
  have oi42 := ia_88 i1 0 .i64 (chkIdx_lo q41) (chkIdx_hi q41)
  obtain ⟨y44, qy44, hF⟩ := obind hF
  have ol43 := S12.load (P := Try.prog) 0 rfl (t := 85) (apart_idxA ag_85 qy44)
  obtain ⟨_, q45, hF⟩ := obind hF
  have oi46 := ia_88 i1 0 .i64 (chkIdx_lo q45) (chkIdx_hi q45)
  have ol47 := S12.load (P := Try.prog) 0 rfl (t := 85) (apart_idxA ag_85 qy17)
  obtain ⟨_, q49, hF⟩ := obind hF
  have oi50 := ia_88 i1 0 .i64 (chkIdx_lo q49) (chkIdx_hi q49)
  obtain ⟨y52, qy52, hF⟩ := obind hF
  have ol51 := S12.load (P := Try.prog) 0 rfl (t := 85) (apart_idxA ag_85 qy52)
  refine AE_joinR (fun e h' => h8 = h' ∧ e.length = 93 ∧ e.getD 3 .undef = .ptr i1 0 ∧ e.getD 6 .undef = .ptr i7 0 ∧ e.getD 8 .undef = .int .u32 (IntKind.u32.wrap ((IntKind.u32.wrap ((IntKind.u32.wrap ((IntKind.u32.wrap (y36 + (xorI .u32 (xorI .u32 y18 y24) y30))) + (xorI .u32 (andI .u32 y17 y44) (andI .u32 (xorI .u32 4294967295 y17) y52)))) + k)) + w))) (by
    simp only [↓WE, WA, WL, aop, ofValue, ofCell, isConst, abin, acall1, abuiltin, aun, AV.cells, AV.one, Nat.reduceAdd, Int.reduceLT, Int.reduceLE, ↓WD, W0, evalOp, Nat.reduceEqDiff, Nat.reduceLT, ↓reduceIte, reduceCtorEq, hl, e1, e2, e3, e6, e7, oi34, ol35, oi38, ol39, oi42, ol43, oi46, ol47, xm_u32, oi50, ol51]
    exact ⟨rfl, (by simp only [List.length_set, hl]), (by simp only [W0, Nat.reduceEqDiff, Nat.reduceLT, ↓reduceIte, hl, e1, e2, e3, e6, e7]), (by simp only [W0, Nat.reduceEqDiff, Nat.reduceLT, ↓reduceIte, hl, e1, e2, e3, e6, e7]), (by simp only [W0, Nat.reduceEqDiff, Nat.reduceLT, ↓reduceIte, hl, e1, e2, e3, e6, e7])⟩) ?_
  rintro envg53 _ ⟨rfl, hl, e3, e6, e8⟩
  try simp only [↓WD, W0, evalOp, Nat.reduceEqDiff, Nat.reduceLT, ↓reduceIte, reduceCtorEq, hl, e3, e6, e8]
  rw [AW_drawn, AE_drawnK (Ksub.cons k123 Ksub.nil) (by kernel_rfl)]
  obtain ⟨_, q54, hF⟩ := obind hF
  have oi55 := ia_88 i1 0 .i64 (chkIdx_lo q54) (chkIdx_hi q54)
  obtain ⟨y57, qy57, hF⟩ := obind hF
  have ol56 := S12.load (P := Try.prog) 0 rfl (t := 85) (apart_idxA ag_85 qy57)
  obtain ⟨y58, qy58, hF⟩ := obind hF
  have og59 := fun (cf : CallF) (g : AH) => tab_hook (cf := cf) k123 (args := [.int .u32 y57, .int .i64 2]) (v := .int .u32 y58) ((kf_123_eq y57 2).trans (by rw [qy58]; rfl)) g
  obtain ⟨_, q60, hF⟩ := obind hF
  have oi61 := ia_88 i1 0 .i64 (chkIdx_lo q60) (chkIdx_hi q60)
  have ol62 := S12.load (P := Try.prog) 0 rfl (t := 85) (apart_idxA ag_85 qy57)
  obtain ⟨y64, qy64, hF⟩ := obind hF
  have og65 := fun (cf : CallF) (g : AH) => tab_hook (cf := cf) k123 (args := [.int .u32 y57, .int .i64 13]) (v := .int .u32 y64) ((kf_123_eq y57 13).trans (by rw [qy64]; rfl)) g
  obtain ⟨_, q66, hF⟩ := obind hF
  have oi67 := ia_88 i1 0 .i64 (chkIdx_lo q66) (chkIdx_hi q66)
  have ol68 := S12.load (P := Try.prog) 0 rfl (t := 85) (apart_idxA ag_85 qy57)
  obtain ⟨y70, qy70, hF⟩ := obind hF
  have og71 := fun (cf : CallF) (g : AH) => tab_hook (cf := cf) k123 (args := [.int .u32 y57, .int .i64 22]) (v := .int .u32 y70) ((kf_123_eq y57 22).trans (by rw [qy70]; rfl)) g
  refine AE_joinR (fun e h' => h8 = h' ∧ e.length = 93 ∧ e.getD 3 .undef = .ptr i1 0 ∧ e.getD 6 .undef = .ptr i7 0 ∧ e.getD 8 .undef = .int .u32 (IntKind.u32.wrap ((IntKind.u32.wrap ((IntKind.u32.wrap ((IntKind.u32.wrap (y36 + (xorI .u32 (xorI .u32 y18 y24) y30))) + (xorI .u32 (andI .u32 y17 y44) (andI .u32 (xorI .u32 4294967295 y17) y52)))) + k)) + w)) ∧ e.getD 9 .undef = .int .u32 (xorI .u32 (xorI .u32 y58 y64) y70)) (by
    simp only [↓WE, WA, WL, aop, ofValue, ofCell, isConst, abin, acall1, abuiltin, aun, AV.cells, AV.one, Nat.reduceAdd, Int.reduceLT, Int.reduceLE, ↓WD, W0, evalOp, Nat.reduceEqDiff, Nat.reduceLT, ↓reduceIte, reduceCtorEq, hl, e3, e6, e8, oi55, ol56, og59, oi61, ol62, og65, oi67, ol68, og71]
    exact ⟨rfl, (by simp only [List.length_set, hl]), (by simp only [W0, Nat.reduceEqDiff, Nat.reduceLT, ↓reduceIte, hl, e3, e6, e8]), (by simp only [W0, Nat.reduceEqDiff, Nat.reduceLT, ↓reduceIte, hl, e3, e6, e8]), (by simp only [W0, Nat.reduceEqDiff, Nat.reduceLT, ↓reduceIte, hl, e3, e6, e8]), (by simp only [W0, Nat.reduceEqDiff, Nat.reduceLT, ↓reduceIte, hl, e3, e6, e8])⟩) ?_
  rintro envg72 _ ⟨rfl, hl, e3, e6, e8, e9⟩
  try simp only [↓WD, W0, evalOp, Nat.reduceEqDiff, Nat.reduceLT, ↓reduceIte, reduceCtorEq, hl, e3, e6, e8, e9]
  rw [AW_region]
  obtain ⟨_, q73, hF⟩ := obind hF
  have oi74 := ia_88 i1 0 .i64 (chkIdx_lo q73) (chkIdx_hi q73)
  have ol75 := S12.load (P := Try.prog) 0 rfl (t := 85) (apart_idxA ag_85 qy57)
  obtain ⟨_, q77, hF⟩ := obind hF
  have oi78 := ia_88 i1 0 .i64 (chkIdx_lo q77) (chkIdx_hi q77)
  obtain ⟨y80, qy80, hF⟩ := obind hF
  have ol79 := S12.load (P := Try.prog) 0 rfl (t := 85) (apart_idxA ag_85 qy80)
  obtain ⟨_, q81, hF⟩ := obind hF
  have oi82 := ia_88 i1 0 .i64 (chkIdx_lo q81) (chkIdx_hi q81)
  have ol83 := S12.load (P := Try.prog) 0 rfl (t := 85) (apart_idxA ag_85 qy57)
  obtain ⟨_, q85, hF⟩ := obind hF
  have oi86 := ia_88 i1 0 .i64 (chkIdx_lo q85) (chkIdx_hi q85)
  obtain ⟨y88, qy88, hF⟩ := obind hF
  have ol87 := S12.load (P := Try.prog) 0 rfl (t := 85) (apart_idxA ag_85 qy88)
  obtain ⟨_, q89, hF⟩ := obind hF
  have oi90 := ia_88 i1 0 .i64 (chkIdx_lo q89) (chkIdx_hi q89)
  have ol91 := S12.load (P := Try.prog) 0 rfl (t := 85) (apart_idxA ag_85 qy80)
  obtain ⟨_, q93, hF⟩ := obind hF
  have oi94 := ia_88 i1 0 .i64 (chkIdx_lo q93) (chkIdx_hi q93)
  have ol95 := S12.load (P := Try.prog) 0 rfl (t := 85) (apart_idxA ag_85 qy88)
  refine AE_joinR (fun e h' => h8 = h' ∧ e.length = 93 ∧ e.getD 3 .undef = .ptr i1 0 ∧ e.getD 6 .undef = .ptr i7 0 ∧ e.getD 8 .undef = .int .u32 (IntKind.u32.wrap ((IntKind.u32.wrap ((IntKind.u32.wrap ((IntKind.u32.wrap (y36 + (xorI .u32 (xorI .u32 y18 y24) y30))) + (xorI .u32 (andI .u32 y17 y44) (andI .u32 (xorI .u32 4294967295 y17) y52)))) + k)) + w)) ∧ e.getD 10 .undef = .int .u32 (IntKind.u32.wrap ((xorI .u32 (xorI .u32 y58 y64) y70) + (xorI .u32 (xorI .u32 (andI .u32 y57 y80) (andI .u32 y57 y88)) (andI .u32 y80 y88))))) (by
    simp only [↓WE, WA, WL, aop, ofValue, ofCell, isConst, abin, acall1, abuiltin, aun, AV.cells, AV.one, Nat.reduceAdd, Int.reduceLT, Int.reduceLE, ↓WD, W0, evalOp, Nat.reduceEqDiff, Nat.reduceLT, ↓reduceIte, reduceCtorEq, hl, e3, e6, e8, e9, oi74, ol75, oi78, ol79, oi82, ol83, oi86, ol87, oi90, ol91, oi94, ol95]
    exact ⟨rfl, (by simp only [List.length_set, hl]), (by simp only [W0, Nat.reduceEqDiff, Nat.reduceLT, ↓reduceIte, hl, e3, e6, e8, e9]), (by simp only [W0, Nat.reduceEqDiff, Nat.reduceLT, ↓reduceIte, hl, e3, e6, e8, e9]), (by simp only [W0, Nat.reduceEqDiff, Nat.reduceLT, ↓reduceIte, hl, e3, e6, e8, e9]), (by simp only [W0, Nat.reduceEqDiff, Nat.reduceLT, ↓reduceIte, hl, e3, e6, e8, e9])⟩) ?_
  rintro envg97 _ ⟨rfl, hl, e3, e6, e8, e10⟩
  try simp only [↓WD, W0, evalOp, Nat.reduceEqDiff, Nat.reduceLT, ↓reduceIte, reduceCtorEq, hl, e3, e6, e8, e10]
  rw [AW_region]
  obtain ⟨_, q98, hF⟩ := obind hF
  have oi99 := ia_88 i1 0 .i64 (chkIdx_lo q98) (chkIdx_hi q98)
  have ol100 := S12.load (P := Try.prog) 0 rfl (t := 85) (apart_idxA ag_85 qy57)
  obtain ⟨_, q102, hF⟩ := obind hF
  have oi103 := ia_88 i1 0 .i64 (chkIdx_lo q102) (chkIdx_hi q102)
  have ol104 := S12.load (P := Try.prog) 0 rfl (t := 85) (apart_idxA ag_85 qy80)
  obtain ⟨_, q106, hF⟩ := obind hF
  have oi107 := ia_88 i1 0 .i64 (chkIdx_lo q106) (chkIdx_hi q106)
  have ol108 := S12.load (P := Try.prog) 0 rfl (t := 85) (apart_idxA ag_85 qy88)
  obtain ⟨_, q110, hF⟩ := obind hF
  have oi111 := ia_88 i1 0 .i64 (chkIdx_lo q110) (chkIdx_hi q110)
  obtain ⟨y113, qy113, hF⟩ := obind hF
  have ol112 := S12.load (P := Try.prog) 0 rfl (t := 85) (apart_idxA ag_85 qy113)
  obtain ⟨_, q114, hF⟩ := obind hF
  have oi115 := ia_88 i1 0 .i64 (chkIdx_lo q114) (chkIdx_hi q114)
  have ol116 := S12.load (P := Try.prog) 0 rfl (t := 85) (apart_idxA ag_85 qy17)
  obtain ⟨_, q118, hF⟩ := obind hF
  have oi119 := ia_88 i1 0 .i64 (chkIdx_lo q118) (chkIdx_hi q118)
  have ol120 := S12.load (P := Try.prog) 0 rfl (t := 85) (apart_idxA ag_85 qy44)
  obtain ⟨_, q122, hF⟩ := obind hF
  have oi123 := ia_88 i1 0 .i64 (chkIdx_lo q122) (chkIdx_hi q122)
  have ol124 := S12.load (P := Try.prog) 0 rfl (t := 85) (apart_idxA ag_85 qy52)
  obtain ⟨_, q129, hF⟩ := obind hF
  obtain ⟨_, q130, hF⟩ := obind hF
  obtain ⟨h126, os127, S128⟩ := S12.storeAll (P := Try.prog) 1 rfl (t := 88) sz_88 q129 q130
  simp only [List.map_cons, List.map_nil] at os127
  have S131 : Sep h [] h126 [.blk i1 ([v.x0, v.x1, v.x2, v.x3, v.x4, v.x5, v.x6, v.x7].map (AV.int .u32)) 88, .blk i7 ([IntKind.u32.wrap ((IntKind.u32.wrap ((IntKind.u32.wrap ((IntKind.u32.wrap ((IntKind.u32.wrap (y36 + (xorI .u32 (xorI .u32 y18 y24) y30))) + (xorI .u32 (andI .u32 y17 y44) (andI .u32 (xorI .u32 4294967295 y17) y52)))) + k)) + w)) + (IntKind.u32.wrap ((xorI .u32 (xorI .u32 y58 y64) y70) + (xorI .u32 (xorI .u32 (andI .u32 y57 y80) (andI .u32 y57 y88)) (andI .u32 y80 y88))))), y57, y80, y88, IntKind.u32.wrap (y113 + (IntKind.u32.wrap ((IntKind.u32.wrap ((IntKind.u32.wrap ((IntKind.u32.wrap (y36 + (xorI .u32 (xorI .u32 y18 y24) y30))) + (xorI .u32 (andI .u32 y17 y44) (andI .u32 (xorI .u32 4294967295 y17) y52)))) + k)) + w))), y17, y44, y52].map (AV.int .u32)) 88] := S128
  refine AE_joinR (fun e h' => h126 = h' ∧ e.length = 93 ∧ e.getD 6 .undef = .ptr i7 0) (by
    simp only [↓WE, WA, WL, aop, ofValue, ofCell, isConst, abin, acall1, abuiltin, aun, AV.cells, AV.one, Nat.reduceAdd, Int.reduceLT, Int.reduceLE, ↓WD, W0, evalOp, Nat.reduceEqDiff, Nat.reduceLT, ↓reduceIte, reduceCtorEq, hl, e3, e6, e8, e10, oi99, ol100, oi103, ol104, oi107, ol108, oi111, ol112, oi115, ol116, oi119, ol120, oi123, ol124, bd_88_0_1_2_3_4_5_6_7, os127]
    exact ⟨rfl, (by simp only [List.length_set, hl]), (by simp only [W0, Nat.reduceEqDiff, Nat.reduceLT, ↓reduceIte, hl, e3, e6, e8, e10])⟩) ?_
  rintro envg132 _ ⟨rfl, hl, e6⟩
  try simp only [↓WD, W0, evalOp, Nat.reduceEqDiff, Nat.reduceLT, ↓reduceIte, reduceCtorEq, hl, e6]
  have ol133 := S131.load (P := Try.prog) 1 rfl (t := 88) (off := 0) (v := .agg [.int .u32 (IntKind.u32.wrap ((IntKind.u32.wrap ((IntKind.u32.wrap ((IntKind.u32.wrap ((IntKind.u32.wrap (y36 + (xorI .u32 (xorI .u32 y18 y24) y30))) + (xorI .u32 (andI .u32 y17 y44) (andI .u32 (xorI .u32 4294967295 y17) y52)))) + k)) + w)) + (IntKind.u32.wrap ((xorI .u32 (xorI .u32 y58 y64) y70) + (xorI .u32 (xorI .u32 (andI .u32 y57 y80) (andI .u32 y57 y88)) (andI .u32 y80 y88)))))), .int .u32 y57, .int .u32 y80, .int .u32 y88, .int .u32 (IntKind.u32.wrap (y113 + (IntKind.u32.wrap ((IntKind.u32.wrap ((IntKind.u32.wrap ((IntKind.u32.wrap (y36 + (xorI .u32 (xorI .u32 y18 y24) y30))) + (xorI .u32 (andI .u32 y17 y44) (andI .u32 (xorI .u32 4294967295 y17) y52)))) + k)) + w)))), .int .u32 y17, .int .u32 y44, .int .u32 y52]) (by simp only [apart, ag_88, sz_88, List.map_cons, List.map_nil]; rfl)
  refine KP_ret (vs := [.agg [.int .u32 (IntKind.u32.wrap ((IntKind.u32.wrap ((IntKind.u32.wrap ((IntKind.u32.wrap ((IntKind.u32.wrap (y36 + (xorI .u32 (xorI .u32 y18 y24) y30))) + (xorI .u32 (andI .u32 y17 y44) (andI .u32 (xorI .u32 4294967295 y17) y52)))) + k)) + w)) + (IntKind.u32.wrap ((xorI .u32 (xorI .u32 y58 y64) y70) + (xorI .u32 (xorI .u32 (andI .u32 y57 y80) (andI .u32 y57 y88)) (andI .u32 y80 y88)))))), .int .u32 y57, .int .u32 y80, .int .u32 y88, .int .u32 (IntKind.u32.wrap (y113 + (IntKind.u32.wrap ((IntKind.u32.wrap ((IntKind.u32.wrap ((IntKind.u32.wrap (y36 + (xorI .u32 (xorI .u32 y18 y24) y30))) + (xorI .u32 (andI .u32 y17 y44) (andI .u32 (xorI .u32 4294967295 y17) y52)))) + k)) + w)))), .int .u32 y17, .int .u32 y44, .int .u32 y52]]) (by simp only [aresults, aresult, gs, List.length_set, Nat.reduceEqDiff, Nat.reduceLT, ↓reduceIte, hl, e6, ol133]) ?_
  obtain rfl := Option.some.inj hF
  exact rfl
set_option maxRecDepth 100000 in
set_option maxHeartbeats 4000000 in
theorem W_sha_state_blocks {K : PureK} (k101 : K 101 = some kf_101) (k123 : K 123 = some kf_123) (n99 : K 99 = none) (n100 : K 100 = none) (n63 : K 63 = none) (m : Nat) (hm : NF + 2 ≤ m) (h : AH) (v : GA8_u32) (s_ : List UInt8) {r : GA8_u32} (hF : F_sha_state_blocks v s_ = some r) :
    AR (acall Try.prog (hooksOf K) (drawnOf Try.prog (tabOf K)) m 63 [.agg [.int .u32 v.x0, .int .u32 v.x1, .int .u32 v.x2, .int .u32 v.x3, .int .u32 v.x4, .int .u32 v.x5, .int .u32 v.x6, .int .u32 v.x7], .str s_] h) (fun v h' => v = .agg [.int .u32 r.x0, .int .u32 r.x1, .int .u32 r.x2, .int .u32 r.x3, .int .u32 r.x4, .int .u32 r.x5, .int .u32 r.x6, .int .u32 r.x7]) := by
  obtain ⟨m, rfl⟩ : ∃ k, m = k + 1 := ⟨m - 1, by omega⟩
  refine AR_call (hooksOf_none n63) Try.func63 rfl _ _ fun env hl he => ?_
  have e0 := he 0
  have e1 := he 1
  simp only [List.getD_cons_zero, List.getD_cons_succ] at e0 e1
  simp only [Try.f63] at hl ⊢
  simp only [List.length_cons, List.length_nil, Nat.reduceAdd, Nat.reduceSub] at hl
  clear he
  have S0 : Sep h [] h [] := Sep.nil h
  rw [F_sha_state_blocks] at hF
  try simp only [↓WD, W0, evalOp, Nat.reduceEqDiff, Nat.reduceLT, ↓reduceIte, reduceCtorEq, hl, e0, e1]
  rw [AW_region]
  obtain ⟨i1, h2, oa3, S4⟩ := S0.alloc 88 [.int .u32 v.x0, .int .u32 v.x1, .int .u32 v.x2, .int .u32 v.x3, .int .u32 v.x4, .int .u32 v.x5, .int .u32 v.x6, .int .u32 v.x7]
  have S6 : Sep h [] h2 [.blk i1 ([v.x0, v.x1, v.x2, v.x3, v.x4, v.x5, v.x6, v.x7].map (AV.int .u32)) 88] := S4
  obtain ⟨i7, h8, oa9, S10⟩ := S6.alloc 88 [.int .u32 0, .int .u32 0, .int .u32 0, .int .u32 0, .int .u32 0, .int .u32 0, .int .u32 0, .int .u32 0]
  have S12 : Sep h [] h8 [.blk i1 ([v.x0, v.x1, v.x2, v.x3, v.x4, v.x5, v.x6, v.x7].map (AV.int .u32)) 88, .blk i7 ([0, 0, 0, 0, 0, 0, 0, 0].map (AV.int .u32)) 88] := S10
  refine AE_joinR (fun e h' => h8 = h' ∧ e.length = 48 ∧ e.getD 1 .undef = .str s_ ∧ e.getD 2 .undef = .ptr i1 0 ∧ e.getD 4 .undef = .ptr i7 0) (by
    simp only [↓WE, WA, WL, aop, ofValue, ofCell, isConst, abin, acall1, abuiltin, aun, AV.cells, AV.one, Nat.reduceAdd, Int.reduceLT, Int.reduceLE, ↓WD, W0, evalOp, Nat.reduceEqDiff, Nat.reduceLT, ↓reduceIte, reduceCtorEq, hl, e0, e1, oa3, zero_88, oa9]
    exact ⟨rfl, (by simp only [List.length_set, hl]), (by simp only [W0, Nat.reduceEqDiff, Nat.reduceLT, ↓reduceIte, hl, e0, e1]), (by simp only [W0, Nat.reduceEqDiff, Nat.reduceLT, ↓reduceIte, hl, e0, e1]), (by simp only [W0, Nat.reduceEqDiff, Nat.reduceLT, ↓reduceIte, hl, e0, e1])⟩) ?_
  rintro envg13 _ ⟨rfl, hl, e1, e2, e4⟩
  try simp only [↓WD, W0, evalOp, Nat.reduceEqDiff, Nat.reduceLT, ↓reduceIte, reduceCtorEq, hl, e1, e2, e4]
  rw [AW_region]
  obtain ⟨y14, qy14, hF⟩ := obind hF
  obtain ⟨v19, h16, og15, i18, rfl, S17⟩ := (W_sha_added n99 m (by omega) h8  qy14).out
  have S21 : Sep h [] h16 [.blk i1 ([v.x0, v.x1, v.x2, v.x3, v.x4, v.x5, v.x6, v.x7].map (AV.int .u32)) 88, .blk i7 ([0, 0, 0, 0, 0, 0, 0, 0].map (AV.int .u32)) 88, .blk i18 (y14.map (AV.int .u32)) 147] := S12.call0 S17
  refine AE_joinR (fun e h' => h16 = h' ∧ e.length = 48 ∧ e.getD 1 .undef = .str s_ ∧ e.getD 2 .undef = .ptr i1 0 ∧ e.getD 4 .undef = .ptr i7 0 ∧ e.getD 5 .undef = .ptr i18 0) (by
    simp only [↓WE, WA, WL, aop, ofValue, ofCell, isConst, abin, acall1, abuiltin, aun, AV.cells, AV.one, Nat.reduceAdd, Int.reduceLT, Int.reduceLE, ↓WD, W0, evalOp, Nat.reduceEqDiff, Nat.reduceLT, ↓reduceIte, reduceCtorEq, hl, e1, e2, e4, og15]
    exact ⟨rfl, (by simp only [List.length_set, hl]), (by simp only [W0, Nat.reduceEqDiff, Nat.reduceLT, ↓reduceIte, hl, e1, e2, e4]), (by simp only [W0, Nat.reduceEqDiff, Nat.reduceLT, ↓reduceIte, hl, e1, e2, e4]), (by simp only [W0, Nat.reduceEqDiff, Nat.reduceLT, ↓reduceIte, hl, e1, e2, e4]), (by simp only [W0, Nat.reduceEqDiff, Nat.reduceLT, ↓reduceIte, hl, e1, e2, e4])⟩) ?_
  rintro envg22 _ ⟨rfl, hl, e1, e2, e4, e5⟩
  try simp only [↓WD, W0, evalOp, Nat.reduceEqDiff, Nat.reduceLT, ↓reduceIte, reduceCtorEq, hl, e1, e2, e4, e5]
  obtain ⟨r296, qr296, hF⟩ := obind hF
  refine AW_lift (L_sha_state_blocks_1 y14) (fun s e h' => e.length = 48 ∧ e.getD 1 .undef = .str s.1 ∧ e.getD 2 .undef = .ptr i1 0 ∧ e.getD 4 .undef = .ptr i7 0 ∧ e.getD 5 .undef = .ptr i18 0 ∧ Sep h [] h' [.blk i1 (s.2.map (AV.int .u32)) 88, .blk i7 ([0, 0, 0, 0, 0, 0, 0, 0].map (AV.int .u32)) 88, .blk i18 (y14.map (AV.int .u32)) 147]) (fun r296 x e h' => x = .exit 0 ∧ e.length = 48 ∧ e.getD 2 .undef = .ptr i1 0 ∧ e.getD 4 .undef = .ptr i7 0 ∧ Sep h [] h' [.blk i1 (r296.map (AV.int .u32)) 88, .blk i7 ([0, 0, 0, 0, 0, 0, 0, 0].map (AV.int .u32)) 88]) qr296 (by omega) ?_ ?_ ?_
  · rintro s envr296 h159 or296 ⟨hl, e1, e2, e4, e5, S160⟩ wr296
    rw [L_sha_state_blocks_1] at wr296
    try simp only [↓WD, W0, evalOp, Nat.reduceEqDiff, Nat.reduceLT, ↓reduceIte, reduceCtorEq, hl, e1, e2, e4, e5]
    rw [AW_region]
    have ol161 := fun g : AH => alen_str (P := Try.prog) (h := g) (l := s.1) Try.underlying9
    refine AE_joinR (fun e h' => h159 = h' ∧ e.length = 48 ∧ e.getD 1 .undef = .str s.1 ∧ e.getD 2 .undef = .ptr i1 0 ∧ e.getD 4 .undef = .ptr i7 0 ∧ e.getD 5 .undef = .ptr i18 0 ∧ e.getD 13 .undef = .bool (decide ((s.1.length : Int) ≥ 64))) (by
      simp only [↓WE, WA, WL, aop, ofValue, ofCell, isConst, abin, acall1, abuiltin, aun, AV.cells, AV.one, Nat.reduceAdd, Int.reduceLT, Int.reduceLE, ↓WD, W0, evalOp, Nat.reduceEqDiff, Nat.reduceLT, ↓reduceIte, reduceCtorEq, hl, e1, e2, e4, e5, ol161]
      exact ⟨rfl, (by simp only [List.length_set, hl]), (by simp only [W0, Nat.reduceEqDiff, Nat.reduceLT, ↓reduceIte, hl, e1, e2, e4, e5]), (by simp only [W0, Nat.reduceEqDiff, Nat.reduceLT, ↓reduceIte, hl, e1, e2, e4, e5]), (by simp only [W0, Nat.reduceEqDiff, Nat.reduceLT, ↓reduceIte, hl, e1, e2, e4, e5]), (by simp only [W0, Nat.reduceEqDiff, Nat.reduceLT, ↓reduceIte, hl, e1, e2, e4, e5]), (by simp only [W0, Nat.reduceEqDiff, Nat.reduceLT, ↓reduceIte, hl, e1, e2, e4, e5])⟩) ?_
    rintro envg162 _ ⟨rfl, hl, e1, e2, e4, e5, e13⟩
    try simp only [↓WD, W0, evalOp, Nat.reduceEqDiff, Nat.reduceLT, ↓reduceIte, reduceCtorEq, hl, e1, e2, e4, e5, e13]
    refine CondK_dec (fun c164 => ?_) (fun c164 => ?_)
    · rw [if_pos c164] at wr296
      try simp only [↓WD, W0, evalOp, Nat.reduceEqDiff, Nat.reduceLT, ↓reduceIte, reduceCtorEq, hl, e1, e2, e4, e5, e13]
      rw [AW_region]
      obtain ⟨y165, qy165, wr296⟩ := obind wr296
      obtain ⟨v170, h167, og166, i169, rfl, S168⟩ := (W_sha_words k123 n100 m (by omega) h159 s.1 qy165).out
      have S172 : Sep h [] h167 [.blk i1 (s.2.map (AV.int .u32)) 88, .blk i7 ([0, 0, 0, 0, 0, 0, 0, 0].map (AV.int .u32)) 88, .blk i18 (y14.map (AV.int .u32)) 147, .blk i169 (y165.map (AV.int .u32)) 147] := S160.call0 S168
      refine AE_joinR (fun e h' => h167 = h' ∧ e.length = 48 ∧ e.getD 1 .undef = .str s.1 ∧ e.getD 2 .undef = .ptr i1 0 ∧ e.getD 4 .undef = .ptr i7 0 ∧ e.getD 5 .undef = .ptr i18 0 ∧ e.getD 6 .undef = .ptr i169 0) (by
        simp only [↓WE, WA, WL, aop, ofValue, ofCell, isConst, abin, acall1, abuiltin, aun, AV.cells, AV.one, Nat.reduceAdd, Int.reduceLT, Int.reduceLE, ↓WD, W0, evalOp, Nat.reduceEqDiff, Nat.reduceLT, ↓reduceIte, reduceCtorEq, hl, e1, e2, e4, e5, e13, og166]
        exact ⟨rfl, (by simp only [List.length_set, hl]), (by simp only [W0, Nat.reduceEqDiff, Nat.reduceLT, ↓reduceIte, hl, e1, e2, e4, e5, e13]), (by simp only [W0, Nat.reduceEqDiff, Nat.reduceLT, ↓reduceIte, hl, e1, e2, e4, e5, e13]), (by simp only [W0, Nat.reduceEqDiff, Nat.reduceLT, ↓reduceIte, hl, e1, e2, e4, e5, e13]), (by simp only [W0, Nat.reduceEqDiff, Nat.reduceLT, ↓reduceIte, hl, e1, e2, e4, e5, e13]), (by simp only [W0, Nat.reduceEqDiff, Nat.reduceLT, ↓reduceIte, hl, e1, e2, e4, e5, e13])⟩) ?_
      rintro envg173 _ ⟨rfl, hl, e1, e2, e4, e5, e6⟩
      try simp only [↓WD, W0, evalOp, Nat.reduceEqDiff, Nat.reduceLT, ↓reduceIte, reduceCtorEq, hl, e1, e2, e4, e5, e6]
      rw [AW_region]
      obtain ⟨a175, qa175, wr296⟩ := obind wr296
      have ol174 := S172.load (P := Try.prog) 0 rfl (t := 88) (off := 0) (v := .agg [.int .u32 a175.x0, .int .u32 a175.x1, .int .u32 a175.x2, .int .u32 a175.x3, .int .u32 a175.x4, .int .u32 a175.x5, .int .u32 a175.x6, .int .u32 a175.x7]) (by rw [GA8_u32.of_eq qa175]; simp only [apart, ag_88, sz_88, List.map_cons, List.map_nil]; rfl)
      obtain ⟨i176, h177, oa178, S179⟩ := S172.alloc 88 [.int .u32 0, .int .u32 0, .int .u32 0, .int .u32 0, .int .u32 0, .int .u32 0, .int .u32 0, .int .u32 0]
      have S181 : Sep h [] h177 [.blk i1 (s.2.map (AV.int .u32)) 88, .blk i7 ([0, 0, 0, 0, 0, 0, 0, 0].map (AV.int .u32)) 88, .blk i18 (y14.map (AV.int .u32)) 147, .blk i169 (y165.map (AV.int .u32)) 147, .blk i176 ([0, 0, 0, 0, 0, 0, 0, 0].map (AV.int .u32)) 88] := S179
      obtain ⟨_, q185, wr296⟩ := obind wr296
      obtain ⟨_, q186, wr296⟩ := obind wr296
      obtain ⟨h182, os183, S184⟩ := S181.storeAll (P := Try.prog) 4 rfl (t := 88) sz_88 q185 q186
      simp only [List.map_cons, List.map_nil] at os183
      have S187 : Sep h [] h182 [.blk i1 (s.2.map (AV.int .u32)) 88, .blk i7 ([0, 0, 0, 0, 0, 0, 0, 0].map (AV.int .u32)) 88, .blk i18 (y14.map (AV.int .u32)) 147, .blk i169 (y165.map (AV.int .u32)) 147, .blk i176 ([a175.x0, a175.x1, a175.x2, a175.x3, a175.x4, a175.x5, a175.x6, a175.x7].map (AV.int .u32)) 88] := S184
      refine AE_joinR (fun e h' => h182 = h' ∧ e.length = 48 ∧ e.getD 1 .undef = .str s.1 ∧ e.getD 2 .undef = .ptr i1 0 ∧ e.getD 4 .undef = .ptr i7 0 ∧ e.getD 5 .undef = .ptr i18 0 ∧ e.getD 6 .undef = .ptr i169 0 ∧ e.getD 7 .undef = .ptr i176 0) (by
        simp only [↓WE, WA, WL, aop, ofValue, ofCell, isConst, abin, acall1, abuiltin, aun, AV.cells, AV.one, Nat.reduceAdd, Int.reduceLT, Int.reduceLE, ↓WD, W0, evalOp, Nat.reduceEqDiff, Nat.reduceLT, ↓reduceIte, reduceCtorEq, hl, e1, e2, e4, e5, e6, ol174, zero_88, oa178, os183]
        exact ⟨rfl, (by simp only [List.length_set, hl]), (by simp only [W0, Nat.reduceEqDiff, Nat.reduceLT, ↓reduceIte, hl, e1, e2, e4, e5, e6]), (by simp only [W0, Nat.reduceEqDiff, Nat.reduceLT, ↓reduceIte, hl, e1, e2, e4, e5, e6]), (by simp only [W0, Nat.reduceEqDiff, Nat.reduceLT, ↓reduceIte, hl, e1, e2, e4, e5, e6]), (by simp only [W0, Nat.reduceEqDiff, Nat.reduceLT, ↓reduceIte, hl, e1, e2, e4, e5, e6]), (by simp only [W0, Nat.reduceEqDiff, Nat.reduceLT, ↓reduceIte, hl, e1, e2, e4, e5, e6]), (by simp only [W0, Nat.reduceEqDiff, Nat.reduceLT, ↓reduceIte, hl, e1, e2, e4, e5, e6])⟩) ?_
      rintro envg188 _ ⟨rfl, hl, e1, e2, e4, e5, e6, e7⟩
      try simp only [↓WD, W0, evalOp, Nat.reduceEqDiff, Nat.reduceLT, ↓reduceIte, reduceCtorEq, hl, e1, e2, e4, e5, e6, e7]
      rw [AW_region]
      refine AE_joinR (fun e h' => h182 = h' ∧ e.length = 48 ∧ e.getD 1 .undef = .str s.1 ∧ e.getD 2 .undef = .ptr i1 0 ∧ e.getD 4 .undef = .ptr i7 0 ∧ e.getD 5 .undef = .ptr i18 0 ∧ e.getD 6 .undef = .ptr i169 0 ∧ e.getD 7 .undef = .ptr i176 0 ∧ e.getD 19 .undef = .int .i64 0) (by
        simp only [↓WE, WA, WL, aop, ofValue, ofCell, isConst, abin, acall1, abuiltin, aun, AV.cells, AV.one, Nat.reduceAdd, Int.reduceLT, Int.reduceLE, ↓WD, W0, evalOp, Nat.reduceEqDiff, Nat.reduceLT, ↓reduceIte, reduceCtorEq, hl, e1, e2, e4, e5, e6, e7]
        exact ⟨rfl, (by simp only [List.length_set, hl]), (by simp only [W0, Nat.reduceEqDiff, Nat.reduceLT, ↓reduceIte, hl, e1, e2, e4, e5, e6, e7]), (by simp only [W0, Nat.reduceEqDiff, Nat.reduceLT, ↓reduceIte, hl, e1, e2, e4, e5, e6, e7]), (by simp only [W0, Nat.reduceEqDiff, Nat.reduceLT, ↓reduceIte, hl, e1, e2, e4, e5, e6, e7]), (by simp only [W0, Nat.reduceEqDiff, Nat.reduceLT, ↓reduceIte, hl, e1, e2, e4, e5, e6, e7]), (by simp only [W0, Nat.reduceEqDiff, Nat.reduceLT, ↓reduceIte, hl, e1, e2, e4, e5, e6, e7]), (by simp only [W0, Nat.reduceEqDiff, Nat.reduceLT, ↓reduceIte, hl, e1, e2, e4, e5, e6, e7]), (by simp only [W0, Nat.reduceEqDiff, Nat.reduceLT, ↓reduceIte, hl, e1, e2, e4, e5, e6, e7])⟩) ?_
      rintro envg189 _ ⟨rfl, hl, e1, e2, e4, e5, e6, e7, e19⟩
      try simp only [↓WD, W0, evalOp, Nat.reduceEqDiff, Nat.reduceLT, ↓reduceIte, reduceCtorEq, hl, e1, e2, e4, e5, e6, e7, e19]
      obtain ⟨r241, qr241, wr296⟩ := obind wr296
      refine AW_lift (L_sha_state_blocks_2 y14 y165) (fun s e h' => e.length = 48 ∧ e.getD 1 .undef = .str s.1 ∧ e.getD 2 .undef = .ptr i1 0 ∧ e.getD 4 .undef = .ptr i7 0 ∧ e.getD 5 .undef = .ptr i18 0 ∧ e.getD 6 .undef = .ptr i169 0 ∧ e.getD 7 .undef = .ptr i176 0 ∧ e.getD 19 .undef = .int .i64 s.2.2.2 ∧ Sep h [] h' [.blk i1 (s.2.1.map (AV.int .u32)) 88, .blk i7 ([0, 0, 0, 0, 0, 0, 0, 0].map (AV.int .u32)) 88, .blk i18 (y14.map (AV.int .u32)) 147, .blk i169 (y165.map (AV.int .u32)) 147, .blk i176 (s.2.2.1.map (AV.int .u32)) 88]) (fun r241 x e h' => x = .exit 2 ∧ e.length = 48 ∧ e.getD 1 .undef = .str r241.1 ∧ e.getD 2 .undef = .ptr i1 0 ∧ e.getD 4 .undef = .ptr i7 0 ∧ e.getD 5 .undef = .ptr i18 0 ∧ e.getD 7 .undef = .ptr i176 0 ∧ Sep h [] h' [.blk i1 (r241.2.1.map (AV.int .u32)) 88, .blk i7 ([0, 0, 0, 0, 0, 0, 0, 0].map (AV.int .u32)) 88, .blk i18 (y14.map (AV.int .u32)) 147, .blk i176 (r241.2.2.map (AV.int .u32)) 88]) qr241 (by omega) ?_ ?_ ?_
      · rintro s envr241 h215 or241 ⟨hl, e1, e2, e4, e5, e6, e7, e19, S216⟩ wr241
        rw [L_sha_state_blocks_2] at wr241
        try simp only [↓WD, W0, evalOp, Nat.reduceEqDiff, Nat.reduceLT, ↓reduceIte, reduceCtorEq, hl, e1, e2, e4, e5, e6, e7, e19]
        rw [AW_region]
        refine AE_joinR (fun e h' => h215 = h' ∧ e.length = 48 ∧ e.getD 1 .undef = .str s.1 ∧ e.getD 2 .undef = .ptr i1 0 ∧ e.getD 4 .undef = .ptr i7 0 ∧ e.getD 5 .undef = .ptr i18 0 ∧ e.getD 6 .undef = .ptr i169 0 ∧ e.getD 7 .undef = .ptr i176 0 ∧ e.getD 19 .undef = .int .i64 s.2.2.2 ∧ e.getD 20 .undef = .bool (decide (s.2.2.2 < 64))) (by
          simp only [↓WE, WA, WL, aop, ofValue, ofCell, isConst, abin, acall1, abuiltin, aun, AV.cells, AV.one, Nat.reduceAdd, Int.reduceLT, Int.reduceLE, ↓WD, W0, evalOp, Nat.reduceEqDiff, Nat.reduceLT, ↓reduceIte, reduceCtorEq, hl, e1, e2, e4, e5, e6, e7, e19]
          exact ⟨rfl, (by simp only [List.length_set, hl]), (by simp only [W0, Nat.reduceEqDiff, Nat.reduceLT, ↓reduceIte, hl, e1, e2, e4, e5, e6, e7, e19]), (by simp only [W0, Nat.reduceEqDiff, Nat.reduceLT, ↓reduceIte, hl, e1, e2, e4, e5, e6, e7, e19]), (by simp only [W0, Nat.reduceEqDiff, Nat.reduceLT, ↓reduceIte, hl, e1, e2, e4, e5, e6, e7, e19]), (by simp only [W0, Nat.reduceEqDiff, Nat.reduceLT, ↓reduceIte, hl, e1, e2, e4, e5, e6, e7, e19]), (by simp only [W0, Nat.reduceEqDiff, Nat.reduceLT, ↓reduceIte, hl, e1, e2, e4, e5, e6, e7, e19]), (by simp only [W0, Nat.reduceEqDiff, Nat.reduceLT, ↓reduceIte, hl, e1, e2, e4, e5, e6, e7, e19]), (by simp only [W0, Nat.reduceEqDiff, Nat.reduceLT, ↓reduceIte, hl, e1, e2, e4, e5, e6, e7, e19]), (by simp only [W0, Nat.reduceEqDiff, Nat.reduceLT, ↓reduceIte, hl, e1, e2, e4, e5, e6, e7, e19])⟩) ?_
        rintro envg217 _ ⟨rfl, hl, e1, e2, e4, e5, e6, e7, e19, e20⟩
        try simp only [↓WD, W0, evalOp, Nat.reduceEqDiff, Nat.reduceLT, ↓reduceIte, reduceCtorEq, hl, e1, e2, e4, e5, e6, e7, e19, e20]
        refine CondK_dec (fun c219 => ?_) (fun c219 => ?_)
        · rw [if_pos c219] at wr241
          try simp only [↓WD, W0, evalOp, Nat.reduceEqDiff, Nat.reduceLT, ↓reduceIte, reduceCtorEq, hl, e1, e2, e4, e5, e6, e7, e19, e20]
          rw [AW_region]
          refine AE_joinR (fun e h' => h215 = h' ∧ e.length = 48 ∧ e.getD 1 .undef = .str s.1 ∧ e.getD 2 .undef = .ptr i1 0 ∧ e.getD 4 .undef = .ptr i7 0 ∧ e.getD 5 .undef = .ptr i18 0 ∧ e.getD 6 .undef = .ptr i169 0 ∧ e.getD 7 .undef = .ptr i176 0 ∧ e.getD 8 .undef = .int .i64 s.2.2.2 ∧ e.getD 19 .undef = .int .i64 s.2.2.2) (by
            simp only [↓WE, WA, WL, aop, ofValue, ofCell, isConst, abin, acall1, abuiltin, aun, AV.cells, AV.one, Nat.reduceAdd, Int.reduceLT, Int.reduceLE, ↓WD, W0, evalOp, Nat.reduceEqDiff, Nat.reduceLT, ↓reduceIte, reduceCtorEq, hl, e1, e2, e4, e5, e6, e7, e19, e20]
            exact ⟨rfl, (by simp only [List.length_set, hl]), (by simp only [W0, Nat.reduceEqDiff, Nat.reduceLT, ↓reduceIte, hl, e1, e2, e4, e5, e6, e7, e19, e20]), (by simp only [W0, Nat.reduceEqDiff, Nat.reduceLT, ↓reduceIte, hl, e1, e2, e4, e5, e6, e7, e19, e20]), (by simp only [W0, Nat.reduceEqDiff, Nat.reduceLT, ↓reduceIte, hl, e1, e2, e4, e5, e6, e7, e19, e20]), (by simp only [W0, Nat.reduceEqDiff, Nat.reduceLT, ↓reduceIte, hl, e1, e2, e4, e5, e6, e7, e19, e20]), (by simp only [W0, Nat.reduceEqDiff, Nat.reduceLT, ↓reduceIte, hl, e1, e2, e4, e5, e6, e7, e19, e20]), (by simp only [W0, Nat.reduceEqDiff, Nat.reduceLT, ↓reduceIte, hl, e1, e2, e4, e5, e6, e7, e19, e20]), (by simp only [W0, Nat.reduceEqDiff, Nat.reduceLT, ↓reduceIte, hl, e1, e2, e4, e5, e6, e7, e19, e20]), (by simp only [W0, Nat.reduceEqDiff, Nat.reduceLT, ↓reduceIte, hl, e1, e2, e4, e5, e6, e7, e19, e20])⟩) ?_
          rintro envg220 _ ⟨rfl, hl, e1, e2, e4, e5, e6, e7, e8, e19⟩
          try simp only [↓WD, W0, evalOp, Nat.reduceEqDiff, Nat.reduceLT, ↓reduceIte, reduceCtorEq, hl, e1, e2, e4, e5, e6, e7, e8, e19]
          rw [AW_drawn, AE_drawnK (Ksub.cons k101 (Ksub.cons k123 Ksub.nil)) (by kernel_rfl)]
          obtain ⟨a222, qa222, wr241⟩ := obind wr241
          have ol221 := S216.load (P := Try.prog) 4 rfl (t := 88) (off := 0) (v := .agg [.int .u32 a222.x0, .int .u32 a222.x1, .int .u32 a222.x2, .int .u32 a222.x3, .int .u32 a222.x4, .int .u32 a222.x5, .int .u32 a222.x6, .int .u32 a222.x7]) (by rw [GA8_u32.of_eq qa222]; simp only [apart, ag_88, sz_88, List.map_cons, List.map_nil]; rfl)
          obtain ⟨_, q223, wr241⟩ := obind wr241
          have oi224 := ia_147 i18 0 .i64 (chkIdx_lo q223) (chkIdx_hi q223)
          obtain ⟨y226, qy226, wr241⟩ := obind wr241
          have ol225 := S216.load (P := Try.prog) 2 rfl (t := 85) (apart_idxA ag_85 qy226)
          obtain ⟨_, q227, wr241⟩ := obind wr241
          have oi228 := ia_147 i169 0 .i64 (chkIdx_lo q227) (chkIdx_hi q227)
          obtain ⟨y230, qy230, wr241⟩ := obind wr241
          have ol229 := S216.load (P := Try.prog) 3 rfl (t := 85) (apart_idxA ag_85 qy230)
          obtain ⟨y231, qy231, wr241⟩ := obind wr241
          have og232 := fun (cf : CallF) (g : AH) => tab_hook (cf := cf) k101 (args := [.agg [.int .u32 a222.x0, .int .u32 a222.x1, .int .u32 a222.x2, .int .u32 a222.x3, .int .u32 a222.x4, .int .u32 a222.x5, .int .u32 a222.x6, .int .u32 a222.x7], .int .u32 y226, .int .u32 y230]) (v := .agg [.int .u32 y231.x0, .int .u32 y231.x1, .int .u32 y231.x2, .int .u32 y231.x3, .int .u32 y231.x4, .int .u32 y231.x5, .int .u32 y231.x6, .int .u32 y231.x7]) ((kf_101_eq a222 y226 y230).trans (by rw [qy231]; rfl)) g
          obtain ⟨_, q236, wr241⟩ := obind wr241
          obtain ⟨_, q237, wr241⟩ := obind wr241
          obtain ⟨h233, os234, S235⟩ := S216.storeAll (P := Try.prog) 4 rfl (t := 88) sz_88 q236 q237
          simp only [List.map_cons, List.map_nil] at os234
          have S238 : Sep h [] h233 [.blk i1 (s.2.1.map (AV.int .u32)) 88, .blk i7 ([0, 0, 0, 0, 0, 0, 0, 0].map (AV.int .u32)) 88, .blk i18 (y14.map (AV.int .u32)) 147, .blk i169 (y165.map (AV.int .u32)) 147, .blk i176 ([y231.x0, y231.x1, y231.x2, y231.x3, y231.x4, y231.x5, y231.x6, y231.x7].map (AV.int .u32)) 88] := S235
          refine AE_joinR (fun e h' => h233 = h' ∧ e.length = 48 ∧ e.getD 1 .undef = .str s.1 ∧ e.getD 2 .undef = .ptr i1 0 ∧ e.getD 4 .undef = .ptr i7 0 ∧ e.getD 5 .undef = .ptr i18 0 ∧ e.getD 6 .undef = .ptr i169 0 ∧ e.getD 7 .undef = .ptr i176 0 ∧ e.getD 19 .undef = .int .i64 s.2.2.2) (by
            simp only [↓WE, WA, WL, aop, ofValue, ofCell, isConst, abin, acall1, abuiltin, aun, AV.cells, AV.one, Nat.reduceAdd, Int.reduceLT, Int.reduceLE, ↓WD, W0, evalOp, Nat.reduceEqDiff, Nat.reduceLT, ↓reduceIte, reduceCtorEq, hl, e1, e2, e4, e5, e6, e7, e8, e19, ol221, oi224, ol225, oi228, ol229, og232, os234]
            exact ⟨rfl, (by simp only [List.length_set, hl]), (by simp only [W0, Nat.reduceEqDiff, Nat.reduceLT, ↓reduceIte, hl, e1, e2, e4, e5, e6, e7, e8, e19]), (by simp only [W0, Nat.reduceEqDiff, Nat.reduceLT, ↓reduceIte, hl, e1, e2, e4, e5, e6, e7, e8, e19]), (by simp only [W0, Nat.reduceEqDiff, Nat.reduceLT, ↓reduceIte, hl, e1, e2, e4, e5, e6, e7, e8, e19]), (by simp only [W0, Nat.reduceEqDiff, Nat.reduceLT, ↓reduceIte, hl, e1, e2, e4, e5, e6, e7, e8, e19]), (by simp only [W0, Nat.reduceEqDiff, Nat.reduceLT, ↓reduceIte, hl, e1, e2, e4, e5, e6, e7, e8, e19]), (by simp only [W0, Nat.reduceEqDiff, Nat.reduceLT, ↓reduceIte, hl, e1, e2, e4, e5, e6, e7, e8, e19]), (by simp only [W0, Nat.reduceEqDiff, Nat.reduceLT, ↓reduceIte, hl, e1, e2, e4, e5, e6, e7, e8, e19])⟩) ?_
          rintro envg239 _ ⟨rfl, hl, e1, e2, e4, e5, e6, e7, e19⟩
          try simp only [↓WD, W0, evalOp, Nat.reduceEqDiff, Nat.reduceLT, ↓reduceIte, reduceCtorEq, hl, e1, e2, e4, e5, e6, e7, e19]
          rw [AW_region]
          refine AE_joinR (fun e h' => h233 = h' ∧ e.length = 48 ∧ e.getD 1 .undef = .str s.1 ∧ e.getD 2 .undef = .ptr i1 0 ∧ e.getD 4 .undef = .ptr i7 0 ∧ e.getD 5 .undef = .ptr i18 0 ∧ e.getD 6 .undef = .ptr i169 0 ∧ e.getD 7 .undef = .ptr i176 0 ∧ e.getD 19 .undef = .int .i64 (IntKind.i64.wrap (s.2.2.2 + 1))) (by
            simp only [↓WE, WA, WL, aop, ofValue, ofCell, isConst, abin, acall1, abuiltin, aun, AV.cells, AV.one, Nat.reduceAdd, Int.reduceLT, Int.reduceLE, ↓WD, W0, evalOp, Nat.reduceEqDiff, Nat.reduceLT, ↓reduceIte, reduceCtorEq, hl, e1, e2, e4, e5, e6, e7, e19]
            exact ⟨rfl, (by simp only [List.length_set, hl]), (by simp only [W0, Nat.reduceEqDiff, Nat.reduceLT, ↓reduceIte, hl, e1, e2, e4, e5, e6, e7, e19]), (by simp only [W0, Nat.reduceEqDiff, Nat.reduceLT, ↓reduceIte, hl, e1, e2, e4, e5, e6, e7, e19]), (by simp only [W0, Nat.reduceEqDiff, Nat.reduceLT, ↓reduceIte, hl, e1, e2, e4, e5, e6, e7, e19]), (by simp only [W0, Nat.reduceEqDiff, Nat.reduceLT, ↓reduceIte, hl, e1, e2, e4, e5, e6, e7, e19]), (by simp only [W0, Nat.reduceEqDiff, Nat.reduceLT, ↓reduceIte, hl, e1, e2, e4, e5, e6, e7, e19]), (by simp only [W0, Nat.reduceEqDiff, Nat.reduceLT, ↓reduceIte, hl, e1, e2, e4, e5, e6, e7, e19]), (by simp only [W0, Nat.reduceEqDiff, Nat.reduceLT, ↓reduceIte, hl, e1, e2, e4, e5, e6, e7, e19])⟩) ?_
          rintro envg240 _ ⟨rfl, hl, e1, e2, e4, e5, e6, e7, e19⟩
          try simp only [↓WD, W0, evalOp, Nat.reduceEqDiff, Nat.reduceLT, ↓reduceIte, reduceCtorEq, hl, e1, e2, e4, e5, e6, e7, e19]
          obtain rfl := Option.some.inj wr241
          rw [KP_nil, QL_normal]
          exact ⟨_, rfl, (by simp only [List.length_set, hl]), (by simp only [W0, Nat.reduceEqDiff, Nat.reduceLT, ↓reduceIte, hl, e1, e2, e4, e5, e6, e7, e19]), (by simp only [W0, Nat.reduceEqDiff, Nat.reduceLT, ↓reduceIte, hl, e1, e2, e4, e5, e6, e7, e19]), (by simp only [W0, Nat.reduceEqDiff, Nat.reduceLT, ↓reduceIte, hl, e1, e2, e4, e5, e6, e7, e19]), (by simp only [W0, Nat.reduceEqDiff, Nat.reduceLT, ↓reduceIte, hl, e1, e2, e4, e5, e6, e7, e19]), (by simp only [W0, Nat.reduceEqDiff, Nat.reduceLT, ↓reduceIte, hl, e1, e2, e4, e5, e6, e7, e19]), (by simp only [W0, Nat.reduceEqDiff, Nat.reduceLT, ↓reduceIte, hl, e1, e2, e4, e5, e6, e7, e19]), (by simp only [W0, Nat.reduceEqDiff, Nat.reduceLT, ↓reduceIte, hl, e1, e2, e4, e5, e6, e7, e19]), S238⟩
        · rw [if_neg c219] at wr241
          try simp only [↓WD, W0, evalOp, Nat.reduceEqDiff, Nat.reduceLT, ↓reduceIte, reduceCtorEq, hl, e1, e2, e4, e5, e6, e7, e19, e20]
          obtain rfl := Option.some.inj wr241
          rw [KP_nil, QL_exit]
          exact ⟨_, rfl, rfl, (by simp only [List.length_set, hl]), (by simp only [W0, Nat.reduceEqDiff, Nat.reduceLT, ↓reduceIte, hl, e1, e2, e4, e5, e6, e7, e19, e20]), (by simp only [W0, Nat.reduceEqDiff, Nat.reduceLT, ↓reduceIte, hl, e1, e2, e4, e5, e6, e7, e19, e20]), (by simp only [W0, Nat.reduceEqDiff, Nat.reduceLT, ↓reduceIte, hl, e1, e2, e4, e5, e6, e7, e19, e20]), (by simp only [W0, Nat.reduceEqDiff, Nat.reduceLT, ↓reduceIte, hl, e1, e2, e4, e5, e6, e7, e19, e20]), (by simp only [W0, Nat.reduceEqDiff, Nat.reduceLT, ↓reduceIte, hl, e1, e2, e4, e5, e6, e7, e19, e20]), S216.pick [0, 1, 2, 4] (by decide) rfl⟩
      · exact ⟨(by simp only [List.length_set, hl]), (by simp only [W0, Nat.reduceEqDiff, Nat.reduceLT, ↓reduceIte, hl, e1, e2, e4, e5, e6, e7, e19]), (by simp only [W0, Nat.reduceEqDiff, Nat.reduceLT, ↓reduceIte, hl, e1, e2, e4, e5, e6, e7, e19]), (by simp only [W0, Nat.reduceEqDiff, Nat.reduceLT, ↓reduceIte, hl, e1, e2, e4, e5, e6, e7, e19]), (by simp only [W0, Nat.reduceEqDiff, Nat.reduceLT, ↓reduceIte, hl, e1, e2, e4, e5, e6, e7, e19]), (by simp only [W0, Nat.reduceEqDiff, Nat.reduceLT, ↓reduceIte, hl, e1, e2, e4, e5, e6, e7, e19]), (by simp only [W0, Nat.reduceEqDiff, Nat.reduceLT, ↓reduceIte, hl, e1, e2, e4, e5, e6, e7, e19]), (by simp only [W0, Nat.reduceEqDiff, Nat.reduceLT, ↓reduceIte, hl, e1, e2, e4, e5, e6, e7, e19]), S187⟩
      · rintro x envr241 h242 ⟨rfl, hl, e1, e2, e4, e5, e7, S243⟩
        try simp only [↓WD, W0, evalOp, Nat.reduceEqDiff, Nat.reduceLT, ↓reduceIte, reduceCtorEq, hl, e1, e2, e4, e5, e7]
        rw [AW_region]
        refine AE_joinR (fun e h' => h242 = h' ∧ e.length = 48 ∧ e.getD 1 .undef = .str r241.1 ∧ e.getD 2 .undef = .ptr i1 0 ∧ e.getD 4 .undef = .ptr i7 0 ∧ e.getD 5 .undef = .ptr i18 0 ∧ e.getD 7 .undef = .ptr i176 0 ∧ e.getD 35 .undef = .int .i64 0) (by
          simp only [↓WE, WA, WL, aop, ofValue, ofCell, isConst, abin, acall1, abuiltin, aun, AV.cells, AV.one, Nat.reduceAdd, Int.reduceLT, Int.reduceLE, ↓WD, W0, evalOp, Nat.reduceEqDiff, Nat.reduceLT, ↓reduceIte, reduceCtorEq, hl, e1, e2, e4, e5, e7]
          exact ⟨rfl, (by simp only [List.length_set, hl]), (by simp only [W0, Nat.reduceEqDiff, Nat.reduceLT, ↓reduceIte, hl, e1, e2, e4, e5, e7]), (by simp only [W0, Nat.reduceEqDiff, Nat.reduceLT, ↓reduceIte, hl, e1, e2, e4, e5, e7]), (by simp only [W0, Nat.reduceEqDiff, Nat.reduceLT, ↓reduceIte, hl, e1, e2, e4, e5, e7]), (by simp only [W0, Nat.reduceEqDiff, Nat.reduceLT, ↓reduceIte, hl, e1, e2, e4, e5, e7]), (by simp only [W0, Nat.reduceEqDiff, Nat.reduceLT, ↓reduceIte, hl, e1, e2, e4, e5, e7]), (by simp only [W0, Nat.reduceEqDiff, Nat.reduceLT, ↓reduceIte, hl, e1, e2, e4, e5, e7])⟩) ?_
        rintro envg244 _ ⟨rfl, hl, e1, e2, e4, e5, e7, e35⟩
        try simp only [↓WD, W0, evalOp, Nat.reduceEqDiff, Nat.reduceLT, ↓reduceIte, reduceCtorEq, hl, e1, e2, e4, e5, e7, e35]
        obtain ⟨r291, qr291, wr296⟩ := obind wr296
        refine AW_lift (L_sha_state_blocks_3 r241) (fun s e h' => e.length = 48 ∧ e.getD 1 .undef = .str r241.1 ∧ e.getD 2 .undef = .ptr i1 0 ∧ e.getD 4 .undef = .ptr i7 0 ∧ e.getD 5 .undef = .ptr i18 0 ∧ e.getD 7 .undef = .ptr i176 0 ∧ e.getD 35 .undef = .int .i64 s.2 ∧ Sep h [] h' [.blk i1 (s.1.map (AV.int .u32)) 88, .blk i7 ([0, 0, 0, 0, 0, 0, 0, 0].map (AV.int .u32)) 88, .blk i18 (y14.map (AV.int .u32)) 147, .blk i176 (r241.2.2.map (AV.int .u32)) 88]) (fun r291 x e h' => x = .exit 4 ∧ e.length = 48 ∧ e.getD 1 .undef = .str r241.1 ∧ e.getD 2 .undef = .ptr i1 0 ∧ e.getD 4 .undef = .ptr i7 0 ∧ e.getD 5 .undef = .ptr i18 0 ∧ Sep h [] h' [.blk i1 (r291.map (AV.int .u32)) 88, .blk i7 ([0, 0, 0, 0, 0, 0, 0, 0].map (AV.int .u32)) 88, .blk i18 (y14.map (AV.int .u32)) 147]) qr291 (by omega) ?_ ?_ ?_
        · rintro s envr291 h268 or291 ⟨hl, e1, e2, e4, e5, e7, e35, S269⟩ wr291
          rw [L_sha_state_blocks_3] at wr291
          try simp only [↓WD, W0, evalOp, Nat.reduceEqDiff, Nat.reduceLT, ↓reduceIte, reduceCtorEq, hl, e1, e2, e4, e5, e7, e35]
          rw [AW_region]
          refine AE_joinR (fun e h' => h268 = h' ∧ e.length = 48 ∧ e.getD 1 .undef = .str r241.1 ∧ e.getD 2 .undef = .ptr i1 0 ∧ e.getD 4 .undef = .ptr i7 0 ∧ e.getD 5 .undef = .ptr i18 0 ∧ e.getD 7 .undef = .ptr i176 0 ∧ e.getD 35 .undef = .int .i64 s.2 ∧ e.getD 36 .undef = .bool (decide (s.2 < 8))) (by
            simp only [↓WE, WA, WL, aop, ofValue, ofCell, isConst, abin, acall1, abuiltin, aun, AV.cells, AV.one, Nat.reduceAdd, Int.reduceLT, Int.reduceLE, ↓WD, W0, evalOp, Nat.reduceEqDiff, Nat.reduceLT, ↓reduceIte, reduceCtorEq, hl, e1, e2, e4, e5, e7, e35]
            exact ⟨rfl, (by simp only [List.length_set, hl]), (by simp only [W0, Nat.reduceEqDiff, Nat.reduceLT, ↓reduceIte, hl, e1, e2, e4, e5, e7, e35]), (by simp only [W0, Nat.reduceEqDiff, Nat.reduceLT, ↓reduceIte, hl, e1, e2, e4, e5, e7, e35]), (by simp only [W0, Nat.reduceEqDiff, Nat.reduceLT, ↓reduceIte, hl, e1, e2, e4, e5, e7, e35]), (by simp only [W0, Nat.reduceEqDiff, Nat.reduceLT, ↓reduceIte, hl, e1, e2, e4, e5, e7, e35]), (by simp only [W0, Nat.reduceEqDiff, Nat.reduceLT, ↓reduceIte, hl, e1, e2, e4, e5, e7, e35]), (by simp only [W0, Nat.reduceEqDiff, Nat.reduceLT, ↓reduceIte, hl, e1, e2, e4, e5, e7, e35]), (by simp only [W0, Nat.reduceEqDiff, Nat.reduceLT, ↓reduceIte, hl, e1, e2, e4, e5, e7, e35])⟩) ?_
          rintro envg270 _ ⟨rfl, hl, e1, e2, e4, e5, e7, e35, e36⟩
          try simp only [↓WD, W0, evalOp, Nat.reduceEqDiff, Nat.reduceLT, ↓reduceIte, reduceCtorEq, hl, e1, e2, e4, e5, e7, e35, e36]
          refine CondK_dec (fun c272 => ?_) (fun c272 => ?_)
          · rw [if_pos c272] at wr291
            try simp only [↓WD, W0, evalOp, Nat.reduceEqDiff, Nat.reduceLT, ↓reduceIte, reduceCtorEq, hl, e1, e2, e4, e5, e7, e35, e36]
            rw [AW_region]
            refine AE_joinR (fun e h' => h268 = h' ∧ e.length = 48 ∧ e.getD 1 .undef = .str r241.1 ∧ e.getD 2 .undef = .ptr i1 0 ∧ e.getD 4 .undef = .ptr i7 0 ∧ e.getD 5 .undef = .ptr i18 0 ∧ e.getD 7 .undef = .ptr i176 0 ∧ e.getD 9 .undef = .int .i64 s.2 ∧ e.getD 35 .undef = .int .i64 s.2) (by
              simp only [↓WE, WA, WL, aop, ofValue, ofCell, isConst, abin, acall1, abuiltin, aun, AV.cells, AV.one, Nat.reduceAdd, Int.reduceLT, Int.reduceLE, ↓WD, W0, evalOp, Nat.reduceEqDiff, Nat.reduceLT, ↓reduceIte, reduceCtorEq, hl, e1, e2, e4, e5, e7, e35, e36]
              exact ⟨rfl, (by simp only [List.length_set, hl]), (by simp only [W0, Nat.reduceEqDiff, Nat.reduceLT, ↓reduceIte, hl, e1, e2, e4, e5, e7, e35, e36]), (by simp only [W0, Nat.reduceEqDiff, Nat.reduceLT, ↓reduceIte, hl, e1, e2, e4, e5, e7, e35, e36]), (by simp only [W0, Nat.reduceEqDiff, Nat.reduceLT, ↓reduceIte, hl, e1, e2, e4, e5, e7, e35, e36]), (by simp only [W0, Nat.reduceEqDiff, Nat.reduceLT, ↓reduceIte, hl, e1, e2, e4, e5, e7, e35, e36]), (by simp only [W0, Nat.reduceEqDiff, Nat.reduceLT, ↓reduceIte, hl, e1, e2, e4, e5, e7, e35, e36]), (by simp only [W0, Nat.reduceEqDiff, Nat.reduceLT, ↓reduceIte, hl, e1, e2, e4, e5, e7, e35, e36]), (by simp only [W0, Nat.reduceEqDiff, Nat.reduceLT, ↓reduceIte, hl, e1, e2, e4, e5, e7, e35, e36])⟩) ?_
            rintro envg273 _ ⟨rfl, hl, e1, e2, e4, e5, e7, e9, e35⟩
            try simp only [↓WD, W0, evalOp, Nat.reduceEqDiff, Nat.reduceLT, ↓reduceIte, reduceCtorEq, hl, e1, e2, e4, e5, e7, e9, e35]
            rw [AW_drawn, AE_drawnK (Ksub.cons k101 (Ksub.cons k123 Ksub.nil)) (by kernel_rfl)]
            obtain ⟨_, q274, wr291⟩ := obind wr291
            have oi275 := ia_88 i1 0 .i64 (chkIdx_lo q274) (chkIdx_hi q274)
            obtain ⟨y277, qy277, wr291⟩ := obind wr291
            have ol276 := S269.load (P := Try.prog) 0 rfl (t := 85) (apart_idxA ag_85 qy277)
            obtain ⟨_, q278, wr291⟩ := obind wr291
            have oi279 := ia_88 i176 0 .i64 (chkIdx_lo q278) (chkIdx_hi q278)
            obtain ⟨y281, qy281, wr291⟩ := obind wr291
            have ol280 := S269.load (P := Try.prog) 3 rfl (t := 85) (apart_idxA ag_85 qy281)
            obtain ⟨_, q282, wr291⟩ := obind wr291
            have oi283 := ia_88 i1 0 .i64 (chkIdx_lo q282) (chkIdx_hi q282)
            obtain ⟨y287, qy287, wr291⟩ := obind wr291
            obtain ⟨h284, os285, S286⟩ := S269.storeA (P := Try.prog) 0 rfl sz_85 qy287
            have S288 : Sep h [] h284 [.blk i1 (y287.map (AV.int .u32)) 88, .blk i7 ([0, 0, 0, 0, 0, 0, 0, 0].map (AV.int .u32)) 88, .blk i18 (y14.map (AV.int .u32)) 147, .blk i176 (r241.2.2.map (AV.int .u32)) 88] := S286
            refine AE_joinR (fun e h' => h284 = h' ∧ e.length = 48 ∧ e.getD 1 .undef = .str r241.1 ∧ e.getD 2 .undef = .ptr i1 0 ∧ e.getD 4 .undef = .ptr i7 0 ∧ e.getD 5 .undef = .ptr i18 0 ∧ e.getD 7 .undef = .ptr i176 0 ∧ e.getD 35 .undef = .int .i64 s.2) (by
              simp only [↓WE, WA, WL, aop, ofValue, ofCell, isConst, abin, acall1, abuiltin, aun, AV.cells, AV.one, Nat.reduceAdd, Int.reduceLT, Int.reduceLE, ↓WD, W0, evalOp, Nat.reduceEqDiff, Nat.reduceLT, ↓reduceIte, reduceCtorEq, hl, e1, e2, e4, e5, e7, e9, e35, oi275, ol276, oi279, ol280, oi283, os285]
              exact ⟨rfl, (by simp only [List.length_set, hl]), (by simp only [W0, Nat.reduceEqDiff, Nat.reduceLT, ↓reduceIte, hl, e1, e2, e4, e5, e7, e9, e35]), (by simp only [W0, Nat.reduceEqDiff, Nat.reduceLT, ↓reduceIte, hl, e1, e2, e4, e5, e7, e9, e35]), (by simp only [W0, Nat.reduceEqDiff, Nat.reduceLT, ↓reduceIte, hl, e1, e2, e4, e5, e7, e9, e35]), (by simp only [W0, Nat.reduceEqDiff, Nat.reduceLT, ↓reduceIte, hl, e1, e2, e4, e5, e7, e9, e35]), (by simp only [W0, Nat.reduceEqDiff, Nat.reduceLT, ↓reduceIte, hl, e1, e2, e4, e5, e7, e9, e35]), (by simp only [W0, Nat.reduceEqDiff, Nat.reduceLT, ↓reduceIte, hl, e1, e2, e4, e5, e7, e9, e35])⟩) ?_
            rintro envg289 _ ⟨rfl, hl, e1, e2, e4, e5, e7, e35⟩
            try simp only [↓WD, W0, evalOp, Nat.reduceEqDiff, Nat.reduceLT, ↓reduceIte, reduceCtorEq, hl, e1, e2, e4, e5, e7, e35]
            rw [AW_region]
            refine AE_joinR (fun e h' => h284 = h' ∧ e.length = 48 ∧ e.getD 1 .undef = .str r241.1 ∧ e.getD 2 .undef = .ptr i1 0 ∧ e.getD 4 .undef = .ptr i7 0 ∧ e.getD 5 .undef = .ptr i18 0 ∧ e.getD 7 .undef = .ptr i176 0 ∧ e.getD 35 .undef = .int .i64 (IntKind.i64.wrap (s.2 + 1))) (by
              simp only [↓WE, WA, WL, aop, ofValue, ofCell, isConst, abin, acall1, abuiltin, aun, AV.cells, AV.one, Nat.reduceAdd, Int.reduceLT, Int.reduceLE, ↓WD, W0, evalOp, Nat.reduceEqDiff, Nat.reduceLT, ↓reduceIte, reduceCtorEq, hl, e1, e2, e4, e5, e7, e35]
              exact ⟨rfl, (by simp only [List.length_set, hl]), (by simp only [W0, Nat.reduceEqDiff, Nat.reduceLT, ↓reduceIte, hl, e1, e2, e4, e5, e7, e35]), (by simp only [W0, Nat.reduceEqDiff, Nat.reduceLT, ↓reduceIte, hl, e1, e2, e4, e5, e7, e35]), (by simp only [W0, Nat.reduceEqDiff, Nat.reduceLT, ↓reduceIte, hl, e1, e2, e4, e5, e7, e35]), (by simp only [W0, Nat.reduceEqDiff, Nat.reduceLT, ↓reduceIte, hl, e1, e2, e4, e5, e7, e35]), (by simp only [W0, Nat.reduceEqDiff, Nat.reduceLT, ↓reduceIte, hl, e1, e2, e4, e5, e7, e35]), (by simp only [W0, Nat.reduceEqDiff, Nat.reduceLT, ↓reduceIte, hl, e1, e2, e4, e5, e7, e35])⟩) ?_
            rintro envg290 _ ⟨rfl, hl, e1, e2, e4, e5, e7, e35⟩
            try simp only [↓WD, W0, evalOp, Nat.reduceEqDiff, Nat.reduceLT, ↓reduceIte, reduceCtorEq, hl, e1, e2, e4, e5, e7, e35]
            obtain rfl := Option.some.inj wr291
            rw [KP_nil, QL_normal]
            exact ⟨_, rfl, (by simp only [List.length_set, hl]), (by simp only [W0, Nat.reduceEqDiff, Nat.reduceLT, ↓reduceIte, hl, e1, e2, e4, e5, e7, e35]), (by simp only [W0, Nat.reduceEqDiff, Nat.reduceLT, ↓reduceIte, hl, e1, e2, e4, e5, e7, e35]), (by simp only [W0, Nat.reduceEqDiff, Nat.reduceLT, ↓reduceIte, hl, e1, e2, e4, e5, e7, e35]), (by simp only [W0, Nat.reduceEqDiff, Nat.reduceLT, ↓reduceIte, hl, e1, e2, e4, e5, e7, e35]), (by simp only [W0, Nat.reduceEqDiff, Nat.reduceLT, ↓reduceIte, hl, e1, e2, e4, e5, e7, e35]), (by simp only [W0, Nat.reduceEqDiff, Nat.reduceLT, ↓reduceIte, hl, e1, e2, e4, e5, e7, e35]), S288⟩
          · rw [if_neg c272] at wr291
            try simp only [↓WD, W0, evalOp, Nat.reduceEqDiff, Nat.reduceLT, ↓reduceIte, reduceCtorEq, hl, e1, e2, e4, e5, e7, e35, e36]
            obtain rfl := Option.some.inj wr291
            rw [KP_nil, QL_exit]
            exact ⟨_, rfl, rfl, (by simp only [List.length_set, hl]), (by simp only [W0, Nat.reduceEqDiff, Nat.reduceLT, ↓reduceIte, hl, e1, e2, e4, e5, e7, e35, e36]), (by simp only [W0, Nat.reduceEqDiff, Nat.reduceLT, ↓reduceIte, hl, e1, e2, e4, e5, e7, e35, e36]), (by simp only [W0, Nat.reduceEqDiff, Nat.reduceLT, ↓reduceIte, hl, e1, e2, e4, e5, e7, e35, e36]), (by simp only [W0, Nat.reduceEqDiff, Nat.reduceLT, ↓reduceIte, hl, e1, e2, e4, e5, e7, e35, e36]), S269.pick [0, 1, 2] (by decide) rfl⟩
        · exact ⟨(by simp only [List.length_set, hl]), (by simp only [W0, Nat.reduceEqDiff, Nat.reduceLT, ↓reduceIte, hl, e1, e2, e4, e5, e7, e35]), (by simp only [W0, Nat.reduceEqDiff, Nat.reduceLT, ↓reduceIte, hl, e1, e2, e4, e5, e7, e35]), (by simp only [W0, Nat.reduceEqDiff, Nat.reduceLT, ↓reduceIte, hl, e1, e2, e4, e5, e7, e35]), (by simp only [W0, Nat.reduceEqDiff, Nat.reduceLT, ↓reduceIte, hl, e1, e2, e4, e5, e7, e35]), (by simp only [W0, Nat.reduceEqDiff, Nat.reduceLT, ↓reduceIte, hl, e1, e2, e4, e5, e7, e35]), (by simp only [W0, Nat.reduceEqDiff, Nat.reduceLT, ↓reduceIte, hl, e1, e2, e4, e5, e7, e35]), S243⟩
        · rintro x envr291 h292 ⟨rfl, hl, e1, e2, e4, e5, S293⟩
          try simp only [↓WD, W0, evalOp, Nat.reduceEqDiff, Nat.reduceLT, ↓reduceIte, reduceCtorEq, hl, e1, e2, e4, e5]
          rw [AW_region]
          obtain ⟨s294, qs294, wr296⟩ := obind wr296
          have os294 := fun g : AH => sub_strF (P := Try.prog) (h := g) (k := .i64) Try.underlying9 qs294
          refine AE_joinR (fun e h' => h292 = h' ∧ e.length = 48 ∧ e.getD 1 .undef = .str s294 ∧ e.getD 2 .undef = .ptr i1 0 ∧ e.getD 4 .undef = .ptr i7 0 ∧ e.getD 5 .undef = .ptr i18 0) (by
            simp only [↓WE, WA, WL, aop, ofValue, ofCell, isConst, abin, acall1, abuiltin, aun, AV.cells, AV.one, Nat.reduceAdd, Int.reduceLT, Int.reduceLE, ↓WD, W0, evalOp, Nat.reduceEqDiff, Nat.reduceLT, ↓reduceIte, reduceCtorEq, hl, e1, e2, e4, e5, os294]
            exact ⟨rfl, (by simp only [List.length_set, hl]), (by simp only [W0, Nat.reduceEqDiff, Nat.reduceLT, ↓reduceIte, hl, e1, e2, e4, e5]), (by simp only [W0, Nat.reduceEqDiff, Nat.reduceLT, ↓reduceIte, hl, e1, e2, e4, e5]), (by simp only [W0, Nat.reduceEqDiff, Nat.reduceLT, ↓reduceIte, hl, e1, e2, e4, e5]), (by simp only [W0, Nat.reduceEqDiff, Nat.reduceLT, ↓reduceIte, hl, e1, e2, e4, e5])⟩) ?_
          rintro envg295 _ ⟨rfl, hl, e1, e2, e4, e5⟩
          try simp only [↓WD, W0, evalOp, Nat.reduceEqDiff, Nat.reduceLT, ↓reduceIte, reduceCtorEq, hl, e1, e2, e4, e5]
          obtain rfl := Option.some.inj wr296
          rw [KP_nil, QL_normal]
          exact ⟨_, rfl, (by simp only [List.length_set, hl]), (by simp only [W0, Nat.reduceEqDiff, Nat.reduceLT, ↓reduceIte, hl, e1, e2, e4, e5]), (by simp only [W0, Nat.reduceEqDiff, Nat.reduceLT, ↓reduceIte, hl, e1, e2, e4, e5]), (by simp only [W0, Nat.reduceEqDiff, Nat.reduceLT, ↓reduceIte, hl, e1, e2, e4, e5]), (by simp only [W0, Nat.reduceEqDiff, Nat.reduceLT, ↓reduceIte, hl, e1, e2, e4, e5]), S293⟩
    · rw [if_neg c164] at wr296
      try simp only [↓WD, W0, evalOp, Nat.reduceEqDiff, Nat.reduceLT, ↓reduceIte, reduceCtorEq, hl, e1, e2, e4, e5, e13]
      obtain rfl := Option.some.inj wr296
      rw [KP_nil, QL_exit]
      exact ⟨_, rfl, rfl, (by simp only [List.length_set, hl]), (by simp only [W0, Nat.reduceEqDiff, Nat.reduceLT, ↓reduceIte, hl, e1, e2, e4, e5, e13]), (by simp only [W0, Nat.reduceEqDiff, Nat.reduceLT, ↓reduceIte, hl, e1, e2, e4, e5, e13]), S160.pick [0, 1] (by decide) rfl⟩
  · exact ⟨(by simp only [List.length_set, hl]), (by simp only [W0, Nat.reduceEqDiff, Nat.reduceLT, ↓reduceIte, hl, e1, e2, e4, e5]), (by simp only [W0, Nat.reduceEqDiff, Nat.reduceLT, ↓reduceIte, hl, e1, e2, e4, e5]), (by simp only [W0, Nat.reduceEqDiff, Nat.reduceLT, ↓reduceIte, hl, e1, e2, e4, e5]), (by simp only [W0, Nat.reduceEqDiff, Nat.reduceLT, ↓reduceIte, hl, e1, e2, e4, e5]), S21⟩
  · rintro x envr296 h297 ⟨rfl, hl, e2, e4, S298⟩
    try simp only [↓WD, W0, evalOp, Nat.reduceEqDiff, Nat.reduceLT, ↓reduceIte, reduceCtorEq, hl, e2, e4]
    rw [AW_region]
    obtain ⟨a300, qa300, hF⟩ := obind hF
    have ol299 := S298.load (P := Try.prog) 0 rfl (t := 88) (off := 0) (v := .agg [.int .u32 a300.x0, .int .u32 a300.x1, .int .u32 a300.x2, .int .u32 a300.x3, .int .u32 a300.x4, .int .u32 a300.x5, .int .u32 a300.x6, .int .u32 a300.x7]) (by rw [GA8_u32.of_eq qa300]; simp only [apart, ag_88, sz_88, List.map_cons, List.map_nil]; rfl)
    obtain ⟨_, q304, hF⟩ := obind hF
    obtain ⟨_, q305, hF⟩ := obind hF
    obtain ⟨h301, os302, S303⟩ := S298.storeAll (P := Try.prog) 1 rfl (t := 88) sz_88 q304 q305
    simp only [List.map_cons, List.map_nil] at os302
    have S306 : Sep h [] h301 [.blk i1 (r296.map (AV.int .u32)) 88, .blk i7 ([a300.x0, a300.x1, a300.x2, a300.x3, a300.x4, a300.x5, a300.x6, a300.x7].map (AV.int .u32)) 88] := S303
    refine AE_joinR (fun e h' => h301 = h' ∧ e.length = 48 ∧ e.getD 4 .undef = .ptr i7 0) (by
      simp only [↓WE, WA, WL, aop, ofValue, ofCell, isConst, abin, acall1, abuiltin, aun, AV.cells, AV.one, Nat.reduceAdd, Int.reduceLT, Int.reduceLE, ↓WD, W0, evalOp, Nat.reduceEqDiff, Nat.reduceLT, ↓reduceIte, reduceCtorEq, hl, e2, e4, ol299, os302]
      exact ⟨rfl, (by simp only [List.length_set, hl]), (by simp only [W0, Nat.reduceEqDiff, Nat.reduceLT, ↓reduceIte, hl, e2, e4])⟩) ?_
    rintro envg307 _ ⟨rfl, hl, e4⟩
    try simp only [↓WD, W0, evalOp, Nat.reduceEqDiff, Nat.reduceLT, ↓reduceIte, reduceCtorEq, hl, e4]
    have ol308 := S306.load (P := Try.prog) 1 rfl (t := 88) (off := 0) (v := .agg [.int .u32 a300.x0, .int .u32 a300.x1, .int .u32 a300.x2, .int .u32 a300.x3, .int .u32 a300.x4, .int .u32 a300.x5, .int .u32 a300.x6, .int .u32 a300.x7]) (by simp only [apart, ag_88, sz_88, List.map_cons, List.map_nil]; rfl)
    refine KP_ret (vs := [.agg [.int .u32 a300.x0, .int .u32 a300.x1, .int .u32 a300.x2, .int .u32 a300.x3, .int .u32 a300.x4, .int .u32 a300.x5, .int .u32 a300.x6, .int .u32 a300.x7]]) (by simp only [aresults, aresult, gs, List.length_set, Nat.reduceEqDiff, Nat.reduceLT, ↓reduceIte, hl, e4, ol308]) ?_
    obtain rfl := Option.some.inj hF
    exact rfl
set_option maxRecDepth 100000 in
set_option maxHeartbeats 4000000 in
theorem W_sha_high {K : PureK} (n65 : K 65 = none) (m : Nat) (hm : NF + 1 ≤ m) (h : AH) (n_ : Int) (size : Int) {r : (List UInt8)} (hF : F_sha_high n_ size = some r) :
    AR (acall Try.prog (hooksOf K) (drawnOf Try.prog (tabOf K)) m 65 [.int .u64 n_, .int .i64 size] h) (fun v h' => v = .str r) := by
  obtain ⟨m, rfl⟩ : ∃ k, m = k + 1 := ⟨m - 1, by omega⟩
  refine AR_call (hooksOf_none n65) Try.func65 rfl _ _ fun env hl he => ?_
  have e0 := he 0
  have e1 := he 1
  simp only [List.getD_cons_zero, List.getD_cons_succ] at e0 e1
  simp only [Try.f65] at hl ⊢
  simp only [List.length_cons, List.length_nil, Nat.reduceAdd, Nat.reduceSub] at hl
  clear he
  have S0 : Sep h [] h [] := Sep.nil h
  rw [F_sha_high] at hF
  try simp only [↓WD, W0, evalOp, Nat.reduceEqDiff, Nat.reduceLT, ↓reduceIte, reduceCtorEq, hl, e0, e1]
  rw [AW_region]
  refine AE_joinR (fun e h' => h = h' ∧ e.length = 28 ∧ e.getD 0 .undef = .int .u64 n_ ∧ e.getD 1 .undef = .int .i64 size) (by
    simp only [↓WE, WA, WL, aop, ofValue, ofCell, isConst, abin, acall1, abuiltin, aun, AV.cells, AV.one, Nat.reduceAdd, Int.reduceLT, Int.reduceLE, ↓WD, W0, evalOp, Nat.reduceEqDiff, Nat.reduceLT, ↓reduceIte, reduceCtorEq, hl, e0, e1]
    exact ⟨rfl, (by simp only [List.length_set, hl]), (by simp only [W0, Nat.reduceEqDiff, Nat.reduceLT, ↓reduceIte, hl, e0, e1]), (by simp only [W0, Nat.reduceEqDiff, Nat.reduceLT, ↓reduceIte, hl, e0, e1])⟩) ?_
  rintro envg1 _ ⟨rfl, hl, e0, e1⟩
  try simp only [↓WD, W0, evalOp, Nat.reduceEqDiff, Nat.reduceLT, ↓reduceIte, reduceCtorEq, hl, e0, e1]
  rw [AW_region]
  obtain ⟨zs2, qzs2, hF⟩ := obind hF
  obtain ⟨u3, h4, om5, S6⟩ := Sep.make (P := Try.prog) sl_28 (f := (cellI .u8)) (by rw [zero_5]; rfl) S0 qzs2 .i64 .i64
  have S8 : Sep h [] h4 [.row u3 5 1 (zs2.map (cellI .u8))] := S6
  refine AE_joinR (fun e h' => h4 = h' ∧ e.length = 28 ∧ e.getD 0 .undef = .int .u64 n_ ∧ e.getD 1 .undef = .int .i64 size ∧ e.getD 5 .undef = u3) (by
    simp only [↓WE, WA, WL, aop, ofValue, ofCell, isConst, abin, acall1, abuiltin, aun, AV.cells, AV.one, Nat.reduceAdd, Int.reduceLT, Int.reduceLE, ↓WD, W0, evalOp, Nat.reduceEqDiff, Nat.reduceLT, ↓reduceIte, reduceCtorEq, hl, e0, e1, om5]
    exact ⟨rfl, (by simp only [List.length_set, hl]), (by simp only [W0, Nat.reduceEqDiff, Nat.reduceLT, ↓reduceIte, hl, e0, e1]), (by simp only [W0, Nat.reduceEqDiff, Nat.reduceLT, ↓reduceIte, hl, e0, e1]), (by simp only [W0, Nat.reduceEqDiff, Nat.reduceLT, ↓reduceIte, hl, e0, e1])⟩) ?_
  rintro envg9 _ ⟨rfl, hl, e0, e1, e5⟩
  try simp only [↓WD, W0, evalOp, Nat.reduceEqDiff, Nat.reduceLT, ↓reduceIte, reduceCtorEq, hl, e0, e1, e5]
  rw [AW_region]
  have ol10 := RO.len (P := Try.prog) sl_28 (S8.row_ro (i := 0) rfl)
  rw [List.length_map] at ol10
  refine AE_joinR (fun e h' => h4 = h' ∧ e.length = 28 ∧ e.getD 0 .undef = .int .u64 n_ ∧ e.getD 1 .undef = .int .i64 size ∧ e.getD 5 .undef = u3 ∧ e.getD 10 .undef = .int .i64 (zs2.length : Int) ∧ e.getD 11 .undef = .int .i64 0) (by
    simp only [↓WE, WA, WL, aop, ofValue, ofCell, isConst, abin, acall1, abuiltin, aun, AV.cells, AV.one, Nat.reduceAdd, Int.reduceLT, Int.reduceLE, ↓WD, W0, evalOp, Nat.reduceEqDiff, Nat.reduceLT, ↓reduceIte, reduceCtorEq, hl, e0, e1, e5, ol10]
    exact ⟨rfl, (by simp only [List.length_set, hl]), (by simp only [W0, Nat.reduceEqDiff, Nat.reduceLT, ↓reduceIte, hl, e0, e1, e5]), (by simp only [W0, Nat.reduceEqDiff, Nat.reduceLT, ↓reduceIte, hl, e0, e1, e5]), (by simp only [W0, Nat.reduceEqDiff, Nat.reduceLT, ↓reduceIte, hl, e0, e1, e5]), (by simp only [W0, Nat.reduceEqDiff, Nat.reduceLT, ↓reduceIte, hl, e0, e1, e5]), (by simp only [W0, Nat.reduceEqDiff, Nat.reduceLT, ↓reduceIte, hl, e0, e1, e5])⟩) ?_
  rintro envg11 _ ⟨rfl, hl, e0, e1, e5, e10, e11⟩
  try simp only [↓WD, W0, evalOp, Nat.reduceEqDiff, Nat.reduceLT, ↓reduceIte, reduceCtorEq, hl, e0, e1, e5, e10, e11]
  obtain ⟨r52, qr52, hF⟩ := obind hF
  refine AW_lift (L_sha_high_1 zs2 n_ size) (fun s e h' => e.length = 28 ∧ e.getD 0 .undef = .int .u64 n_ ∧ e.getD 1 .undef = .int .i64 size ∧ e.getD 5 .undef = u3 ∧ e.getD 10 .undef = .int .i64 (zs2.length : Int) ∧ e.getD 11 .undef = .int .i64 s.2 ∧ Sep h [] h' [.row u3 5 1 (s.1.map (cellI .u8))]) (fun r52 x e h' => x = .exit 0 ∧ e.length = 28 ∧ e.getD 5 .undef = u3 ∧ Sep h [] h' [.row u3 5 1 (r52.map (cellI .u8))]) qr52 (by omega) ?_ ?_ ?_
  · rintro s envr52 h32 or52 ⟨hl, e0, e1, e5, e10, e11, S33⟩ wr52
    rw [L_sha_high_1] at wr52
    try simp only [↓WD, W0, evalOp, Nat.reduceEqDiff, Nat.reduceLT, ↓reduceIte, reduceCtorEq, hl, e0, e1, e5, e10, e11]
    rw [AW_region]
    refine AE_joinR (fun e h' => h32 = h' ∧ e.length = 28 ∧ e.getD 0 .undef = .int .u64 n_ ∧ e.getD 1 .undef = .int .i64 size ∧ e.getD 5 .undef = u3 ∧ e.getD 10 .undef = .int .i64 (zs2.length : Int) ∧ e.getD 11 .undef = .int .i64 s.2 ∧ e.getD 12 .undef = .bool (decide (s.2 < (zs2.length : Int)))) (by
      simp only [↓WE, WA, WL, aop, ofValue, ofCell, isConst, abin, acall1, abuiltin, aun, AV.cells, AV.one, Nat.reduceAdd, Int.reduceLT, Int.reduceLE, ↓WD, W0, evalOp, Nat.reduceEqDiff, Nat.reduceLT, ↓reduceIte, reduceCtorEq, hl, e0, e1, e5, e10, e11]
      exact ⟨rfl, (by simp only [List.length_set, hl]), (by simp only [W0, Nat.reduceEqDiff, Nat.reduceLT, ↓reduceIte, hl, e0, e1, e5, e10, e11]), (by simp only [W0, Nat.reduceEqDiff, Nat.reduceLT, ↓reduceIte, hl, e0, e1, e5, e10, e11]), (by simp only [W0, Nat.reduceEqDiff, Nat.reduceLT, ↓reduceIte, hl, e0, e1, e5, e10, e11]), (by simp only [W0, Nat.reduceEqDiff, Nat.reduceLT, ↓reduceIte, hl, e0, e1, e5, e10, e11]), (by simp only [W0, Nat.reduceEqDiff, Nat.reduceLT, ↓reduceIte, hl, e0, e1, e5, e10, e11]), (by simp only [W0, Nat.reduceEqDiff, Nat.reduceLT, ↓reduceIte, hl, e0, e1, e5, e10, e11])⟩) ?_
    rintro envg34 _ ⟨rfl, hl, e0, e1, e5, e10, e11, e12⟩
    try simp only [↓WD, W0, evalOp, Nat.reduceEqDiff, Nat.reduceLT, ↓reduceIte, reduceCtorEq, hl, e0, e1, e5, e10, e11, e12]
    refine CondK_dec (fun c36 => ?_) (fun c36 => ?_)
    · rw [if_pos c36] at wr52
      try simp only [↓WD, W0, evalOp, Nat.reduceEqDiff, Nat.reduceLT, ↓reduceIte, reduceCtorEq, hl, e0, e1, e5, e10, e11, e12]
      rw [AW_region]
      refine AE_joinR (fun e h' => h32 = h' ∧ e.length = 28 ∧ e.getD 0 .undef = .int .u64 n_ ∧ e.getD 1 .undef = .int .i64 size ∧ e.getD 5 .undef = u3 ∧ e.getD 6 .undef = .int .i64 s.2 ∧ e.getD 10 .undef = .int .i64 (zs2.length : Int) ∧ e.getD 11 .undef = .int .i64 s.2) (by
        simp only [↓WE, WA, WL, aop, ofValue, ofCell, isConst, abin, acall1, abuiltin, aun, AV.cells, AV.one, Nat.reduceAdd, Int.reduceLT, Int.reduceLE, ↓WD, W0, evalOp, Nat.reduceEqDiff, Nat.reduceLT, ↓reduceIte, reduceCtorEq, hl, e0, e1, e5, e10, e11, e12]
        exact ⟨rfl, (by simp only [List.length_set, hl]), (by simp only [W0, Nat.reduceEqDiff, Nat.reduceLT, ↓reduceIte, hl, e0, e1, e5, e10, e11, e12]), (by simp only [W0, Nat.reduceEqDiff, Nat.reduceLT, ↓reduceIte, hl, e0, e1, e5, e10, e11, e12]), (by simp only [W0, Nat.reduceEqDiff, Nat.reduceLT, ↓reduceIte, hl, e0, e1, e5, e10, e11, e12]), (by simp only [W0, Nat.reduceEqDiff, Nat.reduceLT, ↓reduceIte, hl, e0, e1, e5, e10, e11, e12]), (by simp only [W0, Nat.reduceEqDiff, Nat.reduceLT, ↓reduceIte, hl, e0, e1, e5, e10, e11, e12]), (by simp only [W0, Nat.reduceEqDiff, Nat.reduceLT, ↓reduceIte, hl, e0, e1, e5, e10, e11, e12])⟩) ?_
      rintro envg37 _ ⟨rfl, hl, e0, e1, e5, e6, e10, e11⟩
      try simp only [↓WD, W0, evalOp, Nat.reduceEqDiff, Nat.reduceLT, ↓reduceIte, reduceCtorEq, hl, e0, e1, e5, e6, e10, e11]
      rw [AW_region]
      obtain ⟨y38, qy38, wr52⟩ := obind wr52
      have oy38 := shr_int (k := .u64) qy38
      have oc39 := fun g : AH => aconv_int (P := Try.prog) (h := g) (n := y38) (k' := .u64) Try.underlying24 Try.underlying5
      obtain ⟨x40, qx40, wr52⟩ := obind wr52
      obtain ⟨i41, off42, oi43, hp44⟩ := RO.addr (P := Try.prog) sl_28 (S33.row_ro (i := 0) rfl) qx40
      obtain ⟨y48, qy48, wr52⟩ := obind wr52
      obtain ⟨h45, os46, S47⟩ := S33.rstore (P := Try.prog) 0 rfl hp44 (x := x40) (z := IntKind.u8.wrap y38) (by first | exact qx40 | (simp only [idxL] at *; assumption)) (t := 5) (o := 0) (v := .int .u8 (IntKind.u8.wrap y38)) rfl sz_5 rfl (by simp) rfl qy48
      simp only [Nat.add_zero] at os46
      have S49 : Sep h [] h45 [.row u3 5 1 (y48.map (cellI .u8))] := S47
      refine AE_joinR (fun e h' => h45 = h' ∧ e.length = 28 ∧ e.getD 0 .undef = .int .u64 n_ ∧ e.getD 1 .undef = .int .i64 size ∧ e.getD 5 .undef = u3 ∧ e.getD 10 .undef = .int .i64 (zs2.length : Int) ∧ e.getD 11 .undef = .int .i64 s.2) (by
        simp only [↓WE, WA, WL, aop, ofValue, ofCell, isConst, abin, acall1, abuiltin, aun, AV.cells, AV.one, Nat.reduceAdd, Int.reduceLT, Int.reduceLE, ↓WD, W0, evalOp, Nat.reduceEqDiff, Nat.reduceLT, ↓reduceIte, reduceCtorEq, hl, e0, e1, e5, e6, e10, e11, oy38, oc39, oi43, os46]
        exact ⟨rfl, (by simp only [List.length_set, hl]), (by simp only [W0, Nat.reduceEqDiff, Nat.reduceLT, ↓reduceIte, hl, e0, e1, e5, e6, e10, e11]), (by simp only [W0, Nat.reduceEqDiff, Nat.reduceLT, ↓reduceIte, hl, e0, e1, e5, e6, e10, e11]), (by simp only [W0, Nat.reduceEqDiff, Nat.reduceLT, ↓reduceIte, hl, e0, e1, e5, e6, e10, e11]), (by simp only [W0, Nat.reduceEqDiff, Nat.reduceLT, ↓reduceIte, hl, e0, e1, e5, e6, e10, e11]), (by simp only [W0, Nat.reduceEqDiff, Nat.reduceLT, ↓reduceIte, hl, e0, e1, e5, e6, e10, e11])⟩) ?_
      rintro envg50 _ ⟨rfl, hl, e0, e1, e5, e10, e11⟩
      try simp only [↓WD, W0, evalOp, Nat.reduceEqDiff, Nat.reduceLT, ↓reduceIte, reduceCtorEq, hl, e0, e1, e5, e10, e11]
      rw [AW_region]
      refine AE_joinR (fun e h' => h45 = h' ∧ e.length = 28 ∧ e.getD 0 .undef = .int .u64 n_ ∧ e.getD 1 .undef = .int .i64 size ∧ e.getD 5 .undef = u3 ∧ e.getD 10 .undef = .int .i64 (zs2.length : Int) ∧ e.getD 11 .undef = .int .i64 (IntKind.i64.wrap (s.2 + 1))) (by
        simp only [↓WE, WA, WL, aop, ofValue, ofCell, isConst, abin, acall1, abuiltin, aun, AV.cells, AV.one, Nat.reduceAdd, Int.reduceLT, Int.reduceLE, ↓WD, W0, evalOp, Nat.reduceEqDiff, Nat.reduceLT, ↓reduceIte, reduceCtorEq, hl, e0, e1, e5, e10, e11]
        exact ⟨rfl, (by simp only [List.length_set, hl]), (by simp only [W0, Nat.reduceEqDiff, Nat.reduceLT, ↓reduceIte, hl, e0, e1, e5, e10, e11]), (by simp only [W0, Nat.reduceEqDiff, Nat.reduceLT, ↓reduceIte, hl, e0, e1, e5, e10, e11]), (by simp only [W0, Nat.reduceEqDiff, Nat.reduceLT, ↓reduceIte, hl, e0, e1, e5, e10, e11]), (by simp only [W0, Nat.reduceEqDiff, Nat.reduceLT, ↓reduceIte, hl, e0, e1, e5, e10, e11]), (by simp only [W0, Nat.reduceEqDiff, Nat.reduceLT, ↓reduceIte, hl, e0, e1, e5, e10, e11])⟩) ?_
      rintro envg51 _ ⟨rfl, hl, e0, e1, e5, e10, e11⟩
      try simp only [↓WD, W0, evalOp, Nat.reduceEqDiff, Nat.reduceLT, ↓reduceIte, reduceCtorEq, hl, e0, e1, e5, e10, e11]
      obtain rfl := Option.some.inj wr52
      rw [KP_nil, QL_normal]
      exact ⟨_, rfl, (by simp only [List.length_set, hl]), (by simp only [W0, Nat.reduceEqDiff, Nat.reduceLT, ↓reduceIte, hl, e0, e1, e5, e10, e11]), (by simp only [W0, Nat.reduceEqDiff, Nat.reduceLT, ↓reduceIte, hl, e0, e1, e5, e10, e11]), (by simp only [W0, Nat.reduceEqDiff, Nat.reduceLT, ↓reduceIte, hl, e0, e1, e5, e10, e11]), (by simp only [W0, Nat.reduceEqDiff, Nat.reduceLT, ↓reduceIte, hl, e0, e1, e5, e10, e11]), (by simp only [W0, Nat.reduceEqDiff, Nat.reduceLT, ↓reduceIte, hl, e0, e1, e5, e10, e11]), S49⟩
    · rw [if_neg c36] at wr52
      try simp only [↓WD, W0, evalOp, Nat.reduceEqDiff, Nat.reduceLT, ↓reduceIte, reduceCtorEq, hl, e0, e1, e5, e10, e11, e12]
      obtain rfl := Option.some.inj wr52
      rw [KP_nil, QL_exit]
      exact ⟨_, rfl, rfl, (by simp only [List.length_set, hl]), (by simp only [W0, Nat.reduceEqDiff, Nat.reduceLT, ↓reduceIte, hl, e0, e1, e5, e10, e11, e12]), S33⟩
  · exact ⟨(by simp only [List.length_set, hl]), (by simp only [W0, Nat.reduceEqDiff, Nat.reduceLT, ↓reduceIte, hl, e0, e1, e5, e10, e11]), (by simp only [W0, Nat.reduceEqDiff, Nat.reduceLT, ↓reduceIte, hl, e0, e1, e5, e10, e11]), (by simp only [W0, Nat.reduceEqDiff, Nat.reduceLT, ↓reduceIte, hl, e0, e1, e5, e10, e11]), (by simp only [W0, Nat.reduceEqDiff, Nat.reduceLT, ↓reduceIte, hl, e0, e1, e5, e10, e11]), (by simp only [W0, Nat.reduceEqDiff, Nat.reduceLT, ↓reduceIte, hl, e0, e1, e5, e10, e11]), S8⟩
  · rintro x envr52 h53 ⟨rfl, hl, e5, S54⟩
    try simp only [↓WD, W0, evalOp, Nat.reduceEqDiff, Nat.reduceLT, ↓reduceIte, reduceCtorEq, hl, e5]
    rw [AW_region]
    have oc55 := RO.str (P := Try.prog) Try.underlying28 Try.underlying5 Try.underlying9 (S54.row_ro (i := 0) rfl)
    refine AE_joinR (fun e h' => h53 = h' ∧ e.length = 28 ∧ e.getD 4 .undef = .str (r52.map byt)) (by
      simp only [↓WE, WA, WL, aop, ofValue, ofCell, isConst, abin, acall1, abuiltin, aun, AV.cells, AV.one, Nat.reduceAdd, Int.reduceLT, Int.reduceLE, ↓WD, W0, evalOp, Nat.reduceEqDiff, Nat.reduceLT, ↓reduceIte, reduceCtorEq, hl, e5, oc55]
      exact ⟨rfl, (by simp only [List.length_set, hl]), (by simp only [W0, Nat.reduceEqDiff, Nat.reduceLT, ↓reduceIte, hl, e5])⟩) ?_
    rintro envg56 _ ⟨rfl, hl, e4⟩
    try simp only [↓WD, W0, evalOp, Nat.reduceEqDiff, Nat.reduceLT, ↓reduceIte, reduceCtorEq, hl, e4]
    refine KP_ret (vs := [.str (r52.map byt)]) (by simp only [aresults, aresult, gs, List.length_set, Nat.reduceEqDiff, Nat.reduceLT, ↓reduceIte, hl, e4]) ?_
    obtain rfl := Option.some.inj hF
    exact rfl
set_option maxRecDepth 100000 in
set_option maxHeartbeats 4000000 in
theorem W_sha_Of {K : PureK} (k62 : K 62 = some kf_62) (k63 : K 63 = some kf_63) (k64 : K 64 = some kf_64) (k65 : K 65 = some kf_65) (k128 : K 128 = some hb77) (n66 : K 66 = none) (n67 : K 67 = none) (n106 : K 106 = none) (n16 : K 16 = none) (m : Nat) (hm : NF + 4 ≤ m) (h : AH) (s_ : List UInt8) {r : (List UInt8)} (hF : F_sha_Of s_ = some r) :
    AR (acall Try.prog (hooksOf K) (drawnOf Try.prog (tabOf K)) m 16 [.str s_] h) (fun v h' => v = .str r) := by
  obtain ⟨m, rfl⟩ : ∃ k, m = k + 1 := ⟨m - 1, by omega⟩
  refine AR_call (hooksOf_none n16) Try.func16 rfl _ _ fun env hl he => ?_
  have e0 := he 0
  simp only [List.getD_cons_zero, List.getD_cons_succ] at e0
  simp only [Try.f16] at hl ⊢
  simp only [List.length_cons, List.length_nil, Nat.reduceAdd, Nat.reduceSub] at hl
  clear he
  have S0 : Sep h [] h [] := Sep.nil h
  rw [F_sha_Of] at hF
  try simp only [↓WD, W0, evalOp, Nat.reduceEqDiff, Nat.reduceLT, ↓reduceIte, reduceCtorEq, hl, e0]
  rw [AW_region]
  refine AE_joinR (fun e h' => h = h' ∧ e.length = 47 ∧ e.getD 0 .undef = .str s_) (by
    simp only [↓WE, WA, WL, aop, ofValue, ofCell, isConst, abin, acall1, abuiltin, aun, AV.cells, AV.one, Nat.reduceAdd, Int.reduceLT, Int.reduceLE, ↓WD, W0, evalOp, Nat.reduceEqDiff, Nat.reduceLT, ↓reduceIte, reduceCtorEq, hl, e0]
    exact ⟨rfl, (by simp only [List.length_set, hl]), (by simp only [W0, Nat.reduceEqDiff, Nat.reduceLT, ↓reduceIte, hl, e0])⟩) ?_
  rintro envg1 _ ⟨rfl, hl, e0⟩
  try simp only [↓WD, W0, evalOp, Nat.reduceEqDiff, Nat.reduceLT, ↓reduceIte, reduceCtorEq, hl, e0]
  rw [AW_region]
  have ol2 := fun g : AH => alen_str (P := Try.prog) (h := g) (l := s_) Try.underlying9
  obtain ⟨y3, qy3, hF⟩ := obind hF
  have oy3 := quo_int (k := .i64) qy3
  refine AE_joinR (fun e h' => h = h' ∧ e.length = 47 ∧ e.getD 0 .undef = .str s_ ∧ e.getD 3 .undef = .int .i64 (IntKind.i64.wrap (y3 * 64))) (by
    simp only [↓WE, WA, WL, aop, ofValue, ofCell, isConst, abin, acall1, abuiltin, aun, AV.cells, AV.one, Nat.reduceAdd, Int.reduceLT, Int.reduceLE, ↓WD, W0, evalOp, Nat.reduceEqDiff, Nat.reduceLT, ↓reduceIte, reduceCtorEq, hl, e0, ol2, oy3]
    exact ⟨rfl, (by simp only [List.length_set, hl]), (by simp only [W0, Nat.reduceEqDiff, Nat.reduceLT, ↓reduceIte, hl, e0]), (by simp only [W0, Nat.reduceEqDiff, Nat.reduceLT, ↓reduceIte, hl, e0])⟩) ?_
  rintro envg4 _ ⟨rfl, hl, e0, e3⟩
  try simp only [↓WD, W0, evalOp, Nat.reduceEqDiff, Nat.reduceLT, ↓reduceIte, reduceCtorEq, hl, e0, e3]
  rw [AW_drawn, AE_drawnK (Ksub.cons k62 (Ksub.cons k63 (Ksub.cons k64 (Ksub.cons k65 (Ksub.cons k128 Ksub.nil))))) (by kernel_rfl)]
  obtain ⟨y5, qy5, hF⟩ := obind hF
  have og6 := fun (cf : CallF) (g : AH) => tab_hook (cf := cf) k62 (args := []) (v := .agg [.int .u32 y5.x0, .int .u32 y5.x1, .int .u32 y5.x2, .int .u32 y5.x3, .int .u32 y5.x4, .int .u32 y5.x5, .int .u32 y5.x6, .int .u32 y5.x7]) ((kf_62_eq ).trans (by rw [qy5]; rfl)) g
  obtain ⟨s7, qs7, hF⟩ := obind hF
  have os7 := fun g : AH => sub_strT (P := Try.prog) (h := g) (k := .i64) Try.underlying9 qs7
  obtain ⟨y8, qy8, hF⟩ := obind hF
  have og9 := fun (cf : CallF) (g : AH) => tab_hook (cf := cf) k63 (args := [.agg [.int .u32 y5.x0, .int .u32 y5.x1, .int .u32 y5.x2, .int .u32 y5.x3, .int .u32 y5.x4, .int .u32 y5.x5, .int .u32 y5.x6, .int .u32 y5.x7], .str s7]) (v := .agg [.int .u32 y8.x0, .int .u32 y8.x1, .int .u32 y8.x2, .int .u32 y8.x3, .int .u32 y8.x4, .int .u32 y8.x5, .int .u32 y8.x6, .int .u32 y8.x7]) ((kf_63_eq y5 s7).trans (by rw [qy8]; rfl)) g
  obtain ⟨i10, h11, oa12, S13⟩ := S0.alloc 88 [.int .u32 0, .int .u32 0, .int .u32 0, .int .u32 0, .int .u32 0, .int .u32 0, .int .u32 0, .int .u32 0]
  have S15 : Sep h [] h11 [.blk i10 ([0, 0, 0, 0, 0, 0, 0, 0].map (AV.int .u32)) 88] := S13
  obtain ⟨_, q19, hF⟩ := obind hF
  obtain ⟨_, q20, hF⟩ := obind hF
  obtain ⟨h16, os17, S18⟩ := S15.storeAll (P := Try.prog) 0 rfl (t := 88) sz_88 q19 q20
  simp only [List.map_cons, List.map_nil] at os17
  have S21 : Sep h [] h16 [.blk i10 ([y8.x0, y8.x1, y8.x2, y8.x3, y8.x4, y8.x5, y8.x6, y8.x7].map (AV.int .u32)) 88] := S18
  refine AE_joinR (fun e h' => h16 = h' ∧ e.length = 47 ∧ e.getD 0 .undef = .str s_ ∧ e.getD 3 .undef = .int .i64 (IntKind.i64.wrap (y3 * 64)) ∧ e.getD 4 .undef = .ptr i10 0) (by
    simp only [↓WE, WA, WL, aop, ofValue, ofCell, isConst, abin, acall1, abuiltin, aun, AV.cells, AV.one, Nat.reduceAdd, Int.reduceLT, Int.reduceLE, ↓WD, W0, evalOp, Nat.reduceEqDiff, Nat.reduceLT, ↓reduceIte, reduceCtorEq, hl, e0, e3, og6, os7, og9, zero_88, oa12, os17]
    exact ⟨rfl, (by simp only [List.length_set, hl]), (by simp only [W0, Nat.reduceEqDiff, Nat.reduceLT, ↓reduceIte, hl, e0, e3]), (by simp only [W0, Nat.reduceEqDiff, Nat.reduceLT, ↓reduceIte, hl, e0, e3]), (by simp only [W0, Nat.reduceEqDiff, Nat.reduceLT, ↓reduceIte, hl, e0, e3])⟩) ?_
  rintro envg22 _ ⟨rfl, hl, e0, e3, e4⟩
  try simp only [↓WD, W0, evalOp, Nat.reduceEqDiff, Nat.reduceLT, ↓reduceIte, reduceCtorEq, hl, e0, e3, e4]
  rw [AW_region]
  obtain ⟨s23, qs23, hF⟩ := obind hF
  have os23 := fun g : AH => sub_strF (P := Try.prog) (h := g) (k := .i64) Try.underlying9 qs23
  obtain ⟨s24, qs24, hF⟩ := obind hF
  have os24 := cat_str qs24
  refine AE_joinR (fun e h' => h16 = h' ∧ e.length = 47 ∧ e.getD 0 .undef = .str s_ ∧ e.getD 4 .undef = .ptr i10 0 ∧ e.getD 5 .undef = .str s24) (by
    simp only [↓WE, WA, WL, aop, ofValue, ofCell, isConst, abin, acall1, abuiltin, aun, AV.cells, AV.one, Nat.reduceAdd, Int.reduceLT, Int.reduceLE, ↓WD, W0, evalOp, Nat.reduceEqDiff, Nat.reduceLT, ↓reduceIte, reduceCtorEq, hl, e0, e3, e4, os23, os24]
    exact ⟨rfl, (by simp only [List.length_set, hl]), (by simp only [W0, Nat.reduceEqDiff, Nat.reduceLT, ↓reduceIte, hl, e0, e3, e4]), (by simp only [W0, Nat.reduceEqDiff, Nat.reduceLT, ↓reduceIte, hl, e0, e3, e4]), (by simp only [W0, Nat.reduceEqDiff, Nat.reduceLT, ↓reduceIte, hl, e0, e3, e4])⟩) ?_
  rintro envg25 _ ⟨rfl, hl, e0, e4, e5⟩
  try simp only [↓WD, W0, evalOp, Nat.reduceEqDiff, Nat.reduceLT, ↓reduceIte, reduceCtorEq, hl, e0, e4, e5]
  rw [AW_region]
  have ol26 := fun g : AH => alen_str (P := Try.prog) (h := g) (l := s24) Try.underlying9
  obtain ⟨y27, qy27, hF⟩ := obind hF
  have oy27 := rem_int (k := .i64) qy27
  obtain ⟨y28, qy28, hF⟩ := obind hF
  have og29 := fun (D : Drawn) (n : Nat) (g : AH) => call_hook (P := Try.prog) (D := D) k64 n (args := [.str [0], .int .i64 y27]) (v := .str y28) ((kf_64_eq [0] y27).trans (by rw [qy28]; rfl)) g
  have ol30 := fun g : AH => alen_str (P := Try.prog) (h := g) (l := s_) Try.underlying9
  have oc31 := fun g : AH => aconv_int (P := Try.prog) (h := g) (n := (s_.length : Int)) (k' := .i64) Try.underlying3 Try.underlying24
  obtain ⟨y32, qy32, hF⟩ := obind hF
  have og33 := fun (D : Drawn) (n : Nat) (g : AH) => call_hook (P := Try.prog) (D := D) k65 n (args := [.int .u64 (IntKind.u64.wrap (8 * (IntKind.u64.wrap (s_.length : Int)))), .int .i64 8]) (v := .str y32) ((kf_65_eq (IntKind.u64.wrap (8 * (IntKind.u64.wrap (s_.length : Int)))) 8).trans (by rw [qy32]; rfl)) g
  obtain ⟨s34, qs34, hF⟩ := obind hF
  have os34 := cat_str qs34
  obtain ⟨s35, qs35, hF⟩ := obind hF
  have os35 := cat_str qs35
  refine AE_joinR (fun e h' => h16 = h' ∧ e.length = 47 ∧ e.getD 4 .undef = .ptr i10 0 ∧ e.getD 5 .undef = .str s35) (by
    simp only [↓WE, WA, WL, aop, ofValue, ofCell, isConst, abin, acall1, abuiltin, aun, AV.cells, AV.one, Nat.reduceAdd, Int.reduceLT, Int.reduceLE, ↓WD, W0, evalOp, Nat.reduceEqDiff, Nat.reduceLT, ↓reduceIte, reduceCtorEq, hl, e0, e4, e5, ol26, oy27, og29, ol30, oc31, og33, os34, os35]
    exact ⟨rfl, (by simp only [List.length_set, hl]), (by simp only [W0, Nat.reduceEqDiff, Nat.reduceLT, ↓reduceIte, hl, e0, e4, e5]), (by simp only [W0, Nat.reduceEqDiff, Nat.reduceLT, ↓reduceIte, hl, e0, e4, e5])⟩) ?_
  rintro envg36 _ ⟨rfl, hl, e4, e5⟩
  try simp only [↓WD, W0, evalOp, Nat.reduceEqDiff, Nat.reduceLT, ↓reduceIte, reduceCtorEq, hl, e4, e5]
  rw [AW_region]
  obtain ⟨i37, h38, oa39, S40⟩ := S21.allocB
  have S42 : Sep h [] h38 [.blk i10 ([y8.x0, y8.x1, y8.x2, y8.x3, y8.x4, y8.x5, y8.x6, y8.x7].map (AV.int .u32)) 88, .bld i37 (.val (.pointer none)) (.val (.slice none 0 0)) 95 5 ([] : List UInt8)] := S40
  refine AE_joinR (fun e h' => h38 = h' ∧ e.length = 47 ∧ e.getD 4 .undef = .ptr i10 0 ∧ e.getD 5 .undef = .str s35 ∧ e.getD 6 .undef = .ptr i37 0) (by
    simp only [↓WE, WA, WL, aop, ofValue, ofCell, isConst, abin, acall1, abuiltin, aun, AV.cells, AV.one, Nat.reduceAdd, Int.reduceLT, Int.reduceLE, ↓WD, W0, evalOp, Nat.reduceEqDiff, Nat.reduceLT, ↓reduceIte, reduceCtorEq, hl, e4, e5, zero_95, oa39]
    exact ⟨rfl, (by simp only [List.length_set, hl]), (by simp only [W0, Nat.reduceEqDiff, Nat.reduceLT, ↓reduceIte, hl, e4, e5]), (by simp only [W0, Nat.reduceEqDiff, Nat.reduceLT, ↓reduceIte, hl, e4, e5]), (by simp only [W0, Nat.reduceEqDiff, Nat.reduceLT, ↓reduceIte, hl, e4, e5])⟩) ?_
  rintro envg43 _ ⟨rfl, hl, e4, e5, e6⟩
  try simp only [↓WD, W0, evalOp, Nat.reduceEqDiff, Nat.reduceLT, ↓reduceIte, reduceCtorEq, hl, e4, e5, e6]
  rw [AW_region]
  have ol44 := S42.load (P := Try.prog) 0 rfl (t := 88) (off := 0) (v := .agg [.int .u32 y8.x0, .int .u32 y8.x1, .int .u32 y8.x2, .int .u32 y8.x3, .int .u32 y8.x4, .int .u32 y8.x5, .int .u32 y8.x6, .int .u32 y8.x7]) (by simp only [apart, ag_88, sz_88, List.map_cons, List.map_nil]; rfl)
  obtain ⟨y45, qy45, hF⟩ := obind hF
  have og46 := fun (D : Drawn) (n : Nat) (g : AH) => call_hook (P := Try.prog) (D := D) k63 n (args := [.agg [.int .u32 y8.x0, .int .u32 y8.x1, .int .u32 y8.x2, .int .u32 y8.x3, .int .u32 y8.x4, .int .u32 y8.x5, .int .u32 y8.x6, .int .u32 y8.x7], .str s35]) (v := .agg [.int .u32 y45.x0, .int .u32 y45.x1, .int .u32 y45.x2, .int .u32 y45.x3, .int .u32 y45.x4, .int .u32 y45.x5, .int .u32 y45.x6, .int .u32 y45.x7]) ((kf_63_eq y8 s35).trans (by rw [qy45]; rfl)) g
  refine AE_joinR (fun e h' => h38 = h' ∧ e.length = 47 ∧ e.getD 6 .undef = .ptr i37 0 ∧ e.getD 37 .undef = .agg [.int .u32 y45.x0, .int .u32 y45.x1, .int .u32 y45.x2, .int .u32 y45.x3, .int .u32 y45.x4, .int .u32 y45.x5, .int .u32 y45.x6, .int .u32 y45.x7] ∧ e.getD 38 .undef = .int .i64 0) (by
    simp only [↓WE, WA, WL, aop, ofValue, ofCell, isConst, abin, acall1, abuiltin, aun, AV.cells, AV.one, Nat.reduceAdd, Int.reduceLT, Int.reduceLE, ↓WD, W0, evalOp, Nat.reduceEqDiff, Nat.reduceLT, ↓reduceIte, reduceCtorEq, hl, e4, e5, e6, ol44, og46]
    exact ⟨rfl, (by simp only [List.length_set, hl]), (by simp only [W0, Nat.reduceEqDiff, Nat.reduceLT, ↓reduceIte, hl, e4, e5, e6]), (by simp only [W0, Nat.reduceEqDiff, Nat.reduceLT, ↓reduceIte, hl, e4, e5, e6]), (by simp only [W0, Nat.reduceEqDiff, Nat.reduceLT, ↓reduceIte, hl, e4, e5, e6])⟩) ?_
  rintro envg47 _ ⟨rfl, hl, e6, e37, e38⟩
  try simp only [↓WD, W0, evalOp, Nat.reduceEqDiff, Nat.reduceLT, ↓reduceIte, reduceCtorEq, hl, e6, e37, e38]
  obtain ⟨r92, qr92, hF⟩ := obind hF
  refine AW_lift (L_sha_Of_1 y45) (fun s e h' => ∃ (p68 : AV), ∃ (u69 : AV), e.length = 47 ∧ e.getD 6 .undef = .ptr i37 0 ∧ e.getD 37 .undef = .agg [.int .u32 y45.x0, .int .u32 y45.x1, .int .u32 y45.x2, .int .u32 y45.x3, .int .u32 y45.x4, .int .u32 y45.x5, .int .u32 y45.x6, .int .u32 y45.x7] ∧ e.getD 38 .undef = .int .i64 s.2 ∧ Sep h [] h' [.bld i37 p68 u69 95 5 s.1]) (fun r92 x e h' => ∃ (p93 : AV), ∃ (u94 : AV), x = .exit 0 ∧ e.length = 47 ∧ e.getD 6 .undef = .ptr i37 0 ∧ Sep h [] h' [.bld i37 p93 u94 95 5 r92]) qr92 (by omega) ?_ ?_ ?_
  · rintro s envr92 h70 or92 ⟨p68, u69, hl, e6, e37, e38, S71⟩ wr92
    rw [L_sha_Of_1] at wr92
    try simp only [↓WD, W0, evalOp, Nat.reduceEqDiff, Nat.reduceLT, ↓reduceIte, reduceCtorEq, hl, e6, e37, e38]
    rw [AW_region]
    refine AE_joinR (fun e h' => h70 = h' ∧ e.length = 47 ∧ e.getD 6 .undef = .ptr i37 0 ∧ e.getD 37 .undef = .agg [.int .u32 y45.x0, .int .u32 y45.x1, .int .u32 y45.x2, .int .u32 y45.x3, .int .u32 y45.x4, .int .u32 y45.x5, .int .u32 y45.x6, .int .u32 y45.x7] ∧ e.getD 38 .undef = .int .i64 s.2 ∧ e.getD 39 .undef = .bool (decide (s.2 < 8))) (by
      simp only [↓WE, WA, WL, aop, ofValue, ofCell, isConst, abin, acall1, abuiltin, aun, AV.cells, AV.one, Nat.reduceAdd, Int.reduceLT, Int.reduceLE, ↓WD, W0, evalOp, Nat.reduceEqDiff, Nat.reduceLT, ↓reduceIte, reduceCtorEq, hl, e6, e37, e38]
      exact ⟨rfl, (by simp only [List.length_set, hl]), (by simp only [W0, Nat.reduceEqDiff, Nat.reduceLT, ↓reduceIte, hl, e6, e37, e38]), (by simp only [W0, Nat.reduceEqDiff, Nat.reduceLT, ↓reduceIte, hl, e6, e37, e38]), (by simp only [W0, Nat.reduceEqDiff, Nat.reduceLT, ↓reduceIte, hl, e6, e37, e38]), (by simp only [W0, Nat.reduceEqDiff, Nat.reduceLT, ↓reduceIte, hl, e6, e37, e38])⟩) ?_
    rintro envg72 _ ⟨rfl, hl, e6, e37, e38, e39⟩
    try simp only [↓WD, W0, evalOp, Nat.reduceEqDiff, Nat.reduceLT, ↓reduceIte, reduceCtorEq, hl, e6, e37, e38, e39]
    refine CondK_dec (fun c74 => ?_) (fun c74 => ?_)
    · rw [if_pos c74] at wr92
      try simp only [↓WD, W0, evalOp, Nat.reduceEqDiff, Nat.reduceLT, ↓reduceIte, reduceCtorEq, hl, e6, e37, e38, e39]
      rw [AW_region]
      obtain ⟨y75, qy75, wr92⟩ := obind wr92
      have oi76 : aindex Try.prog 88 (.agg [.int .u32 y45.x0, .int .u32 y45.x1, .int .u32 y45.x2, .int .u32 y45.x3, .int .u32 y45.x4, .int .u32 y45.x5, .int .u32 y45.x6, .int .u32 y45.x7]) (.int .i64 s.2) = some (.int .u32 y75) := aindex_al (k := .u32) (l := [y45.x0, y45.x1, y45.x2, y45.x3, y45.x4, y45.x5, y45.x6, y45.x7]) Try.underlying88 sz_85 ag_85 qy75
      refine AE_joinR (fun e h' => h70 = h' ∧ e.length = 47 ∧ e.getD 6 .undef = .ptr i37 0 ∧ e.getD 8 .undef = .int .u32 y75 ∧ e.getD 37 .undef = .agg [.int .u32 y45.x0, .int .u32 y45.x1, .int .u32 y45.x2, .int .u32 y45.x3, .int .u32 y45.x4, .int .u32 y45.x5, .int .u32 y45.x6, .int .u32 y45.x7] ∧ e.getD 38 .undef = .int .i64 s.2) (by
        simp only [↓WE, WA, WL, aop, ofValue, ofCell, isConst, abin, acall1, abuiltin, aun, AV.cells, AV.one, Nat.reduceAdd, Int.reduceLT, Int.reduceLE, ↓WD, W0, evalOp, Nat.reduceEqDiff, Nat.reduceLT, ↓reduceIte, reduceCtorEq, hl, e6, e37, e38, e39, oi76]
        exact ⟨rfl, (by simp only [List.length_set, hl]), (by simp only [W0, Nat.reduceEqDiff, Nat.reduceLT, ↓reduceIte, hl, e6, e37, e38, e39]), (by simp only [W0, Nat.reduceEqDiff, Nat.reduceLT, ↓reduceIte, hl, e6, e37, e38, e39]), (by simp only [W0, Nat.reduceEqDiff, Nat.reduceLT, ↓reduceIte, hl, e6, e37, e38, e39]), (by simp only [W0, Nat.reduceEqDiff, Nat.reduceLT, ↓reduceIte, hl, e6, e37, e38, e39])⟩) ?_
      rintro envg77 _ ⟨rfl, hl, e6, e8, e37, e38⟩
      try simp only [↓WD, W0, evalOp, Nat.reduceEqDiff, Nat.reduceLT, ↓reduceIte, reduceCtorEq, hl, e6, e8, e37, e38]
      rw [AW_region]
      have oc78 := fun g : AH => aconv_int (P := Try.prog) (h := g) (n := y75) (k' := .u32) Try.underlying85 Try.underlying24
      obtain ⟨y79, qy79, wr92⟩ := obind wr92
      have og80 := fun (D : Drawn) (n : Nat) (g : AH) => call_hook (P := Try.prog) (D := D) k65 n (args := [.int .u64 (IntKind.u64.wrap y75), .int .i64 4]) (v := .str y79) ((kf_65_eq (IntKind.u64.wrap y75) 4).trans (by rw [qy79]; rfl)) g
      obtain ⟨b81, qb81, wr92⟩ := obind wr92
      obtain ⟨p82, u83, h84, ow85, S86⟩ := S71.bwrite (T := tabOf K) k128 n106 n66 0 rfl qb81 m (by omega)
      have S87 : Sep h [] h84 [.bld i37 p82 u83 95 5 b81] := S86
      refine AE_joinR (fun e h' => h84 = h' ∧ e.length = 47 ∧ e.getD 6 .undef = .ptr i37 0 ∧ e.getD 37 .undef = .agg [.int .u32 y45.x0, .int .u32 y45.x1, .int .u32 y45.x2, .int .u32 y45.x3, .int .u32 y45.x4, .int .u32 y45.x5, .int .u32 y45.x6, .int .u32 y45.x7] ∧ e.getD 38 .undef = .int .i64 s.2) (by
        simp only [↓WE, WA, WL, aop, ofValue, ofCell, isConst, abin, acall1, abuiltin, aun, AV.cells, AV.one, Nat.reduceAdd, Int.reduceLT, Int.reduceLE, ↓WD, W0, evalOp, Nat.reduceEqDiff, Nat.reduceLT, ↓reduceIte, reduceCtorEq, hl, e6, e8, e37, e38, oc78, og80, ow85]
        exact ⟨rfl, (by simp only [List.length_set, hl]), (by simp only [W0, Nat.reduceEqDiff, Nat.reduceLT, ↓reduceIte, hl, e6, e8, e37, e38]), (by simp only [W0, Nat.reduceEqDiff, Nat.reduceLT, ↓reduceIte, hl, e6, e8, e37, e38]), (by simp only [W0, Nat.reduceEqDiff, Nat.reduceLT, ↓reduceIte, hl, e6, e8, e37, e38])⟩) ?_
      rintro envg88 _ ⟨rfl, hl, e6, e37, e38⟩
      try simp only [↓WD, W0, evalOp, Nat.reduceEqDiff, Nat.reduceLT, ↓reduceIte, reduceCtorEq, hl, e6, e37, e38]
      rw [AW_region]
      refine AE_joinR (fun e h' => h84 = h' ∧ e.length = 47 ∧ e.getD 6 .undef = .ptr i37 0 ∧ e.getD 37 .undef = .agg [.int .u32 y45.x0, .int .u32 y45.x1, .int .u32 y45.x2, .int .u32 y45.x3, .int .u32 y45.x4, .int .u32 y45.x5, .int .u32 y45.x6, .int .u32 y45.x7] ∧ e.getD 38 .undef = .int .i64 (IntKind.i64.wrap (s.2 + 1))) (by
        simp only [↓WE, WA, WL, aop, ofValue, ofCell, isConst, abin, acall1, abuiltin, aun, AV.cells, AV.one, Nat.reduceAdd, Int.reduceLT, Int.reduceLE, ↓WD, W0, evalOp, Nat.reduceEqDiff, Nat.reduceLT, ↓reduceIte, reduceCtorEq, hl, e6, e37, e38]
        exact ⟨rfl, (by simp only [List.length_set, hl]), (by simp only [W0, Nat.reduceEqDiff, Nat.reduceLT, ↓reduceIte, hl, e6, e37, e38]), (by simp only [W0, Nat.reduceEqDiff, Nat.reduceLT, ↓reduceIte, hl, e6, e37, e38]), (by simp only [W0, Nat.reduceEqDiff, Nat.reduceLT, ↓reduceIte, hl, e6, e37, e38])⟩) ?_
      rintro envg89 _ ⟨rfl, hl, e6, e37, e38⟩
      try simp only [↓WD, W0, evalOp, Nat.reduceEqDiff, Nat.reduceLT, ↓reduceIte, reduceCtorEq, hl, e6, e37, e38]
      obtain rfl := Option.some.inj wr92
      rw [KP_nil, QL_normal]
      exact ⟨_, rfl, p82, u83, (by simp only [List.length_set, hl]), (by simp only [W0, Nat.reduceEqDiff, Nat.reduceLT, ↓reduceIte, hl, e6, e37, e38]), (by simp only [W0, Nat.reduceEqDiff, Nat.reduceLT, ↓reduceIte, hl, e6, e37, e38]), (by simp only [W0, Nat.reduceEqDiff, Nat.reduceLT, ↓reduceIte, hl, e6, e37, e38]), S87⟩
    · rw [if_neg c74] at wr92
      try simp only [↓WD, W0, evalOp, Nat.reduceEqDiff, Nat.reduceLT, ↓reduceIte, reduceCtorEq, hl, e6, e37, e38, e39]
      obtain rfl := Option.some.inj wr92
      rw [KP_nil, QL_exit]
      exact ⟨_, rfl, p68, u69, rfl, (by simp only [List.length_set, hl]), (by simp only [W0, Nat.reduceEqDiff, Nat.reduceLT, ↓reduceIte, hl, e6, e37, e38, e39]), S71⟩
  · exact ⟨.val (.pointer none), .val (.slice none 0 0), (by simp only [List.length_set, hl]), (by simp only [W0, Nat.reduceEqDiff, Nat.reduceLT, ↓reduceIte, hl, e6, e37, e38]), (by simp only [W0, Nat.reduceEqDiff, Nat.reduceLT, ↓reduceIte, hl, e6, e37, e38]), (by simp only [W0, Nat.reduceEqDiff, Nat.reduceLT, ↓reduceIte, hl, e6, e37, e38]), S42.pick [1] (by decide) rfl⟩
  · rintro x envr92 h95 ⟨p93, u94, rfl, hl, e6, S96⟩
    try simp only [↓WD, W0, evalOp, Nat.reduceEqDiff, Nat.reduceLT, ↓reduceIte, reduceCtorEq, hl, e6]
    rw [AW_region]
    obtain ⟨_, q100, hF⟩ := obind hF
    obtain ⟨h97, ow98, S99⟩ := S96.bstring (T := tabOf K) n67 0 rfl (chkCap_le q100) m (by omega)
    have S101 : Sep h [] h97 [] := S99
    refine AE_joinR (fun e h' => h97 = h' ∧ e.length = 47 ∧ e.getD 2 .undef = .str r92) (by
      simp only [↓WE, WA, WL, aop, ofValue, ofCell, isConst, abin, acall1, abuiltin, aun, AV.cells, AV.one, Nat.reduceAdd, Int.reduceLT, Int.reduceLE, ↓WD, W0, evalOp, Nat.reduceEqDiff, Nat.reduceLT, ↓reduceIte, reduceCtorEq, hl, e6, ow98]
      exact ⟨rfl, (by simp only [List.length_set, hl]), (by simp only [W0, Nat.reduceEqDiff, Nat.reduceLT, ↓reduceIte, hl, e6])⟩) ?_
    rintro envg102 _ ⟨rfl, hl, e2⟩
    try simp only [↓WD, W0, evalOp, Nat.reduceEqDiff, Nat.reduceLT, ↓reduceIte, reduceCtorEq, hl, e2]
    refine KP_ret (vs := [.str r92]) (by simp only [aresults, aresult, gs, List.length_set, Nat.reduceEqDiff, Nat.reduceLT, ↓reduceIte, hl, e2]) ?_
    obtain rfl := Option.some.inj hF
    exact rfl
set_option maxRecDepth 100000 in
set_option maxHeartbeats 4000000 in
theorem W_sha_Hex {K : PureK} (k16 : K 16 = some kf_16) (k128 : K 128 = some hb77) (n67 : K 67 = none) (n68 : K 68 = none) (n106 : K 106 = none) (n17 : K 17 = none) (m : Nat) (hm : NF + 4 ≤ m) (h : AH) (s_ : List UInt8) {r : (List UInt8)} (hF : F_sha_Hex s_ = some r) :
    AR (acall Try.prog (hooksOf K) (drawnOf Try.prog (tabOf K)) m 17 [.str s_] h) (fun v h' => v = .str r) := by
  obtain ⟨m, rfl⟩ : ∃ k, m = k + 1 := ⟨m - 1, by omega⟩
  refine AR_call (hooksOf_none n17) Try.func17 rfl _ _ fun env hl he => ?_
  have e0 := he 0
  simp only [List.getD_cons_zero, List.getD_cons_succ] at e0
  simp only [Try.f17] at hl ⊢
  simp only [List.length_cons, List.length_nil, Nat.reduceAdd, Nat.reduceSub] at hl
  clear he
  have S0 : Sep h [] h [] := Sep.nil h
  rw [F_sha_Hex] at hF
  try simp only [↓WD, W0, evalOp, Nat.reduceEqDiff, Nat.reduceLT, ↓reduceIte, reduceCtorEq, hl, e0]
  rw [AW_region]
  refine AE_joinR (fun e h' => h = h' ∧ e.length = 27 ∧ e.getD 0 .undef = .str s_) (by
    simp only [↓WE, WA, WL, aop, ofValue, ofCell, isConst, abin, acall1, abuiltin, aun, AV.cells, AV.one, Nat.reduceAdd, Int.reduceLT, Int.reduceLE, ↓WD, W0, evalOp, Nat.reduceEqDiff, Nat.reduceLT, ↓reduceIte, reduceCtorEq, hl, e0]
    exact ⟨rfl, (by simp only [List.length_set, hl]), (by simp only [W0, Nat.reduceEqDiff, Nat.reduceLT, ↓reduceIte, hl, e0])⟩) ?_
  rintro envg1 _ ⟨rfl, hl, e0⟩
  try simp only [↓WD, W0, evalOp, Nat.reduceEqDiff, Nat.reduceLT, ↓reduceIte, reduceCtorEq, hl, e0]
  rw [AW_region]
  obtain ⟨i2, h3, oa4, S5⟩ := S0.allocB
  have S7 : Sep h [] h3 [.bld i2 (.val (.pointer none)) (.val (.slice none 0 0)) 95 5 ([] : List UInt8)] := S5
  refine AE_joinR (fun e h' => h3 = h' ∧ e.length = 27 ∧ e.getD 0 .undef = .str s_ ∧ e.getD 3 .undef = .ptr i2 0) (by
    simp only [↓WE, WA, WL, aop, ofValue, ofCell, isConst, abin, acall1, abuiltin, aun, AV.cells, AV.one, Nat.reduceAdd, Int.reduceLT, Int.reduceLE, ↓WD, W0, evalOp, Nat.reduceEqDiff, Nat.reduceLT, ↓reduceIte, reduceCtorEq, hl, e0, zero_95, oa4]
    exact ⟨rfl, (by simp only [List.length_set, hl]), (by simp only [W0, Nat.reduceEqDiff, Nat.reduceLT, ↓reduceIte, hl, e0]), (by simp only [W0, Nat.reduceEqDiff, Nat.reduceLT, ↓reduceIte, hl, e0])⟩) ?_
  rintro envg8 _ ⟨rfl, hl, e0, e3⟩
  try simp only [↓WD, W0, evalOp, Nat.reduceEqDiff, Nat.reduceLT, ↓reduceIte, reduceCtorEq, hl, e0, e3]
  rw [AW_region]
  obtain ⟨y9, qy9, hF⟩ := obind hF
  have og10 := fun (D : Drawn) (n : Nat) (g : AH) => call_hook (P := Try.prog) (D := D) k16 n (args := [.str s_]) (v := .str y9) ((kf_16_eq s_).trans (by rw [qy9]; rfl)) g
  refine AE_joinR (fun e h' => h3 = h' ∧ e.length = 27 ∧ e.getD 3 .undef = .ptr i2 0 ∧ e.getD 4 .undef = .str y9) (by
    simp only [↓WE, WA, WL, aop, ofValue, ofCell, isConst, abin, acall1, abuiltin, aun, AV.cells, AV.one, Nat.reduceAdd, Int.reduceLT, Int.reduceLE, ↓WD, W0, evalOp, Nat.reduceEqDiff, Nat.reduceLT, ↓reduceIte, reduceCtorEq, hl, e0, e3, og10]
    exact ⟨rfl, (by simp only [List.length_set, hl]), (by simp only [W0, Nat.reduceEqDiff, Nat.reduceLT, ↓reduceIte, hl, e0, e3]), (by simp only [W0, Nat.reduceEqDiff, Nat.reduceLT, ↓reduceIte, hl, e0, e3])⟩) ?_
  rintro envg11 _ ⟨rfl, hl, e3, e4⟩
  try simp only [↓WD, W0, evalOp, Nat.reduceEqDiff, Nat.reduceLT, ↓reduceIte, reduceCtorEq, hl, e3, e4]
  rw [AW_region]
  have ol12 := fun g : AH => alen_str (P := Try.prog) (h := g) (l := y9) Try.underlying9
  refine AE_joinR (fun e h' => h3 = h' ∧ e.length = 27 ∧ e.getD 3 .undef = .ptr i2 0 ∧ e.getD 4 .undef = .str y9 ∧ e.getD 9 .undef = .int .i64 (y9.length : Int) ∧ e.getD 10 .undef = .int .i64 0) (by
    simp only [↓WE, WA, WL, aop, ofValue, ofCell, isConst, abin, acall1, abuiltin, aun, AV.cells, AV.one, Nat.reduceAdd, Int.reduceLT, Int.reduceLE, ↓WD, W0, evalOp, Nat.reduceEqDiff, Nat.reduceLT, ↓reduceIte, reduceCtorEq, hl, e3, e4, ol12]
    exact ⟨rfl, (by simp only [List.length_set, hl]), (by simp only [W0, Nat.reduceEqDiff, Nat.reduceLT, ↓reduceIte, hl, e3, e4]), (by simp only [W0, Nat.reduceEqDiff, Nat.reduceLT, ↓reduceIte, hl, e3, e4]), (by simp only [W0, Nat.reduceEqDiff, Nat.reduceLT, ↓reduceIte, hl, e3, e4]), (by simp only [W0, Nat.reduceEqDiff, Nat.reduceLT, ↓reduceIte, hl, e3, e4])⟩) ?_
  rintro envg13 _ ⟨rfl, hl, e3, e4, e9, e10⟩
  try simp only [↓WD, W0, evalOp, Nat.reduceEqDiff, Nat.reduceLT, ↓reduceIte, reduceCtorEq, hl, e3, e4, e9, e10]
  obtain ⟨r84, qr84, hF⟩ := obind hF
  refine AW_lift (L_sha_Hex_1 y9) (fun s e h' => ∃ (p48 : AV), ∃ (u49 : AV), e.length = 27 ∧ e.getD 3 .undef = .ptr i2 0 ∧ e.getD 4 .undef = .str y9 ∧ e.getD 9 .undef = .int .i64 (y9.length : Int) ∧ e.getD 10 .undef = .int .i64 s.2 ∧ Sep h [] h' [.bld i2 p48 u49 95 5 s.1]) (fun r84 x e h' => ∃ (p85 : AV), ∃ (u86 : AV), x = .exit 0 ∧ e.length = 27 ∧ e.getD 3 .undef = .ptr i2 0 ∧ Sep h [] h' [.bld i2 p85 u86 95 5 r84]) qr84 (by omega) ?_ ?_ ?_
  · rintro s envr84 h50 or84 ⟨p48, u49, hl, e3, e4, e9, e10, S51⟩ wr84
    rw [L_sha_Hex_1] at wr84
    try simp only [↓WD, W0, evalOp, Nat.reduceEqDiff, Nat.reduceLT, ↓reduceIte, reduceCtorEq, hl, e3, e4, e9, e10]
    rw [AW_region]
    refine AE_joinR (fun e h' => h50 = h' ∧ e.length = 27 ∧ e.getD 3 .undef = .ptr i2 0 ∧ e.getD 4 .undef = .str y9 ∧ e.getD 9 .undef = .int .i64 (y9.length : Int) ∧ e.getD 10 .undef = .int .i64 s.2 ∧ e.getD 11 .undef = .bool (decide (s.2 < (y9.length : Int)))) (by
      simp only [↓WE, WA, WL, aop, ofValue, ofCell, isConst, abin, acall1, abuiltin, aun, AV.cells, AV.one, Nat.reduceAdd, Int.reduceLT, Int.reduceLE, ↓WD, W0, evalOp, Nat.reduceEqDiff, Nat.reduceLT, ↓reduceIte, reduceCtorEq, hl, e3, e4, e9, e10]
      exact ⟨rfl, (by simp only [List.length_set, hl]), (by simp only [W0, Nat.reduceEqDiff, Nat.reduceLT, ↓reduceIte, hl, e3, e4, e9, e10]), (by simp only [W0, Nat.reduceEqDiff, Nat.reduceLT, ↓reduceIte, hl, e3, e4, e9, e10]), (by simp only [W0, Nat.reduceEqDiff, Nat.reduceLT, ↓reduceIte, hl, e3, e4, e9, e10]), (by simp only [W0, Nat.reduceEqDiff, Nat.reduceLT, ↓reduceIte, hl, e3, e4, e9, e10]), (by simp only [W0, Nat.reduceEqDiff, Nat.reduceLT, ↓reduceIte, hl, e3, e4, e9, e10])⟩) ?_
    rintro envg52 _ ⟨rfl, hl, e3, e4, e9, e10, e11⟩
    try simp only [↓WD, W0, evalOp, Nat.reduceEqDiff, Nat.reduceLT, ↓reduceIte, reduceCtorEq, hl, e3, e4, e9, e10, e11]
    refine CondK_dec (fun c54 => ?_) (fun c54 => ?_)
    · rw [if_pos c54] at wr84
      try simp only [↓WD, W0, evalOp, Nat.reduceEqDiff, Nat.reduceLT, ↓reduceIte, reduceCtorEq, hl, e3, e4, e9, e10, e11]
      rw [AW_region]
      refine AE_joinR (fun e h' => h50 = h' ∧ e.length = 27 ∧ e.getD 3 .undef = .ptr i2 0 ∧ e.getD 4 .undef = .str y9 ∧ e.getD 5 .undef = .int .i64 s.2 ∧ e.getD 9 .undef = .int .i64 (y9.length : Int) ∧ e.getD 10 .undef = .int .i64 s.2) (by
        simp only [↓WE, WA, WL, aop, ofValue, ofCell, isConst, abin, acall1, abuiltin, aun, AV.cells, AV.one, Nat.reduceAdd, Int.reduceLT, Int.reduceLE, ↓WD, W0, evalOp, Nat.reduceEqDiff, Nat.reduceLT, ↓reduceIte, reduceCtorEq, hl, e3, e4, e9, e10, e11]
        exact ⟨rfl, (by simp only [List.length_set, hl]), (by simp only [W0, Nat.reduceEqDiff, Nat.reduceLT, ↓reduceIte, hl, e3, e4, e9, e10, e11]), (by simp only [W0, Nat.reduceEqDiff, Nat.reduceLT, ↓reduceIte, hl, e3, e4, e9, e10, e11]), (by simp only [W0, Nat.reduceEqDiff, Nat.reduceLT, ↓reduceIte, hl, e3, e4, e9, e10, e11]), (by simp only [W0, Nat.reduceEqDiff, Nat.reduceLT, ↓reduceIte, hl, e3, e4, e9, e10, e11]), (by simp only [W0, Nat.reduceEqDiff, Nat.reduceLT, ↓reduceIte, hl, e3, e4, e9, e10, e11])⟩) ?_
      rintro envg55 _ ⟨rfl, hl, e3, e4, e5, e9, e10⟩
      try simp only [↓WD, W0, evalOp, Nat.reduceEqDiff, Nat.reduceLT, ↓reduceIte, reduceCtorEq, hl, e3, e4, e5, e9, e10]
      rw [AW_region]
      obtain ⟨c56, qc56, wr84⟩ := obind wr84
      have oc56 := idx_str (P := Try.prog) (k := .i64) Try.underlying9 qc56
      obtain ⟨y57, qy57, wr84⟩ := obind wr84
      have oy57 := shr_int (k := .u8) qy57
      obtain ⟨c58, qc58, wr84⟩ := obind wr84
      have oc58 := idx_str (P := Try.prog) (k := .u8) Try.underlying9 qc58
      obtain ⟨x59, qx59, wr84⟩ := obind wr84
      obtain ⟨b60, qb60, wr84⟩ := obind wr84
      obtain ⟨p61, u62, h63, ow64, S65⟩ := S51.bbyte (T := tabOf K) k128 n106 n68 0 rfl qx59 qb60 m (by omega)
      have S67 : Sep h [] h63 [.bld i2 p61 u62 95 5 b60] := S65
      refine AE_joinR (fun e h' => h63 = h' ∧ e.length = 27 ∧ e.getD 3 .undef = .ptr i2 0 ∧ e.getD 4 .undef = .str y9 ∧ e.getD 5 .undef = .int .i64 s.2 ∧ e.getD 9 .undef = .int .i64 (y9.length : Int) ∧ e.getD 10 .undef = .int .i64 s.2) (by
        simp only [↓WE, WA, WL, aop, ofValue, ofCell, isConst, abin, acall1, abuiltin, aun, AV.cells, AV.one, Nat.reduceAdd, Int.reduceLT, Int.reduceLE, ↓WD, W0, evalOp, Nat.reduceEqDiff, Nat.reduceLT, ↓reduceIte, reduceCtorEq, hl, e3, e4, e5, e9, e10, oc56, oy57, oc58, ow64]
        exact ⟨rfl, (by simp only [List.length_set, hl]), (by simp only [W0, Nat.reduceEqDiff, Nat.reduceLT, ↓reduceIte, hl, e3, e4, e5, e9, e10]), (by simp only [W0, Nat.reduceEqDiff, Nat.reduceLT, ↓reduceIte, hl, e3, e4, e5, e9, e10]), (by simp only [W0, Nat.reduceEqDiff, Nat.reduceLT, ↓reduceIte, hl, e3, e4, e5, e9, e10]), (by simp only [W0, Nat.reduceEqDiff, Nat.reduceLT, ↓reduceIte, hl, e3, e4, e5, e9, e10]), (by simp only [W0, Nat.reduceEqDiff, Nat.reduceLT, ↓reduceIte, hl, e3, e4, e5, e9, e10])⟩) ?_
      rintro envg68 _ ⟨rfl, hl, e3, e4, e5, e9, e10⟩
      try simp only [↓WD, W0, evalOp, Nat.reduceEqDiff, Nat.reduceLT, ↓reduceIte, reduceCtorEq, hl, e3, e4, e5, e9, e10]
      rw [AW_region]
      have oc69 := idx_str (P := Try.prog) (k := .i64) Try.underlying9 qc56
      obtain ⟨c70, qc70, wr84⟩ := obind wr84
      have oc70 := idx_str (P := Try.prog) (k := .u8) Try.underlying9 qc70
      obtain ⟨x71, qx71, wr84⟩ := obind wr84
      obtain ⟨b72, qb72, wr84⟩ := obind wr84
      obtain ⟨p73, u74, h75, ow76, S77⟩ := S67.bbyte (T := tabOf K) k128 n106 n68 0 rfl qx71 qb72 m (by omega)
      have S79 : Sep h [] h75 [.bld i2 p73 u74 95 5 b72] := S77
      refine AE_joinR (fun e h' => h75 = h' ∧ e.length = 27 ∧ e.getD 3 .undef = .ptr i2 0 ∧ e.getD 4 .undef = .str y9 ∧ e.getD 9 .undef = .int .i64 (y9.length : Int) ∧ e.getD 10 .undef = .int .i64 s.2) (by
        simp only [↓WE, WA, WL, aop, ofValue, ofCell, isConst, abin, acall1, abuiltin, aun, AV.cells, AV.one, Nat.reduceAdd, Int.reduceLT, Int.reduceLE, ↓WD, W0, evalOp, Nat.reduceEqDiff, Nat.reduceLT, ↓reduceIte, reduceCtorEq, hl, e3, e4, e5, e9, e10, oc69, oc70, ow76]
        exact ⟨rfl, (by simp only [List.length_set, hl]), (by simp only [W0, Nat.reduceEqDiff, Nat.reduceLT, ↓reduceIte, hl, e3, e4, e5, e9, e10]), (by simp only [W0, Nat.reduceEqDiff, Nat.reduceLT, ↓reduceIte, hl, e3, e4, e5, e9, e10]), (by simp only [W0, Nat.reduceEqDiff, Nat.reduceLT, ↓reduceIte, hl, e3, e4, e5, e9, e10]), (by simp only [W0, Nat.reduceEqDiff, Nat.reduceLT, ↓reduceIte, hl, e3, e4, e5, e9, e10])⟩) ?_
      rintro envg80 _ ⟨rfl, hl, e3, e4, e9, e10⟩
      try simp only [↓WD, W0, evalOp, Nat.reduceEqDiff, Nat.reduceLT, ↓reduceIte, reduceCtorEq, hl, e3, e4, e9, e10]
      rw [AW_region]
      refine AE_joinR (fun e h' => h75 = h' ∧ e.length = 27 ∧ e.getD 3 .undef = .ptr i2 0 ∧ e.getD 4 .undef = .str y9 ∧ e.getD 9 .undef = .int .i64 (y9.length : Int) ∧ e.getD 10 .undef = .int .i64 (IntKind.i64.wrap (s.2 + 1))) (by
        simp only [↓WE, WA, WL, aop, ofValue, ofCell, isConst, abin, acall1, abuiltin, aun, AV.cells, AV.one, Nat.reduceAdd, Int.reduceLT, Int.reduceLE, ↓WD, W0, evalOp, Nat.reduceEqDiff, Nat.reduceLT, ↓reduceIte, reduceCtorEq, hl, e3, e4, e9, e10]
        exact ⟨rfl, (by simp only [List.length_set, hl]), (by simp only [W0, Nat.reduceEqDiff, Nat.reduceLT, ↓reduceIte, hl, e3, e4, e9, e10]), (by simp only [W0, Nat.reduceEqDiff, Nat.reduceLT, ↓reduceIte, hl, e3, e4, e9, e10]), (by simp only [W0, Nat.reduceEqDiff, Nat.reduceLT, ↓reduceIte, hl, e3, e4, e9, e10]), (by simp only [W0, Nat.reduceEqDiff, Nat.reduceLT, ↓reduceIte, hl, e3, e4, e9, e10])⟩) ?_
      rintro envg81 _ ⟨rfl, hl, e3, e4, e9, e10⟩
      try simp only [↓WD, W0, evalOp, Nat.reduceEqDiff, Nat.reduceLT, ↓reduceIte, reduceCtorEq, hl, e3, e4, e9, e10]
      obtain rfl := Option.some.inj wr84
      rw [KP_nil, QL_normal]
      exact ⟨_, rfl, p73, u74, (by simp only [List.length_set, hl]), (by simp only [W0, Nat.reduceEqDiff, Nat.reduceLT, ↓reduceIte, hl, e3, e4, e9, e10]), (by simp only [W0, Nat.reduceEqDiff, Nat.reduceLT, ↓reduceIte, hl, e3, e4, e9, e10]), (by simp only [W0, Nat.reduceEqDiff, Nat.reduceLT, ↓reduceIte, hl, e3, e4, e9, e10]), (by simp only [W0, Nat.reduceEqDiff, Nat.reduceLT, ↓reduceIte, hl, e3, e4, e9, e10]), S79⟩
    · rw [if_neg c54] at wr84
      try simp only [↓WD, W0, evalOp, Nat.reduceEqDiff, Nat.reduceLT, ↓reduceIte, reduceCtorEq, hl, e3, e4, e9, e10, e11]
      obtain rfl := Option.some.inj wr84
      rw [KP_nil, QL_exit]
      exact ⟨_, rfl, p48, u49, rfl, (by simp only [List.length_set, hl]), (by simp only [W0, Nat.reduceEqDiff, Nat.reduceLT, ↓reduceIte, hl, e3, e4, e9, e10, e11]), S51⟩
  · exact ⟨.val (.pointer none), .val (.slice none 0 0), (by simp only [List.length_set, hl]), (by simp only [W0, Nat.reduceEqDiff, Nat.reduceLT, ↓reduceIte, hl, e3, e4, e9, e10]), (by simp only [W0, Nat.reduceEqDiff, Nat.reduceLT, ↓reduceIte, hl, e3, e4, e9, e10]), (by simp only [W0, Nat.reduceEqDiff, Nat.reduceLT, ↓reduceIte, hl, e3, e4, e9, e10]), (by simp only [W0, Nat.reduceEqDiff, Nat.reduceLT, ↓reduceIte, hl, e3, e4, e9, e10]), S7⟩
  · rintro x envr84 h87 ⟨p85, u86, rfl, hl, e3, S88⟩
    try simp only [↓WD, W0, evalOp, Nat.reduceEqDiff, Nat.reduceLT, ↓reduceIte, reduceCtorEq, hl, e3]
    rw [AW_region]
    obtain ⟨_, q92, hF⟩ := obind hF
    obtain ⟨h89, ow90, S91⟩ := S88.bstring (T := tabOf K) n67 0 rfl (chkCap_le q92) m (by omega)
    have S93 : Sep h [] h89 [] := S91
    refine AE_joinR (fun e h' => h89 = h' ∧ e.length = 27 ∧ e.getD 2 .undef = .str r84) (by
      simp only [↓WE, WA, WL, aop, ofValue, ofCell, isConst, abin, acall1, abuiltin, aun, AV.cells, AV.one, Nat.reduceAdd, Int.reduceLT, Int.reduceLE, ↓WD, W0, evalOp, Nat.reduceEqDiff, Nat.reduceLT, ↓reduceIte, reduceCtorEq, hl, e3, ow90]
      exact ⟨rfl, (by simp only [List.length_set, hl]), (by simp only [W0, Nat.reduceEqDiff, Nat.reduceLT, ↓reduceIte, hl, e3])⟩) ?_
    rintro envg94 _ ⟨rfl, hl, e2⟩
    try simp only [↓WD, W0, evalOp, Nat.reduceEqDiff, Nat.reduceLT, ↓reduceIte, reduceCtorEq, hl, e2]
    refine KP_ret (vs := [.str r84]) (by simp only [aresults, aresult, gs, List.length_set, Nat.reduceEqDiff, Nat.reduceLT, ↓reduceIte, hl, e2]) ?_
    obtain rfl := Option.some.inj hF
    exact rfl
end Go.Proofs.YtobhmahlenjheaaM
