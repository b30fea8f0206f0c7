/- The abstract machine computes what the plain functions say: printed by lift.py. -/
import Derived.Test.YtikkpmmhejjpaaaDEW2
set_option linter.unusedSimpArgs false
set_option linter.unusedVariables false
namespace Go.Proofs.YtikkpmmhejjpaaaM
open Go Go.RowKit
set_option maxRecDepth 100000 in
set_option maxHeartbeats 4000000 in
theorem W_ref40_Apply {K : PureK} (k41 : K 41 = some kf_41) (n44 : K 44 = none) (m : Nat) (hm : NF + 1 ≤ m) (h : AH) (old_ : List UInt8) (delta : List UInt8) {r : (List UInt8) × Int} (hF : F_ref40_Apply old_ delta = some r) :
    AR (acall Try.prog (hooksOf K) (drawnOf Try.prog (tabOf K)) m 44 [.str old_, .str delta] h) (fun v h' => v = .tup [.str r.1, .int .i64 r.2]) := by
  obtain ⟨m, rfl⟩ : ∃ k, m = k + 1 := ⟨m - 1, by omega⟩
  refine AR_call (hooksOf_none n44) Try.func44 rfl _ _ fun env hl he => ?_
  have e0 := he 0
  have e1 := he 1
  simp only [List.getD_cons_zero, List.getD_cons_succ] at e0 e1
  simp only [Try.f44] at hl ⊢
  simp only [List.length_cons, List.length_nil, Nat.reduceAdd, Nat.reduceSub] at hl
  clear he
  have S0 : Sep h [] h [] := Sep.nil h
  rw [F_ref40_Apply] at hF
  try simp only [↓WD, W0, evalOp, Nat.reduceEqDiff, Nat.reduceLT, ↓reduceIte, reduceCtorEq, hl, e0, e1]
  rw [AW_region]
  refine AE_joinR (fun e h' => h = h' ∧ e.length = 126 ∧ e.getD 0 .undef = .str old_ ∧ e.getD 1 .undef = .str delta) (by
    simp only [↓WE, WA, WL, aop, ofValue, ofCell, isConst, abin, acall1, abuiltin, aun, AV.cells, AV.one, Nat.reduceAdd, Int.reduceLT, Int.reduceLE, ↓WD, W0, evalOp, Nat.reduceEqDiff, Nat.reduceLT, ↓reduceIte, reduceCtorEq, hl, e0, e1]
    exact ⟨rfl, (by simp only [List.length_set, hl]), (by simp only [W0, Nat.reduceEqDiff, Nat.reduceLT, ↓reduceIte, hl, e0, e1]), (by simp only [W0, Nat.reduceEqDiff, Nat.reduceLT, ↓reduceIte, hl, e0, e1])⟩) ?_
  rintro envg1 _ ⟨rfl, hl, e0, e1⟩
  try simp only [↓WD, W0, evalOp, Nat.reduceEqDiff, Nat.reduceLT, ↓reduceIte, reduceCtorEq, hl, e0, e1]
  rw [AW_region]
  obtain ⟨y2, qy2, hF⟩ := obind hF
  have og3 := fun (D : Drawn) (n : Nat) (g : AH) => call_hook (P := Try.prog) (D := D) k41 n (args := [.str delta, .int .i64 0]) (v := .tup [.int .i64 y2.1, .int .i64 y2.2.1, .int .i64 y2.2.2]) ((kf_41_eq delta 0).trans (by rw [qy2]; rfl)) g
  refine AE_joinR (fun e h' => h = h' ∧ e.length = 126 ∧ e.getD 0 .undef = .str old_ ∧ e.getD 1 .undef = .str delta ∧ e.getD 6 .undef = .int .i64 y2.1 ∧ e.getD 7 .undef = .int .i64 y2.2.1 ∧ e.getD 8 .undef = .int .i64 y2.2.2) (by
    simp only [↓WE, WA, WL, aop, ofValue, ofCell, isConst, abin, acall1, abuiltin, aun, AV.cells, AV.one, Nat.reduceAdd, Int.reduceLT, Int.reduceLE, ↓WD, W0, evalOp, Nat.reduceEqDiff, Nat.reduceLT, ↓reduceIte, reduceCtorEq, hl, e0, e1, og3]
    exact ⟨rfl, (by simp only [List.length_set, hl]), (by simp only [W0, Nat.reduceEqDiff, Nat.reduceLT, ↓reduceIte, hl, e0, e1]), (by simp only [W0, Nat.reduceEqDiff, Nat.reduceLT, ↓reduceIte, hl, e0, e1]), (by simp only [W0, Nat.reduceEqDiff, Nat.reduceLT, ↓reduceIte, hl, e0, e1]), (by simp only [W0, Nat.reduceEqDiff, Nat.reduceLT, ↓reduceIte, hl, e0, e1]), (by simp only [W0, Nat.reduceEqDiff, Nat.reduceLT, ↓reduceIte, hl, e0, e1])⟩) ?_
  rintro envg4 _ ⟨rfl, hl, e0, e1, e6, e7, e8⟩
  try simp only [↓WD, W0, evalOp, Nat.reduceEqDiff, Nat.reduceLT, ↓reduceIte, reduceCtorEq, hl, e0, e1, e6, e7, e8]
  rw [AW_region]
  refine AE_joinR (fun e h' => h = h' ∧ e.length = 126 ∧ e.getD 0 .undef = .str old_ ∧ e.getD 1 .undef = .str delta ∧ e.getD 6 .undef = .int .i64 y2.1 ∧ e.getD 7 .undef = .int .i64 y2.2.1 ∧ e.getD 8 .undef = .int .i64 y2.2.2 ∧ e.getD 29 .undef = .bool (y2.2.2 != 0)) (by
    simp only [↓WE, WA, WL, aop, ofValue, ofCell, isConst, abin, acall1, abuiltin, aun, AV.cells, AV.one, Nat.reduceAdd, Int.reduceLT, Int.reduceLE, ↓WD, W0, evalOp, Nat.reduceEqDiff, Nat.reduceLT, ↓reduceIte, reduceCtorEq, hl, e0, e1, e6, e7, e8]
    exact ⟨rfl, (by simp only [List.length_set, hl]), (by simp only [W0, Nat.reduceEqDiff, Nat.reduceLT, ↓reduceIte, hl, e0, e1, e6, e7, e8]), (by simp only [W0, Nat.reduceEqDiff, Nat.reduceLT, ↓reduceIte, hl, e0, e1, e6, e7, e8]), (by simp only [W0, Nat.reduceEqDiff, Nat.reduceLT, ↓reduceIte, hl, e0, e1, e6, e7, e8]), (by simp only [W0, Nat.reduceEqDiff, Nat.reduceLT, ↓reduceIte, hl, e0, e1, e6, e7, e8]), (by simp only [W0, Nat.reduceEqDiff, Nat.reduceLT, ↓reduceIte, hl, e0, e1, e6, e7, e8]), (by simp only [W0, Nat.reduceEqDiff, Nat.reduceLT, ↓reduceIte, hl, e0, e1, e6, e7, e8])⟩) ?_
  rintro envg5 _ ⟨rfl, hl, e0, e1, e6, e7, e8, e29⟩
  try simp only [↓WD, W0, evalOp, Nat.reduceEqDiff, Nat.reduceLT, ↓reduceIte, reduceCtorEq, hl, e0, e1, e6, e7, e8, e29]
  refine CondK_boo (fun c8 => ?_) (fun c8 => ?_)
  · rw [if_pos c8] at hF
    try simp only [↓WD, W0, evalOp, Nat.reduceEqDiff, Nat.reduceLT, ↓reduceIte, reduceCtorEq, hl, e0, e1, e6, e7, e8, e29]
    rw [AW_region]
    refine AE_joinR (fun e h' => h = h' ∧ e.length = 126 ∧ e.getD 4 .undef = .str [] ∧ e.getD 5 .undef = .int .i64 y2.2.2) (by
      simp only [↓WE, WA, WL, aop, ofValue, ofCell, isConst, abin, acall1, abuiltin, aun, AV.cells, AV.one, Nat.reduceAdd, Int.reduceLT, Int.reduceLE, ↓WD, W0, evalOp, Nat.reduceEqDiff, Nat.reduceLT, ↓reduceIte, reduceCtorEq, hl, e0, e1, e6, e7, e8, e29]
      exact ⟨rfl, (by simp only [List.length_set, hl]), (by simp only [W0, Nat.reduceEqDiff, Nat.reduceLT, ↓reduceIte, hl, e0, e1, e6, e7, e8, e29]), (by simp only [W0, Nat.reduceEqDiff, Nat.reduceLT, ↓reduceIte, hl, e0, e1, e6, e7, e8, e29])⟩) ?_
    rintro envg9 _ ⟨rfl, hl, e4, e5⟩
    try simp only [↓WD, W0, evalOp, Nat.reduceEqDiff, Nat.reduceLT, ↓reduceIte, reduceCtorEq, hl, e4, e5]
    refine KP_ret (vs := [.str [], .int .i64 y2.2.2]) (by simp only [aresults, aresult, gs, List.length_set, Nat.reduceEqDiff, Nat.reduceLT, ↓reduceIte, hl, e4, e5]) ?_
    obtain rfl := Option.some.inj hF
    exact rfl
  · rw [if_neg (nf c8)] at hF
    try simp only [↓WD, W0, evalOp, Nat.reduceEqDiff, Nat.reduceLT, ↓reduceIte, reduceCtorEq, hl, e0, e1, e6, e7, e8, e29]
    rw [AW_region]
    obtain ⟨y10, qy10, hF⟩ := obind hF
    have og11 := fun (D : Drawn) (n : Nat) (g : AH) => call_hook (P := Try.prog) (D := D) k41 n (args := [.str delta, .int .i64 y2.2.1]) (v := .tup [.int .i64 y10.1, .int .i64 y10.2.1, .int .i64 y10.2.2]) ((kf_41_eq delta y2.2.1).trans (by rw [qy10]; rfl)) g
    refine AE_joinR (fun e h' => h = h' ∧ e.length = 126 ∧ e.getD 0 .undef = .str old_ ∧ e.getD 1 .undef = .str delta ∧ e.getD 6 .undef = .int .i64 y2.1 ∧ e.getD 9 .undef = .int .i64 y10.1 ∧ e.getD 10 .undef = .int .i64 y10.2.1 ∧ e.getD 11 .undef = .int .i64 y10.2.2) (by
      simp only [↓WE, WA, WL, aop, ofValue, ofCell, isConst, abin, acall1, abuiltin, aun, AV.cells, AV.one, Nat.reduceAdd, Int.reduceLT, Int.reduceLE, ↓WD, W0, evalOp, Nat.reduceEqDiff, Nat.reduceLT, ↓reduceIte, reduceCtorEq, hl, e0, e1, e6, e7, e8, e29, og11]
      exact ⟨rfl, (by simp only [List.length_set, hl]), (by simp only [W0, Nat.reduceEqDiff, Nat.reduceLT, ↓reduceIte, hl, e0, e1, e6, e7, e8, e29]), (by simp only [W0, Nat.reduceEqDiff, Nat.reduceLT, ↓reduceIte, hl, e0, e1, e6, e7, e8, e29]), (by simp only [W0, Nat.reduceEqDiff, Nat.reduceLT, ↓reduceIte, hl, e0, e1, e6, e7, e8, e29]), (by simp only [W0, Nat.reduceEqDiff, Nat.reduceLT, ↓reduceIte, hl, e0, e1, e6, e7, e8, e29]), (by simp only [W0, Nat.reduceEqDiff, Nat.reduceLT, ↓reduceIte, hl, e0, e1, e6, e7, e8, e29]), (by simp only [W0, Nat.reduceEqDiff, Nat.reduceLT, ↓reduceIte, hl, e0, e1, e6, e7, e8, e29])⟩) ?_
    rintro envg12 _ ⟨rfl, hl, e0, e1, e6, e9, e10, e11⟩
    try simp only [↓WD, W0, evalOp, Nat.reduceEqDiff, Nat.reduceLT, ↓reduceIte, reduceCtorEq, hl, e0, e1, e6, e9, e10, e11]
    rw [AW_region]
    refine AE_joinR (fun e h' => h = h' ∧ e.length = 126 ∧ e.getD 0 .undef = .str old_ ∧ e.getD 1 .undef = .str delta ∧ e.getD 6 .undef = .int .i64 y2.1 ∧ e.getD 9 .undef = .int .i64 y10.1 ∧ e.getD 10 .undef = .int .i64 y10.2.1 ∧ e.getD 11 .undef = .int .i64 y10.2.2 ∧ e.getD 39 .undef = .bool (y10.2.2 != 0)) (by
      simp only [↓WE, WA, WL, aop, ofValue, ofCell, isConst, abin, acall1, abuiltin, aun, AV.cells, AV.one, Nat.reduceAdd, Int.reduceLT, Int.reduceLE, ↓WD, W0, evalOp, Nat.reduceEqDiff, Nat.reduceLT, ↓reduceIte, reduceCtorEq, hl, e0, e1, e6, e9, e10, e11]
      exact ⟨rfl, (by simp only [List.length_set, hl]), (by simp only [W0, Nat.reduceEqDiff, Nat.reduceLT, ↓reduceIte, hl, e0, e1, e6, e9, e10, e11]), (by simp only [W0, Nat.reduceEqDiff, Nat.reduceLT, ↓reduceIte, hl, e0, e1, e6, e9, e10, e11]), (by simp only [W0, Nat.reduceEqDiff, Nat.reduceLT, ↓reduceIte, hl, e0, e1, e6, e9, e10, e11]), (by simp only [W0, Nat.reduceEqDiff, Nat.reduceLT, ↓reduceIte, hl, e0, e1, e6, e9, e10, e11]), (by simp only [W0, Nat.reduceEqDiff, Nat.reduceLT, ↓reduceIte, hl, e0, e1, e6, e9, e10, e11]), (by simp only [W0, Nat.reduceEqDiff, Nat.reduceLT, ↓reduceIte, hl, e0, e1, e6, e9, e10, e11]), (by simp only [W0, Nat.reduceEqDiff, Nat.reduceLT, ↓reduceIte, hl, e0, e1, e6, e9, e10, e11])⟩) ?_
    rintro envg13 _ ⟨rfl, hl, e0, e1, e6, e9, e10, e11, e39⟩
    try simp only [↓WD, W0, evalOp, Nat.reduceEqDiff, Nat.reduceLT, ↓reduceIte, reduceCtorEq, hl, e0, e1, e6, e9, e10, e11, e39]
    refine CondK_boo (fun c16 => ?_) (fun c16 => ?_)
    · rw [if_pos c16] at hF
      try simp only [↓WD, W0, evalOp, Nat.reduceEqDiff, Nat.reduceLT, ↓reduceIte, reduceCtorEq, hl, e0, e1, e6, e9, e10, e11, e39]
      rw [AW_region]
      refine AE_joinR (fun e h' => h = h' ∧ e.length = 126 ∧ e.getD 4 .undef = .str [] ∧ e.getD 5 .undef = .int .i64 y10.2.2) (by
        simp only [↓WE, WA, WL, aop, ofValue, ofCell, isConst, abin, acall1, abuiltin, aun, AV.cells, AV.one, Nat.reduceAdd, Int.reduceLT, Int.reduceLE, ↓WD, W0, evalOp, Nat.reduceEqDiff, Nat.reduceLT, ↓reduceIte, reduceCtorEq, hl, e0, e1, e6, e9, e10, e11, e39]
        exact ⟨rfl, (by simp only [List.length_set, hl]), (by simp only [W0, Nat.reduceEqDiff, Nat.reduceLT, ↓reduceIte, hl, e0, e1, e6, e9, e10, e11, e39]), (by simp only [W0, Nat.reduceEqDiff, Nat.reduceLT, ↓reduceIte, hl, e0, e1, e6, e9, e10, e11, e39])⟩) ?_
      rintro envg17 _ ⟨rfl, hl, e4, e5⟩
      try simp only [↓WD, W0, evalOp, Nat.reduceEqDiff, Nat.reduceLT, ↓reduceIte, reduceCtorEq, hl, e4, e5]
      refine KP_ret (vs := [.str [], .int .i64 y10.2.2]) (by simp only [aresults, aresult, gs, List.length_set, Nat.reduceEqDiff, Nat.reduceLT, ↓reduceIte, hl, e4, e5]) ?_
      obtain rfl := Option.some.inj hF
      exact rfl
    · rw [if_neg (nf c16)] at hF
      try simp only [↓WD, W0, evalOp, Nat.reduceEqDiff, Nat.reduceLT, ↓reduceIte, reduceCtorEq, hl, e0, e1, e6, e9, e10, e11, e39]
      rw [AW_region]
      have ol18 := fun g : AH => alen_str (P := Try.prog) (h := g) (l := old_) Try.underlying9
      refine AE_joinR (fun e h' => h = h' ∧ e.length = 126 ∧ e.getD 0 .undef = .str old_ ∧ e.getD 1 .undef = .str delta ∧ e.getD 9 .undef = .int .i64 y10.1 ∧ e.getD 10 .undef = .int .i64 y10.2.1 ∧ e.getD 44 .undef = .bool (y2.1 != (old_.length : Int))) (by
        simp only [↓WE, WA, WL, aop, ofValue, ofCell, isConst, abin, acall1, abuiltin, aun, AV.cells, AV.one, Nat.reduceAdd, Int.reduceLT, Int.reduceLE, ↓WD, W0, evalOp, Nat.reduceEqDiff, Nat.reduceLT, ↓reduceIte, reduceCtorEq, hl, e0, e1, e6, e9, e10, e11, e39, ol18]
        exact ⟨rfl, (by simp only [List.length_set, hl]), (by simp only [W0, Nat.reduceEqDiff, Nat.reduceLT, ↓reduceIte, hl, e0, e1, e6, e9, e10, e11, e39]), (by simp only [W0, Nat.reduceEqDiff, Nat.reduceLT, ↓reduceIte, hl, e0, e1, e6, e9, e10, e11, e39]), (by simp only [W0, Nat.reduceEqDiff, Nat.reduceLT, ↓reduceIte, hl, e0, e1, e6, e9, e10, e11, e39]), (by simp only [W0, Nat.reduceEqDiff, Nat.reduceLT, ↓reduceIte, hl, e0, e1, e6, e9, e10, e11, e39]), (by simp only [W0, Nat.reduceEqDiff, Nat.reduceLT, ↓reduceIte, hl, e0, e1, e6, e9, e10, e11, e39])⟩) ?_
      rintro envg19 _ ⟨rfl, hl, e0, e1, e9, e10, e44⟩
      try simp only [↓WD, W0, evalOp, Nat.reduceEqDiff, Nat.reduceLT, ↓reduceIte, reduceCtorEq, hl, e0, e1, e9, e10, e44]
      refine CondK_boo (fun c22 => ?_) (fun c22 => ?_)
      · rw [if_pos c22] at hF
        try simp only [↓WD, W0, evalOp, Nat.reduceEqDiff, Nat.reduceLT, ↓reduceIte, reduceCtorEq, hl, e0, e1, e9, e10, e44]
        rw [AW_region]
        refine AE_joinR (fun e h' => h = h' ∧ e.length = 126 ∧ e.getD 4 .undef = .str [] ∧ e.getD 5 .undef = .int .i64 4) (by
          simp only [↓WE, WA, WL, aop, ofValue, ofCell, isConst, abin, acall1, abuiltin, aun, AV.cells, AV.one, Nat.reduceAdd, Int.reduceLT, Int.reduceLE, ↓WD, W0, evalOp, Nat.reduceEqDiff, Nat.reduceLT, ↓reduceIte, reduceCtorEq, hl, e0, e1, e9, e10, e44]
          exact ⟨rfl, (by simp only [List.length_set, hl]), (by simp only [W0, Nat.reduceEqDiff, Nat.reduceLT, ↓reduceIte, hl, e0, e1, e9, e10, e44]), (by simp only [W0, Nat.reduceEqDiff, Nat.reduceLT, ↓reduceIte, hl, e0, e1, e9, e10, e44])⟩) ?_
        rintro envg23 _ ⟨rfl, hl, e4, e5⟩
        try simp only [↓WD, W0, evalOp, Nat.reduceEqDiff, Nat.reduceLT, ↓reduceIte, reduceCtorEq, hl, e4, e5]
        refine KP_ret (vs := [.str [], .int .i64 4]) (by simp only [aresults, aresult, gs, List.length_set, Nat.reduceEqDiff, Nat.reduceLT, ↓reduceIte, hl, e4, e5]) ?_
        obtain rfl := Option.some.inj hF
        exact rfl
      · rw [if_neg (nf c22)] at hF
        try simp only [↓WD, W0, evalOp, Nat.reduceEqDiff, Nat.reduceLT, ↓reduceIte, reduceCtorEq, hl, e0, e1, e9, e10, e44]
        rw [AW_region]
        refine AE_joinR (fun e h' => h = h' ∧ e.length = 126 ∧ e.getD 0 .undef = .str old_ ∧ e.getD 1 .undef = .str delta ∧ e.getD 9 .undef = .int .i64 y10.1 ∧ e.getD 10 .undef = .int .i64 y10.2.1 ∧ e.getD 46 .undef = .bool (decide (y10.1 > 4194304))) (by
          simp only [↓WE, WA, WL, aop, ofValue, ofCell, isConst, abin, acall1, abuiltin, aun, AV.cells, AV.one, Nat.reduceAdd, Int.reduceLT, Int.reduceLE, ↓WD, W0, evalOp, Nat.reduceEqDiff, Nat.reduceLT, ↓reduceIte, reduceCtorEq, hl, e0, e1, e9, e10, e44]
          exact ⟨rfl, (by simp only [List.length_set, hl]), (by simp only [W0, Nat.reduceEqDiff, Nat.reduceLT, ↓reduceIte, hl, e0, e1, e9, e10, e44]), (by simp only [W0, Nat.reduceEqDiff, Nat.reduceLT, ↓reduceIte, hl, e0, e1, e9, e10, e44]), (by simp only [W0, Nat.reduceEqDiff, Nat.reduceLT, ↓reduceIte, hl, e0, e1, e9, e10, e44]), (by simp only [W0, Nat.reduceEqDiff, Nat.reduceLT, ↓reduceIte, hl, e0, e1, e9, e10, e44]), (by simp only [W0, Nat.reduceEqDiff, Nat.reduceLT, ↓reduceIte, hl, e0, e1, e9, e10, e44])⟩) ?_
        rintro envg24 _ ⟨rfl, hl, e0, e1, e9, e10, e46⟩
        try simp only [↓WD, W0, evalOp, Nat.reduceEqDiff, Nat.reduceLT, ↓reduceIte, reduceCtorEq, hl, e0, e1, e9, e10, e46]
        refine CondK_dec (fun c27 => ?_) (fun c27 => ?_)
        · rw [if_pos c27] at hF
          try simp only [↓WD, W0, evalOp, Nat.reduceEqDiff, Nat.reduceLT, ↓reduceIte, reduceCtorEq, hl, e0, e1, e9, e10, e46]
          rw [AW_region]
          refine AE_joinR (fun e h' => h = h' ∧ e.length = 126 ∧ e.getD 4 .undef = .str [] ∧ e.getD 5 .undef = .int .i64 7) (by
            simp only [↓WE, WA, WL, aop, ofValue, ofCell, isConst, abin, acall1, abuiltin, aun, AV.cells, AV.one, Nat.reduceAdd, Int.reduceLT, Int.reduceLE, ↓WD, W0, evalOp, Nat.reduceEqDiff, Nat.reduceLT, ↓reduceIte, reduceCtorEq, hl, e0, e1, e9, e10, e46]
            exact ⟨rfl, (by simp only [List.length_set, hl]), (by simp only [W0, Nat.reduceEqDiff, Nat.reduceLT, ↓reduceIte, hl, e0, e1, e9, e10, e46]), (by simp only [W0, Nat.reduceEqDiff, Nat.reduceLT, ↓reduceIte, hl, e0, e1, e9, e10, e46])⟩) ?_
          rintro envg28 _ ⟨rfl, hl, e4, e5⟩
          try simp only [↓WD, W0, evalOp, Nat.reduceEqDiff, Nat.reduceLT, ↓reduceIte, reduceCtorEq, hl, e4, e5]
          refine KP_ret (vs := [.str [], .int .i64 7]) (by simp only [aresults, aresult, gs, List.length_set, Nat.reduceEqDiff, Nat.reduceLT, ↓reduceIte, hl, e4, e5]) ?_
          obtain rfl := Option.some.inj hF
          exact rfl
        · rw [if_neg c27] at hF
          try simp only [↓WD, W0, evalOp, Nat.reduceEqDiff, Nat.reduceLT, ↓reduceIte, reduceCtorEq, hl, e0, e1, e9, e10, e46]
          rw [AW_region]
          refine AE_joinR (fun e h' => h = h' ∧ e.length = 126 ∧ e.getD 0 .undef = .str old_ ∧ e.getD 1 .undef = .str delta ∧ e.getD 9 .undef = .int .i64 y10.1 ∧ e.getD 10 .undef = .int .i64 y10.2.1 ∧ e.getD 12 .undef = .str []) (by
            simp only [↓WE, WA, WL, aop, ofValue, ofCell, isConst, abin, acall1, abuiltin, aun, AV.cells, AV.one, Nat.reduceAdd, Int.reduceLT, Int.reduceLE, ↓WD, W0, evalOp, Nat.reduceEqDiff, Nat.reduceLT, ↓reduceIte, reduceCtorEq, hl, e0, e1, e9, e10, e46]
            exact ⟨rfl, (by simp only [List.length_set, hl]), (by simp only [W0, Nat.reduceEqDiff, Nat.reduceLT, ↓reduceIte, hl, e0, e1, e9, e10, e46]), (by simp only [W0, Nat.reduceEqDiff, Nat.reduceLT, ↓reduceIte, hl, e0, e1, e9, e10, e46]), (by simp only [W0, Nat.reduceEqDiff, Nat.reduceLT, ↓reduceIte, hl, e0, e1, e9, e10, e46]), (by simp only [W0, Nat.reduceEqDiff, Nat.reduceLT, ↓reduceIte, hl, e0, e1, e9, e10, e46]), (by simp only [W0, Nat.reduceEqDiff, Nat.reduceLT, ↓reduceIte, hl, e0, e1, e9, e10, e46])⟩) ?_
          rintro envg29 _ ⟨rfl, hl, e0, e1, e9, e10, e12⟩
          try simp only [↓WD, W0, evalOp, Nat.reduceEqDiff, Nat.reduceLT, ↓reduceIte, reduceCtorEq, hl, e0, e1, e9, e10, e12]
          rw [AW_region]
          refine AE_joinR (fun e h' => h = h' ∧ e.length = 126 ∧ e.getD 0 .undef = .str old_ ∧ e.getD 1 .undef = .str delta ∧ e.getD 7 .undef = .int .i64 y10.2.1 ∧ e.getD 9 .undef = .int .i64 y10.1 ∧ e.getD 12 .undef = .str []) (by
            simp only [↓WE, WA, WL, aop, ofValue, ofCell, isConst, abin, acall1, abuiltin, aun, AV.cells, AV.one, Nat.reduceAdd, Int.reduceLT, Int.reduceLE, ↓WD, W0, evalOp, Nat.reduceEqDiff, Nat.reduceLT, ↓reduceIte, reduceCtorEq, hl, e0, e1, e9, e10, e12]
            exact ⟨rfl, (by simp only [List.length_set, hl]), (by simp only [W0, Nat.reduceEqDiff, Nat.reduceLT, ↓reduceIte, hl, e0, e1, e9, e10, e12]), (by simp only [W0, Nat.reduceEqDiff, Nat.reduceLT, ↓reduceIte, hl, e0, e1, e9, e10, e12]), (by simp only [W0, Nat.reduceEqDiff, Nat.reduceLT, ↓reduceIte, hl, e0, e1, e9, e10, e12]), (by simp only [W0, Nat.reduceEqDiff, Nat.reduceLT, ↓reduceIte, hl, e0, e1, e9, e10, e12]), (by simp only [W0, Nat.reduceEqDiff, Nat.reduceLT, ↓reduceIte, hl, e0, e1, e9, e10, e12])⟩) ?_
          rintro envg30 _ ⟨rfl, hl, e0, e1, e7, e9, e12⟩
          try simp only [↓WD, W0, evalOp, Nat.reduceEqDiff, Nat.reduceLT, ↓reduceIte, reduceCtorEq, hl, e0, e1, e7, e9, e12]
          obtain ⟨r181, qr181, hF⟩ := obind hF
          refine AW_lift (L_ref40_Apply_1 delta old_ y10) (fun s e h' => e.length = 126 ∧ e.getD 0 .undef = .str old_ ∧ e.getD 1 .undef = .str delta ∧ e.getD 7 .undef = .int .i64 s.1 ∧ e.getD 9 .undef = .int .i64 y10.1 ∧ e.getD 12 .undef = .str s.2 ∧ Sep h [] h' []) (fun r181 x e h' => (∃ (t182 : (List UInt8)), r181 = (.inl t182) ∧ x = .exit 0 ∧ e.length = 126 ∧ e.getD 9 .undef = .int .i64 y10.1 ∧ e.getD 12 .undef = .str t182 ∧ Sep h [] h' []) ∨ (∃ (t185 : Int), r181 = (.inr t185) ∧ x = .ret ∧ e.length = 126 ∧ e.getD 4 .undef = .str [] ∧ e.getD 5 .undef = .int .i64 t185 ∧ Sep h [] h' [])) qr181 (by omega) ?_ ?_ ?_
          · rintro s envr181 h106 or181 ⟨hl, e0, e1, e7, e9, e12, S107⟩ wr181
            rw [L_ref40_Apply_1] at wr181
            try simp only [↓WD, W0, evalOp, Nat.reduceEqDiff, Nat.reduceLT, ↓reduceIte, reduceCtorEq, hl, e0, e1, e7, e9, e12]
            rw [AW_region]
            have ol108 := fun g : AH => alen_str (P := Try.prog) (h := g) (l := delta) Try.underlying9
            refine AE_joinR (fun e h' => h106 = h' ∧ e.length = 126 ∧ e.getD 0 .undef = .str old_ ∧ e.getD 1 .undef = .str delta ∧ e.getD 7 .undef = .int .i64 s.1 ∧ e.getD 9 .undef = .int .i64 y10.1 ∧ e.getD 12 .undef = .str s.2 ∧ e.getD 51 .undef = .bool (decide (s.1 < (delta.length : Int)))) (by
              simp only [↓WE, WA, WL, aop, ofValue, ofCell, isConst, abin, acall1, abuiltin, aun, AV.cells, AV.one, Nat.reduceAdd, Int.reduceLT, Int.reduceLE, ↓WD, W0, evalOp, Nat.reduceEqDiff, Nat.reduceLT, ↓reduceIte, reduceCtorEq, hl, e0, e1, e7, e9, e12, ol108]
              exact ⟨rfl, (by simp only [List.length_set, hl]), (by simp only [W0, Nat.reduceEqDiff, Nat.reduceLT, ↓reduceIte, hl, e0, e1, e7, e9, e12]), (by simp only [W0, Nat.reduceEqDiff, Nat.reduceLT, ↓reduceIte, hl, e0, e1, e7, e9, e12]), (by simp only [W0, Nat.reduceEqDiff, Nat.reduceLT, ↓reduceIte, hl, e0, e1, e7, e9, e12]), (by simp only [W0, Nat.reduceEqDiff, Nat.reduceLT, ↓reduceIte, hl, e0, e1, e7, e9, e12]), (by simp only [W0, Nat.reduceEqDiff, Nat.reduceLT, ↓reduceIte, hl, e0, e1, e7, e9, e12]), (by simp only [W0, Nat.reduceEqDiff, Nat.reduceLT, ↓reduceIte, hl, e0, e1, e7, e9, e12])⟩) ?_
            rintro envg109 _ ⟨rfl, hl, e0, e1, e7, e9, e12, e51⟩
            try simp only [↓WD, W0, evalOp, Nat.reduceEqDiff, Nat.reduceLT, ↓reduceIte, reduceCtorEq, hl, e0, e1, e7, e9, e12, e51]
            refine CondK_dec (fun c111 => ?_) (fun c111 => ?_)
            · rw [if_pos c111] at wr181
              try simp only [↓WD, W0, evalOp, Nat.reduceEqDiff, Nat.reduceLT, ↓reduceIte, reduceCtorEq, hl, e0, e1, e7, e9, e12, e51]
              rw [AW_region]
              obtain ⟨y112, qy112, wr181⟩ := obind wr181
              have og113 := fun (D : Drawn) (n : Nat) (g : AH) => call_hook (P := Try.prog) (D := D) k41 n (args := [.str delta, .int .i64 s.1]) (v := .tup [.int .i64 y112.1, .int .i64 y112.2.1, .int .i64 y112.2.2]) ((kf_41_eq delta s.1).trans (by rw [qy112]; rfl)) g
              refine AE_joinR (fun e h' => h106 = h' ∧ e.length = 126 ∧ e.getD 0 .undef = .str old_ ∧ e.getD 1 .undef = .str delta ∧ e.getD 9 .undef = .int .i64 y10.1 ∧ e.getD 12 .undef = .str s.2 ∧ e.getD 13 .undef = .int .i64 y112.1 ∧ e.getD 14 .undef = .int .i64 y112.2.1 ∧ e.getD 15 .undef = .int .i64 y112.2.2) (by
                simp only [↓WE, WA, WL, aop, ofValue, ofCell, isConst, abin, acall1, abuiltin, aun, AV.cells, AV.one, Nat.reduceAdd, Int.reduceLT, Int.reduceLE, ↓WD, W0, evalOp, Nat.reduceEqDiff, Nat.reduceLT, ↓reduceIte, reduceCtorEq, hl, e0, e1, e7, e9, e12, e51, og113]
                exact ⟨rfl, (by simp only [List.length_set, hl]), (by simp only [W0, Nat.reduceEqDiff, Nat.reduceLT, ↓reduceIte, hl, e0, e1, e7, e9, e12, e51]), (by simp only [W0, Nat.reduceEqDiff, Nat.reduceLT, ↓reduceIte, hl, e0, e1, e7, e9, e12, e51]), (by simp only [W0, Nat.reduceEqDiff, Nat.reduceLT, ↓reduceIte, hl, e0, e1, e7, e9, e12, e51]), (by simp only [W0, Nat.reduceEqDiff, Nat.reduceLT, ↓reduceIte, hl, e0, e1, e7, e9, e12, e51]), (by simp only [W0, Nat.reduceEqDiff, Nat.reduceLT, ↓reduceIte, hl, e0, e1, e7, e9, e12, e51]), (by simp only [W0, Nat.reduceEqDiff, Nat.reduceLT, ↓reduceIte, hl, e0, e1, e7, e9, e12, e51]), (by simp only [W0, Nat.reduceEqDiff, Nat.reduceLT, ↓reduceIte, hl, e0, e1, e7, e9, e12, e51])⟩) ?_
              rintro envg114 _ ⟨rfl, hl, e0, e1, e9, e12, e13, e14, e15⟩
              try simp only [↓WD, W0, evalOp, Nat.reduceEqDiff, Nat.reduceLT, ↓reduceIte, reduceCtorEq, hl, e0, e1, e9, e12, e13, e14, e15]
              rw [AW_region]
              refine AE_joinR (fun e h' => h106 = h' ∧ e.length = 126 ∧ e.getD 0 .undef = .str old_ ∧ e.getD 1 .undef = .str delta ∧ e.getD 9 .undef = .int .i64 y10.1 ∧ e.getD 12 .undef = .str s.2 ∧ e.getD 13 .undef = .int .i64 y112.1 ∧ e.getD 14 .undef = .int .i64 y112.2.1 ∧ e.getD 15 .undef = .int .i64 y112.2.2 ∧ e.getD 60 .undef = .bool (y112.2.2 != 0)) (by
                simp only [↓WE, WA, WL, aop, ofValue, ofCell, isConst, abin, acall1, abuiltin, aun, AV.cells, AV.one, Nat.reduceAdd, Int.reduceLT, Int.reduceLE, ↓WD, W0, evalOp, Nat.reduceEqDiff, Nat.reduceLT, ↓reduceIte, reduceCtorEq, hl, e0, e1, e9, e12, e13, e14, e15]
                exact ⟨rfl, (by simp only [List.length_set, hl]), (by simp only [W0, Nat.reduceEqDiff, Nat.reduceLT, ↓reduceIte, hl, e0, e1, e9, e12, e13, e14, e15]), (by simp only [W0, Nat.reduceEqDiff, Nat.reduceLT, ↓reduceIte, hl, e0, e1, e9, e12, e13, e14, e15]), (by simp only [W0, Nat.reduceEqDiff, Nat.reduceLT, ↓reduceIte, hl, e0, e1, e9, e12, e13, e14, e15]), (by simp only [W0, Nat.reduceEqDiff, Nat.reduceLT, ↓reduceIte, hl, e0, e1, e9, e12, e13, e14, e15]), (by simp only [W0, Nat.reduceEqDiff, Nat.reduceLT, ↓reduceIte, hl, e0, e1, e9, e12, e13, e14, e15]), (by simp only [W0, Nat.reduceEqDiff, Nat.reduceLT, ↓reduceIte, hl, e0, e1, e9, e12, e13, e14, e15]), (by simp only [W0, Nat.reduceEqDiff, Nat.reduceLT, ↓reduceIte, hl, e0, e1, e9, e12, e13, e14, e15]), (by simp only [W0, Nat.reduceEqDiff, Nat.reduceLT, ↓reduceIte, hl, e0, e1, e9, e12, e13, e14, e15])⟩) ?_
              rintro envg115 _ ⟨rfl, hl, e0, e1, e9, e12, e13, e14, e15, e60⟩
              try simp only [↓WD, W0, evalOp, Nat.reduceEqDiff, Nat.reduceLT, ↓reduceIte, reduceCtorEq, hl, e0, e1, e9, e12, e13, e14, e15, e60]
              refine CondK_boo (fun c118 => ?_) (fun c118 => ?_)
              · rw [if_pos c118] at wr181
                try simp only [↓WD, W0, evalOp, Nat.reduceEqDiff, Nat.reduceLT, ↓reduceIte, reduceCtorEq, hl, e0, e1, e9, e12, e13, e14, e15, e60]
                rw [AW_region]
                refine AE_joinR (fun e h' => h106 = h' ∧ e.length = 126 ∧ e.getD 4 .undef = .str [] ∧ e.getD 5 .undef = .int .i64 y112.2.2) (by
                  simp only [↓WE, WA, WL, aop, ofValue, ofCell, isConst, abin, acall1, abuiltin, aun, AV.cells, AV.one, Nat.reduceAdd, Int.reduceLT, Int.reduceLE, ↓WD, W0, evalOp, Nat.reduceEqDiff, Nat.reduceLT, ↓reduceIte, reduceCtorEq, hl, e0, e1, e9, e12, e13, e14, e15, e60]
                  exact ⟨rfl, (by simp only [List.length_set, hl]), (by simp only [W0, Nat.reduceEqDiff, Nat.reduceLT, ↓reduceIte, hl, e0, e1, e9, e12, e13, e14, e15, e60]), (by simp only [W0, Nat.reduceEqDiff, Nat.reduceLT, ↓reduceIte, hl, e0, e1, e9, e12, e13, e14, e15, e60])⟩) ?_
                rintro envg119 _ ⟨rfl, hl, e4, e5⟩
                try simp only [↓WD, W0, evalOp, Nat.reduceEqDiff, Nat.reduceLT, ↓reduceIte, reduceCtorEq, hl, e4, e5]
                obtain rfl := Option.some.inj wr181
                rw [KP_nil, QL_ret]
                exact ⟨_, rfl, .inr (⟨_, rfl, rfl, (by simp only [List.length_set, hl]), (by simp only [W0, Nat.reduceEqDiff, Nat.reduceLT, ↓reduceIte, hl, e4, e5]), (by simp only [W0, Nat.reduceEqDiff, Nat.reduceLT, ↓reduceIte, hl, e4, e5]), S107⟩)⟩
              · rw [if_neg (nf c118)] at wr181
                try simp only [↓WD, W0, evalOp, Nat.reduceEqDiff, Nat.reduceLT, ↓reduceIte, reduceCtorEq, hl, e0, e1, e9, e12, e13, e14, e15, e60]
                rw [AW_region]
                refine AE_joinR (fun e h' => h106 = h' ∧ e.length = 126 ∧ e.getD 0 .undef = .str old_ ∧ e.getD 1 .undef = .str delta ∧ e.getD 9 .undef = .int .i64 y10.1 ∧ e.getD 12 .undef = .str s.2 ∧ e.getD 13 .undef = .int .i64 y112.1 ∧ e.getD 14 .undef = .int .i64 y112.2.1 ∧ e.getD 16 .undef = .int .i64 0) (by
                  simp only [↓WE, WA, WL, aop, ofValue, ofCell, isConst, abin, acall1, abuiltin, aun, AV.cells, AV.one, Nat.reduceAdd, Int.reduceLT, Int.reduceLE, ↓WD, W0, evalOp, Nat.reduceEqDiff, Nat.reduceLT, ↓reduceIte, reduceCtorEq, hl, e0, e1, e9, e12, e13, e14, e15, e60]
                  exact ⟨rfl, (by simp only [List.length_set, hl]), (by simp only [W0, Nat.reduceEqDiff, Nat.reduceLT, ↓reduceIte, hl, e0, e1, e9, e12, e13, e14, e15, e60]), (by simp only [W0, Nat.reduceEqDiff, Nat.reduceLT, ↓reduceIte, hl, e0, e1, e9, e12, e13, e14, e15, e60]), (by simp only [W0, Nat.reduceEqDiff, Nat.reduceLT, ↓reduceIte, hl, e0, e1, e9, e12, e13, e14, e15, e60]), (by simp only [W0, Nat.reduceEqDiff, Nat.reduceLT, ↓reduceIte, hl, e0, e1, e9, e12, e13, e14, e15, e60]), (by simp only [W0, Nat.reduceEqDiff, Nat.reduceLT, ↓reduceIte, hl, e0, e1, e9, e12, e13, e14, e15, e60]), (by simp only [W0, Nat.reduceEqDiff, Nat.reduceLT, ↓reduceIte, hl, e0, e1, e9, e12, e13, e14, e15, e60]), (by simp only [W0, Nat.reduceEqDiff, Nat.reduceLT, ↓reduceIte, hl, e0, e1, e9, e12, e13, e14, e15, e60])⟩) ?_
                rintro envg120 _ ⟨rfl, hl, e0, e1, e9, e12, e13, e14, e16⟩
                try simp only [↓WD, W0, evalOp, Nat.reduceEqDiff, Nat.reduceLT, ↓reduceIte, reduceCtorEq, hl, e0, e1, e9, e12, e13, e14, e16]
                rw [AW_region]
                obtain ⟨j125, qj125, wr181⟩ := obind wr181
                refine AE_joinR (fun e h' => e.length = 126 ∧ e.getD 0 .undef = .str old_ ∧ e.getD 1 .undef = .str delta ∧ e.getD 9 .undef = .int .i64 y10.1 ∧ e.getD 12 .undef = .str s.2 ∧ e.getD 13 .undef = .int .i64 y112.1 ∧ e.getD 14 .undef = .int .i64 y112.2.1 ∧ e.getD 16 .undef = .int .i64 0 ∧ e.getD 68 .undef = .bool j125 ∧ Sep h [] h' []) ?_ ?_
                · obtain ⟨y121, qy121, qj125⟩ := obind qj125
                  have oy121 := rem_int (k := .i64) qy121
                  simp only [↓WE, WA, WL, aop, ofValue, ofCell, isConst, abin, acall1, abuiltin, aun, AV.cells, AV.one, Nat.reduceAdd, Int.reduceLT, Int.reduceLE, ↓WD, W0, evalOp, Nat.reduceEqDiff, Nat.reduceLT, ↓reduceIte, reduceCtorEq, hl, e0, e1, e9, e12, e13, e14, e16, oy121]
                  refine GuardW_boo (fun c122 => ?_) (fun c122 => ?_)
                  · rw [if_pos c122] at qj125
                    have d123 := c122
                    simp only [↓WE, WA, WL, aop, ofValue, ofCell, isConst, abin, acall1, abuiltin, aun, AV.cells, AV.one, Nat.reduceAdd, Int.reduceLT, Int.reduceLE, ↓WD, W0, evalOp, Nat.reduceEqDiff, Nat.reduceLT, ↓reduceIte, reduceCtorEq, hl, e0, e1, e9, e12, e13, e14, e16, oy121, d123]
                    obtain rfl := Option.some.inj qj125
                    exact ⟨(by simp only [List.length_set, hl]), (by simp only [W0, Nat.reduceEqDiff, Nat.reduceLT, ↓reduceIte, hl, e0, e1, e9, e12, e13, e14, e16]), (by simp only [W0, Nat.reduceEqDiff, Nat.reduceLT, ↓reduceIte, hl, e0, e1, e9, e12, e13, e14, e16]), (by simp only [W0, Nat.reduceEqDiff, Nat.reduceLT, ↓reduceIte, hl, e0, e1, e9, e12, e13, e14, e16]), (by simp only [W0, Nat.reduceEqDiff, Nat.reduceLT, ↓reduceIte, hl, e0, e1, e9, e12, e13, e14, e16]), (by simp only [W0, Nat.reduceEqDiff, Nat.reduceLT, ↓reduceIte, hl, e0, e1, e9, e12, e13, e14, e16]), (by simp only [W0, Nat.reduceEqDiff, Nat.reduceLT, ↓reduceIte, hl, e0, e1, e9, e12, e13, e14, e16]), (by simp only [W0, Nat.reduceEqDiff, Nat.reduceLT, ↓reduceIte, hl, e0, e1, e9, e12, e13, e14, e16]), (by simp only [W0, Nat.reduceEqDiff, Nat.reduceLT, ↓reduceIte, hl, e0, e1, e9, e12, e13, e14, e16]), S107⟩
                  · rw [if_neg (nf c122)] at qj125
                    have d124 := c122
                    simp only [↓WE, WA, WL, aop, ofValue, ofCell, isConst, abin, acall1, abuiltin, aun, AV.cells, AV.one, Nat.reduceAdd, Int.reduceLT, Int.reduceLE, ↓WD, W0, evalOp, Nat.reduceEqDiff, Nat.reduceLT, ↓reduceIte, reduceCtorEq, hl, e0, e1, e9, e12, e13, e14, e16, oy121, d124]
                    obtain rfl := Option.some.inj qj125
                    exact ⟨(by simp only [List.length_set, hl]), (by simp only [W0, Nat.reduceEqDiff, Nat.reduceLT, ↓reduceIte, hl, e0, e1, e9, e12, e13, e14, e16]), (by simp only [W0, Nat.reduceEqDiff, Nat.reduceLT, ↓reduceIte, hl, e0, e1, e9, e12, e13, e14, e16]), (by simp only [W0, Nat.reduceEqDiff, Nat.reduceLT, ↓reduceIte, hl, e0, e1, e9, e12, e13, e14, e16]), (by simp only [W0, Nat.reduceEqDiff, Nat.reduceLT, ↓reduceIte, hl, e0, e1, e9, e12, e13, e14, e16]), (by simp only [W0, Nat.reduceEqDiff, Nat.reduceLT, ↓reduceIte, hl, e0, e1, e9, e12, e13, e14, e16]), (by simp only [W0, Nat.reduceEqDiff, Nat.reduceLT, ↓reduceIte, hl, e0, e1, e9, e12, e13, e14, e16]), (by simp only [W0, Nat.reduceEqDiff, Nat.reduceLT, ↓reduceIte, hl, e0, e1, e9, e12, e13, e14, e16]), (by simp only [W0, Nat.reduceEqDiff, Nat.reduceLT, ↓reduceIte, hl, e0, e1, e9, e12, e13, e14, e16]), S107⟩
                · rintro envj125 h127 ⟨hl, e0, e1, e9, e12, e13, e14, e16, e68, S126⟩
                  try simp only [↓WD, W0, evalOp, Nat.reduceEqDiff, Nat.reduceLT, ↓reduceIte, reduceCtorEq, hl, e0, e1, e9, e12, e13, e14, e16, e68]
                  obtain ⟨j139, qj139, wr181⟩ := obind wr181
                  refine CondK_join (fun e h' => ∃ (cj139 : Int × Int), j139 = .inl cj139 ∧ e.length = 126 ∧ e.getD 0 .undef = .str old_ ∧ e.getD 1 .undef = .str delta ∧ e.getD 9 .undef = .int .i64 y10.1 ∧ e.getD 12 .undef = .str s.2 ∧ e.getD 13 .undef = .int .i64 y112.1 ∧ e.getD 14 .undef = .int .i64 cj139.1 ∧ e.getD 16 .undef = .int .i64 cj139.2 ∧ Sep h [] h' []) ?_ ?_
                  · refine CondK_boo (fun c128 => ?_) (fun c128 => ?_)
                    · rw [if_pos c128] at qj139
                      try simp only [↓WD, W0, evalOp, Nat.reduceEqDiff, Nat.reduceLT, ↓reduceIte, reduceCtorEq, hl, e0, e1, e9, e12, e13, e14, e16, e68]
                      rw [AW_region]
                      obtain ⟨y129, qy129, qj139⟩ := obind qj139
                      have og130 := fun (D : Drawn) (n : Nat) (g : AH) => call_hook (P := Try.prog) (D := D) k41 n (args := [.str delta, .int .i64 y112.2.1]) (v := .tup [.int .i64 y129.1, .int .i64 y129.2.1, .int .i64 y129.2.2]) ((kf_41_eq delta y112.2.1).trans (by rw [qy129]; rfl)) g
                      refine AE_joinR (fun e h' => h127 = h' ∧ e.length = 126 ∧ e.getD 0 .undef = .str old_ ∧ e.getD 1 .undef = .str delta ∧ e.getD 9 .undef = .int .i64 y10.1 ∧ e.getD 12 .undef = .str s.2 ∧ e.getD 13 .undef = .int .i64 y112.1 ∧ e.getD 17 .undef = .int .i64 y129.1 ∧ e.getD 18 .undef = .int .i64 y129.2.1 ∧ e.getD 19 .undef = .int .i64 y129.2.2) (by
                        simp only [↓WE, WA, WL, aop, ofValue, ofCell, isConst, abin, acall1, abuiltin, aun, AV.cells, AV.one, Nat.reduceAdd, Int.reduceLT, Int.reduceLE, ↓WD, W0, evalOp, Nat.reduceEqDiff, Nat.reduceLT, ↓reduceIte, reduceCtorEq, hl, e0, e1, e9, e12, e13, e14, e16, e68, og130]
                        exact ⟨rfl, (by simp only [List.length_set, hl]), (by simp only [W0, Nat.reduceEqDiff, Nat.reduceLT, ↓reduceIte, hl, e0, e1, e9, e12, e13, e14, e16, e68]), (by simp only [W0, Nat.reduceEqDiff, Nat.reduceLT, ↓reduceIte, hl, e0, e1, e9, e12, e13, e14, e16, e68]), (by simp only [W0, Nat.reduceEqDiff, Nat.reduceLT, ↓reduceIte, hl, e0, e1, e9, e12, e13, e14, e16, e68]), (by simp only [W0, Nat.reduceEqDiff, Nat.reduceLT, ↓reduceIte, hl, e0, e1, e9, e12, e13, e14, e16, e68]), (by simp only [W0, Nat.reduceEqDiff, Nat.reduceLT, ↓reduceIte, hl, e0, e1, e9, e12, e13, e14, e16, e68]), (by simp only [W0, Nat.reduceEqDiff, Nat.reduceLT, ↓reduceIte, hl, e0, e1, e9, e12, e13, e14, e16, e68]), (by simp only [W0, Nat.reduceEqDiff, Nat.reduceLT, ↓reduceIte, hl, e0, e1, e9, e12, e13, e14, e16, e68]), (by simp only [W0, Nat.reduceEqDiff, Nat.reduceLT, ↓reduceIte, hl, e0, e1, e9, e12, e13, e14, e16, e68])⟩) ?_
                      rintro envg131 _ ⟨rfl, hl, e0, e1, e9, e12, e13, e17, e18, e19⟩
                      try simp only [↓WD, W0, evalOp, Nat.reduceEqDiff, Nat.reduceLT, ↓reduceIte, reduceCtorEq, hl, e0, e1, e9, e12, e13, e17, e18, e19]
                      rw [AW_region]
                      refine AE_joinR (fun e h' => h127 = h' ∧ e.length = 126 ∧ e.getD 0 .undef = .str old_ ∧ e.getD 1 .undef = .str delta ∧ e.getD 9 .undef = .int .i64 y10.1 ∧ e.getD 12 .undef = .str s.2 ∧ e.getD 13 .undef = .int .i64 y112.1 ∧ e.getD 17 .undef = .int .i64 y129.1 ∧ e.getD 18 .undef = .int .i64 y129.2.1 ∧ e.getD 19 .undef = .int .i64 y129.2.2 ∧ e.getD 77 .undef = .bool (y129.2.2 != 0)) (by
                        simp only [↓WE, WA, WL, aop, ofValue, ofCell, isConst, abin, acall1, abuiltin, aun, AV.cells, AV.one, Nat.reduceAdd, Int.reduceLT, Int.reduceLE, ↓WD, W0, evalOp, Nat.reduceEqDiff, Nat.reduceLT, ↓reduceIte, reduceCtorEq, hl, e0, e1, e9, e12, e13, e17, e18, e19]
                        exact ⟨rfl, (by simp only [List.length_set, hl]), (by simp only [W0, Nat.reduceEqDiff, Nat.reduceLT, ↓reduceIte, hl, e0, e1, e9, e12, e13, e17, e18, e19]), (by simp only [W0, Nat.reduceEqDiff, Nat.reduceLT, ↓reduceIte, hl, e0, e1, e9, e12, e13, e17, e18, e19]), (by simp only [W0, Nat.reduceEqDiff, Nat.reduceLT, ↓reduceIte, hl, e0, e1, e9, e12, e13, e17, e18, e19]), (by simp only [W0, Nat.reduceEqDiff, Nat.reduceLT, ↓reduceIte, hl, e0, e1, e9, e12, e13, e17, e18, e19]), (by simp only [W0, Nat.reduceEqDiff, Nat.reduceLT, ↓reduceIte, hl, e0, e1, e9, e12, e13, e17, e18, e19]), (by simp only [W0, Nat.reduceEqDiff, Nat.reduceLT, ↓reduceIte, hl, e0, e1, e9, e12, e13, e17, e18, e19]), (by simp only [W0, Nat.reduceEqDiff, Nat.reduceLT, ↓reduceIte, hl, e0, e1, e9, e12, e13, e17, e18, e19]), (by simp only [W0, Nat.reduceEqDiff, Nat.reduceLT, ↓reduceIte, hl, e0, e1, e9, e12, e13, e17, e18, e19]), (by simp only [W0, Nat.reduceEqDiff, Nat.reduceLT, ↓reduceIte, hl, e0, e1, e9, e12, e13, e17, e18, e19])⟩) ?_
                      rintro envg132 _ ⟨rfl, hl, e0, e1, e9, e12, e13, e17, e18, e19, e77⟩
                      try simp only [↓WD, W0, evalOp, Nat.reduceEqDiff, Nat.reduceLT, ↓reduceIte, reduceCtorEq, hl, e0, e1, e9, e12, e13, e17, e18, e19, e77]
                      refine CondK_boo (fun c135 => ?_) (fun c135 => ?_)
                      · rw [if_pos c135] at qj139
                        try simp only [↓WD, W0, evalOp, Nat.reduceEqDiff, Nat.reduceLT, ↓reduceIte, reduceCtorEq, hl, e0, e1, e9, e12, e13, e17, e18, e19, e77]
                        rw [AW_region]
                        refine AE_joinR (fun e h' => h127 = h' ∧ e.length = 126 ∧ e.getD 4 .undef = .str [] ∧ e.getD 5 .undef = .int .i64 y129.2.2) (by
                          simp only [↓WE, WA, WL, aop, ofValue, ofCell, isConst, abin, acall1, abuiltin, aun, AV.cells, AV.one, Nat.reduceAdd, Int.reduceLT, Int.reduceLE, ↓WD, W0, evalOp, Nat.reduceEqDiff, Nat.reduceLT, ↓reduceIte, reduceCtorEq, hl, e0, e1, e9, e12, e13, e17, e18, e19, e77]
                          exact ⟨rfl, (by simp only [List.length_set, hl]), (by simp only [W0, Nat.reduceEqDiff, Nat.reduceLT, ↓reduceIte, hl, e0, e1, e9, e12, e13, e17, e18, e19, e77]), (by simp only [W0, Nat.reduceEqDiff, Nat.reduceLT, ↓reduceIte, hl, e0, e1, e9, e12, e13, e17, e18, e19, e77])⟩) ?_
                        rintro envg136 _ ⟨rfl, hl, e4, e5⟩
                        try simp only [↓WD, W0, evalOp, Nat.reduceEqDiff, Nat.reduceLT, ↓reduceIte, reduceCtorEq, hl, e4, e5]
                        rw [KP_nil, KJ_ret]
                        try simp only [↓WD, W0, evalOp, Nat.reduceEqDiff, Nat.reduceLT, ↓reduceIte, reduceCtorEq, hl, e4, e5]
                        obtain rfl := Option.some.inj qj139
                        rw [sumK_inr] at wr181
                        obtain rfl := Option.some.inj wr181
                        rw [KP_nil, QL_ret]
                        exact ⟨_, rfl, .inr (⟨_, rfl, rfl, (by simp only [List.length_set, hl]), (by simp only [W0, Nat.reduceEqDiff, Nat.reduceLT, ↓reduceIte, hl, e4, e5]), (by simp only [W0, Nat.reduceEqDiff, Nat.reduceLT, ↓reduceIte, hl, e4, e5]), S126⟩)⟩
                      · rw [if_neg (nf c135)] at qj139
                        try simp only [↓WD, W0, evalOp, Nat.reduceEqDiff, Nat.reduceLT, ↓reduceIte, reduceCtorEq, hl, e0, e1, e9, e12, e13, e17, e18, e19, e77]
                        rw [AW_region]
                        refine AE_joinR (fun e h' => h127 = h' ∧ e.length = 126 ∧ e.getD 0 .undef = .str old_ ∧ e.getD 1 .undef = .str delta ∧ e.getD 9 .undef = .int .i64 y10.1 ∧ e.getD 12 .undef = .str s.2 ∧ e.getD 13 .undef = .int .i64 y112.1 ∧ e.getD 16 .undef = .int .i64 y129.1 ∧ e.getD 18 .undef = .int .i64 y129.2.1) (by
                          simp only [↓WE, WA, WL, aop, ofValue, ofCell, isConst, abin, acall1, abuiltin, aun, AV.cells, AV.one, Nat.reduceAdd, Int.reduceLT, Int.reduceLE, ↓WD, W0, evalOp, Nat.reduceEqDiff, Nat.reduceLT, ↓reduceIte, reduceCtorEq, hl, e0, e1, e9, e12, e13, e17, e18, e19, e77]
                          exact ⟨rfl, (by simp only [List.length_set, hl]), (by simp only [W0, Nat.reduceEqDiff, Nat.reduceLT, ↓reduceIte, hl, e0, e1, e9, e12, e13, e17, e18, e19, e77]), (by simp only [W0, Nat.reduceEqDiff, Nat.reduceLT, ↓reduceIte, hl, e0, e1, e9, e12, e13, e17, e18, e19, e77]), (by simp only [W0, Nat.reduceEqDiff, Nat.reduceLT, ↓reduceIte, hl, e0, e1, e9, e12, e13, e17, e18, e19, e77]), (by simp only [W0, Nat.reduceEqDiff, Nat.reduceLT, ↓reduceIte, hl, e0, e1, e9, e12, e13, e17, e18, e19, e77]), (by simp only [W0, Nat.reduceEqDiff, Nat.reduceLT, ↓reduceIte, hl, e0, e1, e9, e12, e13, e17, e18, e19, e77]), (by simp only [W0, Nat.reduceEqDiff, Nat.reduceLT, ↓reduceIte, hl, e0, e1, e9, e12, e13, e17, e18, e19, e77]), (by simp only [W0, Nat.reduceEqDiff, Nat.reduceLT, ↓reduceIte, hl, e0, e1, e9, e12, e13, e17, e18, e19, e77])⟩) ?_
                        rintro envg137 _ ⟨rfl, hl, e0, e1, e9, e12, e13, e16, e18⟩
                        try simp only [↓WD, W0, evalOp, Nat.reduceEqDiff, Nat.reduceLT, ↓reduceIte, reduceCtorEq, hl, e0, e1, e9, e12, e13, e16, e18]
                        rw [AW_region]
                        refine AE_joinR (fun e h' => h127 = h' ∧ e.length = 126 ∧ e.getD 0 .undef = .str old_ ∧ e.getD 1 .undef = .str delta ∧ e.getD 9 .undef = .int .i64 y10.1 ∧ e.getD 12 .undef = .str s.2 ∧ e.getD 13 .undef = .int .i64 y112.1 ∧ e.getD 14 .undef = .int .i64 y129.2.1 ∧ e.getD 16 .undef = .int .i64 y129.1) (by
                          simp only [↓WE, WA, WL, aop, ofValue, ofCell, isConst, abin, acall1, abuiltin, aun, AV.cells, AV.one, Nat.reduceAdd, Int.reduceLT, Int.reduceLE, ↓WD, W0, evalOp, Nat.reduceEqDiff, Nat.reduceLT, ↓reduceIte, reduceCtorEq, hl, e0, e1, e9, e12, e13, e16, e18]
                          exact ⟨rfl, (by simp only [List.length_set, hl]), (by simp only [W0, Nat.reduceEqDiff, Nat.reduceLT, ↓reduceIte, hl, e0, e1, e9, e12, e13, e16, e18]), (by simp only [W0, Nat.reduceEqDiff, Nat.reduceLT, ↓reduceIte, hl, e0, e1, e9, e12, e13, e16, e18]), (by simp only [W0, Nat.reduceEqDiff, Nat.reduceLT, ↓reduceIte, hl, e0, e1, e9, e12, e13, e16, e18]), (by simp only [W0, Nat.reduceEqDiff, Nat.reduceLT, ↓reduceIte, hl, e0, e1, e9, e12, e13, e16, e18]), (by simp only [W0, Nat.reduceEqDiff, Nat.reduceLT, ↓reduceIte, hl, e0, e1, e9, e12, e13, e16, e18]), (by simp only [W0, Nat.reduceEqDiff, Nat.reduceLT, ↓reduceIte, hl, e0, e1, e9, e12, e13, e16, e18]), (by simp only [W0, Nat.reduceEqDiff, Nat.reduceLT, ↓reduceIte, hl, e0, e1, e9, e12, e13, e16, e18])⟩) ?_
                        rintro envg138 _ ⟨rfl, hl, e0, e1, e9, e12, e13, e14, e16⟩
                        try simp only [↓WD, W0, evalOp, Nat.reduceEqDiff, Nat.reduceLT, ↓reduceIte, reduceCtorEq, hl, e0, e1, e9, e12, e13, e14, e16]
                        rw [KP_nil, KJ_normal]
                        obtain rfl := Option.some.inj qj139
                        exact ⟨_, rfl, (by simp only [List.length_set, hl]), (by simp only [W0, Nat.reduceEqDiff, Nat.reduceLT, ↓reduceIte, hl, e0, e1, e9, e12, e13, e14, e16]), (by simp only [W0, Nat.reduceEqDiff, Nat.reduceLT, ↓reduceIte, hl, e0, e1, e9, e12, e13, e14, e16]), (by simp only [W0, Nat.reduceEqDiff, Nat.reduceLT, ↓reduceIte, hl, e0, e1, e9, e12, e13, e14, e16]), (by simp only [W0, Nat.reduceEqDiff, Nat.reduceLT, ↓reduceIte, hl, e0, e1, e9, e12, e13, e14, e16]), (by simp only [W0, Nat.reduceEqDiff, Nat.reduceLT, ↓reduceIte, hl, e0, e1, e9, e12, e13, e14, e16]), (by simp only [W0, Nat.reduceEqDiff, Nat.reduceLT, ↓reduceIte, hl, e0, e1, e9, e12, e13, e14, e16]), (by simp only [W0, Nat.reduceEqDiff, Nat.reduceLT, ↓reduceIte, hl, e0, e1, e9, e12, e13, e14, e16]), S126⟩
                    · rw [if_neg (nf c128)] at qj139
                      try simp only [↓WD, W0, evalOp, Nat.reduceEqDiff, Nat.reduceLT, ↓reduceIte, reduceCtorEq, hl, e0, e1, e9, e12, e13, e14, e16, e68]
                      rw [KP_nil, KJ_normal]
                      obtain rfl := Option.some.inj qj139
                      exact ⟨_, rfl, (by simp only [List.length_set, hl]), (by simp only [W0, Nat.reduceEqDiff, Nat.reduceLT, ↓reduceIte, hl, e0, e1, e9, e12, e13, e14, e16, e68]), (by simp only [W0, Nat.reduceEqDiff, Nat.reduceLT, ↓reduceIte, hl, e0, e1, e9, e12, e13, e14, e16, e68]), (by simp only [W0, Nat.reduceEqDiff, Nat.reduceLT, ↓reduceIte, hl, e0, e1, e9, e12, e13, e14, e16, e68]), (by simp only [W0, Nat.reduceEqDiff, Nat.reduceLT, ↓reduceIte, hl, e0, e1, e9, e12, e13, e14, e16, e68]), (by simp only [W0, Nat.reduceEqDiff, Nat.reduceLT, ↓reduceIte, hl, e0, e1, e9, e12, e13, e14, e16, e68]), (by simp only [W0, Nat.reduceEqDiff, Nat.reduceLT, ↓reduceIte, hl, e0, e1, e9, e12, e13, e14, e16, e68]), (by simp only [W0, Nat.reduceEqDiff, Nat.reduceLT, ↓reduceIte, hl, e0, e1, e9, e12, e13, e14, e16, e68]), S126⟩
                  · rintro envj139 h141 ⟨cj139, rfl, hl, e0, e1, e9, e12, e13, e14, e16, S140⟩
                    rw [sumK_inl] at wr181
                    try simp only [↓WD, W0, evalOp, Nat.reduceEqDiff, Nat.reduceLT, ↓reduceIte, reduceCtorEq, hl, e0, e1, e9, e12, e13, e14, e16]
                    rw [AW_region]
                    refine AE_joinR (fun e h' => h141 = h' ∧ e.length = 126 ∧ e.getD 0 .undef = .str old_ ∧ e.getD 1 .undef = .str delta ∧ e.getD 9 .undef = .int .i64 y10.1 ∧ e.getD 12 .undef = .str s.2 ∧ e.getD 13 .undef = .int .i64 y112.1 ∧ e.getD 14 .undef = .int .i64 cj139.1 ∧ e.getD 16 .undef = .int .i64 cj139.2 ∧ e.getD 82 .undef = .bool (decide (y112.1 < 2))) (by
                      simp only [↓WE, WA, WL, aop, ofValue, ofCell, isConst, abin, acall1, abuiltin, aun, AV.cells, AV.one, Nat.reduceAdd, Int.reduceLT, Int.reduceLE, ↓WD, W0, evalOp, Nat.reduceEqDiff, Nat.reduceLT, ↓reduceIte, reduceCtorEq, hl, e0, e1, e9, e12, e13, e14, e16]
                      exact ⟨rfl, (by simp only [List.length_set, hl]), (by simp only [W0, Nat.reduceEqDiff, Nat.reduceLT, ↓reduceIte, hl, e0, e1, e9, e12, e13, e14, e16]), (by simp only [W0, Nat.reduceEqDiff, Nat.reduceLT, ↓reduceIte, hl, e0, e1, e9, e12, e13, e14, e16]), (by simp only [W0, Nat.reduceEqDiff, Nat.reduceLT, ↓reduceIte, hl, e0, e1, e9, e12, e13, e14, e16]), (by simp only [W0, Nat.reduceEqDiff, Nat.reduceLT, ↓reduceIte, hl, e0, e1, e9, e12, e13, e14, e16]), (by simp only [W0, Nat.reduceEqDiff, Nat.reduceLT, ↓reduceIte, hl, e0, e1, e9, e12, e13, e14, e16]), (by simp only [W0, Nat.reduceEqDiff, Nat.reduceLT, ↓reduceIte, hl, e0, e1, e9, e12, e13, e14, e16]), (by simp only [W0, Nat.reduceEqDiff, Nat.reduceLT, ↓reduceIte, hl, e0, e1, e9, e12, e13, e14, e16]), (by simp only [W0, Nat.reduceEqDiff, Nat.reduceLT, ↓reduceIte, hl, e0, e1, e9, e12, e13, e14, e16])⟩) ?_
                    rintro envg142 _ ⟨rfl, hl, e0, e1, e9, e12, e13, e14, e16, e82⟩
                    try simp only [↓WD, W0, evalOp, Nat.reduceEqDiff, Nat.reduceLT, ↓reduceIte, reduceCtorEq, hl, e0, e1, e9, e12, e13, e14, e16, e82]
                    refine CondK_dec (fun c145 => ?_) (fun c145 => ?_)
                    · rw [if_pos c145] at wr181
                      try simp only [↓WD, W0, evalOp, Nat.reduceEqDiff, Nat.reduceLT, ↓reduceIte, reduceCtorEq, hl, e0, e1, e9, e12, e13, e14, e16, e82]
                      rw [AW_region]
                      refine AE_joinR (fun e h' => h141 = h' ∧ e.length = 126 ∧ e.getD 4 .undef = .str [] ∧ e.getD 5 .undef = .int .i64 2) (by
                        simp only [↓WE, WA, WL, aop, ofValue, ofCell, isConst, abin, acall1, abuiltin, aun, AV.cells, AV.one, Nat.reduceAdd, Int.reduceLT, Int.reduceLE, ↓WD, W0, evalOp, Nat.reduceEqDiff, Nat.reduceLT, ↓reduceIte, reduceCtorEq, hl, e0, e1, e9, e12, e13, e14, e16, e82]
                        exact ⟨rfl, (by simp only [List.length_set, hl]), (by simp only [W0, Nat.reduceEqDiff, Nat.reduceLT, ↓reduceIte, hl, e0, e1, e9, e12, e13, e14, e16, e82]), (by simp only [W0, Nat.reduceEqDiff, Nat.reduceLT, ↓reduceIte, hl, e0, e1, e9, e12, e13, e14, e16, e82])⟩) ?_
                      rintro envg146 _ ⟨rfl, hl, e4, e5⟩
                      try simp only [↓WD, W0, evalOp, Nat.reduceEqDiff, Nat.reduceLT, ↓reduceIte, reduceCtorEq, hl, e4, e5]
                      obtain rfl := Option.some.inj wr181
                      rw [KP_nil, QL_ret]
                      exact ⟨_, rfl, .inr (⟨_, rfl, rfl, (by simp only [List.length_set, hl]), (by simp only [W0, Nat.reduceEqDiff, Nat.reduceLT, ↓reduceIte, hl, e4, e5]), (by simp only [W0, Nat.reduceEqDiff, Nat.reduceLT, ↓reduceIte, hl, e4, e5]), S140⟩)⟩
                    · rw [if_neg c145] at wr181
                      try simp only [↓WD, W0, evalOp, Nat.reduceEqDiff, Nat.reduceLT, ↓reduceIte, reduceCtorEq, hl, e0, e1, e9, e12, e13, e14, e16, e82]
                      rw [AW_region]
                      obtain ⟨y147, qy147, wr181⟩ := obind wr181
                      have oy147 := quo_int (k := .i64) qy147
                      refine AE_joinR (fun e h' => h141 = h' ∧ e.length = 126 ∧ e.getD 0 .undef = .str old_ ∧ e.getD 1 .undef = .str delta ∧ e.getD 9 .undef = .int .i64 y10.1 ∧ e.getD 12 .undef = .str s.2 ∧ e.getD 13 .undef = .int .i64 y112.1 ∧ e.getD 14 .undef = .int .i64 cj139.1 ∧ e.getD 16 .undef = .int .i64 cj139.2 ∧ e.getD 20 .undef = .int .i64 y147) (by
                        simp only [↓WE, WA, WL, aop, ofValue, ofCell, isConst, abin, acall1, abuiltin, aun, AV.cells, AV.one, Nat.reduceAdd, Int.reduceLT, Int.reduceLE, ↓WD, W0, evalOp, Nat.reduceEqDiff, Nat.reduceLT, ↓reduceIte, reduceCtorEq, hl, e0, e1, e9, e12, e13, e14, e16, e82, oy147]
                        exact ⟨rfl, (by simp only [List.length_set, hl]), (by simp only [W0, Nat.reduceEqDiff, Nat.reduceLT, ↓reduceIte, hl, e0, e1, e9, e12, e13, e14, e16, e82]), (by simp only [W0, Nat.reduceEqDiff, Nat.reduceLT, ↓reduceIte, hl, e0, e1, e9, e12, e13, e14, e16, e82]), (by simp only [W0, Nat.reduceEqDiff, Nat.reduceLT, ↓reduceIte, hl, e0, e1, e9, e12, e13, e14, e16, e82]), (by simp only [W0, Nat.reduceEqDiff, Nat.reduceLT, ↓reduceIte, hl, e0, e1, e9, e12, e13, e14, e16, e82]), (by simp only [W0, Nat.reduceEqDiff, Nat.reduceLT, ↓reduceIte, hl, e0, e1, e9, e12, e13, e14, e16, e82]), (by simp only [W0, Nat.reduceEqDiff, Nat.reduceLT, ↓reduceIte, hl, e0, e1, e9, e12, e13, e14, e16, e82]), (by simp only [W0, Nat.reduceEqDiff, Nat.reduceLT, ↓reduceIte, hl, e0, e1, e9, e12, e13, e14, e16, e82]), (by simp only [W0, Nat.reduceEqDiff, Nat.reduceLT, ↓reduceIte, hl, e0, e1, e9, e12, e13, e14, e16, e82])⟩) ?_
                      rintro envg148 _ ⟨rfl, hl, e0, e1, e9, e12, e13, e14, e16, e20⟩
                      try simp only [↓WD, W0, evalOp, Nat.reduceEqDiff, Nat.reduceLT, ↓reduceIte, reduceCtorEq, hl, e0, e1, e9, e12, e13, e14, e16, e20]
                      rw [AW_region]
                      refine AE_joinR (fun e h' => h141 = h' ∧ e.length = 126 ∧ e.getD 0 .undef = .str old_ ∧ e.getD 1 .undef = .str delta ∧ e.getD 9 .undef = .int .i64 y10.1 ∧ e.getD 12 .undef = .str s.2 ∧ e.getD 13 .undef = .int .i64 y112.1 ∧ e.getD 14 .undef = .int .i64 cj139.1 ∧ e.getD 16 .undef = .int .i64 cj139.2 ∧ e.getD 20 .undef = .int .i64 y147 ∧ e.getD 21 .undef = .str old_) (by
                        simp only [↓WE, WA, WL, aop, ofValue, ofCell, isConst, abin, acall1, abuiltin, aun, AV.cells, AV.one, Nat.reduceAdd, Int.reduceLT, Int.reduceLE, ↓WD, W0, evalOp, Nat.reduceEqDiff, Nat.reduceLT, ↓reduceIte, reduceCtorEq, hl, e0, e1, e9, e12, e13, e14, e16, e20]
                        exact ⟨rfl, (by simp only [List.length_set, hl]), (by simp only [W0, Nat.reduceEqDiff, Nat.reduceLT, ↓reduceIte, hl, e0, e1, e9, e12, e13, e14, e16, e20]), (by simp only [W0, Nat.reduceEqDiff, Nat.reduceLT, ↓reduceIte, hl, e0, e1, e9, e12, e13, e14, e16, e20]), (by simp only [W0, Nat.reduceEqDiff, Nat.reduceLT, ↓reduceIte, hl, e0, e1, e9, e12, e13, e14, e16, e20]), (by simp only [W0, Nat.reduceEqDiff, Nat.reduceLT, ↓reduceIte, hl, e0, e1, e9, e12, e13, e14, e16, e20]), (by simp only [W0, Nat.reduceEqDiff, Nat.reduceLT, ↓reduceIte, hl, e0, e1, e9, e12, e13, e14, e16, e20]), (by simp only [W0, Nat.reduceEqDiff, Nat.reduceLT, ↓reduceIte, hl, e0, e1, e9, e12, e13, e14, e16, e20]), (by simp only [W0, Nat.reduceEqDiff, Nat.reduceLT, ↓reduceIte, hl, e0, e1, e9, e12, e13, e14, e16, e20]), (by simp only [W0, Nat.reduceEqDiff, Nat.reduceLT, ↓reduceIte, hl, e0, e1, e9, e12, e13, e14, e16, e20]), (by simp only [W0, Nat.reduceEqDiff, Nat.reduceLT, ↓reduceIte, hl, e0, e1, e9, e12, e13, e14, e16, e20])⟩) ?_
                      rintro envg149 _ ⟨rfl, hl, e0, e1, e9, e12, e13, e14, e16, e20, e21⟩
                      try simp only [↓WD, W0, evalOp, Nat.reduceEqDiff, Nat.reduceLT, ↓reduceIte, reduceCtorEq, hl, e0, e1, e9, e12, e13, e14, e16, e20, e21]
                      rw [AW_region]
                      obtain ⟨y150, qy150, wr181⟩ := obind wr181
                      have oy150 := rem_int (k := .i64) qy150
                      refine AE_joinR (fun e h' => h141 = h' ∧ e.length = 126 ∧ e.getD 0 .undef = .str old_ ∧ e.getD 1 .undef = .str delta ∧ e.getD 9 .undef = .int .i64 y10.1 ∧ e.getD 12 .undef = .str s.2 ∧ e.getD 14 .undef = .int .i64 cj139.1 ∧ e.getD 16 .undef = .int .i64 cj139.2 ∧ e.getD 20 .undef = .int .i64 y147 ∧ e.getD 21 .undef = .str old_ ∧ e.getD 88 .undef = .bool (y150 == 1)) (by
                        simp only [↓WE, WA, WL, aop, ofValue, ofCell, isConst, abin, acall1, abuiltin, aun, AV.cells, AV.one, Nat.reduceAdd, Int.reduceLT, Int.reduceLE, ↓WD, W0, evalOp, Nat.reduceEqDiff, Nat.reduceLT, ↓reduceIte, reduceCtorEq, hl, e0, e1, e9, e12, e13, e14, e16, e20, e21, oy150]
                        exact ⟨rfl, (by simp only [List.length_set, hl]), (by simp only [W0, Nat.reduceEqDiff, Nat.reduceLT, ↓reduceIte, hl, e0, e1, e9, e12, e13, e14, e16, e20, e21]), (by simp only [W0, Nat.reduceEqDiff, Nat.reduceLT, ↓reduceIte, hl, e0, e1, e9, e12, e13, e14, e16, e20, e21]), (by simp only [W0, Nat.reduceEqDiff, Nat.reduceLT, ↓reduceIte, hl, e0, e1, e9, e12, e13, e14, e16, e20, e21]), (by simp only [W0, Nat.reduceEqDiff, Nat.reduceLT, ↓reduceIte, hl, e0, e1, e9, e12, e13, e14, e16, e20, e21]), (by simp only [W0, Nat.reduceEqDiff, Nat.reduceLT, ↓reduceIte, hl, e0, e1, e9, e12, e13, e14, e16, e20, e21]), (by simp only [W0, Nat.reduceEqDiff, Nat.reduceLT, ↓reduceIte, hl, e0, e1, e9, e12, e13, e14, e16, e20, e21]), (by simp only [W0, Nat.reduceEqDiff, Nat.reduceLT, ↓reduceIte, hl, e0, e1, e9, e12, e13, e14, e16, e20, e21]), (by simp only [W0, Nat.reduceEqDiff, Nat.reduceLT, ↓reduceIte, hl, e0, e1, e9, e12, e13, e14, e16, e20, e21]), (by simp only [W0, Nat.reduceEqDiff, Nat.reduceLT, ↓reduceIte, hl, e0, e1, e9, e12, e13, e14, e16, e20, e21])⟩) ?_
                      rintro envg151 _ ⟨rfl, hl, e0, e1, e9, e12, e14, e16, e20, e21, e88⟩
                      try simp only [↓WD, W0, evalOp, Nat.reduceEqDiff, Nat.reduceLT, ↓reduceIte, reduceCtorEq, hl, e0, e1, e9, e12, e14, e16, e20, e21, e88]
                      obtain ⟨j156, qj156, wr181⟩ := obind wr181
                      refine CondK_join (fun e h' => e.length = 126 ∧ e.getD 0 .undef = .str old_ ∧ e.getD 1 .undef = .str delta ∧ e.getD 9 .undef = .int .i64 y10.1 ∧ e.getD 12 .undef = .str s.2 ∧ e.getD 14 .undef = .int .i64 j156.1 ∧ e.getD 16 .undef = .int .i64 j156.2.1 ∧ e.getD 20 .undef = .int .i64 y147 ∧ e.getD 21 .undef = .str j156.2.2 ∧ Sep h [] h' []) ?_ ?_
                      · refine CondK_boo (fun c152 => ?_) (fun c152 => ?_)
                        · rw [if_pos c152] at qj156
                          try simp only [↓WD, W0, evalOp, Nat.reduceEqDiff, Nat.reduceLT, ↓reduceIte, reduceCtorEq, hl, e0, e1, e9, e12, e14, e16, e20, e21, e88]
                          rw [AW_region]
                          refine AE_joinR (fun e h' => h141 = h' ∧ e.length = 126 ∧ e.getD 0 .undef = .str old_ ∧ e.getD 1 .undef = .str delta ∧ e.getD 9 .undef = .int .i64 y10.1 ∧ e.getD 12 .undef = .str s.2 ∧ e.getD 14 .undef = .int .i64 cj139.1 ∧ e.getD 20 .undef = .int .i64 y147 ∧ e.getD 21 .undef = .str delta) (by
                            simp only [↓WE, WA, WL, aop, ofValue, ofCell, isConst, abin, acall1, abuiltin, aun, AV.cells, AV.one, Nat.reduceAdd, Int.reduceLT, Int.reduceLE, ↓WD, W0, evalOp, Nat.reduceEqDiff, Nat.reduceLT, ↓reduceIte, reduceCtorEq, hl, e0, e1, e9, e12, e14, e16, e20, e21, e88]
                            exact ⟨rfl, (by simp only [List.length_set, hl]), (by simp only [W0, Nat.reduceEqDiff, Nat.reduceLT, ↓reduceIte, hl, e0, e1, e9, e12, e14, e16, e20, e21, e88]), (by simp only [W0, Nat.reduceEqDiff, Nat.reduceLT, ↓reduceIte, hl, e0, e1, e9, e12, e14, e16, e20, e21, e88]), (by simp only [W0, Nat.reduceEqDiff, Nat.reduceLT, ↓reduceIte, hl, e0, e1, e9, e12, e14, e16, e20, e21, e88]), (by simp only [W0, Nat.reduceEqDiff, Nat.reduceLT, ↓reduceIte, hl, e0, e1, e9, e12, e14, e16, e20, e21, e88]), (by simp only [W0, Nat.reduceEqDiff, Nat.reduceLT, ↓reduceIte, hl, e0, e1, e9, e12, e14, e16, e20, e21, e88]), (by simp only [W0, Nat.reduceEqDiff, Nat.reduceLT, ↓reduceIte, hl, e0, e1, e9, e12, e14, e16, e20, e21, e88]), (by simp only [W0, Nat.reduceEqDiff, Nat.reduceLT, ↓reduceIte, hl, e0, e1, e9, e12, e14, e16, e20, e21, e88])⟩) ?_
                          rintro envg153 _ ⟨rfl, hl, e0, e1, e9, e12, e14, e20, e21⟩
                          try simp only [↓WD, W0, evalOp, Nat.reduceEqDiff, Nat.reduceLT, ↓reduceIte, reduceCtorEq, hl, e0, e1, e9, e12, e14, e20, e21]
                          rw [AW_region]
                          refine AE_joinR (fun e h' => h141 = h' ∧ e.length = 126 ∧ e.getD 0 .undef = .str old_ ∧ e.getD 1 .undef = .str delta ∧ e.getD 9 .undef = .int .i64 y10.1 ∧ e.getD 12 .undef = .str s.2 ∧ e.getD 14 .undef = .int .i64 cj139.1 ∧ e.getD 16 .undef = .int .i64 cj139.1 ∧ e.getD 20 .undef = .int .i64 y147 ∧ e.getD 21 .undef = .str delta) (by
                            simp only [↓WE, WA, WL, aop, ofValue, ofCell, isConst, abin, acall1, abuiltin, aun, AV.cells, AV.one, Nat.reduceAdd, Int.reduceLT, Int.reduceLE, ↓WD, W0, evalOp, Nat.reduceEqDiff, Nat.reduceLT, ↓reduceIte, reduceCtorEq, hl, e0, e1, e9, e12, e14, e20, e21]
                            exact ⟨rfl, (by simp only [List.length_set, hl]), (by simp only [W0, Nat.reduceEqDiff, Nat.reduceLT, ↓reduceIte, hl, e0, e1, e9, e12, e14, e20, e21]), (by simp only [W0, Nat.reduceEqDiff, Nat.reduceLT, ↓reduceIte, hl, e0, e1, e9, e12, e14, e20, e21]), (by simp only [W0, Nat.reduceEqDiff, Nat.reduceLT, ↓reduceIte, hl, e0, e1, e9, e12, e14, e20, e21]), (by simp only [W0, Nat.reduceEqDiff, Nat.reduceLT, ↓reduceIte, hl, e0, e1, e9, e12, e14, e20, e21]), (by simp only [W0, Nat.reduceEqDiff, Nat.reduceLT, ↓reduceIte, hl, e0, e1, e9, e12, e14, e20, e21]), (by simp only [W0, Nat.reduceEqDiff, Nat.reduceLT, ↓reduceIte, hl, e0, e1, e9, e12, e14, e20, e21]), (by simp only [W0, Nat.reduceEqDiff, Nat.reduceLT, ↓reduceIte, hl, e0, e1, e9, e12, e14, e20, e21]), (by simp only [W0, Nat.reduceEqDiff, Nat.reduceLT, ↓reduceIte, hl, e0, e1, e9, e12, e14, e20, e21])⟩) ?_
                          rintro envg154 _ ⟨rfl, hl, e0, e1, e9, e12, e14, e16, e20, e21⟩
                          try simp only [↓WD, W0, evalOp, Nat.reduceEqDiff, Nat.reduceLT, ↓reduceIte, reduceCtorEq, hl, e0, e1, e9, e12, e14, e16, e20, e21]
                          rw [AW_region]
                          refine AE_joinR (fun e h' => h141 = h' ∧ e.length = 126 ∧ e.getD 0 .undef = .str old_ ∧ e.getD 1 .undef = .str delta ∧ e.getD 9 .undef = .int .i64 y10.1 ∧ e.getD 12 .undef = .str s.2 ∧ e.getD 14 .undef = .int .i64 (IntKind.i64.wrap (cj139.1 + y147)) ∧ e.getD 16 .undef = .int .i64 cj139.1 ∧ e.getD 20 .undef = .int .i64 y147 ∧ e.getD 21 .undef = .str delta) (by
                            simp only [↓WE, WA, WL, aop, ofValue, ofCell, isConst, abin, acall1, abuiltin, aun, AV.cells, AV.one, Nat.reduceAdd, Int.reduceLT, Int.reduceLE, ↓WD, W0, evalOp, Nat.reduceEqDiff, Nat.reduceLT, ↓reduceIte, reduceCtorEq, hl, e0, e1, e9, e12, e14, e16, e20, e21]
                            exact ⟨rfl, (by simp only [List.length_set, hl]), (by simp only [W0, Nat.reduceEqDiff, Nat.reduceLT, ↓reduceIte, hl, e0, e1, e9, e12, e14, e16, e20, e21]), (by simp only [W0, Nat.reduceEqDiff, Nat.reduceLT, ↓reduceIte, hl, e0, e1, e9, e12, e14, e16, e20, e21]), (by simp only [W0, Nat.reduceEqDiff, Nat.reduceLT, ↓reduceIte, hl, e0, e1, e9, e12, e14, e16, e20, e21]), (by simp only [W0, Nat.reduceEqDiff, Nat.reduceLT, ↓reduceIte, hl, e0, e1, e9, e12, e14, e16, e20, e21]), (by simp only [W0, Nat.reduceEqDiff, Nat.reduceLT, ↓reduceIte, hl, e0, e1, e9, e12, e14, e16, e20, e21]), (by simp only [W0, Nat.reduceEqDiff, Nat.reduceLT, ↓reduceIte, hl, e0, e1, e9, e12, e14, e16, e20, e21]), (by simp only [W0, Nat.reduceEqDiff, Nat.reduceLT, ↓reduceIte, hl, e0, e1, e9, e12, e14, e16, e20, e21]), (by simp only [W0, Nat.reduceEqDiff, Nat.reduceLT, ↓reduceIte, hl, e0, e1, e9, e12, e14, e16, e20, e21])⟩) ?_
                          rintro envg155 _ ⟨rfl, hl, e0, e1, e9, e12, e14, e16, e20, e21⟩
                          try simp only [↓WD, W0, evalOp, Nat.reduceEqDiff, Nat.reduceLT, ↓reduceIte, reduceCtorEq, hl, e0, e1, e9, e12, e14, e16, e20, e21]
                          rw [KP_nil, KJ_normal]
                          obtain rfl := Option.some.inj qj156
                          exact ⟨(by simp only [List.length_set, hl]), (by simp only [W0, Nat.reduceEqDiff, Nat.reduceLT, ↓reduceIte, hl, e0, e1, e9, e12, e14, e16, e20, e21]), (by simp only [W0, Nat.reduceEqDiff, Nat.reduceLT, ↓reduceIte, hl, e0, e1, e9, e12, e14, e16, e20, e21]), (by simp only [W0, Nat.reduceEqDiff, Nat.reduceLT, ↓reduceIte, hl, e0, e1, e9, e12, e14, e16, e20, e21]), (by simp only [W0, Nat.reduceEqDiff, Nat.reduceLT, ↓reduceIte, hl, e0, e1, e9, e12, e14, e16, e20, e21]), (by simp only [W0, Nat.reduceEqDiff, Nat.reduceLT, ↓reduceIte, hl, e0, e1, e9, e12, e14, e16, e20, e21]), (by simp only [W0, Nat.reduceEqDiff, Nat.reduceLT, ↓reduceIte, hl, e0, e1, e9, e12, e14, e16, e20, e21]), (by simp only [W0, Nat.reduceEqDiff, Nat.reduceLT, ↓reduceIte, hl, e0, e1, e9, e12, e14, e16, e20, e21]), (by simp only [W0, Nat.reduceEqDiff, Nat.reduceLT, ↓reduceIte, hl, e0, e1, e9, e12, e14, e16, e20, e21]), S140⟩
                        · rw [if_neg (nf c152)] at qj156
                          try simp only [↓WD, W0, evalOp, Nat.reduceEqDiff, Nat.reduceLT, ↓reduceIte, reduceCtorEq, hl, e0, e1, e9, e12, e14, e16, e20, e21, e88]
                          rw [KP_nil, KJ_normal]
                          obtain rfl := Option.some.inj qj156
                          exact ⟨(by simp only [List.length_set, hl]), (by simp only [W0, Nat.reduceEqDiff, Nat.reduceLT, ↓reduceIte, hl, e0, e1, e9, e12, e14, e16, e20, e21, e88]), (by simp only [W0, Nat.reduceEqDiff, Nat.reduceLT, ↓reduceIte, hl, e0, e1, e9, e12, e14, e16, e20, e21, e88]), (by simp only [W0, Nat.reduceEqDiff, Nat.reduceLT, ↓reduceIte, hl, e0, e1, e9, e12, e14, e16, e20, e21, e88]), (by simp only [W0, Nat.reduceEqDiff, Nat.reduceLT, ↓reduceIte, hl, e0, e1, e9, e12, e14, e16, e20, e21, e88]), (by simp only [W0, Nat.reduceEqDiff, Nat.reduceLT, ↓reduceIte, hl, e0, e1, e9, e12, e14, e16, e20, e21, e88]), (by simp only [W0, Nat.reduceEqDiff, Nat.reduceLT, ↓reduceIte, hl, e0, e1, e9, e12, e14, e16, e20, e21, e88]), (by simp only [W0, Nat.reduceEqDiff, Nat.reduceLT, ↓reduceIte, hl, e0, e1, e9, e12, e14, e16, e20, e21, e88]), (by simp only [W0, Nat.reduceEqDiff, Nat.reduceLT, ↓reduceIte, hl, e0, e1, e9, e12, e14, e16, e20, e21, e88]), S140⟩
                      · rintro envj156 h158 ⟨hl, e0, e1, e9, e12, e14, e16, e20, e21, S157⟩
                        try simp only [↓WD, W0, evalOp, Nat.reduceEqDiff, Nat.reduceLT, ↓reduceIte, reduceCtorEq, hl, e0, e1, e9, e12, e14, e16, e20, e21]
                        rw [AW_region]
                        obtain ⟨j164, qj164, wr181⟩ := obind wr181
                        refine AE_joinR (fun e h' => e.length = 126 ∧ e.getD 0 .undef = .str old_ ∧ e.getD 1 .undef = .str delta ∧ e.getD 9 .undef = .int .i64 y10.1 ∧ e.getD 12 .undef = .str s.2 ∧ e.getD 14 .undef = .int .i64 j156.1 ∧ e.getD 16 .undef = .int .i64 j156.2.1 ∧ e.getD 20 .undef = .int .i64 y147 ∧ e.getD 21 .undef = .str j156.2.2 ∧ e.getD 105 .undef = .bool j164 ∧ Sep h [] h' []) ?_ ?_
                        · have ol159 := fun g : AH => alen_str (P := Try.prog) (h := g) (l := j156.2.2) Try.underlying9
                          simp only [↓WE, WA, WL, aop, ofValue, ofCell, isConst, abin, acall1, abuiltin, aun, AV.cells, AV.one, Nat.reduceAdd, Int.reduceLT, Int.reduceLE, ↓WD, W0, evalOp, Nat.reduceEqDiff, Nat.reduceLT, ↓reduceIte, reduceCtorEq, hl, e0, e1, e9, e12, e14, e16, e20, e21, ol159]
                          refine GuardW_dec (fun c160 => ?_) (fun c160 => ?_)
                          · rw [if_pos c160] at qj164
                            have d161 : (decide (j156.2.1 > (j156.2.2.length : Int))) = true := decide_eq_true c160
                            simp only [↓WE, WA, WL, aop, ofValue, ofCell, isConst, abin, acall1, abuiltin, aun, AV.cells, AV.one, Nat.reduceAdd, Int.reduceLT, Int.reduceLE, ↓WD, W0, evalOp, Nat.reduceEqDiff, Nat.reduceLT, ↓reduceIte, reduceCtorEq, hl, e0, e1, e9, e12, e14, e16, e20, e21, ol159, d161]
                            obtain rfl := Option.some.inj qj164
                            exact ⟨(by simp only [List.length_set, hl]), (by simp only [W0, Nat.reduceEqDiff, Nat.reduceLT, ↓reduceIte, hl, e0, e1, e9, e12, e14, e16, e20, e21]), (by simp only [W0, Nat.reduceEqDiff, Nat.reduceLT, ↓reduceIte, hl, e0, e1, e9, e12, e14, e16, e20, e21]), (by simp only [W0, Nat.reduceEqDiff, Nat.reduceLT, ↓reduceIte, hl, e0, e1, e9, e12, e14, e16, e20, e21]), (by simp only [W0, Nat.reduceEqDiff, Nat.reduceLT, ↓reduceIte, hl, e0, e1, e9, e12, e14, e16, e20, e21]), (by simp only [W0, Nat.reduceEqDiff, Nat.reduceLT, ↓reduceIte, hl, e0, e1, e9, e12, e14, e16, e20, e21]), (by simp only [W0, Nat.reduceEqDiff, Nat.reduceLT, ↓reduceIte, hl, e0, e1, e9, e12, e14, e16, e20, e21]), (by simp only [W0, Nat.reduceEqDiff, Nat.reduceLT, ↓reduceIte, hl, e0, e1, e9, e12, e14, e16, e20, e21]), (by simp only [W0, Nat.reduceEqDiff, Nat.reduceLT, ↓reduceIte, hl, e0, e1, e9, e12, e14, e16, e20, e21]), (by simp only [W0, Nat.reduceEqDiff, Nat.reduceLT, ↓reduceIte, hl, e0, e1, e9, e12, e14, e16, e20, e21]), S157⟩
                          · rw [if_neg c160] at qj164
                            have d162 : (decide (j156.2.1 > (j156.2.2.length : Int))) = false := decide_eq_false c160
                            have ol163 := fun g : AH => alen_str (P := Try.prog) (h := g) (l := j156.2.2) Try.underlying9
                            simp only [↓WE, WA, WL, aop, ofValue, ofCell, isConst, abin, acall1, abuiltin, aun, AV.cells, AV.one, Nat.reduceAdd, Int.reduceLT, Int.reduceLE, ↓WD, W0, evalOp, Nat.reduceEqDiff, Nat.reduceLT, ↓reduceIte, reduceCtorEq, hl, e0, e1, e9, e12, e14, e16, e20, e21, ol159, ol163, d162]
                            obtain rfl := Option.some.inj qj164
                            exact ⟨(by simp only [List.length_set, hl]), (by simp only [W0, Nat.reduceEqDiff, Nat.reduceLT, ↓reduceIte, hl, e0, e1, e9, e12, e14, e16, e20, e21]), (by simp only [W0, Nat.reduceEqDiff, Nat.reduceLT, ↓reduceIte, hl, e0, e1, e9, e12, e14, e16, e20, e21]), (by simp only [W0, Nat.reduceEqDiff, Nat.reduceLT, ↓reduceIte, hl, e0, e1, e9, e12, e14, e16, e20, e21]), (by simp only [W0, Nat.reduceEqDiff, Nat.reduceLT, ↓reduceIte, hl, e0, e1, e9, e12, e14, e16, e20, e21]), (by simp only [W0, Nat.reduceEqDiff, Nat.reduceLT, ↓reduceIte, hl, e0, e1, e9, e12, e14, e16, e20, e21]), (by simp only [W0, Nat.reduceEqDiff, Nat.reduceLT, ↓reduceIte, hl, e0, e1, e9, e12, e14, e16, e20, e21]), (by simp only [W0, Nat.reduceEqDiff, Nat.reduceLT, ↓reduceIte, hl, e0, e1, e9, e12, e14, e16, e20, e21]), (by simp only [W0, Nat.reduceEqDiff, Nat.reduceLT, ↓reduceIte, hl, e0, e1, e9, e12, e14, e16, e20, e21]), (by simp only [W0, Nat.reduceEqDiff, Nat.reduceLT, ↓reduceIte, hl, e0, e1, e9, e12, e14, e16, e20, e21]), S157⟩
                        · rintro envj164 h166 ⟨hl, e0, e1, e9, e12, e14, e16, e20, e21, e105, S165⟩
                          try simp only [↓WD, W0, evalOp, Nat.reduceEqDiff, Nat.reduceLT, ↓reduceIte, reduceCtorEq, hl, e0, e1, e9, e12, e14, e16, e20, e21, e105]
                          refine CondK_boo (fun c169 => ?_) (fun c169 => ?_)
                          · rw [if_pos c169] at wr181
                            try simp only [↓WD, W0, evalOp, Nat.reduceEqDiff, Nat.reduceLT, ↓reduceIte, reduceCtorEq, hl, e0, e1, e9, e12, e14, e16, e20, e21, e105]
                            rw [AW_region]
                            refine AE_joinR (fun e h' => h166 = h' ∧ e.length = 126 ∧ e.getD 4 .undef = .str [] ∧ e.getD 5 .undef = .int .i64 3) (by
                              simp only [↓WE, WA, WL, aop, ofValue, ofCell, isConst, abin, acall1, abuiltin, aun, AV.cells, AV.one, Nat.reduceAdd, Int.reduceLT, Int.reduceLE, ↓WD, W0, evalOp, Nat.reduceEqDiff, Nat.reduceLT, ↓reduceIte, reduceCtorEq, hl, e0, e1, e9, e12, e14, e16, e20, e21, e105]
                              exact ⟨rfl, (by simp only [List.length_set, hl]), (by simp only [W0, Nat.reduceEqDiff, Nat.reduceLT, ↓reduceIte, hl, e0, e1, e9, e12, e14, e16, e20, e21, e105]), (by simp only [W0, Nat.reduceEqDiff, Nat.reduceLT, ↓reduceIte, hl, e0, e1, e9, e12, e14, e16, e20, e21, e105])⟩) ?_
                            rintro envg170 _ ⟨rfl, hl, e4, e5⟩
                            try simp only [↓WD, W0, evalOp, Nat.reduceEqDiff, Nat.reduceLT, ↓reduceIte, reduceCtorEq, hl, e4, e5]
                            obtain rfl := Option.some.inj wr181
                            rw [KP_nil, QL_ret]
                            exact ⟨_, rfl, .inr (⟨_, rfl, rfl, (by simp only [List.length_set, hl]), (by simp only [W0, Nat.reduceEqDiff, Nat.reduceLT, ↓reduceIte, hl, e4, e5]), (by simp only [W0, Nat.reduceEqDiff, Nat.reduceLT, ↓reduceIte, hl, e4, e5]), S165⟩)⟩
                          · rw [if_neg (nf c169)] at wr181
                            try simp only [↓WD, W0, evalOp, Nat.reduceEqDiff, Nat.reduceLT, ↓reduceIte, reduceCtorEq, hl, e0, e1, e9, e12, e14, e16, e20, e21, e105]
                            rw [AW_region]
                            have ol171 := fun g : AH => alen_str (P := Try.prog) (h := g) (l := s.2) Try.underlying9
                            refine AE_joinR (fun e h' => h166 = h' ∧ e.length = 126 ∧ e.getD 0 .undef = .str old_ ∧ e.getD 1 .undef = .str delta ∧ e.getD 9 .undef = .int .i64 y10.1 ∧ e.getD 12 .undef = .str s.2 ∧ e.getD 14 .undef = .int .i64 j156.1 ∧ e.getD 16 .undef = .int .i64 j156.2.1 ∧ e.getD 20 .undef = .int .i64 y147 ∧ e.getD 21 .undef = .str j156.2.2 ∧ e.getD 111 .undef = .bool (decide ((IntKind.i64.wrap ((s.2.length : Int) + y147)) > y10.1))) (by
                              simp only [↓WE, WA, WL, aop, ofValue, ofCell, isConst, abin, acall1, abuiltin, aun, AV.cells, AV.one, Nat.reduceAdd, Int.reduceLT, Int.reduceLE, ↓WD, W0, evalOp, Nat.reduceEqDiff, Nat.reduceLT, ↓reduceIte, reduceCtorEq, hl, e0, e1, e9, e12, e14, e16, e20, e21, e105, ol171]
                              exact ⟨rfl, (by simp only [List.length_set, hl]), (by simp only [W0, Nat.reduceEqDiff, Nat.reduceLT, ↓reduceIte, hl, e0, e1, e9, e12, e14, e16, e20, e21, e105]), (by simp only [W0, Nat.reduceEqDiff, Nat.reduceLT, ↓reduceIte, hl, e0, e1, e9, e12, e14, e16, e20, e21, e105]), (by simp only [W0, Nat.reduceEqDiff, Nat.reduceLT, ↓reduceIte, hl, e0, e1, e9, e12, e14, e16, e20, e21, e105]), (by simp only [W0, Nat.reduceEqDiff, Nat.reduceLT, ↓reduceIte, hl, e0, e1, e9, e12, e14, e16, e20, e21, e105]), (by simp only [W0, Nat.reduceEqDiff, Nat.reduceLT, ↓reduceIte, hl, e0, e1, e9, e12, e14, e16, e20, e21, e105]), (by simp only [W0, Nat.reduceEqDiff, Nat.reduceLT, ↓reduceIte, hl, e0, e1, e9, e12, e14, e16, e20, e21, e105]), (by simp only [W0, Nat.reduceEqDiff, Nat.reduceLT, ↓reduceIte, hl, e0, e1, e9, e12, e14, e16, e20, e21, e105]), (by simp only [W0, Nat.reduceEqDiff, Nat.reduceLT, ↓reduceIte, hl, e0, e1, e9, e12, e14, e16, e20, e21, e105]), (by simp only [W0, Nat.reduceEqDiff, Nat.reduceLT, ↓reduceIte, hl, e0, e1, e9, e12, e14, e16, e20, e21, e105])⟩) ?_
                            rintro envg172 _ ⟨rfl, hl, e0, e1, e9, e12, e14, e16, e20, e21, e111⟩
                            try simp only [↓WD, W0, evalOp, Nat.reduceEqDiff, Nat.reduceLT, ↓reduceIte, reduceCtorEq, hl, e0, e1, e9, e12, e14, e16, e20, e21, e111]
                            refine CondK_dec (fun c175 => ?_) (fun c175 => ?_)
                            · rw [if_pos c175] at wr181
                              try simp only [↓WD, W0, evalOp, Nat.reduceEqDiff, Nat.reduceLT, ↓reduceIte, reduceCtorEq, hl, e0, e1, e9, e12, e14, e16, e20, e21, e111]
                              rw [AW_region]
                              refine AE_joinR (fun e h' => h166 = h' ∧ e.length = 126 ∧ e.getD 4 .undef = .str [] ∧ e.getD 5 .undef = .int .i64 7) (by
                                simp only [↓WE, WA, WL, aop, ofValue, ofCell, isConst, abin, acall1, abuiltin, aun, AV.cells, AV.one, Nat.reduceAdd, Int.reduceLT, Int.reduceLE, ↓WD, W0, evalOp, Nat.reduceEqDiff, Nat.reduceLT, ↓reduceIte, reduceCtorEq, hl, e0, e1, e9, e12, e14, e16, e20, e21, e111]
                                exact ⟨rfl, (by simp only [List.length_set, hl]), (by simp only [W0, Nat.reduceEqDiff, Nat.reduceLT, ↓reduceIte, hl, e0, e1, e9, e12, e14, e16, e20, e21, e111]), (by simp only [W0, Nat.reduceEqDiff, Nat.reduceLT, ↓reduceIte, hl, e0, e1, e9, e12, e14, e16, e20, e21, e111])⟩) ?_
                              rintro envg176 _ ⟨rfl, hl, e4, e5⟩
                              try simp only [↓WD, W0, evalOp, Nat.reduceEqDiff, Nat.reduceLT, ↓reduceIte, reduceCtorEq, hl, e4, e5]
                              obtain rfl := Option.some.inj wr181
                              rw [KP_nil, QL_ret]
                              exact ⟨_, rfl, .inr (⟨_, rfl, rfl, (by simp only [List.length_set, hl]), (by simp only [W0, Nat.reduceEqDiff, Nat.reduceLT, ↓reduceIte, hl, e4, e5]), (by simp only [W0, Nat.reduceEqDiff, Nat.reduceLT, ↓reduceIte, hl, e4, e5]), S165⟩)⟩
                            · rw [if_neg c175] at wr181
                              try simp only [↓WD, W0, evalOp, Nat.reduceEqDiff, Nat.reduceLT, ↓reduceIte, reduceCtorEq, hl, e0, e1, e9, e12, e14, e16, e20, e21, e111]
                              rw [AW_region]
                              obtain ⟨s177, qs177, wr181⟩ := obind wr181
                              have os177 := fun g : AH => sub_str (P := Try.prog) (h := g) (k := .i64) (k' := .i64) Try.underlying9 qs177
                              obtain ⟨s178, qs178, wr181⟩ := obind wr181
                              have os178 := cat_str qs178
                              refine AE_joinR (fun e h' => h166 = h' ∧ e.length = 126 ∧ e.getD 0 .undef = .str old_ ∧ e.getD 1 .undef = .str delta ∧ e.getD 9 .undef = .int .i64 y10.1 ∧ e.getD 12 .undef = .str s178 ∧ e.getD 14 .undef = .int .i64 j156.1) (by
                                simp only [↓WE, WA, WL, aop, ofValue, ofCell, isConst, abin, acall1, abuiltin, aun, AV.cells, AV.one, Nat.reduceAdd, Int.reduceLT, Int.reduceLE, ↓WD, W0, evalOp, Nat.reduceEqDiff, Nat.reduceLT, ↓reduceIte, reduceCtorEq, hl, e0, e1, e9, e12, e14, e16, e20, e21, e111, os177, os178]
                                exact ⟨rfl, (by simp only [List.length_set, hl]), (by simp only [W0, Nat.reduceEqDiff, Nat.reduceLT, ↓reduceIte, hl, e0, e1, e9, e12, e14, e16, e20, e21, e111]), (by simp only [W0, Nat.reduceEqDiff, Nat.reduceLT, ↓reduceIte, hl, e0, e1, e9, e12, e14, e16, e20, e21, e111]), (by simp only [W0, Nat.reduceEqDiff, Nat.reduceLT, ↓reduceIte, hl, e0, e1, e9, e12, e14, e16, e20, e21, e111]), (by simp only [W0, Nat.reduceEqDiff, Nat.reduceLT, ↓reduceIte, hl, e0, e1, e9, e12, e14, e16, e20, e21, e111]), (by simp only [W0, Nat.reduceEqDiff, Nat.reduceLT, ↓reduceIte, hl, e0, e1, e9, e12, e14, e16, e20, e21, e111])⟩) ?_
                              rintro envg179 _ ⟨rfl, hl, e0, e1, e9, e12, e14⟩
                              try simp only [↓WD, W0, evalOp, Nat.reduceEqDiff, Nat.reduceLT, ↓reduceIte, reduceCtorEq, hl, e0, e1, e9, e12, e14]
                              rw [AW_region]
                              refine AE_joinR (fun e h' => h166 = h' ∧ e.length = 126 ∧ e.getD 0 .undef = .str old_ ∧ e.getD 1 .undef = .str delta ∧ e.getD 7 .undef = .int .i64 j156.1 ∧ e.getD 9 .undef = .int .i64 y10.1 ∧ e.getD 12 .undef = .str s178) (by
                                simp only [↓WE, WA, WL, aop, ofValue, ofCell, isConst, abin, acall1, abuiltin, aun, AV.cells, AV.one, Nat.reduceAdd, Int.reduceLT, Int.reduceLE, ↓WD, W0, evalOp, Nat.reduceEqDiff, Nat.reduceLT, ↓reduceIte, reduceCtorEq, hl, e0, e1, e9, e12, e14]
                                exact ⟨rfl, (by simp only [List.length_set, hl]), (by simp only [W0, Nat.reduceEqDiff, Nat.reduceLT, ↓reduceIte, hl, e0, e1, e9, e12, e14]), (by simp only [W0, Nat.reduceEqDiff, Nat.reduceLT, ↓reduceIte, hl, e0, e1, e9, e12, e14]), (by simp only [W0, Nat.reduceEqDiff, Nat.reduceLT, ↓reduceIte, hl, e0, e1, e9, e12, e14]), (by simp only [W0, Nat.reduceEqDiff, Nat.reduceLT, ↓reduceIte, hl, e0, e1, e9, e12, e14]), (by simp only [W0, Nat.reduceEqDiff, Nat.reduceLT, ↓reduceIte, hl, e0, e1, e9, e12, e14])⟩) ?_
                              rintro envg180 _ ⟨rfl, hl, e0, e1, e7, e9, e12⟩
                              try simp only [↓WD, W0, evalOp, Nat.reduceEqDiff, Nat.reduceLT, ↓reduceIte, reduceCtorEq, hl, e0, e1, e7, e9, e12]
                              obtain rfl := Option.some.inj wr181
                              rw [KP_nil, QL_normal]
                              exact ⟨_, rfl, (by simp only [List.length_set, hl]), (by simp only [W0, Nat.reduceEqDiff, Nat.reduceLT, ↓reduceIte, hl, e0, e1, e7, e9, e12]), (by simp only [W0, Nat.reduceEqDiff, Nat.reduceLT, ↓reduceIte, hl, e0, e1, e7, e9, e12]), (by simp only [W0, Nat.reduceEqDiff, Nat.reduceLT, ↓reduceIte, hl, e0, e1, e7, e9, e12]), (by simp only [W0, Nat.reduceEqDiff, Nat.reduceLT, ↓reduceIte, hl, e0, e1, e7, e9, e12]), (by simp only [W0, Nat.reduceEqDiff, Nat.reduceLT, ↓reduceIte, hl, e0, e1, e7, e9, e12]), S165⟩
            · rw [if_neg c111] at wr181
              try simp only [↓WD, W0, evalOp, Nat.reduceEqDiff, Nat.reduceLT, ↓reduceIte, reduceCtorEq, hl, e0, e1, e7, e9, e12, e51]
              obtain rfl := Option.some.inj wr181
              rw [KP_nil, QL_exit]
              exact ⟨_, rfl, .inl ⟨_, rfl, rfl, (by simp only [List.length_set, hl]), (by simp only [W0, Nat.reduceEqDiff, Nat.reduceLT, ↓reduceIte, hl, e0, e1, e7, e9, e12, e51]), (by simp only [W0, Nat.reduceEqDiff, Nat.reduceLT, ↓reduceIte, hl, e0, e1, e7, e9, e12, e51]), S107⟩⟩
          · exact ⟨(by simp only [List.length_set, hl]), (by simp only [W0, Nat.reduceEqDiff, Nat.reduceLT, ↓reduceIte, hl, e0, e1, e7, e9, e12]), (by simp only [W0, Nat.reduceEqDiff, Nat.reduceLT, ↓reduceIte, hl, e0, e1, e7, e9, e12]), (by simp only [W0, Nat.reduceEqDiff, Nat.reduceLT, ↓reduceIte, hl, e0, e1, e7, e9, e12]), (by simp only [W0, Nat.reduceEqDiff, Nat.reduceLT, ↓reduceIte, hl, e0, e1, e7, e9, e12]), (by simp only [W0, Nat.reduceEqDiff, Nat.reduceLT, ↓reduceIte, hl, e0, e1, e7, e9, e12]), S0⟩
          · intro x envr181 h183 hk
            rcases hk with ⟨t182, rfl, rfl, hl, e9, e12, S184⟩ | ⟨t185, rfl, rfl, hl, e4, e5, S187⟩
            · skip
              rw [sumK_inl] at hF
              try simp only [↓WD, W0, evalOp, Nat.reduceEqDiff, Nat.reduceLT, ↓reduceIte, reduceCtorEq, hl, e9, e12]
              rw [AW_region]
              have ol188 := fun g : AH => alen_str (P := Try.prog) (h := g) (l := t182) Try.underlying9
              refine AE_joinR (fun e h' => h183 = h' ∧ e.length = 126 ∧ e.getD 12 .undef = .str t182 ∧ e.getD 124 .undef = .bool (decide ((t182.length : Int) < y10.1))) (by
                simp only [↓WE, WA, WL, aop, ofValue, ofCell, isConst, abin, acall1, abuiltin, aun, AV.cells, AV.one, Nat.reduceAdd, Int.reduceLT, Int.reduceLE, ↓WD, W0, evalOp, Nat.reduceEqDiff, Nat.reduceLT, ↓reduceIte, reduceCtorEq, hl, e9, e12, ol188]
                exact ⟨rfl, (by simp only [List.length_set, hl]), (by simp only [W0, Nat.reduceEqDiff, Nat.reduceLT, ↓reduceIte, hl, e9, e12]), (by simp only [W0, Nat.reduceEqDiff, Nat.reduceLT, ↓reduceIte, hl, e9, e12])⟩) ?_
              rintro envg189 _ ⟨rfl, hl, e12, e124⟩
              try simp only [↓WD, W0, evalOp, Nat.reduceEqDiff, Nat.reduceLT, ↓reduceIte, reduceCtorEq, hl, e12, e124]
              refine CondK_dec (fun c192 => ?_) (fun c192 => ?_)
              · rw [if_pos c192] at hF
                try simp only [↓WD, W0, evalOp, Nat.reduceEqDiff, Nat.reduceLT, ↓reduceIte, reduceCtorEq, hl, e12, e124]
                rw [AW_region]
                refine AE_joinR (fun e h' => h183 = h' ∧ e.length = 126 ∧ e.getD 4 .undef = .str [] ∧ e.getD 5 .undef = .int .i64 4) (by
                  simp only [↓WE, WA, WL, aop, ofValue, ofCell, isConst, abin, acall1, abuiltin, aun, AV.cells, AV.one, Nat.reduceAdd, Int.reduceLT, Int.reduceLE, ↓WD, W0, evalOp, Nat.reduceEqDiff, Nat.reduceLT, ↓reduceIte, reduceCtorEq, hl, e12, e124]
                  exact ⟨rfl, (by simp only [List.length_set, hl]), (by simp only [W0, Nat.reduceEqDiff, Nat.reduceLT, ↓reduceIte, hl, e12, e124]), (by simp only [W0, Nat.reduceEqDiff, Nat.reduceLT, ↓reduceIte, hl, e12, e124])⟩) ?_
                rintro envg193 _ ⟨rfl, hl, e4, e5⟩
                try simp only [↓WD, W0, evalOp, Nat.reduceEqDiff, Nat.reduceLT, ↓reduceIte, reduceCtorEq, hl, e4, e5]
                refine KP_ret (vs := [.str [], .int .i64 4]) (by simp only [aresults, aresult, gs, List.length_set, Nat.reduceEqDiff, Nat.reduceLT, ↓reduceIte, hl, e4, e5]) ?_
                obtain rfl := Option.some.inj hF
                exact rfl
              · rw [if_neg c192] at hF
                try simp only [↓WD, W0, evalOp, Nat.reduceEqDiff, Nat.reduceLT, ↓reduceIte, reduceCtorEq, hl, e12, e124]
                rw [AW_region]
                refine AE_joinR (fun e h' => h183 = h' ∧ e.length = 126 ∧ e.getD 4 .undef = .str t182 ∧ e.getD 5 .undef = .int .i64 0) (by
                  simp only [↓WE, WA, WL, aop, ofValue, ofCell, isConst, abin, acall1, abuiltin, aun, AV.cells, AV.one, Nat.reduceAdd, Int.reduceLT, Int.reduceLE, ↓WD, W0, evalOp, Nat.reduceEqDiff, Nat.reduceLT, ↓reduceIte, reduceCtorEq, hl, e12, e124]
                  exact ⟨rfl, (by simp only [List.length_set, hl]), (by simp only [W0, Nat.reduceEqDiff, Nat.reduceLT, ↓reduceIte, hl, e12, e124]), (by simp only [W0, Nat.reduceEqDiff, Nat.reduceLT, ↓reduceIte, hl, e12, e124])⟩) ?_
                rintro envg194 _ ⟨rfl, hl, e4, e5⟩
                try simp only [↓WD, W0, evalOp, Nat.reduceEqDiff, Nat.reduceLT, ↓reduceIte, reduceCtorEq, hl, e4, e5]
                refine KP_ret (vs := [.str t182, .int .i64 0]) (by simp only [aresults, aresult, gs, List.length_set, Nat.reduceEqDiff, Nat.reduceLT, ↓reduceIte, hl, e4, e5]) ?_
                obtain rfl := Option.some.inj hF
                exact rfl
            · skip
              rw [sumK_inr] at hF
              try simp only [↓WD, W0, evalOp, Nat.reduceEqDiff, Nat.reduceLT, ↓reduceIte, reduceCtorEq, hl, e4, e5]
              refine KP_ret (vs := [.str [], .int .i64 t185]) (by simp only [aresults, aresult, gs, List.length_set, Nat.reduceEqDiff, Nat.reduceLT, ↓reduceIte, hl, e4, e5]) ?_
              obtain rfl := Option.some.inj hF
              exact rfl
set_option maxRecDepth 100000 in
set_option maxHeartbeats 4000000 in
theorem W_law40_DeltaMakes {K : PureK} (k38 : K 38 = some kf_38) (k40 : K 40 = some kf_40) (k42 : K 42 = some kf_42) (k43 : K 43 = some kf_43) (k44 : K 44 = some kf_44) (n37 : K 37 = none) (n10 : K 10 = none) (m : Nat) (hm : NF + 2 ≤ m) (h : AH) (old_ : List UInt8) (to_ : List UInt8) {r : Bool} (hF : F_law40_DeltaMakes old_ to_ = some r) :
    AR (acall Try.prog (hooksOf K) (drawnOf Try.prog (tabOf K)) m 10 [.str old_, .str to_] h) (fun v h' => v = .bool r) := by
  obtain ⟨m, rfl⟩ : ∃ k, m = k + 1 := ⟨m - 1, by omega⟩
  refine AR_call (hooksOf_none n10) Try.func10 rfl _ _ fun env hl he => ?_
  have e0 := he 0
  have e1 := he 1
  simp only [List.getD_cons_zero, List.getD_cons_succ] at e0 e1
  simp only [Try.f10] at hl ⊢
  simp only [List.length_cons, List.length_nil, Nat.reduceAdd, Nat.reduceSub] at hl
  clear he
  have S0 : Sep h [] h [] := Sep.nil h
  rw [F_law40_DeltaMakes] at hF
  try simp only [↓WD, W0, evalOp, Nat.reduceEqDiff, Nat.reduceLT, ↓reduceIte, reduceCtorEq, hl, e0, e1]
  rw [AW_region]
  refine AE_joinR (fun e h' => h = h' ∧ e.length = 77 ∧ e.getD 0 .undef = .str old_ ∧ e.getD 1 .undef = .str to_) (by
    simp only [↓WE, WA, WL, aop, ofValue, ofCell, isConst, abin, acall1, abuiltin, aun, AV.cells, AV.one, Nat.reduceAdd, Int.reduceLT, Int.reduceLE, ↓WD, W0, evalOp, Nat.reduceEqDiff, Nat.reduceLT, ↓reduceIte, reduceCtorEq, hl, e0, e1]
    exact ⟨rfl, (by simp only [List.length_set, hl]), (by simp only [W0, Nat.reduceEqDiff, Nat.reduceLT, ↓reduceIte, hl, e0, e1]), (by simp only [W0, Nat.reduceEqDiff, Nat.reduceLT, ↓reduceIte, hl, e0, e1])⟩) ?_
  rintro envg1 _ ⟨rfl, hl, e0, e1⟩
  try simp only [↓WD, W0, evalOp, Nat.reduceEqDiff, Nat.reduceLT, ↓reduceIte, reduceCtorEq, hl, e0, e1]
  rw [AW_region]
  obtain ⟨y2, qy2, hF⟩ := obind hF
  obtain ⟨v6, h4, og3, rfl, S5⟩ := (W_law40_awake k38 k40 k42 k43 n37 m (by omega) h  qy2).out
  have S7 : Sep h [] h4 [] := S0.call0 S5
  refine AE_joinR (fun e h' => h4 = h' ∧ e.length = 77 ∧ e.getD 0 .undef = .str old_ ∧ e.getD 1 .undef = .str to_ ∧ e.getD 12 .undef = .bool !y2) (by
    simp only [↓WE, WA, WL, aop, ofValue, ofCell, isConst, abin, acall1, abuiltin, aun, AV.cells, AV.one, Nat.reduceAdd, Int.reduceLT, Int.reduceLE, ↓WD, W0, evalOp, Nat.reduceEqDiff, Nat.reduceLT, ↓reduceIte, reduceCtorEq, hl, e0, e1, og3]
    exact ⟨rfl, (by simp only [List.length_set, hl]), (by simp only [W0, Nat.reduceEqDiff, Nat.reduceLT, ↓reduceIte, hl, e0, e1]), (by simp only [W0, Nat.reduceEqDiff, Nat.reduceLT, ↓reduceIte, hl, e0, e1]), (by simp only [W0, Nat.reduceEqDiff, Nat.reduceLT, ↓reduceIte, hl, e0, e1])⟩) ?_
  rintro envg8 _ ⟨rfl, hl, e0, e1, e12⟩
  try simp only [↓WD, W0, evalOp, Nat.reduceEqDiff, Nat.reduceLT, ↓reduceIte, reduceCtorEq, hl, e0, e1, e12]
  refine CondK_boo (fun c11 => ?_) (fun c11 => ?_)
  · rw [if_pos c11] at hF
    try simp only [↓WD, W0, evalOp, Nat.reduceEqDiff, Nat.reduceLT, ↓reduceIte, reduceCtorEq, hl, e0, e1, e12]
    rw [AW_region]
    refine AE_joinR (fun e h' => h4 = h' ∧ e.length = 77 ∧ e.getD 4 .undef = .bool false) (by
      simp only [↓WE, WA, WL, aop, ofValue, ofCell, isConst, abin, acall1, abuiltin, aun, AV.cells, AV.one, Nat.reduceAdd, Int.reduceLT, Int.reduceLE, ↓WD, W0, evalOp, Nat.reduceEqDiff, Nat.reduceLT, ↓reduceIte, reduceCtorEq, hl, e0, e1, e12]
      exact ⟨rfl, (by simp only [List.length_set, hl]), (by simp only [W0, Nat.reduceEqDiff, Nat.reduceLT, ↓reduceIte, hl, e0, e1, e12])⟩) ?_
    rintro envg12 _ ⟨rfl, hl, e4⟩
    try simp only [↓WD, W0, evalOp, Nat.reduceEqDiff, Nat.reduceLT, ↓reduceIte, reduceCtorEq, hl, e4]
    refine KP_ret (vs := [.bool false]) (by simp only [aresults, aresult, gs, List.length_set, Nat.reduceEqDiff, Nat.reduceLT, ↓reduceIte, hl, e4]) ?_
    obtain rfl := Option.some.inj hF
    exact rfl
  · rw [if_neg (nf c11)] at hF
    try simp only [↓WD, W0, evalOp, Nat.reduceEqDiff, Nat.reduceLT, ↓reduceIte, reduceCtorEq, hl, e0, e1, e12]
    rw [AW_region]
    obtain ⟨j18, qj18, hF⟩ := obind hF
    refine AE_joinR (fun e h' => e.length = 77 ∧ e.getD 0 .undef = .str old_ ∧ e.getD 1 .undef = .str to_ ∧ e.getD 20 .undef = .bool j18 ∧ Sep h [] h' []) ?_ ?_
    · have ol13 := fun g : AH => alen_str (P := Try.prog) (h := g) (l := old_) Try.underlying9
      simp only [↓WE, WA, WL, aop, ofValue, ofCell, isConst, abin, acall1, abuiltin, aun, AV.cells, AV.one, Nat.reduceAdd, Int.reduceLT, Int.reduceLE, ↓WD, W0, evalOp, Nat.reduceEqDiff, Nat.reduceLT, ↓reduceIte, reduceCtorEq, hl, e0, e1, e12, ol13]
      refine GuardW_dec (fun c14 => ?_) (fun c14 => ?_)
      · rw [if_pos c14] at qj18
        have d15 : (decide ((old_.length : Int) > 600)) = true := decide_eq_true c14
        simp only [↓WE, WA, WL, aop, ofValue, ofCell, isConst, abin, acall1, abuiltin, aun, AV.cells, AV.one, Nat.reduceAdd, Int.reduceLT, Int.reduceLE, ↓WD, W0, evalOp, Nat.reduceEqDiff, Nat.reduceLT, ↓reduceIte, reduceCtorEq, hl, e0, e1, e12, ol13, d15]
        obtain rfl := Option.some.inj qj18
        exact ⟨(by simp only [List.length_set, hl]), (by simp only [W0, Nat.reduceEqDiff, Nat.reduceLT, ↓reduceIte, hl, e0, e1, e12]), (by simp only [W0, Nat.reduceEqDiff, Nat.reduceLT, ↓reduceIte, hl, e0, e1, e12]), (by simp only [W0, Nat.reduceEqDiff, Nat.reduceLT, ↓reduceIte, hl, e0, e1, e12]), S7⟩
      · rw [if_neg c14] at qj18
        have d16 : (decide ((old_.length : Int) > 600)) = false := decide_eq_false c14
        have ol17 := fun g : AH => alen_str (P := Try.prog) (h := g) (l := to_) Try.underlying9
        simp only [↓WE, WA, WL, aop, ofValue, ofCell, isConst, abin, acall1, abuiltin, aun, AV.cells, AV.one, Nat.reduceAdd, Int.reduceLT, Int.reduceLE, ↓WD, W0, evalOp, Nat.reduceEqDiff, Nat.reduceLT, ↓reduceIte, reduceCtorEq, hl, e0, e1, e12, ol13, ol17, d16]
        obtain rfl := Option.some.inj qj18
        exact ⟨(by simp only [List.length_set, hl]), (by simp only [W0, Nat.reduceEqDiff, Nat.reduceLT, ↓reduceIte, hl, e0, e1, e12]), (by simp only [W0, Nat.reduceEqDiff, Nat.reduceLT, ↓reduceIte, hl, e0, e1, e12]), (by simp only [W0, Nat.reduceEqDiff, Nat.reduceLT, ↓reduceIte, hl, e0, e1, e12]), S7⟩
    · rintro envj18 h20 ⟨hl, e0, e1, e20, S19⟩
      try simp only [↓WD, W0, evalOp, Nat.reduceEqDiff, Nat.reduceLT, ↓reduceIte, reduceCtorEq, hl, e0, e1, e20]
      refine CondK_boo (fun c23 => ?_) (fun c23 => ?_)
      · rw [if_pos c23] at hF
        try simp only [↓WD, W0, evalOp, Nat.reduceEqDiff, Nat.reduceLT, ↓reduceIte, reduceCtorEq, hl, e0, e1, e20]
        rw [AW_region]
        refine AE_joinR (fun e h' => h20 = h' ∧ e.length = 77 ∧ e.getD 4 .undef = .bool true) (by
          simp only [↓WE, WA, WL, aop, ofValue, ofCell, isConst, abin, acall1, abuiltin, aun, AV.cells, AV.one, Nat.reduceAdd, Int.reduceLT, Int.reduceLE, ↓WD, W0, evalOp, Nat.reduceEqDiff, Nat.reduceLT, ↓reduceIte, reduceCtorEq, hl, e0, e1, e20]
          exact ⟨rfl, (by simp only [List.length_set, hl]), (by simp only [W0, Nat.reduceEqDiff, Nat.reduceLT, ↓reduceIte, hl, e0, e1, e20])⟩) ?_
        rintro envg24 _ ⟨rfl, hl, e4⟩
        try simp only [↓WD, W0, evalOp, Nat.reduceEqDiff, Nat.reduceLT, ↓reduceIte, reduceCtorEq, hl, e4]
        refine KP_ret (vs := [.bool true]) (by simp only [aresults, aresult, gs, List.length_set, Nat.reduceEqDiff, Nat.reduceLT, ↓reduceIte, hl, e4]) ?_
        obtain rfl := Option.some.inj hF
        exact rfl
      · rw [if_neg (nf c23)] at hF
        try simp only [↓WD, W0, evalOp, Nat.reduceEqDiff, Nat.reduceLT, ↓reduceIte, reduceCtorEq, hl, e0, e1, e20]
        rw [AW_region]
        obtain ⟨y25, qy25, hF⟩ := obind hF
        have og26 := fun (D : Drawn) (n : Nat) (g : AH) => call_hook (P := Try.prog) (D := D) k42 n (args := [.str old_, .str to_]) (v := .tup [.str y25.1, .int .i64 y25.2]) ((kf_42_eq old_ to_).trans (by rw [qy25]; rfl)) g
        refine AE_joinR (fun e h' => h20 = h' ∧ e.length = 77 ∧ e.getD 0 .undef = .str old_ ∧ e.getD 1 .undef = .str to_ ∧ e.getD 5 .undef = .str y25.1 ∧ e.getD 6 .undef = .int .i64 y25.2) (by
          simp only [↓WE, WA, WL, aop, ofValue, ofCell, isConst, abin, acall1, abuiltin, aun, AV.cells, AV.one, Nat.reduceAdd, Int.reduceLT, Int.reduceLE, ↓WD, W0, evalOp, Nat.reduceEqDiff, Nat.reduceLT, ↓reduceIte, reduceCtorEq, hl, e0, e1, e20, og26]
          exact ⟨rfl, (by simp only [List.length_set, hl]), (by simp only [W0, Nat.reduceEqDiff, Nat.reduceLT, ↓reduceIte, hl, e0, e1, e20]), (by simp only [W0, Nat.reduceEqDiff, Nat.reduceLT, ↓reduceIte, hl, e0, e1, e20]), (by simp only [W0, Nat.reduceEqDiff, Nat.reduceLT, ↓reduceIte, hl, e0, e1, e20]), (by simp only [W0, Nat.reduceEqDiff, Nat.reduceLT, ↓reduceIte, hl, e0, e1, e20])⟩) ?_
        rintro envg27 _ ⟨rfl, hl, e0, e1, e5, e6⟩
        try simp only [↓WD, W0, evalOp, Nat.reduceEqDiff, Nat.reduceLT, ↓reduceIte, reduceCtorEq, hl, e0, e1, e5, e6]
        rw [AW_region]
        obtain ⟨y28, qy28, hF⟩ := obind hF
        have og29 := fun (D : Drawn) (n : Nat) (g : AH) => call_hook (P := Try.prog) (D := D) k43 n (args := [.str old_, .str y25.1]) (v := .tup [.str y28.1, .int .i64 y28.2]) ((kf_43_eq old_ y25.1).trans (by rw [qy28]; rfl)) g
        refine AE_joinR (fun e h' => h20 = h' ∧ e.length = 77 ∧ e.getD 0 .undef = .str old_ ∧ e.getD 1 .undef = .str to_ ∧ e.getD 5 .undef = .str y25.1 ∧ e.getD 6 .undef = .int .i64 y25.2 ∧ e.getD 7 .undef = .str y28.1 ∧ e.getD 8 .undef = .int .i64 y28.2) (by
          simp only [↓WE, WA, WL, aop, ofValue, ofCell, isConst, abin, acall1, abuiltin, aun, AV.cells, AV.one, Nat.reduceAdd, Int.reduceLT, Int.reduceLE, ↓WD, W0, evalOp, Nat.reduceEqDiff, Nat.reduceLT, ↓reduceIte, reduceCtorEq, hl, e0, e1, e5, e6, og29]
          exact ⟨rfl, (by simp only [List.length_set, hl]), (by simp only [W0, Nat.reduceEqDiff, Nat.reduceLT, ↓reduceIte, hl, e0, e1, e5, e6]), (by simp only [W0, Nat.reduceEqDiff, Nat.reduceLT, ↓reduceIte, hl, e0, e1, e5, e6]), (by simp only [W0, Nat.reduceEqDiff, Nat.reduceLT, ↓reduceIte, hl, e0, e1, e5, e6]), (by simp only [W0, Nat.reduceEqDiff, Nat.reduceLT, ↓reduceIte, hl, e0, e1, e5, e6]), (by simp only [W0, Nat.reduceEqDiff, Nat.reduceLT, ↓reduceIte, hl, e0, e1, e5, e6]), (by simp only [W0, Nat.reduceEqDiff, Nat.reduceLT, ↓reduceIte, hl, e0, e1, e5, e6])⟩) ?_
        rintro envg30 _ ⟨rfl, hl, e0, e1, e5, e6, e7, e8⟩
        try simp only [↓WD, W0, evalOp, Nat.reduceEqDiff, Nat.reduceLT, ↓reduceIte, reduceCtorEq, hl, e0, e1, e5, e6, e7, e8]
        rw [AW_region]
        obtain ⟨y31, qy31, hF⟩ := obind hF
        have og32 := fun (D : Drawn) (n : Nat) (g : AH) => call_hook (P := Try.prog) (D := D) k44 n (args := [.str old_, .str y25.1]) (v := .tup [.str y31.1, .int .i64 y31.2]) ((kf_44_eq old_ y25.1).trans (by rw [qy31]; rfl)) g
        refine AE_joinR (fun e h' => h20 = h' ∧ e.length = 77 ∧ e.getD 0 .undef = .str old_ ∧ e.getD 1 .undef = .str to_ ∧ e.getD 5 .undef = .str y25.1 ∧ e.getD 6 .undef = .int .i64 y25.2 ∧ e.getD 7 .undef = .str y28.1 ∧ e.getD 8 .undef = .int .i64 y28.2 ∧ e.getD 9 .undef = .str y31.1 ∧ e.getD 10 .undef = .int .i64 y31.2) (by
          simp only [↓WE, WA, WL, aop, ofValue, ofCell, isConst, abin, acall1, abuiltin, aun, AV.cells, AV.one, Nat.reduceAdd, Int.reduceLT, Int.reduceLE, ↓WD, W0, evalOp, Nat.reduceEqDiff, Nat.reduceLT, ↓reduceIte, reduceCtorEq, hl, e0, e1, e5, e6, e7, e8, og32]
          exact ⟨rfl, (by simp only [List.length_set, hl]), (by simp only [W0, Nat.reduceEqDiff, Nat.reduceLT, ↓reduceIte, hl, e0, e1, e5, e6, e7, e8]), (by simp only [W0, Nat.reduceEqDiff, Nat.reduceLT, ↓reduceIte, hl, e0, e1, e5, e6, e7, e8]), (by simp only [W0, Nat.reduceEqDiff, Nat.reduceLT, ↓reduceIte, hl, e0, e1, e5, e6, e7, e8]), (by simp only [W0, Nat.reduceEqDiff, Nat.reduceLT, ↓reduceIte, hl, e0, e1, e5, e6, e7, e8]), (by simp only [W0, Nat.reduceEqDiff, Nat.reduceLT, ↓reduceIte, hl, e0, e1, e5, e6, e7, e8]), (by simp only [W0, Nat.reduceEqDiff, Nat.reduceLT, ↓reduceIte, hl, e0, e1, e5, e6, e7, e8]), (by simp only [W0, Nat.reduceEqDiff, Nat.reduceLT, ↓reduceIte, hl, e0, e1, e5, e6, e7, e8]), (by simp only [W0, Nat.reduceEqDiff, Nat.reduceLT, ↓reduceIte, hl, e0, e1, e5, e6, e7, e8])⟩) ?_
        rintro envg33 _ ⟨rfl, hl, e0, e1, e5, e6, e7, e8, e9, e10⟩
        try simp only [↓WD, W0, evalOp, Nat.reduceEqDiff, Nat.reduceLT, ↓reduceIte, reduceCtorEq, hl, e0, e1, e5, e6, e7, e8, e9, e10]
        rw [AW_region]
        obtain ⟨j58, qj58, hF⟩ := obind hF
        refine AE_joinR (fun e h' => e.length = 77 ∧ e.getD 4 .undef = .bool j58 ∧ Sep h [] h' []) ?_ ?_
        · simp only [↓WE, WA, WL, aop, ofValue, ofCell, isConst, abin, acall1, abuiltin, aun, AV.cells, AV.one, Nat.reduceAdd, Int.reduceLT, Int.reduceLE, ↓WD, W0, evalOp, Nat.reduceEqDiff, Nat.reduceLT, ↓reduceIte, reduceCtorEq, hl, e0, e1, e5, e6, e7, e8, e9, e10]
          refine GuardW_boo (fun c34 => ?_) (fun c34 => ?_)
          · rw [if_pos c34] at qj58
            have d35 := c34
            simp only [↓WE, WA, WL, aop, ofValue, ofCell, isConst, abin, acall1, abuiltin, aun, AV.cells, AV.one, Nat.reduceAdd, Int.reduceLT, Int.reduceLE, ↓WD, W0, evalOp, Nat.reduceEqDiff, Nat.reduceLT, ↓reduceIte, reduceCtorEq, hl, e0, e1, e5, e6, e7, e8, e9, e10, d35]
            refine GuardW_boo (fun c37 => ?_) (fun c37 => ?_)
            · rw [if_pos c37] at qj58
              have d38 := c37
              simp only [↓WE, WA, WL, aop, ofValue, ofCell, isConst, abin, acall1, abuiltin, aun, AV.cells, AV.one, Nat.reduceAdd, Int.reduceLT, Int.reduceLE, ↓WD, W0, evalOp, Nat.reduceEqDiff, Nat.reduceLT, ↓reduceIte, reduceCtorEq, hl, e0, e1, e5, e6, e7, e8, e9, e10, d35, d38]
              refine GuardW_boo (fun c40 => ?_) (fun c40 => ?_)
              · rw [if_pos c40] at qj58
                have d41 := c40
                simp only [↓WE, WA, WL, aop, ofValue, ofCell, isConst, abin, acall1, abuiltin, aun, AV.cells, AV.one, Nat.reduceAdd, Int.reduceLT, Int.reduceLE, ↓WD, W0, evalOp, Nat.reduceEqDiff, Nat.reduceLT, ↓reduceIte, reduceCtorEq, hl, e0, e1, e5, e6, e7, e8, e9, e10, d35, d38, d41]
                refine GuardW_boo (fun c43 => ?_) (fun c43 => ?_)
                · rw [if_pos c43] at qj58
                  have d44 := c43
                  simp only [↓WE, WA, WL, aop, ofValue, ofCell, isConst, abin, acall1, abuiltin, aun, AV.cells, AV.one, Nat.reduceAdd, Int.reduceLT, Int.reduceLE, ↓WD, W0, evalOp, Nat.reduceEqDiff, Nat.reduceLT, ↓reduceIte, reduceCtorEq, hl, e0, e1, e5, e6, e7, e8, e9, e10, d35, d38, d41, d44]
                  refine GuardW_boo (fun c46 => ?_) (fun c46 => ?_)
                  · rw [if_pos c46] at qj58
                    have d47 := c46
                    have ol49 := fun g : AH => alen_str (P := Try.prog) (h := g) (l := y25.1) Try.underlying9
                    have ol50 := fun g : AH => alen_str (P := Try.prog) (h := g) (l := to_) Try.underlying9
                    simp only [↓WE, WA, WL, aop, ofValue, ofCell, isConst, abin, acall1, abuiltin, aun, AV.cells, AV.one, Nat.reduceAdd, Int.reduceLT, Int.reduceLE, ↓WD, W0, evalOp, Nat.reduceEqDiff, Nat.reduceLT, ↓reduceIte, reduceCtorEq, hl, e0, e1, e5, e6, e7, e8, e9, e10, ol49, ol50, d35, d38, d41, d44, d47]
                    refine GuardW_dec (fun c51 => ?_) (fun c51 => ?_)
                    · rw [if_pos c51] at qj58
                      have d52 : (decide ((y25.1.length : Int) ≤ (IntKind.i64.wrap (16 + (to_.length : Int))))) = true := decide_eq_true c51
                      simp only [↓WE, WA, WL, aop, ofValue, ofCell, isConst, abin, acall1, abuiltin, aun, AV.cells, AV.one, Nat.reduceAdd, Int.reduceLT, Int.reduceLE, ↓WD, W0, evalOp, Nat.reduceEqDiff, Nat.reduceLT, ↓reduceIte, reduceCtorEq, hl, e0, e1, e5, e6, e7, e8, e9, e10, ol49, ol50, d35, d38, d41, d44, d47, d52]
                      refine GuardW_boo (fun c54 => ?_) (fun c54 => ?_)
                      · rw [if_pos c54] at qj58
                        have d55 := c54
                        simp only [↓WE, WA, WL, aop, ofValue, ofCell, isConst, abin, acall1, abuiltin, aun, AV.cells, AV.one, Nat.reduceAdd, Int.reduceLT, Int.reduceLE, ↓WD, W0, evalOp, Nat.reduceEqDiff, Nat.reduceLT, ↓reduceIte, reduceCtorEq, hl, e0, e1, e5, e6, e7, e8, e9, e10, ol49, ol50, d35, d38, d41, d44, d47, d52, d55]
                        obtain rfl := Option.some.inj qj58
                        exact ⟨(by simp only [List.length_set, hl]), (by simp only [W0, Nat.reduceEqDiff, Nat.reduceLT, ↓reduceIte, hl, e0, e1, e5, e6, e7, e8, e9, e10]), S19⟩
                      · rw [if_neg (nf c54)] at qj58
                        have d56 := c54
                        have ol57 := fun g : AH => alen_str (P := Try.prog) (h := g) (l := y25.1) Try.underlying9
                        simp only [↓WE, WA, WL, aop, ofValue, ofCell, isConst, abin, acall1, abuiltin, aun, AV.cells, AV.one, Nat.reduceAdd, Int.reduceLT, Int.reduceLE, ↓WD, W0, evalOp, Nat.reduceEqDiff, Nat.reduceLT, ↓reduceIte, reduceCtorEq, hl, e0, e1, e5, e6, e7, e8, e9, e10, ol49, ol50, ol57, d35, d38, d41, d44, d47, d52, d56]
                        obtain rfl := Option.some.inj qj58
                        exact ⟨(by simp only [List.length_set, hl]), (by simp only [W0, Nat.reduceEqDiff, Nat.reduceLT, ↓reduceIte, hl, e0, e1, e5, e6, e7, e8, e9, e10]), S19⟩
                    · rw [if_neg c51] at qj58
                      have d53 : (decide ((y25.1.length : Int) ≤ (IntKind.i64.wrap (16 + (to_.length : Int))))) = false := decide_eq_false c51
                      simp only [↓WE, WA, WL, aop, ofValue, ofCell, isConst, abin, acall1, abuiltin, aun, AV.cells, AV.one, Nat.reduceAdd, Int.reduceLT, Int.reduceLE, ↓WD, W0, evalOp, Nat.reduceEqDiff, Nat.reduceLT, ↓reduceIte, reduceCtorEq, hl, e0, e1, e5, e6, e7, e8, e9, e10, ol49, ol50, d35, d38, d41, d44, d47, d53]
                      obtain rfl := Option.some.inj qj58
                      exact ⟨(by simp only [List.length_set, hl]), (by simp only [W0, Nat.reduceEqDiff, Nat.reduceLT, ↓reduceIte, hl, e0, e1, e5, e6, e7, e8, e9, e10]), S19⟩
                  · rw [if_neg (nf c46)] at qj58
                    have d48 := c46
                    simp only [↓WE, WA, WL, aop, ofValue, ofCell, isConst, abin, acall1, abuiltin, aun, AV.cells, AV.one, Nat.reduceAdd, Int.reduceLT, Int.reduceLE, ↓WD, W0, evalOp, Nat.reduceEqDiff, Nat.reduceLT, ↓reduceIte, reduceCtorEq, hl, e0, e1, e5, e6, e7, e8, e9, e10, d35, d38, d41, d44, d48]
                    obtain rfl := Option.some.inj qj58
                    exact ⟨(by simp only [List.length_set, hl]), (by simp only [W0, Nat.reduceEqDiff, Nat.reduceLT, ↓reduceIte, hl, e0, e1, e5, e6, e7, e8, e9, e10]), S19⟩
                · rw [if_neg (nf c43)] at qj58
                  have d45 := c43
                  simp only [↓WE, WA, WL, aop, ofValue, ofCell, isConst, abin, acall1, abuiltin, aun, AV.cells, AV.one, Nat.reduceAdd, Int.reduceLT, Int.reduceLE, ↓WD, W0, evalOp, Nat.reduceEqDiff, Nat.reduceLT, ↓reduceIte, reduceCtorEq, hl, e0, e1, e5, e6, e7, e8, e9, e10, d35, d38, d41, d45]
                  obtain rfl := Option.some.inj qj58
                  exact ⟨(by simp only [List.length_set, hl]), (by simp only [W0, Nat.reduceEqDiff, Nat.reduceLT, ↓reduceIte, hl, e0, e1, e5, e6, e7, e8, e9, e10]), S19⟩
              · rw [if_neg (nf c40)] at qj58
                have d42 := c40
                simp only [↓WE, WA, WL, aop, ofValue, ofCell, isConst, abin, acall1, abuiltin, aun, AV.cells, AV.one, Nat.reduceAdd, Int.reduceLT, Int.reduceLE, ↓WD, W0, evalOp, Nat.reduceEqDiff, Nat.reduceLT, ↓reduceIte, reduceCtorEq, hl, e0, e1, e5, e6, e7, e8, e9, e10, d35, d38, d42]
                obtain rfl := Option.some.inj qj58
                exact ⟨(by simp only [List.length_set, hl]), (by simp only [W0, Nat.reduceEqDiff, Nat.reduceLT, ↓reduceIte, hl, e0, e1, e5, e6, e7, e8, e9, e10]), S19⟩
            · rw [if_neg (nf c37)] at qj58
              have d39 := c37
              simp only [↓WE, WA, WL, aop, ofValue, ofCell, isConst, abin, acall1, abuiltin, aun, AV.cells, AV.one, Nat.reduceAdd, Int.reduceLT, Int.reduceLE, ↓WD, W0, evalOp, Nat.reduceEqDiff, Nat.reduceLT, ↓reduceIte, reduceCtorEq, hl, e0, e1, e5, e6, e7, e8, e9, e10, d35, d39]
              obtain rfl := Option.some.inj qj58
              exact ⟨(by simp only [List.length_set, hl]), (by simp only [W0, Nat.reduceEqDiff, Nat.reduceLT, ↓reduceIte, hl, e0, e1, e5, e6, e7, e8, e9, e10]), S19⟩
          · rw [if_neg (nf c34)] at qj58
            have d36 := c34
            simp only [↓WE, WA, WL, aop, ofValue, ofCell, isConst, abin, acall1, abuiltin, aun, AV.cells, AV.one, Nat.reduceAdd, Int.reduceLT, Int.reduceLE, ↓WD, W0, evalOp, Nat.reduceEqDiff, Nat.reduceLT, ↓reduceIte, reduceCtorEq, hl, e0, e1, e5, e6, e7, e8, e9, e10, d36]
            obtain rfl := Option.some.inj qj58
            exact ⟨(by simp only [List.length_set, hl]), (by simp only [W0, Nat.reduceEqDiff, Nat.reduceLT, ↓reduceIte, hl, e0, e1, e5, e6, e7, e8, e9, e10]), S19⟩
        · rintro envj58 h60 ⟨hl, e4, S59⟩
          try simp only [↓WD, W0, evalOp, Nat.reduceEqDiff, Nat.reduceLT, ↓reduceIte, reduceCtorEq, hl, e4]
          refine KP_ret (vs := [.bool j58]) (by simp only [aresults, aresult, gs, List.length_set, Nat.reduceEqDiff, Nat.reduceLT, ↓reduceIte, hl, e4]) ?_
          obtain rfl := Option.some.inj hF
          exact rfl
set_option maxRecDepth 100000 in
set_option maxHeartbeats 4000000 in
theorem W_law40_DeltaApplies {K : PureK} (k38 : K 38 = some kf_38) (k40 : K 40 = some kf_40) (k42 : K 42 = some kf_42) (k43 : K 43 = some kf_43) (k44 : K 44 = some kf_44) (n37 : K 37 = none) (n11 : K 11 = none) (m : Nat) (hm : NF + 2 ≤ m) (h : AH) (old_ : List UInt8) (d : List UInt8) {r : Bool} (hF : F_law40_DeltaApplies old_ d = some r) :
    AR (acall Try.prog (hooksOf K) (drawnOf Try.prog (tabOf K)) m 11 [.str old_, .str d] h) (fun v h' => v = .bool r) := by
  obtain ⟨m, rfl⟩ : ∃ k, m = k + 1 := ⟨m - 1, by omega⟩
  refine AR_call (hooksOf_none n11) Try.func11 rfl _ _ fun env hl he => ?_
  have e0 := he 0
  have e1 := he 1
  simp only [List.getD_cons_zero, List.getD_cons_succ] at e0 e1
  simp only [Try.f11] at hl ⊢
  simp only [List.length_cons, List.length_nil, Nat.reduceAdd, Nat.reduceSub] at hl
  clear he
  have S0 : Sep h [] h [] := Sep.nil h
  rw [F_law40_DeltaApplies] at hF
  try simp only [↓WD, W0, evalOp, Nat.reduceEqDiff, Nat.reduceLT, ↓reduceIte, reduceCtorEq, hl, e0, e1]
  rw [AW_region]
  refine AE_joinR (fun e h' => h = h' ∧ e.length = 39 ∧ e.getD 0 .undef = .str old_ ∧ e.getD 1 .undef = .str d) (by
    simp only [↓WE, WA, WL, aop, ofValue, ofCell, isConst, abin, acall1, abuiltin, aun, AV.cells, AV.one, Nat.reduceAdd, Int.reduceLT, Int.reduceLE, ↓WD, W0, evalOp, Nat.reduceEqDiff, Nat.reduceLT, ↓reduceIte, reduceCtorEq, hl, e0, e1]
    exact ⟨rfl, (by simp only [List.length_set, hl]), (by simp only [W0, Nat.reduceEqDiff, Nat.reduceLT, ↓reduceIte, hl, e0, e1]), (by simp only [W0, Nat.reduceEqDiff, Nat.reduceLT, ↓reduceIte, hl, e0, e1])⟩) ?_
  rintro envg1 _ ⟨rfl, hl, e0, e1⟩
  try simp only [↓WD, W0, evalOp, Nat.reduceEqDiff, Nat.reduceLT, ↓reduceIte, reduceCtorEq, hl, e0, e1]
  rw [AW_region]
  obtain ⟨y2, qy2, hF⟩ := obind hF
  obtain ⟨v6, h4, og3, rfl, S5⟩ := (W_law40_awake k38 k40 k42 k43 n37 m (by omega) h  qy2).out
  have S7 : Sep h [] h4 [] := S0.call0 S5
  refine AE_joinR (fun e h' => h4 = h' ∧ e.length = 39 ∧ e.getD 0 .undef = .str old_ ∧ e.getD 1 .undef = .str d ∧ e.getD 10 .undef = .bool !y2) (by
    simp only [↓WE, WA, WL, aop, ofValue, ofCell, isConst, abin, acall1, abuiltin, aun, AV.cells, AV.one, Nat.reduceAdd, Int.reduceLT, Int.reduceLE, ↓WD, W0, evalOp, Nat.reduceEqDiff, Nat.reduceLT, ↓reduceIte, reduceCtorEq, hl, e0, e1, og3]
    exact ⟨rfl, (by simp only [List.length_set, hl]), (by simp only [W0, Nat.reduceEqDiff, Nat.reduceLT, ↓reduceIte, hl, e0, e1]), (by simp only [W0, Nat.reduceEqDiff, Nat.reduceLT, ↓reduceIte, hl, e0, e1]), (by simp only [W0, Nat.reduceEqDiff, Nat.reduceLT, ↓reduceIte, hl, e0, e1])⟩) ?_
  rintro envg8 _ ⟨rfl, hl, e0, e1, e10⟩
  try simp only [↓WD, W0, evalOp, Nat.reduceEqDiff, Nat.reduceLT, ↓reduceIte, reduceCtorEq, hl, e0, e1, e10]
  refine CondK_boo (fun c11 => ?_) (fun c11 => ?_)
  · rw [if_pos c11] at hF
    try simp only [↓WD, W0, evalOp, Nat.reduceEqDiff, Nat.reduceLT, ↓reduceIte, reduceCtorEq, hl, e0, e1, e10]
    rw [AW_region]
    refine AE_joinR (fun e h' => h4 = h' ∧ e.length = 39 ∧ e.getD 4 .undef = .bool false) (by
      simp only [↓WE, WA, WL, aop, ofValue, ofCell, isConst, abin, acall1, abuiltin, aun, AV.cells, AV.one, Nat.reduceAdd, Int.reduceLT, Int.reduceLE, ↓WD, W0, evalOp, Nat.reduceEqDiff, Nat.reduceLT, ↓reduceIte, reduceCtorEq, hl, e0, e1, e10]
      exact ⟨rfl, (by simp only [List.length_set, hl]), (by simp only [W0, Nat.reduceEqDiff, Nat.reduceLT, ↓reduceIte, hl, e0, e1, e10])⟩) ?_
    rintro envg12 _ ⟨rfl, hl, e4⟩
    try simp only [↓WD, W0, evalOp, Nat.reduceEqDiff, Nat.reduceLT, ↓reduceIte, reduceCtorEq, hl, e4]
    refine KP_ret (vs := [.bool false]) (by simp only [aresults, aresult, gs, List.length_set, Nat.reduceEqDiff, Nat.reduceLT, ↓reduceIte, hl, e4]) ?_
    obtain rfl := Option.some.inj hF
    exact rfl
  · rw [if_neg (nf c11)] at hF
    try simp only [↓WD, W0, evalOp, Nat.reduceEqDiff, Nat.reduceLT, ↓reduceIte, reduceCtorEq, hl, e0, e1, e10]
    rw [AW_region]
    obtain ⟨j18, qj18, hF⟩ := obind hF
    refine AE_joinR (fun e h' => e.length = 39 ∧ e.getD 0 .undef = .str old_ ∧ e.getD 1 .undef = .str d ∧ e.getD 18 .undef = .bool j18 ∧ Sep h [] h' []) ?_ ?_
    · have ol13 := fun g : AH => alen_str (P := Try.prog) (h := g) (l := old_) Try.underlying9
      simp only [↓WE, WA, WL, aop, ofValue, ofCell, isConst, abin, acall1, abuiltin, aun, AV.cells, AV.one, Nat.reduceAdd, Int.reduceLT, Int.reduceLE, ↓WD, W0, evalOp, Nat.reduceEqDiff, Nat.reduceLT, ↓reduceIte, reduceCtorEq, hl, e0, e1, e10, ol13]
      refine GuardW_dec (fun c14 => ?_) (fun c14 => ?_)
      · rw [if_pos c14] at qj18
        have d15 : (decide ((old_.length : Int) > 100)) = true := decide_eq_true c14
        simp only [↓WE, WA, WL, aop, ofValue, ofCell, isConst, abin, acall1, abuiltin, aun, AV.cells, AV.one, Nat.reduceAdd, Int.reduceLT, Int.reduceLE, ↓WD, W0, evalOp, Nat.reduceEqDiff, Nat.reduceLT, ↓reduceIte, reduceCtorEq, hl, e0, e1, e10, ol13, d15]
        obtain rfl := Option.some.inj qj18
        exact ⟨(by simp only [List.length_set, hl]), (by simp only [W0, Nat.reduceEqDiff, Nat.reduceLT, ↓reduceIte, hl, e0, e1, e10]), (by simp only [W0, Nat.reduceEqDiff, Nat.reduceLT, ↓reduceIte, hl, e0, e1, e10]), (by simp only [W0, Nat.reduceEqDiff, Nat.reduceLT, ↓reduceIte, hl, e0, e1, e10]), S7⟩
      · rw [if_neg c14] at qj18
        have d16 : (decide ((old_.length : Int) > 100)) = false := decide_eq_false c14
        have ol17 := fun g : AH => alen_str (P := Try.prog) (h := g) (l := d) Try.underlying9
        simp only [↓WE, WA, WL, aop, ofValue, ofCell, isConst, abin, acall1, abuiltin, aun, AV.cells, AV.one, Nat.reduceAdd, Int.reduceLT, Int.reduceLE, ↓WD, W0, evalOp, Nat.reduceEqDiff, Nat.reduceLT, ↓reduceIte, reduceCtorEq, hl, e0, e1, e10, ol13, ol17, d16]
        obtain rfl := Option.some.inj qj18
        exact ⟨(by simp only [List.length_set, hl]), (by simp only [W0, Nat.reduceEqDiff, Nat.reduceLT, ↓reduceIte, hl, e0, e1, e10]), (by simp only [W0, Nat.reduceEqDiff, Nat.reduceLT, ↓reduceIte, hl, e0, e1, e10]), (by simp only [W0, Nat.reduceEqDiff, Nat.reduceLT, ↓reduceIte, hl, e0, e1, e10]), S7⟩
    · rintro envj18 h20 ⟨hl, e0, e1, e18, S19⟩
      try simp only [↓WD, W0, evalOp, Nat.reduceEqDiff, Nat.reduceLT, ↓reduceIte, reduceCtorEq, hl, e0, e1, e18]
      refine CondK_boo (fun c23 => ?_) (fun c23 => ?_)
      · rw [if_pos c23] at hF
        try simp only [↓WD, W0, evalOp, Nat.reduceEqDiff, Nat.reduceLT, ↓reduceIte, reduceCtorEq, hl, e0, e1, e18]
        rw [AW_region]
        refine AE_joinR (fun e h' => h20 = h' ∧ e.length = 39 ∧ e.getD 4 .undef = .bool true) (by
          simp only [↓WE, WA, WL, aop, ofValue, ofCell, isConst, abin, acall1, abuiltin, aun, AV.cells, AV.one, Nat.reduceAdd, Int.reduceLT, Int.reduceLE, ↓WD, W0, evalOp, Nat.reduceEqDiff, Nat.reduceLT, ↓reduceIte, reduceCtorEq, hl, e0, e1, e18]
          exact ⟨rfl, (by simp only [List.length_set, hl]), (by simp only [W0, Nat.reduceEqDiff, Nat.reduceLT, ↓reduceIte, hl, e0, e1, e18])⟩) ?_
        rintro envg24 _ ⟨rfl, hl, e4⟩
        try simp only [↓WD, W0, evalOp, Nat.reduceEqDiff, Nat.reduceLT, ↓reduceIte, reduceCtorEq, hl, e4]
        refine KP_ret (vs := [.bool true]) (by simp only [aresults, aresult, gs, List.length_set, Nat.reduceEqDiff, Nat.reduceLT, ↓reduceIte, hl, e4]) ?_
        obtain rfl := Option.some.inj hF
        exact rfl
      · rw [if_neg (nf c23)] at hF
        try simp only [↓WD, W0, evalOp, Nat.reduceEqDiff, Nat.reduceLT, ↓reduceIte, reduceCtorEq, hl, e0, e1, e18]
        rw [AW_region]
        obtain ⟨y25, qy25, hF⟩ := obind hF
        have og26 := fun (D : Drawn) (n : Nat) (g : AH) => call_hook (P := Try.prog) (D := D) k43 n (args := [.str old_, .str d]) (v := .tup [.str y25.1, .int .i64 y25.2]) ((kf_43_eq old_ d).trans (by rw [qy25]; rfl)) g
        refine AE_joinR (fun e h' => h20 = h' ∧ e.length = 39 ∧ e.getD 0 .undef = .str old_ ∧ e.getD 1 .undef = .str d ∧ e.getD 5 .undef = .str y25.1 ∧ e.getD 6 .undef = .int .i64 y25.2) (by
          simp only [↓WE, WA, WL, aop, ofValue, ofCell, isConst, abin, acall1, abuiltin, aun, AV.cells, AV.one, Nat.reduceAdd, Int.reduceLT, Int.reduceLE, ↓WD, W0, evalOp, Nat.reduceEqDiff, Nat.reduceLT, ↓reduceIte, reduceCtorEq, hl, e0, e1, e18, og26]
          exact ⟨rfl, (by simp only [List.length_set, hl]), (by simp only [W0, Nat.reduceEqDiff, Nat.reduceLT, ↓reduceIte, hl, e0, e1, e18]), (by simp only [W0, Nat.reduceEqDiff, Nat.reduceLT, ↓reduceIte, hl, e0, e1, e18]), (by simp only [W0, Nat.reduceEqDiff, Nat.reduceLT, ↓reduceIte, hl, e0, e1, e18]), (by simp only [W0, Nat.reduceEqDiff, Nat.reduceLT, ↓reduceIte, hl, e0, e1, e18])⟩) ?_
        rintro envg27 _ ⟨rfl, hl, e0, e1, e5, e6⟩
        try simp only [↓WD, W0, evalOp, Nat.reduceEqDiff, Nat.reduceLT, ↓reduceIte, reduceCtorEq, hl, e0, e1, e5, e6]
        rw [AW_region]
        obtain ⟨y28, qy28, hF⟩ := obind hF
        have og29 := fun (D : Drawn) (n : Nat) (g : AH) => call_hook (P := Try.prog) (D := D) k44 n (args := [.str old_, .str d]) (v := .tup [.str y28.1, .int .i64 y28.2]) ((kf_44_eq old_ d).trans (by rw [qy28]; rfl)) g
        refine AE_joinR (fun e h' => h20 = h' ∧ e.length = 39 ∧ e.getD 5 .undef = .str y25.1 ∧ e.getD 6 .undef = .int .i64 y25.2 ∧ e.getD 7 .undef = .str y28.1 ∧ e.getD 8 .undef = .int .i64 y28.2) (by
          simp only [↓WE, WA, WL, aop, ofValue, ofCell, isConst, abin, acall1, abuiltin, aun, AV.cells, AV.one, Nat.reduceAdd, Int.reduceLT, Int.reduceLE, ↓WD, W0, evalOp, Nat.reduceEqDiff, Nat.reduceLT, ↓reduceIte, reduceCtorEq, hl, e0, e1, e5, e6, og29]
          exact ⟨rfl, (by simp only [List.length_set, hl]), (by simp only [W0, Nat.reduceEqDiff, Nat.reduceLT, ↓reduceIte, hl, e0, e1, e5, e6]), (by simp only [W0, Nat.reduceEqDiff, Nat.reduceLT, ↓reduceIte, hl, e0, e1, e5, e6]), (by simp only [W0, Nat.reduceEqDiff, Nat.reduceLT, ↓reduceIte, hl, e0, e1, e5, e6]), (by simp only [W0, Nat.reduceEqDiff, Nat.reduceLT, ↓reduceIte, hl, e0, e1, e5, e6])⟩) ?_
        rintro envg30 _ ⟨rfl, hl, e5, e6, e7, e8⟩
        try simp only [↓WD, W0, evalOp, Nat.reduceEqDiff, Nat.reduceLT, ↓reduceIte, reduceCtorEq, hl, e5, e6, e7, e8]
        rw [AW_region]
        obtain ⟨j34, qj34, hF⟩ := obind hF
        refine AE_joinR (fun e h' => e.length = 39 ∧ e.getD 4 .undef = .bool j34 ∧ Sep h [] h' []) ?_ ?_
        · simp only [↓WE, WA, WL, aop, ofValue, ofCell, isConst, abin, acall1, abuiltin, aun, AV.cells, AV.one, Nat.reduceAdd, Int.reduceLT, Int.reduceLE, ↓WD, W0, evalOp, Nat.reduceEqDiff, Nat.reduceLT, ↓reduceIte, reduceCtorEq, hl, e5, e6, e7, e8]
          refine GuardW_boo (fun c31 => ?_) (fun c31 => ?_)
          · rw [if_pos c31] at qj34
            have d32 := c31
            simp only [↓WE, WA, WL, aop, ofValue, ofCell, isConst, abin, acall1, abuiltin, aun, AV.cells, AV.one, Nat.reduceAdd, Int.reduceLT, Int.reduceLE, ↓WD, W0, evalOp, Nat.reduceEqDiff, Nat.reduceLT, ↓reduceIte, reduceCtorEq, hl, e5, e6, e7, e8, d32]
            obtain rfl := Option.some.inj qj34
            exact ⟨(by simp only [List.length_set, hl]), (by simp only [W0, Nat.reduceEqDiff, Nat.reduceLT, ↓reduceIte, hl, e5, e6, e7, e8]), S19⟩
          · rw [if_neg (nf c31)] at qj34
            have d33 := c31
            simp only [↓WE, WA, WL, aop, ofValue, ofCell, isConst, abin, acall1, abuiltin, aun, AV.cells, AV.one, Nat.reduceAdd, Int.reduceLT, Int.reduceLE, ↓WD, W0, evalOp, Nat.reduceEqDiff, Nat.reduceLT, ↓reduceIte, reduceCtorEq, hl, e5, e6, e7, e8, d33]
            obtain rfl := Option.some.inj qj34
            exact ⟨(by simp only [List.length_set, hl]), (by simp only [W0, Nat.reduceEqDiff, Nat.reduceLT, ↓reduceIte, hl, e5, e6, e7, e8]), S19⟩
        · rintro envj34 h36 ⟨hl, e4, S35⟩
          try simp only [↓WD, W0, evalOp, Nat.reduceEqDiff, Nat.reduceLT, ↓reduceIte, reduceCtorEq, hl, e4]
          refine KP_ret (vs := [.bool j34]) (by simp only [aresults, aresult, gs, List.length_set, Nat.reduceEqDiff, Nat.reduceLT, ↓reduceIte, hl, e4]) ?_
          obtain rfl := Option.some.inj hF
          exact rfl
end Go.Proofs.YtikkpmmhejjpaaaM
