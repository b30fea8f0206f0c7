/- The abstract machine computes what the plain functions say: printed by lift.py. -/
import Derived.Test.YtikkpmmhejjpaaaDEW1
set_option linter.unusedSimpArgs false
set_option linter.unusedVariables false
namespace Go.Proofs.YtikkpmmhejjpaaaM
open Go Go.RowKit
set_option maxRecDepth 100000 in
set_option maxHeartbeats 4000000 in
theorem W_delta_reader_step {K : PureK} (k40 : K 40 = some kf_40) (k47 : K 47 = some kf_47) (n67 : K 67 = none) (n68 : K 68 = none) (m : Nat) (hm : NF + 2 ≤ m) (h : AH) (ir_ : Nat) (r_ : Gdelta_reader) (hgr_ : h.get ir_ = some (.cells [.str r_.xs, .int .i64 r_.xat, .int .i64 r_.xe] true 0 (some (113, true)))) (old_ : List UInt8) {r : Gdelta_reader × (List UInt8) × Int} (hF : F_delta_reader_step r_ old_ = some r) :
    AR (acall Try.prog (hooksOf K) (drawnOf Try.prog (tabOf K)) m 68 [.ptr ir_ 0, .str old_] h) (fun v h' => v = .tup [.str r.2.1, .int .i64 r.2.2] ∧ Sep h [ir_] h' [.blk ir_ [.str r.1.xs, .int .i64 r.1.xat, .int .i64 r.1.xe] 113]) := by
  obtain ⟨m, rfl⟩ : ∃ k, m = k + 1 := ⟨m - 1, by omega⟩
  refine AR_call (hooksOf_none n68) Try.func68 rfl _ _ fun env hl he => ?_
  have e0 := he 0
  have e1 := he 1
  simp only [List.getD_cons_zero, List.getD_cons_succ] at e0 e1
  simp only [Try.f68] at hl ⊢
  simp only [List.length_cons, List.length_nil, Nat.reduceAdd, Nat.reduceSub] at hl
  clear he
  have S0 : Sep h [ir_] h [.blk ir_ [.str r_.xs, .int .i64 r_.xat, .int .i64 r_.xe] 113] := Sep.lend hgr_
  rw [F_delta_reader_step] at hF
  try simp only [↓WD, W0, evalOp, Nat.reduceEqDiff, Nat.reduceLT, ↓reduceIte, reduceCtorEq, hl, e0, e1]
  rw [AW_region]
  refine AE_joinR (fun e h' => h = h' ∧ e.length = 70 ∧ e.getD 0 .undef = .ptr ir_ 0 ∧ e.getD 1 .undef = .str old_) (by
    simp only [↓WE, WA, WL, aop, ofValue, ofCell, isConst, abin, acall1, abuiltin, aun, AV.cells, AV.one, Nat.reduceAdd, Int.reduceLT, Int.reduceLE, ↓WD, W0, evalOp, Nat.reduceEqDiff, Nat.reduceLT, ↓reduceIte, reduceCtorEq, hl, e0, e1]
    exact ⟨rfl, (by simp only [List.length_set, hl]), (by simp only [W0, Nat.reduceEqDiff, Nat.reduceLT, ↓reduceIte, hl, e0, e1]), (by simp only [W0, Nat.reduceEqDiff, Nat.reduceLT, ↓reduceIte, hl, e0, e1])⟩) ?_
  rintro envg1 _ ⟨rfl, hl, e0, e1⟩
  try simp only [↓WD, W0, evalOp, Nat.reduceEqDiff, Nat.reduceLT, ↓reduceIte, reduceCtorEq, hl, e0, e1]
  rw [AW_region]
  obtain ⟨y2, qy2, hF⟩ := obind hF
  obtain ⟨v6, h4, og3, rfl, S5⟩ := (W_delta_reader_next k40 n67 m (by omega) h ir_ r_ (S0.blk (i := 0) rfl) qy2).out
  have S7 : Sep h [ir_] h4 [.blk ir_ [.str y2.1.xs, .int .i64 y2.1.xat, .int .i64 y2.1.xe] 113] := S0.call1 0 rfl (by simp [Ent.ids]) S5
  refine AE_joinR (fun e h' => h4 = h' ∧ e.length = 70 ∧ e.getD 0 .undef = .ptr ir_ 0 ∧ e.getD 1 .undef = .str old_ ∧ e.getD 6 .undef = .int .i64 y2.2) (by
    simp only [↓WE, WA, WL, aop, ofValue, ofCell, isConst, abin, acall1, abuiltin, aun, AV.cells, AV.one, Nat.reduceAdd, Int.reduceLT, Int.reduceLE, ↓WD, W0, evalOp, Nat.reduceEqDiff, Nat.reduceLT, ↓reduceIte, reduceCtorEq, hl, e0, e1, og3]
    exact ⟨rfl, (by simp only [List.length_set, hl]), (by simp only [W0, Nat.reduceEqDiff, Nat.reduceLT, ↓reduceIte, hl, e0, e1]), (by simp only [W0, Nat.reduceEqDiff, Nat.reduceLT, ↓reduceIte, hl, e0, e1]), (by simp only [W0, Nat.reduceEqDiff, Nat.reduceLT, ↓reduceIte, hl, e0, e1])⟩) ?_
  rintro envg8 _ ⟨rfl, hl, e0, e1, e6⟩
  try simp only [↓WD, W0, evalOp, Nat.reduceEqDiff, Nat.reduceLT, ↓reduceIte, reduceCtorEq, hl, e0, e1, e6]
  rw [AW_region]
  refine AE_joinR (fun e h' => h4 = h' ∧ e.length = 70 ∧ e.getD 0 .undef = .ptr ir_ 0 ∧ e.getD 1 .undef = .str old_ ∧ e.getD 6 .undef = .int .i64 y2.2 ∧ e.getD 7 .undef = .int .i64 0) (by
    simp only [↓WE, WA, WL, aop, ofValue, ofCell, isConst, abin, acall1, abuiltin, aun, AV.cells, AV.one, Nat.reduceAdd, Int.reduceLT, Int.reduceLE, ↓WD, W0, evalOp, Nat.reduceEqDiff, Nat.reduceLT, ↓reduceIte, reduceCtorEq, hl, e0, e1, e6]
    exact ⟨rfl, (by simp only [List.length_set, hl]), (by simp only [W0, Nat.reduceEqDiff, Nat.reduceLT, ↓reduceIte, hl, e0, e1, e6]), (by simp only [W0, Nat.reduceEqDiff, Nat.reduceLT, ↓reduceIte, hl, e0, e1, e6]), (by simp only [W0, Nat.reduceEqDiff, Nat.reduceLT, ↓reduceIte, hl, e0, e1, e6]), (by simp only [W0, Nat.reduceEqDiff, Nat.reduceLT, ↓reduceIte, hl, e0, e1, e6])⟩) ?_
  rintro envg9 _ ⟨rfl, hl, e0, e1, e6, e7⟩
  try simp only [↓WD, W0, evalOp, Nat.reduceEqDiff, Nat.reduceLT, ↓reduceIte, reduceCtorEq, hl, e0, e1, e6, e7]
  rw [AW_region]
  obtain ⟨j14, qj14, hF⟩ := obind hF
  refine AE_joinR (fun e h' => e.length = 70 ∧ e.getD 0 .undef = .ptr ir_ 0 ∧ e.getD 1 .undef = .str old_ ∧ e.getD 6 .undef = .int .i64 y2.2 ∧ e.getD 7 .undef = .int .i64 0 ∧ e.getD 18 .undef = .bool j14 ∧ Sep h [ir_] h' [.blk ir_ [.str y2.1.xs, .int .i64 y2.1.xat, .int .i64 y2.1.xe] 113]) ?_ ?_
  · simp only [↓WE, WA, WL, aop, ofValue, ofCell, isConst, abin, acall1, abuiltin, aun, AV.cells, AV.one, Nat.reduceAdd, Int.reduceLT, Int.reduceLE, ↓WD, W0, evalOp, Nat.reduceEqDiff, Nat.reduceLT, ↓reduceIte, reduceCtorEq, hl, e0, e1, e6, e7]
    refine GuardW_dec (fun c10 => ?_) (fun c10 => ?_)
    · rw [if_pos c10] at qj14
      have d11 : (decide (y2.2 > 0)) = true := decide_eq_true c10
      obtain ⟨y13, qy13, qj14⟩ := obind qj14
      have oy13 := rem_int (k := .i64) qy13
      simp only [↓WE, WA, WL, aop, ofValue, ofCell, isConst, abin, acall1, abuiltin, aun, AV.cells, AV.one, Nat.reduceAdd, Int.reduceLT, Int.reduceLE, ↓WD, W0, evalOp, Nat.reduceEqDiff, Nat.reduceLT, ↓reduceIte, reduceCtorEq, hl, e0, e1, e6, e7, oy13, d11]
      obtain rfl := Option.some.inj qj14
      exact ⟨(by simp only [List.length_set, hl]), (by simp only [W0, Nat.reduceEqDiff, Nat.reduceLT, ↓reduceIte, hl, e0, e1, e6, e7]), (by simp only [W0, Nat.reduceEqDiff, Nat.reduceLT, ↓reduceIte, hl, e0, e1, e6, e7]), (by simp only [W0, Nat.reduceEqDiff, Nat.reduceLT, ↓reduceIte, hl, e0, e1, e6, e7]), (by simp only [W0, Nat.reduceEqDiff, Nat.reduceLT, ↓reduceIte, hl, e0, e1, e6, e7]), (by simp only [W0, Nat.reduceEqDiff, Nat.reduceLT, ↓reduceIte, hl, e0, e1, e6, e7]), S7⟩
    · rw [if_neg c10] at qj14
      have d12 : (decide (y2.2 > 0)) = false := decide_eq_false c10
      simp only [↓WE, WA, WL, aop, ofValue, ofCell, isConst, abin, acall1, abuiltin, aun, AV.cells, AV.one, Nat.reduceAdd, Int.reduceLT, Int.reduceLE, ↓WD, W0, evalOp, Nat.reduceEqDiff, Nat.reduceLT, ↓reduceIte, reduceCtorEq, hl, e0, e1, e6, e7, d12]
      obtain rfl := Option.some.inj qj14
      exact ⟨(by simp only [List.length_set, hl]), (by simp only [W0, Nat.reduceEqDiff, Nat.reduceLT, ↓reduceIte, hl, e0, e1, e6, e7]), (by simp only [W0, Nat.reduceEqDiff, Nat.reduceLT, ↓reduceIte, hl, e0, e1, e6, e7]), (by simp only [W0, Nat.reduceEqDiff, Nat.reduceLT, ↓reduceIte, hl, e0, e1, e6, e7]), (by simp only [W0, Nat.reduceEqDiff, Nat.reduceLT, ↓reduceIte, hl, e0, e1, e6, e7]), (by simp only [W0, Nat.reduceEqDiff, Nat.reduceLT, ↓reduceIte, hl, e0, e1, e6, e7]), S7⟩
  · rintro envj14 h16 ⟨hl, e0, e1, e6, e7, e18, S15⟩
    try simp only [↓WD, W0, evalOp, Nat.reduceEqDiff, Nat.reduceLT, ↓reduceIte, reduceCtorEq, hl, e0, e1, e6, e7, e18]
    obtain ⟨j25, qj25, hF⟩ := obind hF
    refine CondK_join (fun e h' => e.length = 70 ∧ e.getD 0 .undef = .ptr ir_ 0 ∧ e.getD 1 .undef = .str old_ ∧ e.getD 6 .undef = .int .i64 y2.2 ∧ e.getD 7 .undef = .int .i64 j25.2.2.2 ∧ Sep h [ir_] h' [.blk ir_ [.str j25.1, .int .i64 j25.2.1, .int .i64 j25.2.2.1] 113]) ?_ ?_
    · refine CondK_boo (fun c17 => ?_) (fun c17 => ?_)
      · rw [if_pos c17] at qj25
        try simp only [↓WD, W0, evalOp, Nat.reduceEqDiff, Nat.reduceLT, ↓reduceIte, reduceCtorEq, hl, e0, e1, e6, e7, e18]
        rw [AW_region]
        obtain ⟨y18, qy18, qj25⟩ := obind qj25
        obtain ⟨v22, h20, og19, rfl, S21⟩ := (W_delta_reader_next k40 n67 m (by omega) h16 ir_ y2.1 (S15.blk (i := 0) rfl) qy18).out
        have S23 : Sep h [ir_] h20 [.blk ir_ [.str y18.1.xs, .int .i64 y18.1.xat, .int .i64 y18.1.xe] 113] := S15.call1 0 rfl (by simp [Ent.ids]) S21
        refine AE_joinR (fun e h' => h20 = h' ∧ e.length = 70 ∧ e.getD 0 .undef = .ptr ir_ 0 ∧ e.getD 1 .undef = .str old_ ∧ e.getD 6 .undef = .int .i64 y2.2 ∧ e.getD 7 .undef = .int .i64 y18.2) (by
          simp only [↓WE, WA, WL, aop, ofValue, ofCell, isConst, abin, acall1, abuiltin, aun, AV.cells, AV.one, Nat.reduceAdd, Int.reduceLT, Int.reduceLE, ↓WD, W0, evalOp, Nat.reduceEqDiff, Nat.reduceLT, ↓reduceIte, reduceCtorEq, hl, e0, e1, e6, e7, e18, og19]
          exact ⟨rfl, (by simp only [List.length_set, hl]), (by simp only [W0, Nat.reduceEqDiff, Nat.reduceLT, ↓reduceIte, hl, e0, e1, e6, e7, e18]), (by simp only [W0, Nat.reduceEqDiff, Nat.reduceLT, ↓reduceIte, hl, e0, e1, e6, e7, e18]), (by simp only [W0, Nat.reduceEqDiff, Nat.reduceLT, ↓reduceIte, hl, e0, e1, e6, e7, e18]), (by simp only [W0, Nat.reduceEqDiff, Nat.reduceLT, ↓reduceIte, hl, e0, e1, e6, e7, e18])⟩) ?_
        rintro envg24 _ ⟨rfl, hl, e0, e1, e6, e7⟩
        try simp only [↓WD, W0, evalOp, Nat.reduceEqDiff, Nat.reduceLT, ↓reduceIte, reduceCtorEq, hl, e0, e1, e6, e7]
        rw [KP_nil, KJ_normal]
        obtain rfl := Option.some.inj qj25
        exact ⟨(by simp only [List.length_set, hl]), (by simp only [W0, Nat.reduceEqDiff, Nat.reduceLT, ↓reduceIte, hl, e0, e1, e6, e7]), (by simp only [W0, Nat.reduceEqDiff, Nat.reduceLT, ↓reduceIte, hl, e0, e1, e6, e7]), (by simp only [W0, Nat.reduceEqDiff, Nat.reduceLT, ↓reduceIte, hl, e0, e1, e6, e7]), (by simp only [W0, Nat.reduceEqDiff, Nat.reduceLT, ↓reduceIte, hl, e0, e1, e6, e7]), S23⟩
      · rw [if_neg (nf c17)] at qj25
        try simp only [↓WD, W0, evalOp, Nat.reduceEqDiff, Nat.reduceLT, ↓reduceIte, reduceCtorEq, hl, e0, e1, e6, e7, e18]
        rw [KP_nil, KJ_normal]
        obtain rfl := Option.some.inj qj25
        exact ⟨(by simp only [List.length_set, hl]), (by simp only [W0, Nat.reduceEqDiff, Nat.reduceLT, ↓reduceIte, hl, e0, e1, e6, e7, e18]), (by simp only [W0, Nat.reduceEqDiff, Nat.reduceLT, ↓reduceIte, hl, e0, e1, e6, e7, e18]), (by simp only [W0, Nat.reduceEqDiff, Nat.reduceLT, ↓reduceIte, hl, e0, e1, e6, e7, e18]), (by simp only [W0, Nat.reduceEqDiff, Nat.reduceLT, ↓reduceIte, hl, e0, e1, e6, e7, e18]), S15⟩
    · rintro envj25 h27 ⟨hl, e0, e1, e6, e7, S26⟩
      try simp only [↓WD, W0, evalOp, Nat.reduceEqDiff, Nat.reduceLT, ↓reduceIte, reduceCtorEq, hl, e0, e1, e6, e7]
      rw [AW_region]
      have ol28 := S26.load (P := Try.prog) 0 rfl (t := 26) (off := 2) (v := .int .i64 j25.2.2.1) (by simp only [apart, ag_26, sz_26]; rfl)
      refine AE_joinR (fun e h' => h27 = h' ∧ e.length = 70 ∧ e.getD 0 .undef = .ptr ir_ 0 ∧ e.getD 1 .undef = .str old_ ∧ e.getD 6 .undef = .int .i64 y2.2 ∧ e.getD 7 .undef = .int .i64 j25.2.2.2 ∧ e.getD 21 .undef = .bool (j25.2.2.1 != 0)) (by
        simp only [↓WE, WA, WL, aop, ofValue, ofCell, isConst, abin, acall1, abuiltin, aun, AV.cells, AV.one, Nat.reduceAdd, Int.reduceLT, Int.reduceLE, ↓WD, W0, evalOp, Nat.reduceEqDiff, Nat.reduceLT, ↓reduceIte, reduceCtorEq, hl, e0, e1, e6, e7, fa_113_2, ol28]
        exact ⟨rfl, (by simp only [List.length_set, hl]), (by simp only [W0, Nat.reduceEqDiff, Nat.reduceLT, ↓reduceIte, hl, e0, e1, e6, e7]), (by simp only [W0, Nat.reduceEqDiff, Nat.reduceLT, ↓reduceIte, hl, e0, e1, e6, e7]), (by simp only [W0, Nat.reduceEqDiff, Nat.reduceLT, ↓reduceIte, hl, e0, e1, e6, e7]), (by simp only [W0, Nat.reduceEqDiff, Nat.reduceLT, ↓reduceIte, hl, e0, e1, e6, e7]), (by simp only [W0, Nat.reduceEqDiff, Nat.reduceLT, ↓reduceIte, hl, e0, e1, e6, e7])⟩) ?_
      rintro envg29 _ ⟨rfl, hl, e0, e1, e6, e7, e21⟩
      try simp only [↓WD, W0, evalOp, Nat.reduceEqDiff, Nat.reduceLT, ↓reduceIte, reduceCtorEq, hl, e0, e1, e6, e7, e21]
      refine CondK_boo (fun c62 => ?_) (fun c62 => ?_)
      · rw [if_pos c62] at hF
        try simp only [↓WD, W0, evalOp, Nat.reduceEqDiff, Nat.reduceLT, ↓reduceIte, reduceCtorEq, hl, e0, e1, e6, e7, e21]
        rw [AW_drawn, AE_drawnK (Ksub.cons k40 (Ksub.cons k47 Ksub.nil)) (by kernel_rfl)]
        have ol63 := S26.load (P := Try.prog) 0 rfl (t := 26) (off := 2) (v := .int .i64 j25.2.2.1) (by simp only [apart, ag_26, sz_26]; rfl)
        refine AE_joinR (fun e h' => h27 = h' ∧ e.length = 70 ∧ e.getD 4 .undef = .str [] ∧ e.getD 5 .undef = .int .i64 j25.2.2.1) (by
          simp only [↓WE, WA, WL, aop, ofValue, ofCell, isConst, abin, acall1, abuiltin, aun, AV.cells, AV.one, Nat.reduceAdd, Int.reduceLT, Int.reduceLE, ↓WD, W0, evalOp, Nat.reduceEqDiff, Nat.reduceLT, ↓reduceIte, reduceCtorEq, hl, e0, e1, e6, e7, e21, fa_113_2, ol63]
          exact ⟨rfl, (by simp only [List.length_set, hl]), (by simp only [W0, Nat.reduceEqDiff, Nat.reduceLT, ↓reduceIte, hl, e0, e1, e6, e7, e21]), (by simp only [W0, Nat.reduceEqDiff, Nat.reduceLT, ↓reduceIte, hl, e0, e1, e6, e7, e21])⟩) ?_
        rintro envg64 _ ⟨rfl, hl, e4, e5⟩
        try simp only [↓WD, W0, evalOp, Nat.reduceEqDiff, Nat.reduceLT, ↓reduceIte, reduceCtorEq, hl, e4, e5]
        refine KP_ret (vs := [.str [], .int .i64 j25.2.2.1]) (by simp only [aresults, aresult, gs, List.length_set, Nat.reduceEqDiff, Nat.reduceLT, ↓reduceIte, hl, e4, e5]) ?_
        obtain rfl := Option.some.inj hF
        exact ⟨rfl, S26⟩
      · rw [if_neg (nf c62)] at hF
        try simp only [↓WD, W0, evalOp, Nat.reduceEqDiff, Nat.reduceLT, ↓reduceIte, reduceCtorEq, hl, e0, e1, e6, e7, e21]
        rw [AW_region]
        refine AE_joinR (fun e h' => h27 = h' ∧ e.length = 70 ∧ e.getD 0 .undef = .ptr ir_ 0 ∧ e.getD 1 .undef = .str old_ ∧ e.getD 6 .undef = .int .i64 y2.2 ∧ e.getD 7 .undef = .int .i64 j25.2.2.2 ∧ e.getD 31 .undef = .bool (decide (y2.2 < 2))) (by
          simp only [↓WE, WA, WL, aop, ofValue, ofCell, isConst, abin, acall1, abuiltin, aun, AV.cells, AV.one, Nat.reduceAdd, Int.reduceLT, Int.reduceLE, ↓WD, W0, evalOp, Nat.reduceEqDiff, Nat.reduceLT, ↓reduceIte, reduceCtorEq, hl, e0, e1, e6, e7, e21]
          exact ⟨rfl, (by simp only [List.length_set, hl]), (by simp only [W0, Nat.reduceEqDiff, Nat.reduceLT, ↓reduceIte, hl, e0, e1, e6, e7, e21]), (by simp only [W0, Nat.reduceEqDiff, Nat.reduceLT, ↓reduceIte, hl, e0, e1, e6, e7, e21]), (by simp only [W0, Nat.reduceEqDiff, Nat.reduceLT, ↓reduceIte, hl, e0, e1, e6, e7, e21]), (by simp only [W0, Nat.reduceEqDiff, Nat.reduceLT, ↓reduceIte, hl, e0, e1, e6, e7, e21]), (by simp only [W0, Nat.reduceEqDiff, Nat.reduceLT, ↓reduceIte, hl, e0, e1, e6, e7, e21])⟩) ?_
        rintro envg65 _ ⟨rfl, hl, e0, e1, e6, e7, e31⟩
        try simp only [↓WD, W0, evalOp, Nat.reduceEqDiff, Nat.reduceLT, ↓reduceIte, reduceCtorEq, hl, e0, e1, e6, e7, e31]
        refine CondK_dec (fun c80 => ?_) (fun c80 => ?_)
        · rw [if_pos c80] at hF
          try simp only [↓WD, W0, evalOp, Nat.reduceEqDiff, Nat.reduceLT, ↓reduceIte, reduceCtorEq, hl, e0, e1, e6, e7, e31]
          rw [AW_region]
          refine AE_joinR (fun e h' => h27 = h' ∧ e.length = 70 ∧ e.getD 4 .undef = .str [] ∧ e.getD 5 .undef = .int .i64 2) (by
            simp only [↓WE, WA, WL, aop, ofValue, ofCell, isConst, abin, acall1, abuiltin, aun, AV.cells, AV.one, Nat.reduceAdd, Int.reduceLT, Int.reduceLE, ↓WD, W0, evalOp, Nat.reduceEqDiff, Nat.reduceLT, ↓reduceIte, reduceCtorEq, hl, e0, e1, e6, e7, e31]
            exact ⟨rfl, (by simp only [List.length_set, hl]), (by simp only [W0, Nat.reduceEqDiff, Nat.reduceLT, ↓reduceIte, hl, e0, e1, e6, e7, e31]), (by simp only [W0, Nat.reduceEqDiff, Nat.reduceLT, ↓reduceIte, hl, e0, e1, e6, e7, e31])⟩) ?_
          rintro envg81 _ ⟨rfl, hl, e4, e5⟩
          try simp only [↓WD, W0, evalOp, Nat.reduceEqDiff, Nat.reduceLT, ↓reduceIte, reduceCtorEq, hl, e4, e5]
          refine KP_ret (vs := [.str [], .int .i64 2]) (by simp only [aresults, aresult, gs, List.length_set, Nat.reduceEqDiff, Nat.reduceLT, ↓reduceIte, hl, e4, e5]) ?_
          obtain rfl := Option.some.inj hF
          exact ⟨rfl, S26⟩
        · rw [if_neg c80] at hF
          try simp only [↓WD, W0, evalOp, Nat.reduceEqDiff, Nat.reduceLT, ↓reduceIte, reduceCtorEq, hl, e0, e1, e6, e7, e31]
          rw [AW_region]
          obtain ⟨y82, qy82, hF⟩ := obind hF
          have oy82 := rem_int (k := .i64) qy82
          refine AE_joinR (fun e h' => h27 = h' ∧ e.length = 70 ∧ e.getD 0 .undef = .ptr ir_ 0 ∧ e.getD 1 .undef = .str old_ ∧ e.getD 6 .undef = .int .i64 y2.2 ∧ e.getD 7 .undef = .int .i64 j25.2.2.2 ∧ e.getD 34 .undef = .bool (y82 == 0)) (by
            simp only [↓WE, WA, WL, aop, ofValue, ofCell, isConst, abin, acall1, abuiltin, aun, AV.cells, AV.one, Nat.reduceAdd, Int.reduceLT, Int.reduceLE, ↓WD, W0, evalOp, Nat.reduceEqDiff, Nat.reduceLT, ↓reduceIte, reduceCtorEq, hl, e0, e1, e6, e7, e31, oy82]
            exact ⟨rfl, (by simp only [List.length_set, hl]), (by simp only [W0, Nat.reduceEqDiff, Nat.reduceLT, ↓reduceIte, hl, e0, e1, e6, e7, e31]), (by simp only [W0, Nat.reduceEqDiff, Nat.reduceLT, ↓reduceIte, hl, e0, e1, e6, e7, e31]), (by simp only [W0, Nat.reduceEqDiff, Nat.reduceLT, ↓reduceIte, hl, e0, e1, e6, e7, e31]), (by simp only [W0, Nat.reduceEqDiff, Nat.reduceLT, ↓reduceIte, hl, e0, e1, e6, e7, e31]), (by simp only [W0, Nat.reduceEqDiff, Nat.reduceLT, ↓reduceIte, hl, e0, e1, e6, e7, e31])⟩) ?_
          rintro envg83 _ ⟨rfl, hl, e0, e1, e6, e7, e34⟩
          try simp only [↓WD, W0, evalOp, Nat.reduceEqDiff, Nat.reduceLT, ↓reduceIte, reduceCtorEq, hl, e0, e1, e6, e7, e34]
          refine CondK_boo (fun c89 => ?_) (fun c89 => ?_)
          · rw [if_pos c89] at hF
            try simp only [↓WD, W0, evalOp, Nat.reduceEqDiff, Nat.reduceLT, ↓reduceIte, reduceCtorEq, hl, e0, e1, e6, e7, e34]
            rw [AW_region]
            obtain ⟨y90, qy90, hF⟩ := obind hF
            have oy90 := quo_int (k := .i64) qy90
            obtain ⟨y91, qy91, hF⟩ := obind hF
            have og92 := fun (D : Drawn) (n : Nat) (g : AH) => call_hook (P := Try.prog) (D := D) k47 n (args := [.str old_, .int .i64 j25.2.2.2, .int .i64 y90]) (v := .tup [.str y91.1, .int .i64 y91.2]) ((kf_47_eq old_ j25.2.2.2 y90).trans (by rw [qy91]; rfl)) g
            refine AE_joinR (fun e h' => h27 = h' ∧ e.length = 70 ∧ e.getD 4 .undef = .str y91.1 ∧ e.getD 5 .undef = .int .i64 y91.2) (by
              simp only [↓WE, WA, WL, aop, ofValue, ofCell, isConst, abin, acall1, abuiltin, aun, AV.cells, AV.one, Nat.reduceAdd, Int.reduceLT, Int.reduceLE, ↓WD, W0, evalOp, Nat.reduceEqDiff, Nat.reduceLT, ↓reduceIte, reduceCtorEq, hl, e0, e1, e6, e7, e34, oy90, og92]
              exact ⟨rfl, (by simp only [List.length_set, hl]), (by simp only [W0, Nat.reduceEqDiff, Nat.reduceLT, ↓reduceIte, hl, e0, e1, e6, e7, e34]), (by simp only [W0, Nat.reduceEqDiff, Nat.reduceLT, ↓reduceIte, hl, e0, e1, e6, e7, e34])⟩) ?_
            rintro envg93 _ ⟨rfl, hl, e4, e5⟩
            try simp only [↓WD, W0, evalOp, Nat.reduceEqDiff, Nat.reduceLT, ↓reduceIte, reduceCtorEq, hl, e4, e5]
            refine KP_ret (vs := [.str y91.1, .int .i64 y91.2]) (by simp only [aresults, aresult, gs, List.length_set, Nat.reduceEqDiff, Nat.reduceLT, ↓reduceIte, hl, e4, e5]) ?_
            obtain rfl := Option.some.inj hF
            exact ⟨rfl, S26⟩
          · rw [if_neg (nf c89)] at hF
            try simp only [↓WD, W0, evalOp, Nat.reduceEqDiff, Nat.reduceLT, ↓reduceIte, reduceCtorEq, hl, e0, e1, e6, e7, e34]
            rw [AW_drawn, AE_drawnK (Ksub.cons k40 (Ksub.cons k47 Ksub.nil)) (by kernel_rfl)]
            have ol94 := S26.load (P := Try.prog) 0 rfl (t := 9) (off := 0) (v := .str j25.1) (by simp only [apart, ag_9, sz_9]; rfl)
            have ol95 := S26.load (P := Try.prog) 0 rfl (t := 3) (off := 1) (v := .int .i64 j25.2.1) (by simp only [apart, ag_3, sz_3]; rfl)
            obtain ⟨y96, qy96, hF⟩ := obind hF
            have oy96 := quo_int (k := .i64) qy96
            obtain ⟨y97, qy97, hF⟩ := obind hF
            have og98 := fun (cf : CallF) (g : AH) => tab_hook (cf := cf) k47 (args := [.str j25.1, .int .i64 j25.2.1, .int .i64 y96]) (v := .tup [.str y97.1, .int .i64 y97.2]) ((kf_47_eq j25.1 j25.2.1 y96).trans (by rw [qy97]; rfl)) g
            refine AE_joinR (fun e h' => h27 = h' ∧ e.length = 70 ∧ e.getD 0 .undef = .ptr ir_ 0 ∧ e.getD 6 .undef = .int .i64 y2.2 ∧ e.getD 8 .undef = .str y97.1 ∧ e.getD 9 .undef = .int .i64 y97.2) (by
              simp only [↓WE, WA, WL, aop, ofValue, ofCell, isConst, abin, acall1, abuiltin, aun, AV.cells, AV.one, Nat.reduceAdd, Int.reduceLT, Int.reduceLE, ↓WD, W0, evalOp, Nat.reduceEqDiff, Nat.reduceLT, ↓reduceIte, reduceCtorEq, hl, e0, e1, e6, e7, e34, fa_113_0, ol94, fa_113_1, ol95, oy96, og98]
              exact ⟨rfl, (by simp only [List.length_set, hl]), (by simp only [W0, Nat.reduceEqDiff, Nat.reduceLT, ↓reduceIte, hl, e0, e1, e6, e7, e34]), (by simp only [W0, Nat.reduceEqDiff, Nat.reduceLT, ↓reduceIte, hl, e0, e1, e6, e7, e34]), (by simp only [W0, Nat.reduceEqDiff, Nat.reduceLT, ↓reduceIte, hl, e0, e1, e6, e7, e34]), (by simp only [W0, Nat.reduceEqDiff, Nat.reduceLT, ↓reduceIte, hl, e0, e1, e6, e7, e34])⟩) ?_
            rintro envg99 _ ⟨rfl, hl, e0, e6, e8, e9⟩
            try simp only [↓WD, W0, evalOp, Nat.reduceEqDiff, Nat.reduceLT, ↓reduceIte, reduceCtorEq, hl, e0, e6, e8, e9]
            rw [AW_region]
            have ol100 := S26.load (P := Try.prog) 0 rfl (t := 3) (off := 1) (v := .int .i64 j25.2.1) (by simp only [apart, ag_3, sz_3]; rfl)
            have oy101 := quo_int (k := .i64) qy96
            obtain ⟨h102, os103, S104⟩ := S26.store (P := Try.prog) 0 rfl (t := 3) (off := 1) (v := .int .i64 (IntKind.i64.wrap (j25.2.1 + y96))) (c' := [.str j25.1, .int .i64 (IntKind.i64.wrap (j25.2.1 + y96)), .int .i64 j25.2.2.1]) rfl sz_3 rfl (by simp) rfl
            have S105 : Sep h [ir_] h102 [.blk ir_ [.str j25.1, .int .i64 (IntKind.i64.wrap (j25.2.1 + y96)), .int .i64 j25.2.2.1] 113] := S104
            refine AE_joinR (fun e h' => h102 = h' ∧ e.length = 70 ∧ e.getD 8 .undef = .str y97.1 ∧ e.getD 9 .undef = .int .i64 y97.2) (by
              simp only [↓WE, WA, WL, aop, ofValue, ofCell, isConst, abin, acall1, abuiltin, aun, AV.cells, AV.one, Nat.reduceAdd, Int.reduceLT, Int.reduceLE, ↓WD, W0, evalOp, Nat.reduceEqDiff, Nat.reduceLT, ↓reduceIte, reduceCtorEq, hl, e0, e6, e8, e9, fa_113_1, ol100, oy101, os103]
              exact ⟨rfl, (by simp only [List.length_set, hl]), (by simp only [W0, Nat.reduceEqDiff, Nat.reduceLT, ↓reduceIte, hl, e0, e6, e8, e9]), (by simp only [W0, Nat.reduceEqDiff, Nat.reduceLT, ↓reduceIte, hl, e0, e6, e8, e9])⟩) ?_
            rintro envg106 _ ⟨rfl, hl, e8, e9⟩
            try simp only [↓WD, W0, evalOp, Nat.reduceEqDiff, Nat.reduceLT, ↓reduceIte, reduceCtorEq, hl, e8, e9]
            rw [AW_region]
            refine AE_joinR (fun e h' => h102 = h' ∧ e.length = 70 ∧ e.getD 4 .undef = .str y97.1 ∧ e.getD 5 .undef = .int .i64 y97.2) (by
              simp only [↓WE, WA, WL, aop, ofValue, ofCell, isConst, abin, acall1, abuiltin, aun, AV.cells, AV.one, Nat.reduceAdd, Int.reduceLT, Int.reduceLE, ↓WD, W0, evalOp, Nat.reduceEqDiff, Nat.reduceLT, ↓reduceIte, reduceCtorEq, hl, e8, e9]
              exact ⟨rfl, (by simp only [List.length_set, hl]), (by simp only [W0, Nat.reduceEqDiff, Nat.reduceLT, ↓reduceIte, hl, e8, e9]), (by simp only [W0, Nat.reduceEqDiff, Nat.reduceLT, ↓reduceIte, hl, e8, e9])⟩) ?_
            rintro envg107 _ ⟨rfl, hl, e4, e5⟩
            try simp only [↓WD, W0, evalOp, Nat.reduceEqDiff, Nat.reduceLT, ↓reduceIte, reduceCtorEq, hl, e4, e5]
            refine KP_ret (vs := [.str y97.1, .int .i64 y97.2]) (by simp only [aresults, aresult, gs, List.length_set, Nat.reduceEqDiff, Nat.reduceLT, ↓reduceIte, hl, e4, e5]) ?_
            obtain rfl := Option.some.inj hF
            exact ⟨rfl, S105⟩
set_option maxRecDepth 100000 in
set_option maxHeartbeats 4000000 in
theorem W_delta_Apply {K : PureK} (k40 : K 40 = some kf_40) (k47 : K 47 = some kf_47) (k77 : K 77 = some hb77) (n50 : K 50 = none) (n51 : K 51 = none) (n52 : K 52 = none) (n67 : K 67 = none) (n68 : K 68 = none) (n69 : K 69 = none) (n43 : K 43 = none) (m : Nat) (hm : NF + 4 ≤ m) (h : AH) (old_ : List UInt8) (delta : List UInt8) {r : (List UInt8) × Int} (hF : F_delta_Apply old_ delta = some r) :
    AR (acall Try.prog (hooksOf K) (drawnOf Try.prog (tabOf K)) m 43 [.str old_, .str delta] h) (fun v h' => v = .tup [.str r.1, .int .i64 r.2]) := by
  obtain ⟨m, rfl⟩ : ∃ k, m = k + 1 := ⟨m - 1, by omega⟩
  refine AR_call (hooksOf_none n43) Try.func43 rfl _ _ fun env hl he => ?_
  have e0 := he 0
  have e1 := he 1
  simp only [List.getD_cons_zero, List.getD_cons_succ] at e0 e1
  simp only [Try.f43] at hl ⊢
  simp only [List.length_cons, List.length_nil, Nat.reduceAdd, Nat.reduceSub] at hl
  clear he
  have S0 : Sep h [] h [] := Sep.nil h
  rw [F_delta_Apply] at hF
  try simp only [↓WD, W0, evalOp, Nat.reduceEqDiff, Nat.reduceLT, ↓reduceIte, reduceCtorEq, hl, e0, e1]
  rw [AW_region]
  refine AE_joinR (fun e h' => h = h' ∧ e.length = 67 ∧ e.getD 0 .undef = .str old_ ∧ e.getD 1 .undef = .str delta) (by
    simp only [↓WE, WA, WL, aop, ofValue, ofCell, isConst, abin, acall1, abuiltin, aun, AV.cells, AV.one, Nat.reduceAdd, Int.reduceLT, Int.reduceLE, ↓WD, W0, evalOp, Nat.reduceEqDiff, Nat.reduceLT, ↓reduceIte, reduceCtorEq, hl, e0, e1]
    exact ⟨rfl, (by simp only [List.length_set, hl]), (by simp only [W0, Nat.reduceEqDiff, Nat.reduceLT, ↓reduceIte, hl, e0, e1]), (by simp only [W0, Nat.reduceEqDiff, Nat.reduceLT, ↓reduceIte, hl, e0, e1])⟩) ?_
  rintro envg1 _ ⟨rfl, hl, e0, e1⟩
  try simp only [↓WD, W0, evalOp, Nat.reduceEqDiff, Nat.reduceLT, ↓reduceIte, reduceCtorEq, hl, e0, e1]
  rw [AW_region]
  obtain ⟨i2, h3, oa4, S5⟩ := S0.alloc 113 [.str delta, .int .i64 0, .int .i64 0]
  have S7 : Sep h [] h3 [.blk i2 [.str delta, .int .i64 0, .int .i64 0] 113] := S5
  refine AE_joinR (fun e h' => h3 = h' ∧ e.length = 67 ∧ e.getD 0 .undef = .str old_ ∧ e.getD 1 .undef = .str delta ∧ e.getD 6 .undef = .ptr i2 0) (by
    simp only [↓WE, WA, WL, aop, ofValue, ofCell, isConst, abin, acall1, abuiltin, aun, AV.cells, AV.one, Nat.reduceAdd, Int.reduceLT, Int.reduceLE, ↓WD, W0, evalOp, Nat.reduceEqDiff, Nat.reduceLT, ↓reduceIte, reduceCtorEq, hl, e0, e1, bd_113_0, oa4]
    exact ⟨rfl, (by simp only [List.length_set, hl]), (by simp only [W0, Nat.reduceEqDiff, Nat.reduceLT, ↓reduceIte, hl, e0, e1]), (by simp only [W0, Nat.reduceEqDiff, Nat.reduceLT, ↓reduceIte, hl, e0, e1]), (by simp only [W0, Nat.reduceEqDiff, Nat.reduceLT, ↓reduceIte, hl, e0, e1])⟩) ?_
  rintro envg8 _ ⟨rfl, hl, e0, e1, e6⟩
  try simp only [↓WD, W0, evalOp, Nat.reduceEqDiff, Nat.reduceLT, ↓reduceIte, reduceCtorEq, hl, e0, e1, e6]
  rw [AW_region]
  obtain ⟨y9, qy9, hF⟩ := obind hF
  obtain ⟨v13, h11, og10, rfl, S12⟩ := (W_delta_reader_next k40 n67 m (by omega) h3 i2 (⟨delta, 0, 0⟩ : Gdelta_reader) (S7.blk (i := 0) rfl) qy9).out
  have S14 : Sep h [] h11 [.blk i2 [.str y9.1.xs, .int .i64 y9.1.xat, .int .i64 y9.1.xe] 113] := S7.call1 0 rfl (by simp [Ent.ids]) S12
  obtain ⟨y15, qy15, hF⟩ := obind hF
  obtain ⟨v19, h17, og16, rfl, S18⟩ := (W_delta_reader_next k40 n67 m (by omega) h11 i2 y9.1 (S14.blk (i := 0) rfl) qy15).out
  have S20 : Sep h [] h17 [.blk i2 [.str y15.1.xs, .int .i64 y15.1.xat, .int .i64 y15.1.xe] 113] := S14.call1 0 rfl (by simp [Ent.ids]) S18
  refine AE_joinR (fun e h' => h17 = h' ∧ e.length = 67 ∧ e.getD 0 .undef = .str old_ ∧ e.getD 1 .undef = .str delta ∧ e.getD 6 .undef = .ptr i2 0 ∧ e.getD 7 .undef = .int .i64 y9.2 ∧ e.getD 8 .undef = .int .i64 y15.2) (by
    simp only [↓WE, WA, WL, aop, ofValue, ofCell, isConst, abin, acall1, abuiltin, aun, AV.cells, AV.one, Nat.reduceAdd, Int.reduceLT, Int.reduceLE, ↓WD, W0, evalOp, Nat.reduceEqDiff, Nat.reduceLT, ↓reduceIte, reduceCtorEq, hl, e0, e1, e6, og10, og16]
    exact ⟨rfl, (by simp only [List.length_set, hl]), (by simp only [W0, Nat.reduceEqDiff, Nat.reduceLT, ↓reduceIte, hl, e0, e1, e6]), (by simp only [W0, Nat.reduceEqDiff, Nat.reduceLT, ↓reduceIte, hl, e0, e1, e6]), (by simp only [W0, Nat.reduceEqDiff, Nat.reduceLT, ↓reduceIte, hl, e0, e1, e6]), (by simp only [W0, Nat.reduceEqDiff, Nat.reduceLT, ↓reduceIte, hl, e0, e1, e6]), (by simp only [W0, Nat.reduceEqDiff, Nat.reduceLT, ↓reduceIte, hl, e0, e1, e6])⟩) ?_
  rintro envg21 _ ⟨rfl, hl, e0, e1, e6, e7, e8⟩
  try simp only [↓WD, W0, evalOp, Nat.reduceEqDiff, Nat.reduceLT, ↓reduceIte, reduceCtorEq, hl, e0, e1, e6, e7, e8]
  rw [AW_region]
  have ol22 := S20.load (P := Try.prog) 0 rfl (t := 26) (off := 2) (v := .int .i64 y15.1.xe) (by simp only [apart, ag_26, sz_26]; rfl)
  refine AE_joinR (fun e h' => h17 = h' ∧ e.length = 67 ∧ e.getD 0 .undef = .str old_ ∧ e.getD 1 .undef = .str delta ∧ e.getD 6 .undef = .ptr i2 0 ∧ e.getD 7 .undef = .int .i64 y9.2 ∧ e.getD 8 .undef = .int .i64 y15.2 ∧ e.getD 19 .undef = .bool (y15.1.xe != 0)) (by
    simp only [↓WE, WA, WL, aop, ofValue, ofCell, isConst, abin, acall1, abuiltin, aun, AV.cells, AV.one, Nat.reduceAdd, Int.reduceLT, Int.reduceLE, ↓WD, W0, evalOp, Nat.reduceEqDiff, Nat.reduceLT, ↓reduceIte, reduceCtorEq, hl, e0, e1, e6, e7, e8, fa_113_2, ol22]
    exact ⟨rfl, (by simp only [List.length_set, hl]), (by simp only [W0, Nat.reduceEqDiff, Nat.reduceLT, ↓reduceIte, hl, e0, e1, e6, e7, e8]), (by simp only [W0, Nat.reduceEqDiff, Nat.reduceLT, ↓reduceIte, hl, e0, e1, e6, e7, e8]), (by simp only [W0, Nat.reduceEqDiff, Nat.reduceLT, ↓reduceIte, hl, e0, e1, e6, e7, e8]), (by simp only [W0, Nat.reduceEqDiff, Nat.reduceLT, ↓reduceIte, hl, e0, e1, e6, e7, e8]), (by simp only [W0, Nat.reduceEqDiff, Nat.reduceLT, ↓reduceIte, hl, e0, e1, e6, e7, e8]), (by simp only [W0, Nat.reduceEqDiff, Nat.reduceLT, ↓reduceIte, hl, e0, e1, e6, e7, e8])⟩) ?_
  rintro envg23 _ ⟨rfl, hl, e0, e1, e6, e7, e8, e19⟩
  try simp only [↓WD, W0, evalOp, Nat.reduceEqDiff, Nat.reduceLT, ↓reduceIte, reduceCtorEq, hl, e0, e1, e6, e7, e8, e19]
  refine CondK_boo (fun c43 => ?_) (fun c43 => ?_)
  · rw [if_pos c43] at hF
    try simp only [↓WD, W0, evalOp, Nat.reduceEqDiff, Nat.reduceLT, ↓reduceIte, reduceCtorEq, hl, e0, e1, e6, e7, e8, e19]
    rw [AW_drawn, AE_drawnK (Ksub.cons k40 (Ksub.cons k47 (Ksub.cons k77 Ksub.nil))) (by kernel_rfl)]
    have ol44 := S20.load (P := Try.prog) 0 rfl (t := 26) (off := 2) (v := .int .i64 y15.1.xe) (by simp only [apart, ag_26, sz_26]; rfl)
    refine AE_joinR (fun e h' => h17 = h' ∧ e.length = 67 ∧ e.getD 4 .undef = .str [] ∧ e.getD 5 .undef = .int .i64 y15.1.xe) (by
      simp only [↓WE, WA, WL, aop, ofValue, ofCell, isConst, abin, acall1, abuiltin, aun, AV.cells, AV.one, Nat.reduceAdd, Int.reduceLT, Int.reduceLE, ↓WD, W0, evalOp, Nat.reduceEqDiff, Nat.reduceLT, ↓reduceIte, reduceCtorEq, hl, e0, e1, e6, e7, e8, e19, fa_113_2, ol44]
      exact ⟨rfl, (by simp only [List.length_set, hl]), (by simp only [W0, Nat.reduceEqDiff, Nat.reduceLT, ↓reduceIte, hl, e0, e1, e6, e7, e8, e19]), (by simp only [W0, Nat.reduceEqDiff, Nat.reduceLT, ↓reduceIte, hl, e0, e1, e6, e7, e8, e19])⟩) ?_
    rintro envg45 _ ⟨rfl, hl, e4, e5⟩
    try simp only [↓WD, W0, evalOp, Nat.reduceEqDiff, Nat.reduceLT, ↓reduceIte, reduceCtorEq, hl, e4, e5]
    refine KP_ret (vs := [.str [], .int .i64 y15.1.xe]) (by simp only [aresults, aresult, gs, List.length_set, Nat.reduceEqDiff, Nat.reduceLT, ↓reduceIte, hl, e4, e5]) ?_
    obtain rfl := Option.some.inj hF
    exact rfl
  · rw [if_neg (nf c43)] at hF
    try simp only [↓WD, W0, evalOp, Nat.reduceEqDiff, Nat.reduceLT, ↓reduceIte, reduceCtorEq, hl, e0, e1, e6, e7, e8, e19]
    rw [AW_region]
    have ol46 := fun g : AH => alen_str (P := Try.prog) (h := g) (l := old_) Try.underlying9
    refine AE_joinR (fun e h' => h17 = h' ∧ e.length = 67 ∧ e.getD 0 .undef = .str old_ ∧ e.getD 1 .undef = .str delta ∧ e.getD 6 .undef = .ptr i2 0 ∧ e.getD 8 .undef = .int .i64 y15.2 ∧ e.getD 29 .undef = .bool (y9.2 != (old_.length : Int))) (by
      simp only [↓WE, WA, WL, aop, ofValue, ofCell, isConst, abin, acall1, abuiltin, aun, AV.cells, AV.one, Nat.reduceAdd, Int.reduceLT, Int.reduceLE, ↓WD, W0, evalOp, Nat.reduceEqDiff, Nat.reduceLT, ↓reduceIte, reduceCtorEq, hl, e0, e1, e6, e7, e8, e19, ol46]
      exact ⟨rfl, (by simp only [List.length_set, hl]), (by simp only [W0, Nat.reduceEqDiff, Nat.reduceLT, ↓reduceIte, hl, e0, e1, e6, e7, e8, e19]), (by simp only [W0, Nat.reduceEqDiff, Nat.reduceLT, ↓reduceIte, hl, e0, e1, e6, e7, e8, e19]), (by simp only [W0, Nat.reduceEqDiff, Nat.reduceLT, ↓reduceIte, hl, e0, e1, e6, e7, e8, e19]), (by simp only [W0, Nat.reduceEqDiff, Nat.reduceLT, ↓reduceIte, hl, e0, e1, e6, e7, e8, e19]), (by simp only [W0, Nat.reduceEqDiff, Nat.reduceLT, ↓reduceIte, hl, e0, e1, e6, e7, e8, e19])⟩) ?_
    rintro envg47 _ ⟨rfl, hl, e0, e1, e6, e8, e29⟩
    try simp only [↓WD, W0, evalOp, Nat.reduceEqDiff, Nat.reduceLT, ↓reduceIte, reduceCtorEq, hl, e0, e1, e6, e8, e29]
    refine CondK_boo (fun c55 => ?_) (fun c55 => ?_)
    · rw [if_pos c55] at hF
      try simp only [↓WD, W0, evalOp, Nat.reduceEqDiff, Nat.reduceLT, ↓reduceIte, reduceCtorEq, hl, e0, e1, e6, e8, e29]
      rw [AW_region]
      refine AE_joinR (fun e h' => h17 = h' ∧ e.length = 67 ∧ e.getD 4 .undef = .str [] ∧ e.getD 5 .undef = .int .i64 4) (by
        simp only [↓WE, WA, WL, aop, ofValue, ofCell, isConst, abin, acall1, abuiltin, aun, AV.cells, AV.one, Nat.reduceAdd, Int.reduceLT, Int.reduceLE, ↓WD, W0, evalOp, Nat.reduceEqDiff, Nat.reduceLT, ↓reduceIte, reduceCtorEq, hl, e0, e1, e6, e8, e29]
        exact ⟨rfl, (by simp only [List.length_set, hl]), (by simp only [W0, Nat.reduceEqDiff, Nat.reduceLT, ↓reduceIte, hl, e0, e1, e6, e8, e29]), (by simp only [W0, Nat.reduceEqDiff, Nat.reduceLT, ↓reduceIte, hl, e0, e1, e6, e8, e29])⟩) ?_
      rintro envg56 _ ⟨rfl, hl, e4, e5⟩
      try simp only [↓WD, W0, evalOp, Nat.reduceEqDiff, Nat.reduceLT, ↓reduceIte, reduceCtorEq, hl, e4, e5]
      refine KP_ret (vs := [.str [], .int .i64 4]) (by simp only [aresults, aresult, gs, List.length_set, Nat.reduceEqDiff, Nat.reduceLT, ↓reduceIte, hl, e4, e5]) ?_
      obtain rfl := Option.some.inj hF
      exact rfl
    · rw [if_neg (nf c55)] at hF
      try simp only [↓WD, W0, evalOp, Nat.reduceEqDiff, Nat.reduceLT, ↓reduceIte, reduceCtorEq, hl, e0, e1, e6, e8, e29]
      rw [AW_region]
      refine AE_joinR (fun e h' => h17 = h' ∧ e.length = 67 ∧ e.getD 0 .undef = .str old_ ∧ e.getD 1 .undef = .str delta ∧ e.getD 6 .undef = .ptr i2 0 ∧ e.getD 8 .undef = .int .i64 y15.2 ∧ e.getD 34 .undef = .bool (decide (y15.2 > 4194304))) (by
        simp only [↓WE, WA, WL, aop, ofValue, ofCell, isConst, abin, acall1, abuiltin, aun, AV.cells, AV.one, Nat.reduceAdd, Int.reduceLT, Int.reduceLE, ↓WD, W0, evalOp, Nat.reduceEqDiff, Nat.reduceLT, ↓reduceIte, reduceCtorEq, hl, e0, e1, e6, e8, e29]
        exact ⟨rfl, (by simp only [List.length_set, hl]), (by simp only [W0, Nat.reduceEqDiff, Nat.reduceLT, ↓reduceIte, hl, e0, e1, e6, e8, e29]), (by simp only [W0, Nat.reduceEqDiff, Nat.reduceLT, ↓reduceIte, hl, e0, e1, e6, e8, e29]), (by simp only [W0, Nat.reduceEqDiff, Nat.reduceLT, ↓reduceIte, hl, e0, e1, e6, e8, e29]), (by simp only [W0, Nat.reduceEqDiff, Nat.reduceLT, ↓reduceIte, hl, e0, e1, e6, e8, e29]), (by simp only [W0, Nat.reduceEqDiff, Nat.reduceLT, ↓reduceIte, hl, e0, e1, e6, e8, e29])⟩) ?_
      rintro envg57 _ ⟨rfl, hl, e0, e1, e6, e8, e34⟩
      try simp only [↓WD, W0, evalOp, Nat.reduceEqDiff, Nat.reduceLT, ↓reduceIte, reduceCtorEq, hl, e0, e1, e6, e8, e34]
      refine CondK_dec (fun c60 => ?_) (fun c60 => ?_)
      · rw [if_pos c60] at hF
        try simp only [↓WD, W0, evalOp, Nat.reduceEqDiff, Nat.reduceLT, ↓reduceIte, reduceCtorEq, hl, e0, e1, e6, e8, e34]
        rw [AW_region]
        refine AE_joinR (fun e h' => h17 = h' ∧ e.length = 67 ∧ e.getD 4 .undef = .str [] ∧ e.getD 5 .undef = .int .i64 7) (by
          simp only [↓WE, WA, WL, aop, ofValue, ofCell, isConst, abin, acall1, abuiltin, aun, AV.cells, AV.one, Nat.reduceAdd, Int.reduceLT, Int.reduceLE, ↓WD, W0, evalOp, Nat.reduceEqDiff, Nat.reduceLT, ↓reduceIte, reduceCtorEq, hl, e0, e1, e6, e8, e34]
          exact ⟨rfl, (by simp only [List.length_set, hl]), (by simp only [W0, Nat.reduceEqDiff, Nat.reduceLT, ↓reduceIte, hl, e0, e1, e6, e8, e34]), (by simp only [W0, Nat.reduceEqDiff, Nat.reduceLT, ↓reduceIte, hl, e0, e1, e6, e8, e34])⟩) ?_
        rintro envg61 _ ⟨rfl, hl, e4, e5⟩
        try simp only [↓WD, W0, evalOp, Nat.reduceEqDiff, Nat.reduceLT, ↓reduceIte, reduceCtorEq, hl, e4, e5]
        refine KP_ret (vs := [.str [], .int .i64 7]) (by simp only [aresults, aresult, gs, List.length_set, Nat.reduceEqDiff, Nat.reduceLT, ↓reduceIte, hl, e4, e5]) ?_
        obtain rfl := Option.some.inj hF
        exact rfl
      · rw [if_neg c60] at hF
        try simp only [↓WD, W0, evalOp, Nat.reduceEqDiff, Nat.reduceLT, ↓reduceIte, reduceCtorEq, hl, e0, e1, e6, e8, e34]
        rw [AW_region]
        obtain ⟨i62, h63, oa64, S65⟩ := S20.allocB
        have S67 : Sep h [] h63 [.blk i2 [.str y15.1.xs, .int .i64 y15.1.xat, .int .i64 y15.1.xe] 113, .bld i62 (.val (.pointer none)) (.val (.slice none 0 0)) 88 5 ([] : List UInt8)] := S65
        refine AE_joinR (fun e h' => h63 = h' ∧ e.length = 67 ∧ e.getD 0 .undef = .str old_ ∧ e.getD 1 .undef = .str delta ∧ e.getD 6 .undef = .ptr i2 0 ∧ e.getD 8 .undef = .int .i64 y15.2 ∧ e.getD 9 .undef = .ptr i62 0) (by
          simp only [↓WE, WA, WL, aop, ofValue, ofCell, isConst, abin, acall1, abuiltin, aun, AV.cells, AV.one, Nat.reduceAdd, Int.reduceLT, Int.reduceLE, ↓WD, W0, evalOp, Nat.reduceEqDiff, Nat.reduceLT, ↓reduceIte, reduceCtorEq, hl, e0, e1, e6, e8, e34, zero_88, oa64]
          exact ⟨rfl, (by simp only [List.length_set, hl]), (by simp only [W0, Nat.reduceEqDiff, Nat.reduceLT, ↓reduceIte, hl, e0, e1, e6, e8, e34]), (by simp only [W0, Nat.reduceEqDiff, Nat.reduceLT, ↓reduceIte, hl, e0, e1, e6, e8, e34]), (by simp only [W0, Nat.reduceEqDiff, Nat.reduceLT, ↓reduceIte, hl, e0, e1, e6, e8, e34]), (by simp only [W0, Nat.reduceEqDiff, Nat.reduceLT, ↓reduceIte, hl, e0, e1, e6, e8, e34]), (by simp only [W0, Nat.reduceEqDiff, Nat.reduceLT, ↓reduceIte, hl, e0, e1, e6, e8, e34])⟩) ?_
        rintro envg68 _ ⟨rfl, hl, e0, e1, e6, e8, e9⟩
        try simp only [↓WD, W0, evalOp, Nat.reduceEqDiff, Nat.reduceLT, ↓reduceIte, reduceCtorEq, hl, e0, e1, e6, e8, e9]
        obtain ⟨r157, qr157, hF⟩ := obind hF
        refine AW_lift (L_delta_Apply_1 delta old_ y15) (fun s e h' => ∃ (p112 : AV), ∃ (u113 : AV), e.length = 67 ∧ e.getD 0 .undef = .str old_ ∧ e.getD 1 .undef = .str delta ∧ e.getD 6 .undef = .ptr i2 0 ∧ e.getD 8 .undef = .int .i64 y15.2 ∧ e.getD 9 .undef = .ptr i62 0 ∧ Sep h [] h' [.blk i2 [.str s.1, .int .i64 s.2.1, .int .i64 s.2.2.1] 113, .bld i62 p112 u113 88 5 s.2.2.2]) (fun r157 x e h' => (∃ (t158 : (List UInt8)), ∃ (p159 : AV), ∃ (u160 : AV), r157 = (.inl t158) ∧ x = .exit 1 ∧ e.length = 67 ∧ e.getD 8 .undef = .int .i64 y15.2 ∧ e.getD 9 .undef = .ptr i62 0 ∧ Sep h [] h' [.bld i62 p159 u160 88 5 t158]) ∨ (∃ (t163 : Int), r157 = (.inr t163) ∧ x = .ret ∧ e.length = 67 ∧ e.getD 4 .undef = .str [] ∧ e.getD 5 .undef = .int .i64 t163 ∧ Sep h [] h' [])) qr157 (by omega) ?_ ?_ ?_
        · rintro s envr157 h114 or157 ⟨p112, u113, hl, e0, e1, e6, e8, e9, S115⟩ wr157
          rw [L_delta_Apply_1] at wr157
          try simp only [↓WD, W0, evalOp, Nat.reduceEqDiff, Nat.reduceLT, ↓reduceIte, reduceCtorEq, hl, e0, e1, e6, e8, e9]
          rw [AW_region]
          have ol116 := S115.load (P := Try.prog) 0 rfl (t := 3) (off := 1) (v := .int .i64 s.2.1) (by simp only [apart, ag_3, sz_3]; rfl)
          have ol117 := fun g : AH => alen_str (P := Try.prog) (h := g) (l := delta) Try.underlying9
          refine AE_joinR (fun e h' => h114 = h' ∧ e.length = 67 ∧ e.getD 0 .undef = .str old_ ∧ e.getD 1 .undef = .str delta ∧ e.getD 6 .undef = .ptr i2 0 ∧ e.getD 8 .undef = .int .i64 y15.2 ∧ e.getD 9 .undef = .ptr i62 0 ∧ e.getD 43 .undef = .bool (decide (s.2.1 < (delta.length : Int)))) (by
            simp only [↓WE, WA, WL, aop, ofValue, ofCell, isConst, abin, acall1, abuiltin, aun, AV.cells, AV.one, Nat.reduceAdd, Int.reduceLT, Int.reduceLE, ↓WD, W0, evalOp, Nat.reduceEqDiff, Nat.reduceLT, ↓reduceIte, reduceCtorEq, hl, e0, e1, e6, e8, e9, fa_113_1, ol116, ol117]
            exact ⟨rfl, (by simp only [List.length_set, hl]), (by simp only [W0, Nat.reduceEqDiff, Nat.reduceLT, ↓reduceIte, hl, e0, e1, e6, e8, e9]), (by simp only [W0, Nat.reduceEqDiff, Nat.reduceLT, ↓reduceIte, hl, e0, e1, e6, e8, e9]), (by simp only [W0, Nat.reduceEqDiff, Nat.reduceLT, ↓reduceIte, hl, e0, e1, e6, e8, e9]), (by simp only [W0, Nat.reduceEqDiff, Nat.reduceLT, ↓reduceIte, hl, e0, e1, e6, e8, e9]), (by simp only [W0, Nat.reduceEqDiff, Nat.reduceLT, ↓reduceIte, hl, e0, e1, e6, e8, e9]), (by simp only [W0, Nat.reduceEqDiff, Nat.reduceLT, ↓reduceIte, hl, e0, e1, e6, e8, e9])⟩) ?_
          rintro envg118 _ ⟨rfl, hl, e0, e1, e6, e8, e9, e43⟩
          try simp only [↓WD, W0, evalOp, Nat.reduceEqDiff, Nat.reduceLT, ↓reduceIte, reduceCtorEq, hl, e0, e1, e6, e8, e9, e43]
          refine CondK_dec (fun c120 => ?_) (fun c120 => ?_)
          · rw [if_pos c120] at wr157
            try simp only [↓WD, W0, evalOp, Nat.reduceEqDiff, Nat.reduceLT, ↓reduceIte, reduceCtorEq, hl, e0, e1, e6, e8, e9, e43]
            rw [AW_region]
            obtain ⟨y121, qy121, wr157⟩ := obind wr157
            obtain ⟨v125, h123, og122, rfl, S124⟩ := (W_delta_reader_step k40 k47 n67 n68 m (by omega) h114 i2 (⟨s.1, s.2.1, s.2.2.1⟩ : Gdelta_reader) (S115.blk (i := 0) rfl) old_ qy121).out
            have S126 : Sep h [] h123 [.bld i62 p112 u113 88 5 s.2.2.2, .blk i2 [.str y121.1.xs, .int .i64 y121.1.xat, .int .i64 y121.1.xe] 113] := S115.call1 0 rfl (by simp [Ent.ids]) S124
            refine AE_joinR (fun e h' => h123 = h' ∧ e.length = 67 ∧ e.getD 0 .undef = .str old_ ∧ e.getD 1 .undef = .str delta ∧ e.getD 6 .undef = .ptr i2 0 ∧ e.getD 8 .undef = .int .i64 y15.2 ∧ e.getD 9 .undef = .ptr i62 0 ∧ e.getD 10 .undef = .str y121.2.1 ∧ e.getD 11 .undef = .int .i64 y121.2.2) (by
              simp only [↓WE, WA, WL, aop, ofValue, ofCell, isConst, abin, acall1, abuiltin, aun, AV.cells, AV.one, Nat.reduceAdd, Int.reduceLT, Int.reduceLE, ↓WD, W0, evalOp, Nat.reduceEqDiff, Nat.reduceLT, ↓reduceIte, reduceCtorEq, hl, e0, e1, e6, e8, e9, e43, og122]
              exact ⟨rfl, (by simp only [List.length_set, hl]), (by simp only [W0, Nat.reduceEqDiff, Nat.reduceLT, ↓reduceIte, hl, e0, e1, e6, e8, e9, e43]), (by simp only [W0, Nat.reduceEqDiff, Nat.reduceLT, ↓reduceIte, hl, e0, e1, e6, e8, e9, e43]), (by simp only [W0, Nat.reduceEqDiff, Nat.reduceLT, ↓reduceIte, hl, e0, e1, e6, e8, e9, e43]), (by simp only [W0, Nat.reduceEqDiff, Nat.reduceLT, ↓reduceIte, hl, e0, e1, e6, e8, e9, e43]), (by simp only [W0, Nat.reduceEqDiff, Nat.reduceLT, ↓reduceIte, hl, e0, e1, e6, e8, e9, e43]), (by simp only [W0, Nat.reduceEqDiff, Nat.reduceLT, ↓reduceIte, hl, e0, e1, e6, e8, e9, e43]), (by simp only [W0, Nat.reduceEqDiff, Nat.reduceLT, ↓reduceIte, hl, e0, e1, e6, e8, e9, e43])⟩) ?_
            rintro envg127 _ ⟨rfl, hl, e0, e1, e6, e8, e9, e10, e11⟩
            try simp only [↓WD, W0, evalOp, Nat.reduceEqDiff, Nat.reduceLT, ↓reduceIte, reduceCtorEq, hl, e0, e1, e6, e8, e9, e10, e11]
            rw [AW_region]
            refine AE_joinR (fun e h' => h123 = h' ∧ e.length = 67 ∧ e.getD 0 .undef = .str old_ ∧ e.getD 1 .undef = .str delta ∧ e.getD 6 .undef = .ptr i2 0 ∧ e.getD 8 .undef = .int .i64 y15.2 ∧ e.getD 9 .undef = .ptr i62 0 ∧ e.getD 10 .undef = .str y121.2.1 ∧ e.getD 11 .undef = .int .i64 y121.2.2 ∧ e.getD 50 .undef = .bool (y121.2.2 != 0)) (by
              simp only [↓WE, WA, WL, aop, ofValue, ofCell, isConst, abin, acall1, abuiltin, aun, AV.cells, AV.one, Nat.reduceAdd, Int.reduceLT, Int.reduceLE, ↓WD, W0, evalOp, Nat.reduceEqDiff, Nat.reduceLT, ↓reduceIte, reduceCtorEq, hl, e0, e1, e6, e8, e9, e10, e11]
              exact ⟨rfl, (by simp only [List.length_set, hl]), (by simp only [W0, Nat.reduceEqDiff, Nat.reduceLT, ↓reduceIte, hl, e0, e1, e6, e8, e9, e10, e11]), (by simp only [W0, Nat.reduceEqDiff, Nat.reduceLT, ↓reduceIte, hl, e0, e1, e6, e8, e9, e10, e11]), (by simp only [W0, Nat.reduceEqDiff, Nat.reduceLT, ↓reduceIte, hl, e0, e1, e6, e8, e9, e10, e11]), (by simp only [W0, Nat.reduceEqDiff, Nat.reduceLT, ↓reduceIte, hl, e0, e1, e6, e8, e9, e10, e11]), (by simp only [W0, Nat.reduceEqDiff, Nat.reduceLT, ↓reduceIte, hl, e0, e1, e6, e8, e9, e10, e11]), (by simp only [W0, Nat.reduceEqDiff, Nat.reduceLT, ↓reduceIte, hl, e0, e1, e6, e8, e9, e10, e11]), (by simp only [W0, Nat.reduceEqDiff, Nat.reduceLT, ↓reduceIte, hl, e0, e1, e6, e8, e9, e10, e11]), (by simp only [W0, Nat.reduceEqDiff, Nat.reduceLT, ↓reduceIte, hl, e0, e1, e6, e8, e9, e10, e11])⟩) ?_
            rintro envg128 _ ⟨rfl, hl, e0, e1, e6, e8, e9, e10, e11, e50⟩
            try simp only [↓WD, W0, evalOp, Nat.reduceEqDiff, Nat.reduceLT, ↓reduceIte, reduceCtorEq, hl, e0, e1, e6, e8, e9, e10, e11, e50]
            refine CondK_boo (fun c138 => ?_) (fun c138 => ?_)
            · rw [if_pos c138] at wr157
              try simp only [↓WD, W0, evalOp, Nat.reduceEqDiff, Nat.reduceLT, ↓reduceIte, reduceCtorEq, hl, e0, e1, e6, e8, e9, e10, e11, e50]
              rw [AW_region]
              refine AE_joinR (fun e h' => h123 = h' ∧ e.length = 67 ∧ e.getD 4 .undef = .str [] ∧ e.getD 5 .undef = .int .i64 y121.2.2) (by
                simp only [↓WE, WA, WL, aop, ofValue, ofCell, isConst, abin, acall1, abuiltin, aun, AV.cells, AV.one, Nat.reduceAdd, Int.reduceLT, Int.reduceLE, ↓WD, W0, evalOp, Nat.reduceEqDiff, Nat.reduceLT, ↓reduceIte, reduceCtorEq, hl, e0, e1, e6, e8, e9, e10, e11, e50]
                exact ⟨rfl, (by simp only [List.length_set, hl]), (by simp only [W0, Nat.reduceEqDiff, Nat.reduceLT, ↓reduceIte, hl, e0, e1, e6, e8, e9, e10, e11, e50]), (by simp only [W0, Nat.reduceEqDiff, Nat.reduceLT, ↓reduceIte, hl, e0, e1, e6, e8, e9, e10, e11, e50])⟩) ?_
              rintro envg139 _ ⟨rfl, hl, e4, e5⟩
              try simp only [↓WD, W0, evalOp, Nat.reduceEqDiff, Nat.reduceLT, ↓reduceIte, reduceCtorEq, hl, e4, e5]
              obtain rfl := Option.some.inj wr157
              rw [KP_nil, QL_ret]
              exact ⟨_, rfl, .inr (⟨_, rfl, rfl, (by simp only [List.length_set, hl]), (by simp only [W0, Nat.reduceEqDiff, Nat.reduceLT, ↓reduceIte, hl, e4, e5]), (by simp only [W0, Nat.reduceEqDiff, Nat.reduceLT, ↓reduceIte, hl, e4, e5]), S126.pick [] (by decide) rfl⟩)⟩
            · rw [if_neg (nf c138)] at wr157
              try simp only [↓WD, W0, evalOp, Nat.reduceEqDiff, Nat.reduceLT, ↓reduceIte, reduceCtorEq, hl, e0, e1, e6, e8, e9, e10, e11, e50]
              rw [AW_region]
              have ow140 := S126.blen (T := tabOf K) n51 0 rfl m (by omega)
              have ol141 := fun g : AH => alen_str (P := Try.prog) (h := g) (l := y121.2.1) Try.underlying9
              refine AE_joinR (fun e h' => h123 = h' ∧ e.length = 67 ∧ e.getD 0 .undef = .str old_ ∧ e.getD 1 .undef = .str delta ∧ e.getD 6 .undef = .ptr i2 0 ∧ e.getD 8 .undef = .int .i64 y15.2 ∧ e.getD 9 .undef = .ptr i62 0 ∧ e.getD 10 .undef = .str y121.2.1 ∧ e.getD 54 .undef = .bool (decide ((IntKind.i64.wrap ((s.2.2.2.length : Int) + (y121.2.1.length : Int))) > y15.2))) (by
                simp only [↓WE, WA, WL, aop, ofValue, ofCell, isConst, abin, acall1, abuiltin, aun, AV.cells, AV.one, Nat.reduceAdd, Int.reduceLT, Int.reduceLE, ↓WD, W0, evalOp, Nat.reduceEqDiff, Nat.reduceLT, ↓reduceIte, reduceCtorEq, hl, e0, e1, e6, e8, e9, e10, e11, e50, ow140, ol141]
                exact ⟨rfl, (by simp only [List.length_set, hl]), (by simp only [W0, Nat.reduceEqDiff, Nat.reduceLT, ↓reduceIte, hl, e0, e1, e6, e8, e9, e10, e11, e50]), (by simp only [W0, Nat.reduceEqDiff, Nat.reduceLT, ↓reduceIte, hl, e0, e1, e6, e8, e9, e10, e11, e50]), (by simp only [W0, Nat.reduceEqDiff, Nat.reduceLT, ↓reduceIte, hl, e0, e1, e6, e8, e9, e10, e11, e50]), (by simp only [W0, Nat.reduceEqDiff, Nat.reduceLT, ↓reduceIte, hl, e0, e1, e6, e8, e9, e10, e11, e50]), (by simp only [W0, Nat.reduceEqDiff, Nat.reduceLT, ↓reduceIte, hl, e0, e1, e6, e8, e9, e10, e11, e50]), (by simp only [W0, Nat.reduceEqDiff, Nat.reduceLT, ↓reduceIte, hl, e0, e1, e6, e8, e9, e10, e11, e50]), (by simp only [W0, Nat.reduceEqDiff, Nat.reduceLT, ↓reduceIte, hl, e0, e1, e6, e8, e9, e10, e11, e50])⟩) ?_
              rintro envg142 _ ⟨rfl, hl, e0, e1, e6, e8, e9, e10, e54⟩
              try simp only [↓WD, W0, evalOp, Nat.reduceEqDiff, Nat.reduceLT, ↓reduceIte, reduceCtorEq, hl, e0, e1, e6, e8, e9, e10, e54]
              refine CondK_dec (fun c145 => ?_) (fun c145 => ?_)
              · rw [if_pos c145] at wr157
                try simp only [↓WD, W0, evalOp, Nat.reduceEqDiff, Nat.reduceLT, ↓reduceIte, reduceCtorEq, hl, e0, e1, e6, e8, e9, e10, e54]
                rw [AW_region]
                refine AE_joinR (fun e h' => h123 = h' ∧ e.length = 67 ∧ e.getD 4 .undef = .str [] ∧ e.getD 5 .undef = .int .i64 7) (by
                  simp only [↓WE, WA, WL, aop, ofValue, ofCell, isConst, abin, acall1, abuiltin, aun, AV.cells, AV.one, Nat.reduceAdd, Int.reduceLT, Int.reduceLE, ↓WD, W0, evalOp, Nat.reduceEqDiff, Nat.reduceLT, ↓reduceIte, reduceCtorEq, hl, e0, e1, e6, e8, e9, e10, e54]
                  exact ⟨rfl, (by simp only [List.length_set, hl]), (by simp only [W0, Nat.reduceEqDiff, Nat.reduceLT, ↓reduceIte, hl, e0, e1, e6, e8, e9, e10, e54]), (by simp only [W0, Nat.reduceEqDiff, Nat.reduceLT, ↓reduceIte, hl, e0, e1, e6, e8, e9, e10, e54])⟩) ?_
                rintro envg146 _ ⟨rfl, hl, e4, e5⟩
                try simp only [↓WD, W0, evalOp, Nat.reduceEqDiff, Nat.reduceLT, ↓reduceIte, reduceCtorEq, hl, e4, e5]
                obtain rfl := Option.some.inj wr157
                rw [KP_nil, QL_ret]
                exact ⟨_, rfl, .inr (⟨_, rfl, rfl, (by simp only [List.length_set, hl]), (by simp only [W0, Nat.reduceEqDiff, Nat.reduceLT, ↓reduceIte, hl, e4, e5]), (by simp only [W0, Nat.reduceEqDiff, Nat.reduceLT, ↓reduceIte, hl, e4, e5]), S126.pick [] (by decide) rfl⟩)⟩
              · rw [if_neg c145] at wr157
                try simp only [↓WD, W0, evalOp, Nat.reduceEqDiff, Nat.reduceLT, ↓reduceIte, reduceCtorEq, hl, e0, e1, e6, e8, e9, e10, e54]
                rw [AW_region]
                obtain ⟨b147, qb147, wr157⟩ := obind wr157
                obtain ⟨p148, u149, h150, ow151, S152⟩ := S126.bwrite (T := tabOf K) k77 n69 n50 0 rfl qb147 m (by omega)
                have S153 : Sep h [] h150 [.bld i62 p148 u149 88 5 b147, .blk i2 [.str y121.1.xs, .int .i64 y121.1.xat, .int .i64 y121.1.xe] 113] := S152
                refine AE_joinR (fun e h' => h150 = h' ∧ e.length = 67 ∧ e.getD 0 .undef = .str old_ ∧ e.getD 1 .undef = .str delta ∧ e.getD 6 .undef = .ptr i2 0 ∧ e.getD 8 .undef = .int .i64 y15.2 ∧ e.getD 9 .undef = .ptr i62 0) (by
                  simp only [↓WE, WA, WL, aop, ofValue, ofCell, isConst, abin, acall1, abuiltin, aun, AV.cells, AV.one, Nat.reduceAdd, Int.reduceLT, Int.reduceLE, ↓WD, W0, evalOp, Nat.reduceEqDiff, Nat.reduceLT, ↓reduceIte, reduceCtorEq, hl, e0, e1, e6, e8, e9, e10, e54, ow151]
                  exact ⟨rfl, (by simp only [List.length_set, hl]), (by simp only [W0, Nat.reduceEqDiff, Nat.reduceLT, ↓reduceIte, hl, e0, e1, e6, e8, e9, e10, e54]), (by simp only [W0, Nat.reduceEqDiff, Nat.reduceLT, ↓reduceIte, hl, e0, e1, e6, e8, e9, e10, e54]), (by simp only [W0, Nat.reduceEqDiff, Nat.reduceLT, ↓reduceIte, hl, e0, e1, e6, e8, e9, e10, e54]), (by simp only [W0, Nat.reduceEqDiff, Nat.reduceLT, ↓reduceIte, hl, e0, e1, e6, e8, e9, e10, e54]), (by simp only [W0, Nat.reduceEqDiff, Nat.reduceLT, ↓reduceIte, hl, e0, e1, e6, e8, e9, e10, e54])⟩) ?_
                rintro envg154 _ ⟨rfl, hl, e0, e1, e6, e8, e9⟩
                try simp only [↓WD, W0, evalOp, Nat.reduceEqDiff, Nat.reduceLT, ↓reduceIte, reduceCtorEq, hl, e0, e1, e6, e8, e9]
                obtain rfl := Option.some.inj wr157
                rw [KP_nil, QL_normal]
                exact ⟨_, rfl, p148, u149, (by simp only [List.length_set, hl]), (by simp only [W0, Nat.reduceEqDiff, Nat.reduceLT, ↓reduceIte, hl, e0, e1, e6, e8, e9]), (by simp only [W0, Nat.reduceEqDiff, Nat.reduceLT, ↓reduceIte, hl, e0, e1, e6, e8, e9]), (by simp only [W0, Nat.reduceEqDiff, Nat.reduceLT, ↓reduceIte, hl, e0, e1, e6, e8, e9]), (by simp only [W0, Nat.reduceEqDiff, Nat.reduceLT, ↓reduceIte, hl, e0, e1, e6, e8, e9]), (by simp only [W0, Nat.reduceEqDiff, Nat.reduceLT, ↓reduceIte, hl, e0, e1, e6, e8, e9]), S153.pick [1, 0] (by decide) rfl⟩
          · rw [if_neg c120] at wr157
            try simp only [↓WD, W0, evalOp, Nat.reduceEqDiff, Nat.reduceLT, ↓reduceIte, reduceCtorEq, hl, e0, e1, e6, e8, e9, e43]
            obtain rfl := Option.some.inj wr157
            rw [KP_nil, QL_exit]
            exact ⟨_, rfl, .inl ⟨_, p112, u113, rfl, rfl, (by simp only [List.length_set, hl]), (by simp only [W0, Nat.reduceEqDiff, Nat.reduceLT, ↓reduceIte, hl, e0, e1, e6, e8, e9, e43]), (by simp only [W0, Nat.reduceEqDiff, Nat.reduceLT, ↓reduceIte, hl, e0, e1, e6, e8, e9, e43]), S115.pick [1] (by decide) rfl⟩⟩
        · exact ⟨.val (.pointer none), .val (.slice none 0 0), (by simp only [List.length_set, hl]), (by simp only [W0, Nat.reduceEqDiff, Nat.reduceLT, ↓reduceIte, hl, e0, e1, e6, e8, e9]), (by simp only [W0, Nat.reduceEqDiff, Nat.reduceLT, ↓reduceIte, hl, e0, e1, e6, e8, e9]), (by simp only [W0, Nat.reduceEqDiff, Nat.reduceLT, ↓reduceIte, hl, e0, e1, e6, e8, e9]), (by simp only [W0, Nat.reduceEqDiff, Nat.reduceLT, ↓reduceIte, hl, e0, e1, e6, e8, e9]), (by simp only [W0, Nat.reduceEqDiff, Nat.reduceLT, ↓reduceIte, hl, e0, e1, e6, e8, e9]), S67⟩
        · intro x envr157 h161 hk
          rcases hk with ⟨t158, p159, u160, rfl, rfl, hl, e8, e9, S162⟩ | ⟨t163, rfl, rfl, hl, e4, e5, S165⟩
          · skip
            rw [sumK_inl] at hF
            try simp only [↓WD, W0, evalOp, Nat.reduceEqDiff, Nat.reduceLT, ↓reduceIte, reduceCtorEq, hl, e8, e9]
            rw [AW_region]
            have ow166 := S162.blen (T := tabOf K) n51 0 rfl m (by omega)
            refine AE_joinR (fun e h' => h161 = h' ∧ e.length = 67 ∧ e.getD 9 .undef = .ptr i62 0 ∧ e.getD 65 .undef = .bool (decide ((t158.length : Int) < y15.2))) (by
              simp only [↓WE, WA, WL, aop, ofValue, ofCell, isConst, abin, acall1, abuiltin, aun, AV.cells, AV.one, Nat.reduceAdd, Int.reduceLT, Int.reduceLE, ↓WD, W0, evalOp, Nat.reduceEqDiff, Nat.reduceLT, ↓reduceIte, reduceCtorEq, hl, e8, e9, ow166]
              exact ⟨rfl, (by simp only [List.length_set, hl]), (by simp only [W0, Nat.reduceEqDiff, Nat.reduceLT, ↓reduceIte, hl, e8, e9]), (by simp only [W0, Nat.reduceEqDiff, Nat.reduceLT, ↓reduceIte, hl, e8, e9])⟩) ?_
            rintro envg167 _ ⟨rfl, hl, e9, e65⟩
            try simp only [↓WD, W0, evalOp, Nat.reduceEqDiff, Nat.reduceLT, ↓reduceIte, reduceCtorEq, hl, e9, e65]
            refine CondK_dec (fun c170 => ?_) (fun c170 => ?_)
            · rw [if_pos c170] at hF
              try simp only [↓WD, W0, evalOp, Nat.reduceEqDiff, Nat.reduceLT, ↓reduceIte, reduceCtorEq, hl, e9, e65]
              rw [AW_region]
              refine AE_joinR (fun e h' => h161 = h' ∧ e.length = 67 ∧ e.getD 4 .undef = .str [] ∧ e.getD 5 .undef = .int .i64 4) (by
                simp only [↓WE, WA, WL, aop, ofValue, ofCell, isConst, abin, acall1, abuiltin, aun, AV.cells, AV.one, Nat.reduceAdd, Int.reduceLT, Int.reduceLE, ↓WD, W0, evalOp, Nat.reduceEqDiff, Nat.reduceLT, ↓reduceIte, reduceCtorEq, hl, e9, e65]
                exact ⟨rfl, (by simp only [List.length_set, hl]), (by simp only [W0, Nat.reduceEqDiff, Nat.reduceLT, ↓reduceIte, hl, e9, e65]), (by simp only [W0, Nat.reduceEqDiff, Nat.reduceLT, ↓reduceIte, hl, e9, e65])⟩) ?_
              rintro envg171 _ ⟨rfl, hl, e4, e5⟩
              try simp only [↓WD, W0, evalOp, Nat.reduceEqDiff, Nat.reduceLT, ↓reduceIte, reduceCtorEq, hl, e4, e5]
              refine KP_ret (vs := [.str [], .int .i64 4]) (by simp only [aresults, aresult, gs, List.length_set, Nat.reduceEqDiff, Nat.reduceLT, ↓reduceIte, hl, e4, e5]) ?_
              obtain rfl := Option.some.inj hF
              exact rfl
            · rw [if_neg c170] at hF
              try simp only [↓WD, W0, evalOp, Nat.reduceEqDiff, Nat.reduceLT, ↓reduceIte, reduceCtorEq, hl, e9, e65]
              rw [AW_region]
              obtain ⟨_, q175, hF⟩ := obind hF
              obtain ⟨h172, ow173, S174⟩ := S162.bstring (T := tabOf K) n52 0 rfl (chkCap_le q175) rfl m (by omega)
              have S176 : Sep h [] h172 [] := S174
              refine AE_joinR (fun e h' => h172 = h' ∧ e.length = 67 ∧ e.getD 4 .undef = .str t158 ∧ e.getD 5 .undef = .int .i64 0) (by
                simp only [↓WE, WA, WL, aop, ofValue, ofCell, isConst, abin, acall1, abuiltin, aun, AV.cells, AV.one, Nat.reduceAdd, Int.reduceLT, Int.reduceLE, ↓WD, W0, evalOp, Nat.reduceEqDiff, Nat.reduceLT, ↓reduceIte, reduceCtorEq, hl, e9, e65, ow173]
                exact ⟨rfl, (by simp only [List.length_set, hl]), (by simp only [W0, Nat.reduceEqDiff, Nat.reduceLT, ↓reduceIte, hl, e9, e65]), (by simp only [W0, Nat.reduceEqDiff, Nat.reduceLT, ↓reduceIte, hl, e9, e65])⟩) ?_
              rintro envg177 _ ⟨rfl, hl, e4, e5⟩
              try simp only [↓WD, W0, evalOp, Nat.reduceEqDiff, Nat.reduceLT, ↓reduceIte, reduceCtorEq, hl, e4, e5]
              refine KP_ret (vs := [.str t158, .int .i64 0]) (by simp only [aresults, aresult, gs, List.length_set, Nat.reduceEqDiff, Nat.reduceLT, ↓reduceIte, hl, e4, e5]) ?_
              obtain rfl := Option.some.inj hF
              exact rfl
          · skip
            rw [sumK_inr] at hF
            try simp only [↓WD, W0, evalOp, Nat.reduceEqDiff, Nat.reduceLT, ↓reduceIte, reduceCtorEq, hl, e4, e5]
            refine KP_ret (vs := [.str [], .int .i64 t163]) (by simp only [aresults, aresult, gs, List.length_set, Nat.reduceEqDiff, Nat.reduceLT, ↓reduceIte, hl, e4, e5]) ?_
            obtain rfl := Option.some.inj hF
            exact rfl
set_option maxRecDepth 100000 in
set_option maxHeartbeats 4000000 in
theorem W_delta_Number {K : PureK} (k64 : K 64 = some kf_64) (n38 : K 38 = none) (m : Nat) (hm : NF + 1 ≤ m) (h : AH) (n_ : Int) {r : (List UInt8) × Int} (hF : F_delta_Number n_ = some r) :
    AR (acall Try.prog (hooksOf K) (drawnOf Try.prog (tabOf K)) m 38 [.int .i64 n_] h) (fun v h' => v = .tup [.str r.1, .int .i64 r.2]) := by
  obtain ⟨m, rfl⟩ : ∃ k, m = k + 1 := ⟨m - 1, by omega⟩
  refine AR_call (hooksOf_none n38) Try.func38 rfl _ _ fun env hl he => ?_
  have e0 := he 0
  simp only [List.getD_cons_zero, List.getD_cons_succ] at e0
  simp only [Try.f38] at hl ⊢
  simp only [List.length_cons, List.length_nil, Nat.reduceAdd, Nat.reduceSub] at hl
  clear he
  have S0 : Sep h [] h [] := Sep.nil h
  rw [F_delta_Number] at hF
  try simp only [↓WD, W0, evalOp, Nat.reduceEqDiff, Nat.reduceLT, ↓reduceIte, reduceCtorEq, hl, e0]
  rw [AW_region]
  refine AE_joinR (fun e h' => h = h' ∧ e.length = 12 ∧ e.getD 0 .undef = .int .i64 n_) (by
    simp only [↓WE, WA, WL, aop, ofValue, ofCell, isConst, abin, acall1, abuiltin, aun, AV.cells, AV.one, Nat.reduceAdd, Int.reduceLT, Int.reduceLE, ↓WD, W0, evalOp, Nat.reduceEqDiff, Nat.reduceLT, ↓reduceIte, reduceCtorEq, hl, e0]
    exact ⟨rfl, (by simp only [List.length_set, hl]), (by simp only [W0, Nat.reduceEqDiff, Nat.reduceLT, ↓reduceIte, hl, e0])⟩) ?_
  rintro envg1 _ ⟨rfl, hl, e0⟩
  try simp only [↓WD, W0, evalOp, Nat.reduceEqDiff, Nat.reduceLT, ↓reduceIte, reduceCtorEq, hl, e0]
  rw [AW_region]
  obtain ⟨j5, qj5, hF⟩ := obind hF
  refine AE_joinR (fun e h' => e.length = 12 ∧ e.getD 0 .undef = .int .i64 n_ ∧ e.getD 9 .undef = .bool j5 ∧ Sep h [] h' []) ?_ ?_
  · simp only [↓WE, WA, WL, aop, ofValue, ofCell, isConst, abin, acall1, abuiltin, aun, AV.cells, AV.one, Nat.reduceAdd, Int.reduceLT, Int.reduceLE, ↓WD, W0, evalOp, Nat.reduceEqDiff, Nat.reduceLT, ↓reduceIte, reduceCtorEq, hl, e0]
    refine GuardW_dec (fun c2 => ?_) (fun c2 => ?_)
    · rw [if_pos c2] at qj5
      have d3 : (decide (n_ < 0)) = true := decide_eq_true c2
      simp only [↓WE, WA, WL, aop, ofValue, ofCell, isConst, abin, acall1, abuiltin, aun, AV.cells, AV.one, Nat.reduceAdd, Int.reduceLT, Int.reduceLE, ↓WD, W0, evalOp, Nat.reduceEqDiff, Nat.reduceLT, ↓reduceIte, reduceCtorEq, hl, e0, d3]
      obtain rfl := Option.some.inj qj5
      exact ⟨(by simp only [List.length_set, hl]), (by simp only [W0, Nat.reduceEqDiff, Nat.reduceLT, ↓reduceIte, hl, e0]), (by simp only [W0, Nat.reduceEqDiff, Nat.reduceLT, ↓reduceIte, hl, e0]), S0⟩
    · rw [if_neg c2] at qj5
      have d4 : (decide (n_ < 0)) = false := decide_eq_false c2
      simp only [↓WE, WA, WL, aop, ofValue, ofCell, isConst, abin, acall1, abuiltin, aun, AV.cells, AV.one, Nat.reduceAdd, Int.reduceLT, Int.reduceLE, ↓WD, W0, evalOp, Nat.reduceEqDiff, Nat.reduceLT, ↓reduceIte, reduceCtorEq, hl, e0, d4]
      obtain rfl := Option.some.inj qj5
      exact ⟨(by simp only [List.length_set, hl]), (by simp only [W0, Nat.reduceEqDiff, Nat.reduceLT, ↓reduceIte, hl, e0]), (by simp only [W0, Nat.reduceEqDiff, Nat.reduceLT, ↓reduceIte, hl, e0]), S0⟩
  · rintro envj5 h7 ⟨hl, e0, e9, S6⟩
    try simp only [↓WD, W0, evalOp, Nat.reduceEqDiff, Nat.reduceLT, ↓reduceIte, reduceCtorEq, hl, e0, e9]
    refine CondK_boo (fun c10 => ?_) (fun c10 => ?_)
    · rw [if_pos c10] at hF
      try simp only [↓WD, W0, evalOp, Nat.reduceEqDiff, Nat.reduceLT, ↓reduceIte, reduceCtorEq, hl, e0, e9]
      rw [AW_region]
      refine AE_joinR (fun e h' => h7 = h' ∧ e.length = 12 ∧ e.getD 2 .undef = .str [] ∧ e.getD 3 .undef = .int .i64 1) (by
        simp only [↓WE, WA, WL, aop, ofValue, ofCell, isConst, abin, acall1, abuiltin, aun, AV.cells, AV.one, Nat.reduceAdd, Int.reduceLT, Int.reduceLE, ↓WD, W0, evalOp, Nat.reduceEqDiff, Nat.reduceLT, ↓reduceIte, reduceCtorEq, hl, e0, e9]
        exact ⟨rfl, (by simp only [List.length_set, hl]), (by simp only [W0, Nat.reduceEqDiff, Nat.reduceLT, ↓reduceIte, hl, e0, e9]), (by simp only [W0, Nat.reduceEqDiff, Nat.reduceLT, ↓reduceIte, hl, e0, e9])⟩) ?_
      rintro envg11 _ ⟨rfl, hl, e2, e3⟩
      try simp only [↓WD, W0, evalOp, Nat.reduceEqDiff, Nat.reduceLT, ↓reduceIte, reduceCtorEq, hl, e2, e3]
      refine KP_ret (vs := [.str [], .int .i64 1]) (by simp only [aresults, aresult, gs, List.length_set, Nat.reduceEqDiff, Nat.reduceLT, ↓reduceIte, hl, e2, e3]) ?_
      obtain rfl := Option.some.inj hF
      exact rfl
    · rw [if_neg (nf c10)] at hF
      try simp only [↓WD, W0, evalOp, Nat.reduceEqDiff, Nat.reduceLT, ↓reduceIte, reduceCtorEq, hl, e0, e9]
      rw [AW_region]
      obtain ⟨y12, qy12, hF⟩ := obind hF
      have og13 := fun (D : Drawn) (n : Nat) (g : AH) => call_hook (P := Try.prog) (D := D) k64 n (args := [.int .i64 n_]) (v := .str y12) ((kf_64_eq n_).trans (by rw [qy12]; rfl)) g
      refine AE_joinR (fun e h' => h7 = h' ∧ e.length = 12 ∧ e.getD 2 .undef = .str y12 ∧ e.getD 3 .undef = .int .i64 0) (by
        simp only [↓WE, WA, WL, aop, ofValue, ofCell, isConst, abin, acall1, abuiltin, aun, AV.cells, AV.one, Nat.reduceAdd, Int.reduceLT, Int.reduceLE, ↓WD, W0, evalOp, Nat.reduceEqDiff, Nat.reduceLT, ↓reduceIte, reduceCtorEq, hl, e0, e9, og13]
        exact ⟨rfl, (by simp only [List.length_set, hl]), (by simp only [W0, Nat.reduceEqDiff, Nat.reduceLT, ↓reduceIte, hl, e0, e9]), (by simp only [W0, Nat.reduceEqDiff, Nat.reduceLT, ↓reduceIte, hl, e0, e9])⟩) ?_
      rintro envg14 _ ⟨rfl, hl, e2, e3⟩
      try simp only [↓WD, W0, evalOp, Nat.reduceEqDiff, Nat.reduceLT, ↓reduceIte, reduceCtorEq, hl, e2, e3]
      refine KP_ret (vs := [.str y12, .int .i64 0]) (by simp only [aresults, aresult, gs, List.length_set, Nat.reduceEqDiff, Nat.reduceLT, ↓reduceIte, hl, e2, e3]) ?_
      obtain rfl := Option.some.inj hF
      exact rfl
set_option maxRecDepth 100000 in
set_option maxHeartbeats 4000000 in
theorem W_law40_awake {K : PureK} (k38 : K 38 = some kf_38) (k40 : K 40 = some kf_40) (k42 : K 42 = some kf_42) (k43 : K 43 = some kf_43) (n37 : K 37 = none) (m : Nat) (hm : NF + 1 ≤ m) (h : AH)  {r : Bool} (hF : F_law40_awake  = some r) :
    AR (acall Try.prog (hooksOf K) (drawnOf Try.prog (tabOf K)) m 37 [] h) (fun v h' => v = .bool r ∧ Sep h [] h' []) := by
  obtain ⟨m, rfl⟩ : ∃ k, m = k + 1 := ⟨m - 1, by omega⟩
  refine AR_call (hooksOf_none n37) Try.func37 rfl _ _ fun env hl he => ?_
  simp only [Try.f37] at hl ⊢
  simp only [List.length_cons, List.length_nil, Nat.reduceAdd, Nat.reduceSub] at hl
  clear he
  have S0 : Sep h [] h [] := Sep.nil h
  rw [F_law40_awake] at hF
  try simp only [↓WD, W0, evalOp, Nat.reduceEqDiff, Nat.reduceLT, ↓reduceIte, reduceCtorEq, hl]
  rw [AW_region]
  refine AE_joinR (fun e h' => h = h' ∧ e.length = 59) (by
    simp only [↓WE, WA, WL, aop, ofValue, ofCell, isConst, abin, acall1, abuiltin, aun, AV.cells, AV.one, Nat.reduceAdd, Int.reduceLT, Int.reduceLE, ↓WD, W0, evalOp, Nat.reduceEqDiff, Nat.reduceLT, ↓reduceIte, reduceCtorEq, hl]
    exact ⟨rfl, (by simp only [List.length_set, hl])⟩) ?_
  rintro envg1 _ ⟨rfl, hl⟩
  try simp only [↓WD, W0, evalOp, Nat.reduceEqDiff, Nat.reduceLT, ↓reduceIte, reduceCtorEq, hl]
  rw [AW_region]
  obtain ⟨y2, qy2, hF⟩ := obind hF
  have og3 := fun (D : Drawn) (n : Nat) (g : AH) => call_hook (P := Try.prog) (D := D) k42 n (args := [.str [115, 111, 109, 101, 32, 111, 108, 100, 32, 99, 111, 110, 116, 101, 110, 116, 115], .str [115, 111, 109, 101, 32, 110, 101, 119, 32, 99, 111, 110, 116, 101, 110, 116, 115]]) (v := .tup [.str y2.1, .int .i64 y2.2]) ((kf_42_eq [115, 111, 109, 101, 32, 111, 108, 100, 32, 99, 111, 110, 116, 101, 110, 116, 115] [115, 111, 109, 101, 32, 110, 101, 119, 32, 99, 111, 110, 116, 101, 110, 116, 115]).trans (by rw [qy2]; rfl)) g
  refine AE_joinR (fun e h' => h = h' ∧ e.length = 59 ∧ e.getD 1 .undef = .str y2.1 ∧ e.getD 2 .undef = .int .i64 y2.2) (by
    simp only [↓WE, WA, WL, aop, ofValue, ofCell, isConst, abin, acall1, abuiltin, aun, AV.cells, AV.one, Nat.reduceAdd, Int.reduceLT, Int.reduceLE, ↓WD, W0, evalOp, Nat.reduceEqDiff, Nat.reduceLT, ↓reduceIte, reduceCtorEq, hl, og3]
    exact ⟨rfl, (by simp only [List.length_set, hl]), (by simp only [W0, Nat.reduceEqDiff, Nat.reduceLT, ↓reduceIte, hl]), (by simp only [W0, Nat.reduceEqDiff, Nat.reduceLT, ↓reduceIte, hl])⟩) ?_
  rintro envg4 _ ⟨rfl, hl, e1, e2⟩
  try simp only [↓WD, W0, evalOp, Nat.reduceEqDiff, Nat.reduceLT, ↓reduceIte, reduceCtorEq, hl, e1, e2]
  rw [AW_region]
  obtain ⟨y5, qy5, hF⟩ := obind hF
  have og6 := fun (D : Drawn) (n : Nat) (g : AH) => call_hook (P := Try.prog) (D := D) k43 n (args := [.str [115, 111, 109, 101, 32, 111, 108, 100, 32, 99, 111, 110, 116, 101, 110, 116, 115], .str y2.1]) (v := .tup [.str y5.1, .int .i64 y5.2]) ((kf_43_eq [115, 111, 109, 101, 32, 111, 108, 100, 32, 99, 111, 110, 116, 101, 110, 116, 115] y2.1).trans (by rw [qy5]; rfl)) g
  refine AE_joinR (fun e h' => h = h' ∧ e.length = 59 ∧ e.getD 2 .undef = .int .i64 y2.2 ∧ e.getD 3 .undef = .str y5.1 ∧ e.getD 4 .undef = .int .i64 y5.2) (by
    simp only [↓WE, WA, WL, aop, ofValue, ofCell, isConst, abin, acall1, abuiltin, aun, AV.cells, AV.one, Nat.reduceAdd, Int.reduceLT, Int.reduceLE, ↓WD, W0, evalOp, Nat.reduceEqDiff, Nat.reduceLT, ↓reduceIte, reduceCtorEq, hl, e1, e2, og6]
    exact ⟨rfl, (by simp only [List.length_set, hl]), (by simp only [W0, Nat.reduceEqDiff, Nat.reduceLT, ↓reduceIte, hl, e1, e2]), (by simp only [W0, Nat.reduceEqDiff, Nat.reduceLT, ↓reduceIte, hl, e1, e2]), (by simp only [W0, Nat.reduceEqDiff, Nat.reduceLT, ↓reduceIte, hl, e1, e2])⟩) ?_
  rintro envg7 _ ⟨rfl, hl, e2, e3, e4⟩
  try simp only [↓WD, W0, evalOp, Nat.reduceEqDiff, Nat.reduceLT, ↓reduceIte, reduceCtorEq, hl, e2, e3, e4]
  rw [AW_region]
  obtain ⟨y8, qy8, hF⟩ := obind hF
  have og9 := fun (D : Drawn) (n : Nat) (g : AH) => call_hook (P := Try.prog) (D := D) k38 n (args := [.int .i64 300]) (v := .tup [.str y8.1, .int .i64 y8.2]) ((kf_38_eq 300).trans (by rw [qy8]; rfl)) g
  refine AE_joinR (fun e h' => h = h' ∧ e.length = 59 ∧ e.getD 2 .undef = .int .i64 y2.2 ∧ e.getD 3 .undef = .str y5.1 ∧ e.getD 4 .undef = .int .i64 y5.2 ∧ e.getD 5 .undef = .str y8.1 ∧ e.getD 6 .undef = .int .i64 y8.2) (by
    simp only [↓WE, WA, WL, aop, ofValue, ofCell, isConst, abin, acall1, abuiltin, aun, AV.cells, AV.one, Nat.reduceAdd, Int.reduceLT, Int.reduceLE, ↓WD, W0, evalOp, Nat.reduceEqDiff, Nat.reduceLT, ↓reduceIte, reduceCtorEq, hl, e2, e3, e4, og9]
    exact ⟨rfl, (by simp only [List.length_set, hl]), (by simp only [W0, Nat.reduceEqDiff, Nat.reduceLT, ↓reduceIte, hl, e2, e3, e4]), (by simp only [W0, Nat.reduceEqDiff, Nat.reduceLT, ↓reduceIte, hl, e2, e3, e4]), (by simp only [W0, Nat.reduceEqDiff, Nat.reduceLT, ↓reduceIte, hl, e2, e3, e4]), (by simp only [W0, Nat.reduceEqDiff, Nat.reduceLT, ↓reduceIte, hl, e2, e3, e4]), (by simp only [W0, Nat.reduceEqDiff, Nat.reduceLT, ↓reduceIte, hl, e2, e3, e4])⟩) ?_
  rintro envg10 _ ⟨rfl, hl, e2, e3, e4, e5, e6⟩
  try simp only [↓WD, W0, evalOp, Nat.reduceEqDiff, Nat.reduceLT, ↓reduceIte, reduceCtorEq, hl, e2, e3, e4, e5, e6]
  rw [AW_region]
  obtain ⟨y11, qy11, hF⟩ := obind hF
  have og12 := fun (D : Drawn) (n : Nat) (g : AH) => call_hook (P := Try.prog) (D := D) k40 n (args := [.str y8.1, .int .i64 0]) (v := .tup [.int .i64 y11.1, .int .i64 y11.2.1, .int .i64 y11.2.2]) ((kf_40_eq y8.1 0).trans (by rw [qy11]; rfl)) g
  refine AE_joinR (fun e h' => h = h' ∧ e.length = 59 ∧ e.getD 2 .undef = .int .i64 y2.2 ∧ e.getD 3 .undef = .str y5.1 ∧ e.getD 4 .undef = .int .i64 y5.2 ∧ e.getD 5 .undef = .str y8.1 ∧ e.getD 6 .undef = .int .i64 y8.2 ∧ e.getD 7 .undef = .int .i64 y11.1 ∧ e.getD 8 .undef = .int .i64 y11.2.1 ∧ e.getD 9 .undef = .int .i64 y11.2.2) (by
    simp only [↓WE, WA, WL, aop, ofValue, ofCell, isConst, abin, acall1, abuiltin, aun, AV.cells, AV.one, Nat.reduceAdd, Int.reduceLT, Int.reduceLE, ↓WD, W0, evalOp, Nat.reduceEqDiff, Nat.reduceLT, ↓reduceIte, reduceCtorEq, hl, e2, e3, e4, e5, e6, og12]
    exact ⟨rfl, (by simp only [List.length_set, hl]), (by simp only [W0, Nat.reduceEqDiff, Nat.reduceLT, ↓reduceIte, hl, e2, e3, e4, e5, e6]), (by simp only [W0, Nat.reduceEqDiff, Nat.reduceLT, ↓reduceIte, hl, e2, e3, e4, e5, e6]), (by simp only [W0, Nat.reduceEqDiff, Nat.reduceLT, ↓reduceIte, hl, e2, e3, e4, e5, e6]), (by simp only [W0, Nat.reduceEqDiff, Nat.reduceLT, ↓reduceIte, hl, e2, e3, e4, e5, e6]), (by simp only [W0, Nat.reduceEqDiff, Nat.reduceLT, ↓reduceIte, hl, e2, e3, e4, e5, e6]), (by simp only [W0, Nat.reduceEqDiff, Nat.reduceLT, ↓reduceIte, hl, e2, e3, e4, e5, e6]), (by simp only [W0, Nat.reduceEqDiff, Nat.reduceLT, ↓reduceIte, hl, e2, e3, e4, e5, e6]), (by simp only [W0, Nat.reduceEqDiff, Nat.reduceLT, ↓reduceIte, hl, e2, e3, e4, e5, e6])⟩) ?_
  rintro envg13 _ ⟨rfl, hl, e2, e3, e4, e5, e6, e7, e8, e9⟩
  try simp only [↓WD, W0, evalOp, Nat.reduceEqDiff, Nat.reduceLT, ↓reduceIte, reduceCtorEq, hl, e2, e3, e4, e5, e6, e7, e8, e9]
  rw [AW_region]
  obtain ⟨j35, qj35, hF⟩ := obind hF
  refine AE_joinR (fun e h' => e.length = 59 ∧ e.getD 0 .undef = .bool j35 ∧ Sep h [] h' []) ?_ ?_
  · simp only [↓WE, WA, WL, aop, ofValue, ofCell, isConst, abin, acall1, abuiltin, aun, AV.cells, AV.one, Nat.reduceAdd, Int.reduceLT, Int.reduceLE, ↓WD, W0, evalOp, Nat.reduceEqDiff, Nat.reduceLT, ↓reduceIte, reduceCtorEq, hl, e2, e3, e4, e5, e6, e7, e8, e9]
    refine GuardW_boo (fun c14 => ?_) (fun c14 => ?_)
    · rw [if_pos c14] at qj35
      have d15 := c14
      simp only [↓WE, WA, WL, aop, ofValue, ofCell, isConst, abin, acall1, abuiltin, aun, AV.cells, AV.one, Nat.reduceAdd, Int.reduceLT, Int.reduceLE, ↓WD, W0, evalOp, Nat.reduceEqDiff, Nat.reduceLT, ↓reduceIte, reduceCtorEq, hl, e2, e3, e4, e5, e6, e7, e8, e9, d15]
      refine GuardW_boo (fun c17 => ?_) (fun c17 => ?_)
      · rw [if_pos c17] at qj35
        have d18 := c17
        simp only [↓WE, WA, WL, aop, ofValue, ofCell, isConst, abin, acall1, abuiltin, aun, AV.cells, AV.one, Nat.reduceAdd, Int.reduceLT, Int.reduceLE, ↓WD, W0, evalOp, Nat.reduceEqDiff, Nat.reduceLT, ↓reduceIte, reduceCtorEq, hl, e2, e3, e4, e5, e6, e7, e8, e9, d15, d18]
        refine GuardW_boo (fun c20 => ?_) (fun c20 => ?_)
        · rw [if_pos c20] at qj35
          have d21 := c20
          simp only [↓WE, WA, WL, aop, ofValue, ofCell, isConst, abin, acall1, abuiltin, aun, AV.cells, AV.one, Nat.reduceAdd, Int.reduceLT, Int.reduceLE, ↓WD, W0, evalOp, Nat.reduceEqDiff, Nat.reduceLT, ↓reduceIte, reduceCtorEq, hl, e2, e3, e4, e5, e6, e7, e8, e9, d15, d18, d21]
          refine GuardW_boo (fun c23 => ?_) (fun c23 => ?_)
          · rw [if_pos c23] at qj35
            have d24 := c23
            simp only [↓WE, WA, WL, aop, ofValue, ofCell, isConst, abin, acall1, abuiltin, aun, AV.cells, AV.one, Nat.reduceAdd, Int.reduceLT, Int.reduceLE, ↓WD, W0, evalOp, Nat.reduceEqDiff, Nat.reduceLT, ↓reduceIte, reduceCtorEq, hl, e2, e3, e4, e5, e6, e7, e8, e9, d15, d18, d21, d24]
            refine GuardW_boo (fun c26 => ?_) (fun c26 => ?_)
            · rw [if_pos c26] at qj35
              have d27 := c26
              simp only [↓WE, WA, WL, aop, ofValue, ofCell, isConst, abin, acall1, abuiltin, aun, AV.cells, AV.one, Nat.reduceAdd, Int.reduceLT, Int.reduceLE, ↓WD, W0, evalOp, Nat.reduceEqDiff, Nat.reduceLT, ↓reduceIte, reduceCtorEq, hl, e2, e3, e4, e5, e6, e7, e8, e9, d15, d18, d21, d24, d27]
              refine GuardW_boo (fun c29 => ?_) (fun c29 => ?_)
              · rw [if_pos c29] at qj35
                have d30 := c29
                simp only [↓WE, WA, WL, aop, ofValue, ofCell, isConst, abin, acall1, abuiltin, aun, AV.cells, AV.one, Nat.reduceAdd, Int.reduceLT, Int.reduceLE, ↓WD, W0, evalOp, Nat.reduceEqDiff, Nat.reduceLT, ↓reduceIte, reduceCtorEq, hl, e2, e3, e4, e5, e6, e7, e8, e9, d15, d18, d21, d24, d27, d30]
                refine GuardW_boo (fun c32 => ?_) (fun c32 => ?_)
                · rw [if_pos c32] at qj35
                  have d33 := c32
                  simp only [↓WE, WA, WL, aop, ofValue, ofCell, isConst, abin, acall1, abuiltin, aun, AV.cells, AV.one, Nat.reduceAdd, Int.reduceLT, Int.reduceLE, ↓WD, W0, evalOp, Nat.reduceEqDiff, Nat.reduceLT, ↓reduceIte, reduceCtorEq, hl, e2, e3, e4, e5, e6, e7, e8, e9, d15, d18, d21, d24, d27, d30, d33]
                  obtain rfl := Option.some.inj qj35
                  exact ⟨(by simp only [List.length_set, hl]), (by simp only [W0, Nat.reduceEqDiff, Nat.reduceLT, ↓reduceIte, hl, e2, e3, e4, e5, e6, e7, e8, e9]), S0⟩
                · rw [if_neg (nf c32)] at qj35
                  have d34 := c32
                  simp only [↓WE, WA, WL, aop, ofValue, ofCell, isConst, abin, acall1, abuiltin, aun, AV.cells, AV.one, Nat.reduceAdd, Int.reduceLT, Int.reduceLE, ↓WD, W0, evalOp, Nat.reduceEqDiff, Nat.reduceLT, ↓reduceIte, reduceCtorEq, hl, e2, e3, e4, e5, e6, e7, e8, e9, d15, d18, d21, d24, d27, d30, d34]
                  obtain rfl := Option.some.inj qj35
                  exact ⟨(by simp only [List.length_set, hl]), (by simp only [W0, Nat.reduceEqDiff, Nat.reduceLT, ↓reduceIte, hl, e2, e3, e4, e5, e6, e7, e8, e9]), S0⟩
              · rw [if_neg (nf c29)] at qj35
                have d31 := c29
                simp only [↓WE, WA, WL, aop, ofValue, ofCell, isConst, abin, acall1, abuiltin, aun, AV.cells, AV.one, Nat.reduceAdd, Int.reduceLT, Int.reduceLE, ↓WD, W0, evalOp, Nat.reduceEqDiff, Nat.reduceLT, ↓reduceIte, reduceCtorEq, hl, e2, e3, e4, e5, e6, e7, e8, e9, d15, d18, d21, d24, d27, d31]
                obtain rfl := Option.some.inj qj35
                exact ⟨(by simp only [List.length_set, hl]), (by simp only [W0, Nat.reduceEqDiff, Nat.reduceLT, ↓reduceIte, hl, e2, e3, e4, e5, e6, e7, e8, e9]), S0⟩
            · rw [if_neg (nf c26)] at qj35
              have d28 := c26
              simp only [↓WE, WA, WL, aop, ofValue, ofCell, isConst, abin, acall1, abuiltin, aun, AV.cells, AV.one, Nat.reduceAdd, Int.reduceLT, Int.reduceLE, ↓WD, W0, evalOp, Nat.reduceEqDiff, Nat.reduceLT, ↓reduceIte, reduceCtorEq, hl, e2, e3, e4, e5, e6, e7, e8, e9, d15, d18, d21, d24, d28]
              obtain rfl := Option.some.inj qj35
              exact ⟨(by simp only [List.length_set, hl]), (by simp only [W0, Nat.reduceEqDiff, Nat.reduceLT, ↓reduceIte, hl, e2, e3, e4, e5, e6, e7, e8, e9]), S0⟩
          · rw [if_neg (nf c23)] at qj35
            have d25 := c23
            simp only [↓WE, WA, WL, aop, ofValue, ofCell, isConst, abin, acall1, abuiltin, aun, AV.cells, AV.one, Nat.reduceAdd, Int.reduceLT, Int.reduceLE, ↓WD, W0, evalOp, Nat.reduceEqDiff, Nat.reduceLT, ↓reduceIte, reduceCtorEq, hl, e2, e3, e4, e5, e6, e7, e8, e9, d15, d18, d21, d25]
            obtain rfl := Option.some.inj qj35
            exact ⟨(by simp only [List.length_set, hl]), (by simp only [W0, Nat.reduceEqDiff, Nat.reduceLT, ↓reduceIte, hl, e2, e3, e4, e5, e6, e7, e8, e9]), S0⟩
        · rw [if_neg (nf c20)] at qj35
          have d22 := c20
          simp only [↓WE, WA, WL, aop, ofValue, ofCell, isConst, abin, acall1, abuiltin, aun, AV.cells, AV.one, Nat.reduceAdd, Int.reduceLT, Int.reduceLE, ↓WD, W0, evalOp, Nat.reduceEqDiff, Nat.reduceLT, ↓reduceIte, reduceCtorEq, hl, e2, e3, e4, e5, e6, e7, e8, e9, d15, d18, d22]
          obtain rfl := Option.some.inj qj35
          exact ⟨(by simp only [List.length_set, hl]), (by simp only [W0, Nat.reduceEqDiff, Nat.reduceLT, ↓reduceIte, hl, e2, e3, e4, e5, e6, e7, e8, e9]), S0⟩
      · rw [if_neg (nf c17)] at qj35
        have d19 := c17
        simp only [↓WE, WA, WL, aop, ofValue, ofCell, isConst, abin, acall1, abuiltin, aun, AV.cells, AV.one, Nat.reduceAdd, Int.reduceLT, Int.reduceLE, ↓WD, W0, evalOp, Nat.reduceEqDiff, Nat.reduceLT, ↓reduceIte, reduceCtorEq, hl, e2, e3, e4, e5, e6, e7, e8, e9, d15, d19]
        obtain rfl := Option.some.inj qj35
        exact ⟨(by simp only [List.length_set, hl]), (by simp only [W0, Nat.reduceEqDiff, Nat.reduceLT, ↓reduceIte, hl, e2, e3, e4, e5, e6, e7, e8, e9]), S0⟩
    · rw [if_neg (nf c14)] at qj35
      have d16 := c14
      simp only [↓WE, WA, WL, aop, ofValue, ofCell, isConst, abin, acall1, abuiltin, aun, AV.cells, AV.one, Nat.reduceAdd, Int.reduceLT, Int.reduceLE, ↓WD, W0, evalOp, Nat.reduceEqDiff, Nat.reduceLT, ↓reduceIte, reduceCtorEq, hl, e2, e3, e4, e5, e6, e7, e8, e9, d16]
      obtain rfl := Option.some.inj qj35
      exact ⟨(by simp only [List.length_set, hl]), (by simp only [W0, Nat.reduceEqDiff, Nat.reduceLT, ↓reduceIte, hl, e2, e3, e4, e5, e6, e7, e8, e9]), S0⟩
  · rintro envj35 h37 ⟨hl, e0, S36⟩
    try simp only [↓WD, W0, evalOp, Nat.reduceEqDiff, Nat.reduceLT, ↓reduceIte, reduceCtorEq, hl, e0]
    refine KP_ret (vs := [.bool j35]) (by simp only [aresults, aresult, gs, List.length_set, Nat.reduceEqDiff, Nat.reduceLT, ↓reduceIte, hl, e0]) ?_
    obtain rfl := Option.some.inj hF
    exact ⟨rfl, S36⟩
set_option maxRecDepth 100000 in
set_option maxHeartbeats 4000000 in
theorem W_ref40_Next {K : PureK} (n41 : K 41 = none) (m : Nat) (hm : NF + 1 ≤ m) (h : AH) (s_ : List UInt8) (at_ : Int) {r : Int × Int × Int} (hF : F_ref40_Next s_ at_ = some r) :
    AR (acall Try.prog (hooksOf K) (drawnOf Try.prog (tabOf K)) m 41 [.str s_, .int .i64 at_] h) (fun v h' => v = .tup [.int .i64 r.1, .int .i64 r.2.1, .int .i64 r.2.2]) := by
  obtain ⟨m, rfl⟩ : ∃ k, m = k + 1 := ⟨m - 1, by omega⟩
  refine AR_call (hooksOf_none n41) Try.func41 rfl _ _ fun env hl he => ?_
  have e0 := he 0
  have e1 := he 1
  simp only [List.getD_cons_zero, List.getD_cons_succ] at e0 e1
  simp only [Try.f41] at hl ⊢
  simp only [List.length_cons, List.length_nil, Nat.reduceAdd, Nat.reduceSub] at hl
  clear he
  have S0 : Sep h [] h [] := Sep.nil h
  rw [F_ref40_Next] at hF
  try simp only [↓WD, W0, evalOp, Nat.reduceEqDiff, Nat.reduceLT, ↓reduceIte, reduceCtorEq, hl, e0, e1]
  rw [AW_region]
  refine AE_joinR (fun e h' => h = h' ∧ e.length = 57 ∧ e.getD 0 .undef = .str s_ ∧ e.getD 1 .undef = .int .i64 at_) (by
    simp only [↓WE, WA, WL, aop, ofValue, ofCell, isConst, abin, acall1, abuiltin, aun, AV.cells, AV.one, Nat.reduceAdd, Int.reduceLT, Int.reduceLE, ↓WD, W0, evalOp, Nat.reduceEqDiff, Nat.reduceLT, ↓reduceIte, reduceCtorEq, hl, e0, e1]
    exact ⟨rfl, (by simp only [List.length_set, hl]), (by simp only [W0, Nat.reduceEqDiff, Nat.reduceLT, ↓reduceIte, hl, e0, e1]), (by simp only [W0, Nat.reduceEqDiff, Nat.reduceLT, ↓reduceIte, hl, e0, e1])⟩) ?_
  rintro envg1 _ ⟨rfl, hl, e0, e1⟩
  try simp only [↓WD, W0, evalOp, Nat.reduceEqDiff, Nat.reduceLT, ↓reduceIte, reduceCtorEq, hl, e0, e1]
  rw [AW_region]
  refine AE_joinR (fun e h' => h = h' ∧ e.length = 57 ∧ e.getD 0 .undef = .str s_ ∧ e.getD 1 .undef = .int .i64 at_ ∧ e.getD 12 .undef = .bool (decide (at_ < 0))) (by
    simp only [↓WE, WA, WL, aop, ofValue, ofCell, isConst, abin, acall1, abuiltin, aun, AV.cells, AV.one, Nat.reduceAdd, Int.reduceLT, Int.reduceLE, ↓WD, W0, evalOp, Nat.reduceEqDiff, Nat.reduceLT, ↓reduceIte, reduceCtorEq, hl, e0, e1]
    exact ⟨rfl, (by simp only [List.length_set, hl]), (by simp only [W0, Nat.reduceEqDiff, Nat.reduceLT, ↓reduceIte, hl, e0, e1]), (by simp only [W0, Nat.reduceEqDiff, Nat.reduceLT, ↓reduceIte, hl, e0, e1]), (by simp only [W0, Nat.reduceEqDiff, Nat.reduceLT, ↓reduceIte, hl, e0, e1])⟩) ?_
  rintro envg2 _ ⟨rfl, hl, e0, e1, e12⟩
  try simp only [↓WD, W0, evalOp, Nat.reduceEqDiff, Nat.reduceLT, ↓reduceIte, reduceCtorEq, hl, e0, e1, e12]
  refine CondK_dec (fun c5 => ?_) (fun c5 => ?_)
  · rw [if_pos c5] at hF
    try simp only [↓WD, W0, evalOp, Nat.reduceEqDiff, Nat.reduceLT, ↓reduceIte, reduceCtorEq, hl, e0, e1, e12]
    rw [AW_region]
    refine AE_joinR (fun e h' => h = h' ∧ e.length = 57 ∧ e.getD 4 .undef = .int .i64 0 ∧ e.getD 5 .undef = .int .i64 0 ∧ e.getD 6 .undef = .int .i64 3) (by
      simp only [↓WE, WA, WL, aop, ofValue, ofCell, isConst, abin, acall1, abuiltin, aun, AV.cells, AV.one, Nat.reduceAdd, Int.reduceLT, Int.reduceLE, ↓WD, W0, evalOp, Nat.reduceEqDiff, Nat.reduceLT, ↓reduceIte, reduceCtorEq, hl, e0, e1, e12]
      exact ⟨rfl, (by simp only [List.length_set, hl]), (by simp only [W0, Nat.reduceEqDiff, Nat.reduceLT, ↓reduceIte, hl, e0, e1, e12]), (by simp only [W0, Nat.reduceEqDiff, Nat.reduceLT, ↓reduceIte, hl, e0, e1, e12]), (by simp only [W0, Nat.reduceEqDiff, Nat.reduceLT, ↓reduceIte, hl, e0, e1, e12])⟩) ?_
    rintro envg6 _ ⟨rfl, hl, e4, e5, e6⟩
    try simp only [↓WD, W0, evalOp, Nat.reduceEqDiff, Nat.reduceLT, ↓reduceIte, reduceCtorEq, hl, e4, e5, e6]
    refine KP_ret (vs := [.int .i64 0, .int .i64 0, .int .i64 3]) (by simp only [aresults, aresult, gs, List.length_set, Nat.reduceEqDiff, Nat.reduceLT, ↓reduceIte, hl, e4, e5, e6]) ?_
    obtain rfl := Option.some.inj hF
    exact rfl
  · rw [if_neg c5] at hF
    try simp only [↓WD, W0, evalOp, Nat.reduceEqDiff, Nat.reduceLT, ↓reduceIte, reduceCtorEq, hl, e0, e1, e12]
    rw [AW_region]
    refine AE_joinR (fun e h' => h = h' ∧ e.length = 57 ∧ e.getD 0 .undef = .str s_ ∧ e.getD 1 .undef = .int .i64 at_ ∧ e.getD 7 .undef = .int .i64 0) (by
      simp only [↓WE, WA, WL, aop, ofValue, ofCell, isConst, abin, acall1, abuiltin, aun, AV.cells, AV.one, Nat.reduceAdd, Int.reduceLT, Int.reduceLE, ↓WD, W0, evalOp, Nat.reduceEqDiff, Nat.reduceLT, ↓reduceIte, reduceCtorEq, hl, e0, e1, e12]
      exact ⟨rfl, (by simp only [List.length_set, hl]), (by simp only [W0, Nat.reduceEqDiff, Nat.reduceLT, ↓reduceIte, hl, e0, e1, e12]), (by simp only [W0, Nat.reduceEqDiff, Nat.reduceLT, ↓reduceIte, hl, e0, e1, e12]), (by simp only [W0, Nat.reduceEqDiff, Nat.reduceLT, ↓reduceIte, hl, e0, e1, e12])⟩) ?_
    rintro envg7 _ ⟨rfl, hl, e0, e1, e7⟩
    try simp only [↓WD, W0, evalOp, Nat.reduceEqDiff, Nat.reduceLT, ↓reduceIte, reduceCtorEq, hl, e0, e1, e7]
    rw [AW_region]
    refine AE_joinR (fun e h' => h = h' ∧ e.length = 57 ∧ e.getD 0 .undef = .str s_ ∧ e.getD 1 .undef = .int .i64 at_ ∧ e.getD 7 .undef = .int .i64 0 ∧ e.getD 8 .undef = .int .i64 1) (by
      simp only [↓WE, WA, WL, aop, ofValue, ofCell, isConst, abin, acall1, abuiltin, aun, AV.cells, AV.one, Nat.reduceAdd, Int.reduceLT, Int.reduceLE, ↓WD, W0, evalOp, Nat.reduceEqDiff, Nat.reduceLT, ↓reduceIte, reduceCtorEq, hl, e0, e1, e7]
      exact ⟨rfl, (by simp only [List.length_set, hl]), (by simp only [W0, Nat.reduceEqDiff, Nat.reduceLT, ↓reduceIte, hl, e0, e1, e7]), (by simp only [W0, Nat.reduceEqDiff, Nat.reduceLT, ↓reduceIte, hl, e0, e1, e7]), (by simp only [W0, Nat.reduceEqDiff, Nat.reduceLT, ↓reduceIte, hl, e0, e1, e7]), (by simp only [W0, Nat.reduceEqDiff, Nat.reduceLT, ↓reduceIte, hl, e0, e1, e7])⟩) ?_
    rintro envg8 _ ⟨rfl, hl, e0, e1, e7, e8⟩
    try simp only [↓WD, W0, evalOp, Nat.reduceEqDiff, Nat.reduceLT, ↓reduceIte, reduceCtorEq, hl, e0, e1, e7, e8]
    rw [AW_region]
    refine AE_joinR (fun e h' => h = h' ∧ e.length = 57 ∧ e.getD 0 .undef = .str s_ ∧ e.getD 1 .undef = .int .i64 at_ ∧ e.getD 7 .undef = .int .i64 0 ∧ e.getD 8 .undef = .int .i64 1 ∧ e.getD 9 .undef = .int .i64 0) (by
      simp only [↓WE, WA, WL, aop, ofValue, ofCell, isConst, abin, acall1, abuiltin, aun, AV.cells, AV.one, Nat.reduceAdd, Int.reduceLT, Int.reduceLE, ↓WD, W0, evalOp, Nat.reduceEqDiff, Nat.reduceLT, ↓reduceIte, reduceCtorEq, hl, e0, e1, e7, e8]
      exact ⟨rfl, (by simp only [List.length_set, hl]), (by simp only [W0, Nat.reduceEqDiff, Nat.reduceLT, ↓reduceIte, hl, e0, e1, e7, e8]), (by simp only [W0, Nat.reduceEqDiff, Nat.reduceLT, ↓reduceIte, hl, e0, e1, e7, e8]), (by simp only [W0, Nat.reduceEqDiff, Nat.reduceLT, ↓reduceIte, hl, e0, e1, e7, e8]), (by simp only [W0, Nat.reduceEqDiff, Nat.reduceLT, ↓reduceIte, hl, e0, e1, e7, e8]), (by simp only [W0, Nat.reduceEqDiff, Nat.reduceLT, ↓reduceIte, hl, e0, e1, e7, e8])⟩) ?_
    rintro envg9 _ ⟨rfl, hl, e0, e1, e7, e8, e9⟩
    try simp only [↓WD, W0, evalOp, Nat.reduceEqDiff, Nat.reduceLT, ↓reduceIte, reduceCtorEq, hl, e0, e1, e7, e8, e9]
    obtain ⟨r106, qr106, hF⟩ := obind hF
    refine AW_lift (L_ref40_Next_1 at_ s_) (fun s e h' => e.length = 57 ∧ e.getD 0 .undef = .str s_ ∧ e.getD 1 .undef = .int .i64 at_ ∧ e.getD 7 .undef = .int .i64 s.1 ∧ e.getD 8 .undef = .int .i64 s.2.1 ∧ e.getD 9 .undef = .int .i64 s.2.2 ∧ Sep h [] h' []) (fun r106 x e h' => (∃ (t107 : Unit), r106 = (.inl t107) ∧ x = .exit 0 ∧ e.length = 57 ∧ Sep h [] h' []) ∨ (∃ (t110 : Int × Int × Int), r106 = (.inr t110) ∧ x = .ret ∧ e.length = 57 ∧ e.getD 4 .undef = .int .i64 t110.1 ∧ e.getD 5 .undef = .int .i64 t110.2.1 ∧ e.getD 6 .undef = .int .i64 t110.2.2 ∧ Sep h [] h' [])) qr106 (by omega) ?_ ?_ ?_
    · rintro s envr106 h58 or106 ⟨hl, e0, e1, e7, e8, e9, S59⟩ wr106
      rw [L_ref40_Next_1] at wr106
      try simp only [↓WD, W0, evalOp, Nat.reduceEqDiff, Nat.reduceLT, ↓reduceIte, reduceCtorEq, hl, e0, e1, e7, e8, e9]
      rw [AW_region]
      refine AE_joinR (fun e h' => h58 = h' ∧ e.length = 57 ∧ e.getD 0 .undef = .str s_ ∧ e.getD 1 .undef = .int .i64 at_ ∧ e.getD 7 .undef = .int .i64 s.1 ∧ e.getD 8 .undef = .int .i64 s.2.1 ∧ e.getD 9 .undef = .int .i64 s.2.2 ∧ e.getD 14 .undef = .bool (decide (s.2.2 < 4))) (by
        simp only [↓WE, WA, WL, aop, ofValue, ofCell, isConst, abin, acall1, abuiltin, aun, AV.cells, AV.one, Nat.reduceAdd, Int.reduceLT, Int.reduceLE, ↓WD, W0, evalOp, Nat.reduceEqDiff, Nat.reduceLT, ↓reduceIte, reduceCtorEq, hl, e0, e1, e7, e8, e9]
        exact ⟨rfl, (by simp only [List.length_set, hl]), (by simp only [W0, Nat.reduceEqDiff, Nat.reduceLT, ↓reduceIte, hl, e0, e1, e7, e8, e9]), (by simp only [W0, Nat.reduceEqDiff, Nat.reduceLT, ↓reduceIte, hl, e0, e1, e7, e8, e9]), (by simp only [W0, Nat.reduceEqDiff, Nat.reduceLT, ↓reduceIte, hl, e0, e1, e7, e8, e9]), (by simp only [W0, Nat.reduceEqDiff, Nat.reduceLT, ↓reduceIte, hl, e0, e1, e7, e8, e9]), (by simp only [W0, Nat.reduceEqDiff, Nat.reduceLT, ↓reduceIte, hl, e0, e1, e7, e8, e9]), (by simp only [W0, Nat.reduceEqDiff, Nat.reduceLT, ↓reduceIte, hl, e0, e1, e7, e8, e9])⟩) ?_
      rintro envg60 _ ⟨rfl, hl, e0, e1, e7, e8, e9, e14⟩
      try simp only [↓WD, W0, evalOp, Nat.reduceEqDiff, Nat.reduceLT, ↓reduceIte, reduceCtorEq, hl, e0, e1, e7, e8, e9, e14]
      refine CondK_dec (fun c62 => ?_) (fun c62 => ?_)
      · rw [if_pos c62] at wr106
        try simp only [↓WD, W0, evalOp, Nat.reduceEqDiff, Nat.reduceLT, ↓reduceIte, reduceCtorEq, hl, e0, e1, e7, e8, e9, e14]
        rw [AW_region]
        obtain ⟨j67, qj67, wr106⟩ := obind wr106
        refine AE_joinR (fun e h' => e.length = 57 ∧ e.getD 0 .undef = .str s_ ∧ e.getD 1 .undef = .int .i64 at_ ∧ e.getD 7 .undef = .int .i64 s.1 ∧ e.getD 8 .undef = .int .i64 s.2.1 ∧ e.getD 9 .undef = .int .i64 s.2.2 ∧ e.getD 29 .undef = .bool j67 ∧ Sep h [] h' []) ?_ ?_
        · simp only [↓WE, WA, WL, aop, ofValue, ofCell, isConst, abin, acall1, abuiltin, aun, AV.cells, AV.one, Nat.reduceAdd, Int.reduceLT, Int.reduceLE, ↓WD, W0, evalOp, Nat.reduceEqDiff, Nat.reduceLT, ↓reduceIte, reduceCtorEq, hl, e0, e1, e7, e8, e9, e14]
          refine GuardW_dec (fun c63 => ?_) (fun c63 => ?_)
          · rw [if_pos c63] at qj67
            have d64 : (decide ((IntKind.i64.wrap (at_ + s.2.2)) < at_)) = true := decide_eq_true c63
            simp only [↓WE, WA, WL, aop, ofValue, ofCell, isConst, abin, acall1, abuiltin, aun, AV.cells, AV.one, Nat.reduceAdd, Int.reduceLT, Int.reduceLE, ↓WD, W0, evalOp, Nat.reduceEqDiff, Nat.reduceLT, ↓reduceIte, reduceCtorEq, hl, e0, e1, e7, e8, e9, e14, d64]
            obtain rfl := Option.some.inj qj67
            exact ⟨(by simp only [List.length_set, hl]), (by simp only [W0, Nat.reduceEqDiff, Nat.reduceLT, ↓reduceIte, hl, e0, e1, e7, e8, e9, e14]), (by simp only [W0, Nat.reduceEqDiff, Nat.reduceLT, ↓reduceIte, hl, e0, e1, e7, e8, e9, e14]), (by simp only [W0, Nat.reduceEqDiff, Nat.reduceLT, ↓reduceIte, hl, e0, e1, e7, e8, e9, e14]), (by simp only [W0, Nat.reduceEqDiff, Nat.reduceLT, ↓reduceIte, hl, e0, e1, e7, e8, e9, e14]), (by simp only [W0, Nat.reduceEqDiff, Nat.reduceLT, ↓reduceIte, hl, e0, e1, e7, e8, e9, e14]), (by simp only [W0, Nat.reduceEqDiff, Nat.reduceLT, ↓reduceIte, hl, e0, e1, e7, e8, e9, e14]), S59⟩
          · rw [if_neg c63] at qj67
            have d65 : (decide ((IntKind.i64.wrap (at_ + s.2.2)) < at_)) = false := decide_eq_false c63
            have ol66 := fun g : AH => alen_str (P := Try.prog) (h := g) (l := s_) Try.underlying9
            simp only [↓WE, WA, WL, aop, ofValue, ofCell, isConst, abin, acall1, abuiltin, aun, AV.cells, AV.one, Nat.reduceAdd, Int.reduceLT, Int.reduceLE, ↓WD, W0, evalOp, Nat.reduceEqDiff, Nat.reduceLT, ↓reduceIte, reduceCtorEq, hl, e0, e1, e7, e8, e9, e14, ol66, d65]
            obtain rfl := Option.some.inj qj67
            exact ⟨(by simp only [List.length_set, hl]), (by simp only [W0, Nat.reduceEqDiff, Nat.reduceLT, ↓reduceIte, hl, e0, e1, e7, e8, e9, e14]), (by simp only [W0, Nat.reduceEqDiff, Nat.reduceLT, ↓reduceIte, hl, e0, e1, e7, e8, e9, e14]), (by simp only [W0, Nat.reduceEqDiff, Nat.reduceLT, ↓reduceIte, hl, e0, e1, e7, e8, e9, e14]), (by simp only [W0, Nat.reduceEqDiff, Nat.reduceLT, ↓reduceIte, hl, e0, e1, e7, e8, e9, e14]), (by simp only [W0, Nat.reduceEqDiff, Nat.reduceLT, ↓reduceIte, hl, e0, e1, e7, e8, e9, e14]), (by simp only [W0, Nat.reduceEqDiff, Nat.reduceLT, ↓reduceIte, hl, e0, e1, e7, e8, e9, e14]), S59⟩
        · rintro envj67 h69 ⟨hl, e0, e1, e7, e8, e9, e29, S68⟩
          try simp only [↓WD, W0, evalOp, Nat.reduceEqDiff, Nat.reduceLT, ↓reduceIte, reduceCtorEq, hl, e0, e1, e7, e8, e9, e29]
          refine CondK_boo (fun c72 => ?_) (fun c72 => ?_)
          · rw [if_pos c72] at wr106
            try simp only [↓WD, W0, evalOp, Nat.reduceEqDiff, Nat.reduceLT, ↓reduceIte, reduceCtorEq, hl, e0, e1, e7, e8, e9, e29]
            rw [AW_region]
            refine AE_joinR (fun e h' => h69 = h' ∧ e.length = 57 ∧ e.getD 4 .undef = .int .i64 0 ∧ e.getD 5 .undef = .int .i64 0 ∧ e.getD 6 .undef = .int .i64 3) (by
              simp only [↓WE, WA, WL, aop, ofValue, ofCell, isConst, abin, acall1, abuiltin, aun, AV.cells, AV.one, Nat.reduceAdd, Int.reduceLT, Int.reduceLE, ↓WD, W0, evalOp, Nat.reduceEqDiff, Nat.reduceLT, ↓reduceIte, reduceCtorEq, hl, e0, e1, e7, e8, e9, e29]
              exact ⟨rfl, (by simp only [List.length_set, hl]), (by simp only [W0, Nat.reduceEqDiff, Nat.reduceLT, ↓reduceIte, hl, e0, e1, e7, e8, e9, e29]), (by simp only [W0, Nat.reduceEqDiff, Nat.reduceLT, ↓reduceIte, hl, e0, e1, e7, e8, e9, e29]), (by simp only [W0, Nat.reduceEqDiff, Nat.reduceLT, ↓reduceIte, hl, e0, e1, e7, e8, e9, e29])⟩) ?_
            rintro envg73 _ ⟨rfl, hl, e4, e5, e6⟩
            try simp only [↓WD, W0, evalOp, Nat.reduceEqDiff, Nat.reduceLT, ↓reduceIte, reduceCtorEq, hl, e4, e5, e6]
            obtain rfl := Option.some.inj wr106
            rw [KP_nil, QL_ret]
            exact ⟨_, rfl, .inr (⟨_, rfl, rfl, (by simp only [List.length_set, hl]), (by simp only [W0, Nat.reduceEqDiff, Nat.reduceLT, ↓reduceIte, hl, e4, e5, e6]), (by simp only [W0, Nat.reduceEqDiff, Nat.reduceLT, ↓reduceIte, hl, e4, e5, e6]), (by simp only [W0, Nat.reduceEqDiff, Nat.reduceLT, ↓reduceIte, hl, e4, e5, e6]), S68⟩)⟩
          · rw [if_neg (nf c72)] at wr106
            try simp only [↓WD, W0, evalOp, Nat.reduceEqDiff, Nat.reduceLT, ↓reduceIte, reduceCtorEq, hl, e0, e1, e7, e8, e9, e29]
            rw [AW_region]
            obtain ⟨c74, qc74, wr106⟩ := obind wr106
            have oc74 := idx_str (P := Try.prog) (k := .i64) Try.underlying9 qc74
            have oc75 := fun g : AH => aconv_int (P := Try.prog) (h := g) (n := c74) (k' := .u8) Try.underlying5 Try.underlying3
            refine AE_joinR (fun e h' => h69 = h' ∧ e.length = 57 ∧ e.getD 0 .undef = .str s_ ∧ e.getD 1 .undef = .int .i64 at_ ∧ e.getD 7 .undef = .int .i64 s.1 ∧ e.getD 8 .undef = .int .i64 s.2.1 ∧ e.getD 9 .undef = .int .i64 s.2.2 ∧ e.getD 10 .undef = .int .i64 (IntKind.i64.wrap c74)) (by
              simp only [↓WE, WA, WL, aop, ofValue, ofCell, isConst, abin, acall1, abuiltin, aun, AV.cells, AV.one, Nat.reduceAdd, Int.reduceLT, Int.reduceLE, ↓WD, W0, evalOp, Nat.reduceEqDiff, Nat.reduceLT, ↓reduceIte, reduceCtorEq, hl, e0, e1, e7, e8, e9, e29, oc74, oc75]
              exact ⟨rfl, (by simp only [List.length_set, hl]), (by simp only [W0, Nat.reduceEqDiff, Nat.reduceLT, ↓reduceIte, hl, e0, e1, e7, e8, e9, e29]), (by simp only [W0, Nat.reduceEqDiff, Nat.reduceLT, ↓reduceIte, hl, e0, e1, e7, e8, e9, e29]), (by simp only [W0, Nat.reduceEqDiff, Nat.reduceLT, ↓reduceIte, hl, e0, e1, e7, e8, e9, e29]), (by simp only [W0, Nat.reduceEqDiff, Nat.reduceLT, ↓reduceIte, hl, e0, e1, e7, e8, e9, e29]), (by simp only [W0, Nat.reduceEqDiff, Nat.reduceLT, ↓reduceIte, hl, e0, e1, e7, e8, e9, e29]), (by simp only [W0, Nat.reduceEqDiff, Nat.reduceLT, ↓reduceIte, hl, e0, e1, e7, e8, e9, e29])⟩) ?_
            rintro envg76 _ ⟨rfl, hl, e0, e1, e7, e8, e9, e10⟩
            try simp only [↓WD, W0, evalOp, Nat.reduceEqDiff, Nat.reduceLT, ↓reduceIte, reduceCtorEq, hl, e0, e1, e7, e8, e9, e10]
            rw [AW_region]
            obtain ⟨y77, qy77, wr106⟩ := obind wr106
            have oy77 := rem_int (k := .i64) qy77
            refine AE_joinR (fun e h' => h69 = h' ∧ e.length = 57 ∧ e.getD 0 .undef = .str s_ ∧ e.getD 1 .undef = .int .i64 at_ ∧ e.getD 7 .undef = .int .i64 (IntKind.i64.wrap (s.1 + (IntKind.i64.wrap (y77 * s.2.1)))) ∧ e.getD 8 .undef = .int .i64 s.2.1 ∧ e.getD 9 .undef = .int .i64 s.2.2 ∧ e.getD 10 .undef = .int .i64 (IntKind.i64.wrap c74)) (by
              simp only [↓WE, WA, WL, aop, ofValue, ofCell, isConst, abin, acall1, abuiltin, aun, AV.cells, AV.one, Nat.reduceAdd, Int.reduceLT, Int.reduceLE, ↓WD, W0, evalOp, Nat.reduceEqDiff, Nat.reduceLT, ↓reduceIte, reduceCtorEq, hl, e0, e1, e7, e8, e9, e10, oy77]
              exact ⟨rfl, (by simp only [List.length_set, hl]), (by simp only [W0, Nat.reduceEqDiff, Nat.reduceLT, ↓reduceIte, hl, e0, e1, e7, e8, e9, e10]), (by simp only [W0, Nat.reduceEqDiff, Nat.reduceLT, ↓reduceIte, hl, e0, e1, e7, e8, e9, e10]), (by simp only [W0, Nat.reduceEqDiff, Nat.reduceLT, ↓reduceIte, hl, e0, e1, e7, e8, e9, e10]), (by simp only [W0, Nat.reduceEqDiff, Nat.reduceLT, ↓reduceIte, hl, e0, e1, e7, e8, e9, e10]), (by simp only [W0, Nat.reduceEqDiff, Nat.reduceLT, ↓reduceIte, hl, e0, e1, e7, e8, e9, e10]), (by simp only [W0, Nat.reduceEqDiff, Nat.reduceLT, ↓reduceIte, hl, e0, e1, e7, e8, e9, e10])⟩) ?_
            rintro envg78 _ ⟨rfl, hl, e0, e1, e7, e8, e9, e10⟩
            try simp only [↓WD, W0, evalOp, Nat.reduceEqDiff, Nat.reduceLT, ↓reduceIte, reduceCtorEq, hl, e0, e1, e7, e8, e9, e10]
            rw [AW_region]
            refine AE_joinR (fun e h' => h69 = h' ∧ e.length = 57 ∧ e.getD 0 .undef = .str s_ ∧ e.getD 1 .undef = .int .i64 at_ ∧ e.getD 7 .undef = .int .i64 (IntKind.i64.wrap (s.1 + (IntKind.i64.wrap (y77 * s.2.1)))) ∧ e.getD 8 .undef = .int .i64 s.2.1 ∧ e.getD 9 .undef = .int .i64 s.2.2 ∧ e.getD 10 .undef = .int .i64 (IntKind.i64.wrap c74) ∧ e.getD 43 .undef = .bool (decide ((IntKind.i64.wrap c74) < 128))) (by
              simp only [↓WE, WA, WL, aop, ofValue, ofCell, isConst, abin, acall1, abuiltin, aun, AV.cells, AV.one, Nat.reduceAdd, Int.reduceLT, Int.reduceLE, ↓WD, W0, evalOp, Nat.reduceEqDiff, Nat.reduceLT, ↓reduceIte, reduceCtorEq, hl, e0, e1, e7, e8, e9, e10]
              exact ⟨rfl, (by simp only [List.length_set, hl]), (by simp only [W0, Nat.reduceEqDiff, Nat.reduceLT, ↓reduceIte, hl, e0, e1, e7, e8, e9, e10]), (by simp only [W0, Nat.reduceEqDiff, Nat.reduceLT, ↓reduceIte, hl, e0, e1, e7, e8, e9, e10]), (by simp only [W0, Nat.reduceEqDiff, Nat.reduceLT, ↓reduceIte, hl, e0, e1, e7, e8, e9, e10]), (by simp only [W0, Nat.reduceEqDiff, Nat.reduceLT, ↓reduceIte, hl, e0, e1, e7, e8, e9, e10]), (by simp only [W0, Nat.reduceEqDiff, Nat.reduceLT, ↓reduceIte, hl, e0, e1, e7, e8, e9, e10]), (by simp only [W0, Nat.reduceEqDiff, Nat.reduceLT, ↓reduceIte, hl, e0, e1, e7, e8, e9, e10]), (by simp only [W0, Nat.reduceEqDiff, Nat.reduceLT, ↓reduceIte, hl, e0, e1, e7, e8, e9, e10])⟩) ?_
            rintro envg79 _ ⟨rfl, hl, e0, e1, e7, e8, e9, e10, e43⟩
            try simp only [↓WD, W0, evalOp, Nat.reduceEqDiff, Nat.reduceLT, ↓reduceIte, reduceCtorEq, hl, e0, e1, e7, e8, e9, e10, e43]
            refine CondK_dec (fun c92 => ?_) (fun c92 => ?_)
            · rw [if_pos c92] at wr106
              try simp only [↓WD, W0, evalOp, Nat.reduceEqDiff, Nat.reduceLT, ↓reduceIte, reduceCtorEq, hl, e0, e1, e7, e8, e9, e10, e43]
              rw [AW_region]
              obtain ⟨j96, qj96, wr106⟩ := obind wr106
              refine AE_joinR (fun e h' => e.length = 57 ∧ e.getD 1 .undef = .int .i64 at_ ∧ e.getD 7 .undef = .int .i64 (IntKind.i64.wrap (s.1 + (IntKind.i64.wrap (y77 * s.2.1)))) ∧ e.getD 9 .undef = .int .i64 s.2.2 ∧ e.getD 49 .undef = .bool j96 ∧ Sep h [] h' []) ?_ ?_
              · simp only [↓WE, WA, WL, aop, ofValue, ofCell, isConst, abin, acall1, abuiltin, aun, AV.cells, AV.one, Nat.reduceAdd, Int.reduceLT, Int.reduceLE, ↓WD, W0, evalOp, Nat.reduceEqDiff, Nat.reduceLT, ↓reduceIte, reduceCtorEq, hl, e0, e1, e7, e8, e9, e10, e43]
                refine GuardW_boo (fun c93 => ?_) (fun c93 => ?_)
                · rw [if_pos c93] at qj96
                  have d94 := c93
                  simp only [↓WE, WA, WL, aop, ofValue, ofCell, isConst, abin, acall1, abuiltin, aun, AV.cells, AV.one, Nat.reduceAdd, Int.reduceLT, Int.reduceLE, ↓WD, W0, evalOp, Nat.reduceEqDiff, Nat.reduceLT, ↓reduceIte, reduceCtorEq, hl, e0, e1, e7, e8, e9, e10, e43, d94]
                  obtain rfl := Option.some.inj qj96
                  exact ⟨(by simp only [List.length_set, hl]), (by simp only [W0, Nat.reduceEqDiff, Nat.reduceLT, ↓reduceIte, hl, e0, e1, e7, e8, e9, e10, e43]), (by simp only [W0, Nat.reduceEqDiff, Nat.reduceLT, ↓reduceIte, hl, e0, e1, e7, e8, e9, e10, e43]), (by simp only [W0, Nat.reduceEqDiff, Nat.reduceLT, ↓reduceIte, hl, e0, e1, e7, e8, e9, e10, e43]), (by simp only [W0, Nat.reduceEqDiff, Nat.reduceLT, ↓reduceIte, hl, e0, e1, e7, e8, e9, e10, e43]), S68⟩
                · rw [if_neg (nf c93)] at qj96
                  have d95 := c93
                  simp only [↓WE, WA, WL, aop, ofValue, ofCell, isConst, abin, acall1, abuiltin, aun, AV.cells, AV.one, Nat.reduceAdd, Int.reduceLT, Int.reduceLE, ↓WD, W0, evalOp, Nat.reduceEqDiff, Nat.reduceLT, ↓reduceIte, reduceCtorEq, hl, e0, e1, e7, e8, e9, e10, e43, d95]
                  obtain rfl := Option.some.inj qj96
                  exact ⟨(by simp only [List.length_set, hl]), (by simp only [W0, Nat.reduceEqDiff, Nat.reduceLT, ↓reduceIte, hl, e0, e1, e7, e8, e9, e10, e43]), (by simp only [W0, Nat.reduceEqDiff, Nat.reduceLT, ↓reduceIte, hl, e0, e1, e7, e8, e9, e10, e43]), (by simp only [W0, Nat.reduceEqDiff, Nat.reduceLT, ↓reduceIte, hl, e0, e1, e7, e8, e9, e10, e43]), (by simp only [W0, Nat.reduceEqDiff, Nat.reduceLT, ↓reduceIte, hl, e0, e1, e7, e8, e9, e10, e43]), S68⟩
              · rintro envj96 h98 ⟨hl, e1, e7, e9, e49, S97⟩
                try simp only [↓WD, W0, evalOp, Nat.reduceEqDiff, Nat.reduceLT, ↓reduceIte, reduceCtorEq, hl, e1, e7, e9, e49]
                refine CondK_boo (fun c101 => ?_) (fun c101 => ?_)
                · rw [if_pos c101] at wr106
                  try simp only [↓WD, W0, evalOp, Nat.reduceEqDiff, Nat.reduceLT, ↓reduceIte, reduceCtorEq, hl, e1, e7, e9, e49]
                  rw [AW_region]
                  refine AE_joinR (fun e h' => h98 = h' ∧ e.length = 57 ∧ e.getD 4 .undef = .int .i64 0 ∧ e.getD 5 .undef = .int .i64 0 ∧ e.getD 6 .undef = .int .i64 2) (by
                    simp only [↓WE, WA, WL, aop, ofValue, ofCell, isConst, abin, acall1, abuiltin, aun, AV.cells, AV.one, Nat.reduceAdd, Int.reduceLT, Int.reduceLE, ↓WD, W0, evalOp, Nat.reduceEqDiff, Nat.reduceLT, ↓reduceIte, reduceCtorEq, hl, e1, e7, e9, e49]
                    exact ⟨rfl, (by simp only [List.length_set, hl]), (by simp only [W0, Nat.reduceEqDiff, Nat.reduceLT, ↓reduceIte, hl, e1, e7, e9, e49]), (by simp only [W0, Nat.reduceEqDiff, Nat.reduceLT, ↓reduceIte, hl, e1, e7, e9, e49]), (by simp only [W0, Nat.reduceEqDiff, Nat.reduceLT, ↓reduceIte, hl, e1, e7, e9, e49])⟩) ?_
                  rintro envg102 _ ⟨rfl, hl, e4, e5, e6⟩
                  try simp only [↓WD, W0, evalOp, Nat.reduceEqDiff, Nat.reduceLT, ↓reduceIte, reduceCtorEq, hl, e4, e5, e6]
                  obtain rfl := Option.some.inj wr106
                  rw [KP_nil, QL_ret]
                  exact ⟨_, rfl, .inr (⟨_, rfl, rfl, (by simp only [List.length_set, hl]), (by simp only [W0, Nat.reduceEqDiff, Nat.reduceLT, ↓reduceIte, hl, e4, e5, e6]), (by simp only [W0, Nat.reduceEqDiff, Nat.reduceLT, ↓reduceIte, hl, e4, e5, e6]), (by simp only [W0, Nat.reduceEqDiff, Nat.reduceLT, ↓reduceIte, hl, e4, e5, e6]), S97⟩)⟩
                · rw [if_neg (nf c101)] at wr106
                  try simp only [↓WD, W0, evalOp, Nat.reduceEqDiff, Nat.reduceLT, ↓reduceIte, reduceCtorEq, hl, e1, e7, e9, e49]
                  rw [AW_region]
                  refine AE_joinR (fun e h' => h98 = h' ∧ e.length = 57 ∧ e.getD 4 .undef = .int .i64 (IntKind.i64.wrap (s.1 + (IntKind.i64.wrap (y77 * s.2.1)))) ∧ e.getD 5 .undef = .int .i64 (IntKind.i64.wrap ((IntKind.i64.wrap (at_ + s.2.2)) + 1)) ∧ e.getD 6 .undef = .int .i64 0) (by
                    simp only [↓WE, WA, WL, aop, ofValue, ofCell, isConst, abin, acall1, abuiltin, aun, AV.cells, AV.one, Nat.reduceAdd, Int.reduceLT, Int.reduceLE, ↓WD, W0, evalOp, Nat.reduceEqDiff, Nat.reduceLT, ↓reduceIte, reduceCtorEq, hl, e1, e7, e9, e49]
                    exact ⟨rfl, (by simp only [List.length_set, hl]), (by simp only [W0, Nat.reduceEqDiff, Nat.reduceLT, ↓reduceIte, hl, e1, e7, e9, e49]), (by simp only [W0, Nat.reduceEqDiff, Nat.reduceLT, ↓reduceIte, hl, e1, e7, e9, e49]), (by simp only [W0, Nat.reduceEqDiff, Nat.reduceLT, ↓reduceIte, hl, e1, e7, e9, e49])⟩) ?_
                  rintro envg103 _ ⟨rfl, hl, e4, e5, e6⟩
                  try simp only [↓WD, W0, evalOp, Nat.reduceEqDiff, Nat.reduceLT, ↓reduceIte, reduceCtorEq, hl, e4, e5, e6]
                  obtain rfl := Option.some.inj wr106
                  rw [KP_nil, QL_ret]
                  exact ⟨_, rfl, .inr (⟨_, rfl, rfl, (by simp only [List.length_set, hl]), (by simp only [W0, Nat.reduceEqDiff, Nat.reduceLT, ↓reduceIte, hl, e4, e5, e6]), (by simp only [W0, Nat.reduceEqDiff, Nat.reduceLT, ↓reduceIte, hl, e4, e5, e6]), (by simp only [W0, Nat.reduceEqDiff, Nat.reduceLT, ↓reduceIte, hl, e4, e5, e6]), S97⟩)⟩
            · rw [if_neg c92] at wr106
              try simp only [↓WD, W0, evalOp, Nat.reduceEqDiff, Nat.reduceLT, ↓reduceIte, reduceCtorEq, hl, e0, e1, e7, e8, e9, e10, e43]
              rw [AW_region]
              refine AE_joinR (fun e h' => h69 = h' ∧ e.length = 57 ∧ e.getD 0 .undef = .str s_ ∧ e.getD 1 .undef = .int .i64 at_ ∧ e.getD 7 .undef = .int .i64 (IntKind.i64.wrap (s.1 + (IntKind.i64.wrap (y77 * s.2.1)))) ∧ e.getD 8 .undef = .int .i64 (IntKind.i64.wrap (128 * s.2.1)) ∧ e.getD 9 .undef = .int .i64 s.2.2) (by
                simp only [↓WE, WA, WL, aop, ofValue, ofCell, isConst, abin, acall1, abuiltin, aun, AV.cells, AV.one, Nat.reduceAdd, Int.reduceLT, Int.reduceLE, ↓WD, W0, evalOp, Nat.reduceEqDiff, Nat.reduceLT, ↓reduceIte, reduceCtorEq, hl, e0, e1, e7, e8, e9, e10, e43]
                exact ⟨rfl, (by simp only [List.length_set, hl]), (by simp only [W0, Nat.reduceEqDiff, Nat.reduceLT, ↓reduceIte, hl, e0, e1, e7, e8, e9, e10, e43]), (by simp only [W0, Nat.reduceEqDiff, Nat.reduceLT, ↓reduceIte, hl, e0, e1, e7, e8, e9, e10, e43]), (by simp only [W0, Nat.reduceEqDiff, Nat.reduceLT, ↓reduceIte, hl, e0, e1, e7, e8, e9, e10, e43]), (by simp only [W0, Nat.reduceEqDiff, Nat.reduceLT, ↓reduceIte, hl, e0, e1, e7, e8, e9, e10, e43]), (by simp only [W0, Nat.reduceEqDiff, Nat.reduceLT, ↓reduceIte, hl, e0, e1, e7, e8, e9, e10, e43])⟩) ?_
              rintro envg104 _ ⟨rfl, hl, e0, e1, e7, e8, e9⟩
              try simp only [↓WD, W0, evalOp, Nat.reduceEqDiff, Nat.reduceLT, ↓reduceIte, reduceCtorEq, hl, e0, e1, e7, e8, e9]
              rw [AW_region]
              refine AE_joinR (fun e h' => h69 = h' ∧ e.length = 57 ∧ e.getD 0 .undef = .str s_ ∧ e.getD 1 .undef = .int .i64 at_ ∧ e.getD 7 .undef = .int .i64 (IntKind.i64.wrap (s.1 + (IntKind.i64.wrap (y77 * s.2.1)))) ∧ e.getD 8 .undef = .int .i64 (IntKind.i64.wrap (128 * s.2.1)) ∧ e.getD 9 .undef = .int .i64 (IntKind.i64.wrap (s.2.2 + 1))) (by
                simp only [↓WE, WA, WL, aop, ofValue, ofCell, isConst, abin, acall1, abuiltin, aun, AV.cells, AV.one, Nat.reduceAdd, Int.reduceLT, Int.reduceLE, ↓WD, W0, evalOp, Nat.reduceEqDiff, Nat.reduceLT, ↓reduceIte, reduceCtorEq, hl, e0, e1, e7, e8, e9]
                exact ⟨rfl, (by simp only [List.length_set, hl]), (by simp only [W0, Nat.reduceEqDiff, Nat.reduceLT, ↓reduceIte, hl, e0, e1, e7, e8, e9]), (by simp only [W0, Nat.reduceEqDiff, Nat.reduceLT, ↓reduceIte, hl, e0, e1, e7, e8, e9]), (by simp only [W0, Nat.reduceEqDiff, Nat.reduceLT, ↓reduceIte, hl, e0, e1, e7, e8, e9]), (by simp only [W0, Nat.reduceEqDiff, Nat.reduceLT, ↓reduceIte, hl, e0, e1, e7, e8, e9]), (by simp only [W0, Nat.reduceEqDiff, Nat.reduceLT, ↓reduceIte, hl, e0, e1, e7, e8, e9])⟩) ?_
              rintro envg105 _ ⟨rfl, hl, e0, e1, e7, e8, e9⟩
              try simp only [↓WD, W0, evalOp, Nat.reduceEqDiff, Nat.reduceLT, ↓reduceIte, reduceCtorEq, hl, e0, e1, e7, e8, e9]
              obtain rfl := Option.some.inj wr106
              rw [KP_nil, QL_normal]
              exact ⟨_, rfl, (by simp only [List.length_set, hl]), (by simp only [W0, Nat.reduceEqDiff, Nat.reduceLT, ↓reduceIte, hl, e0, e1, e7, e8, e9]), (by simp only [W0, Nat.reduceEqDiff, Nat.reduceLT, ↓reduceIte, hl, e0, e1, e7, e8, e9]), (by simp only [W0, Nat.reduceEqDiff, Nat.reduceLT, ↓reduceIte, hl, e0, e1, e7, e8, e9]), (by simp only [W0, Nat.reduceEqDiff, Nat.reduceLT, ↓reduceIte, hl, e0, e1, e7, e8, e9]), (by simp only [W0, Nat.reduceEqDiff, Nat.reduceLT, ↓reduceIte, hl, e0, e1, e7, e8, e9]), S68⟩
      · rw [if_neg c62] at wr106
        try simp only [↓WD, W0, evalOp, Nat.reduceEqDiff, Nat.reduceLT, ↓reduceIte, reduceCtorEq, hl, e0, e1, e7, e8, e9, e14]
        obtain rfl := Option.some.inj wr106
        rw [KP_nil, QL_exit]
        exact ⟨_, rfl, .inl ⟨_, rfl, rfl, (by simp only [List.length_set, hl]), S59⟩⟩
    · exact ⟨(by simp only [List.length_set, hl]), (by simp only [W0, Nat.reduceEqDiff, Nat.reduceLT, ↓reduceIte, hl, e0, e1, e7, e8, e9]), (by simp only [W0, Nat.reduceEqDiff, Nat.reduceLT, ↓reduceIte, hl, e0, e1, e7, e8, e9]), (by simp only [W0, Nat.reduceEqDiff, Nat.reduceLT, ↓reduceIte, hl, e0, e1, e7, e8, e9]), (by simp only [W0, Nat.reduceEqDiff, Nat.reduceLT, ↓reduceIte, hl, e0, e1, e7, e8, e9]), (by simp only [W0, Nat.reduceEqDiff, Nat.reduceLT, ↓reduceIte, hl, e0, e1, e7, e8, e9]), S0⟩
    · intro x envr106 h108 hk
      rcases hk with ⟨t107, rfl, rfl, hl, S109⟩ | ⟨t110, rfl, rfl, hl, e4, e5, e6, S112⟩
      · skip
        rw [sumK_inl] at hF
        try simp only [↓WD, W0, evalOp, Nat.reduceEqDiff, Nat.reduceLT, ↓reduceIte, reduceCtorEq, hl]
        rw [AW_region]
        refine AE_joinR (fun e h' => h108 = h' ∧ e.length = 57 ∧ e.getD 4 .undef = .int .i64 0 ∧ e.getD 5 .undef = .int .i64 0 ∧ e.getD 6 .undef = .int .i64 2) (by
          simp only [↓WE, WA, WL, aop, ofValue, ofCell, isConst, abin, acall1, abuiltin, aun, AV.cells, AV.one, Nat.reduceAdd, Int.reduceLT, Int.reduceLE, ↓WD, W0, evalOp, Nat.reduceEqDiff, Nat.reduceLT, ↓reduceIte, reduceCtorEq, hl]
          exact ⟨rfl, (by simp only [List.length_set, hl]), (by simp only [W0, Nat.reduceEqDiff, Nat.reduceLT, ↓reduceIte, hl]), (by simp only [W0, Nat.reduceEqDiff, Nat.reduceLT, ↓reduceIte, hl]), (by simp only [W0, Nat.reduceEqDiff, Nat.reduceLT, ↓reduceIte, hl])⟩) ?_
        rintro envg113 _ ⟨rfl, hl, e4, e5, e6⟩
        try simp only [↓WD, W0, evalOp, Nat.reduceEqDiff, Nat.reduceLT, ↓reduceIte, reduceCtorEq, hl, e4, e5, e6]
        refine KP_ret (vs := [.int .i64 0, .int .i64 0, .int .i64 2]) (by simp only [aresults, aresult, gs, List.length_set, Nat.reduceEqDiff, Nat.reduceLT, ↓reduceIte, hl, e4, e5, e6]) ?_
        obtain rfl := Option.some.inj hF
        exact rfl
      · skip
        rw [sumK_inr] at hF
        try simp only [↓WD, W0, evalOp, Nat.reduceEqDiff, Nat.reduceLT, ↓reduceIte, reduceCtorEq, hl, e4, e5, e6]
        refine KP_ret (vs := [.int .i64 t110.1, .int .i64 t110.2.1, .int .i64 t110.2.2]) (by simp only [aresults, aresult, gs, List.length_set, Nat.reduceEqDiff, Nat.reduceLT, ↓reduceIte, hl, e4, e5, e6]) ?_
        obtain rfl := Option.some.inj hF
        exact rfl
end Go.Proofs.YtikkpmmhejjpaaaM
