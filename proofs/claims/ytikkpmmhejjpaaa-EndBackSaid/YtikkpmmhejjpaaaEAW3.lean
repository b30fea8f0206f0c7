/- The abstract machine computes what the plain functions say: printed by lift.py. -/
import Derived.Test.YtikkpmmhejjpaaaEAW2
set_option linter.unusedSimpArgs false
set_option linter.unusedVariables false
namespace Go.Proofs.YtikkpmmhejjpaaaM
open Go Go.RowKit
set_option maxRecDepth 100000 in
set_option maxHeartbeats 4000000 in
theorem W_law19_EndBack {K : PureK} (k33 : K 33 = some kf_33) (k34 : K 34 = some kf_34) (k35 : K 35 = some kf_35) (k36 : K 36 = some kf_36) (n32 : K 32 = none) (n8 : K 8 = none) (m : Nat) (hm : NF + 2 ≤ m) (h : AH) (x_ : Gapi_End) {r : Bool} (hF : F_law19_EndBack x_ = some r) :
    AR (acall Try.prog (hooksOf K) (drawnOf Try.prog (tabOf K)) m 8 [.agg [.int .i64 x_.xAt, .int .i64 x_.xCount, .int .i64 x_.xSize, .int .i64 x_.xOffset, .str x_.xComment, .bool x_.xWide]] h) (fun v h' => v = .bool r) := by
  obtain ⟨m, rfl⟩ : ∃ k, m = k + 1 := ⟨m - 1, by omega⟩
  refine AR_call (hooksOf_none n8) Try.func8 rfl _ _ fun env hl he => ?_
  have e0 := he 0
  simp only [List.getD_cons_zero, List.getD_cons_succ] at e0
  simp only [Try.f8] at hl ⊢
  simp only [List.length_cons, List.length_nil, Nat.reduceAdd, Nat.reduceSub] at hl
  clear he
  have S0 : Sep h [] h [] := Sep.nil h
  rw [F_law19_EndBack] at hF
  try simp only [↓WD, W0, evalOp, Nat.reduceEqDiff, Nat.reduceLT, ↓reduceIte, reduceCtorEq, hl, e0]
  rw [AW_region]
  obtain ⟨i1, h2, oa3, S4⟩ := S0.alloc 62 [.int .i64 x_.xAt, .int .i64 x_.xCount, .int .i64 x_.xSize, .int .i64 x_.xOffset, .str x_.xComment, .bool x_.xWide]
  have S6 : Sep h [] h2 [.blk i1 [.int .i64 x_.xAt, .int .i64 x_.xCount, .int .i64 x_.xSize, .int .i64 x_.xOffset, .str x_.xComment, .bool x_.xWide] 62] := S4
  refine AE_joinR (fun e h' => h2 = h' ∧ e.length = 96 ∧ e.getD 1 .undef = .ptr i1 0) (by
    simp only [↓WE, WA, WL, aop, ofValue, ofCell, isConst, abin, acall1, abuiltin, aun, AV.cells, AV.one, Nat.reduceAdd, Int.reduceLT, Int.reduceLE, ↓WD, W0, evalOp, Nat.reduceEqDiff, Nat.reduceLT, ↓reduceIte, reduceCtorEq, hl, e0, oa3]
    exact ⟨rfl, (by simp only [List.length_set, hl]), (by simp only [W0, Nat.reduceEqDiff, Nat.reduceLT, ↓reduceIte, hl, e0])⟩) ?_
  rintro envg7 _ ⟨rfl, hl, e1⟩
  try simp only [↓WD, W0, evalOp, Nat.reduceEqDiff, Nat.reduceLT, ↓reduceIte, reduceCtorEq, hl, e1]
  rw [AW_region]
  obtain ⟨y8, qy8, hF⟩ := obind hF
  obtain ⟨v12, h10, og9, rfl, S11⟩ := (W_law19_awake k33 k35 n32 m (by omega) h2  qy8).out
  have S13 : Sep h [] h10 [.blk i1 [.int .i64 x_.xAt, .int .i64 x_.xCount, .int .i64 x_.xSize, .int .i64 x_.xOffset, .str x_.xComment, .bool x_.xWide] 62] := S6.call0 S11
  refine AE_joinR (fun e h' => h10 = h' ∧ e.length = 96 ∧ e.getD 1 .undef = .ptr i1 0 ∧ e.getD 14 .undef = .bool !y8) (by
    simp only [↓WE, WA, WL, aop, ofValue, ofCell, isConst, abin, acall1, abuiltin, aun, AV.cells, AV.one, Nat.reduceAdd, Int.reduceLT, Int.reduceLE, ↓WD, W0, evalOp, Nat.reduceEqDiff, Nat.reduceLT, ↓reduceIte, reduceCtorEq, hl, e1, og9]
    exact ⟨rfl, (by simp only [List.length_set, hl]), (by simp only [W0, Nat.reduceEqDiff, Nat.reduceLT, ↓reduceIte, hl, e1]), (by simp only [W0, Nat.reduceEqDiff, Nat.reduceLT, ↓reduceIte, hl, e1])⟩) ?_
  rintro envg14 _ ⟨rfl, hl, e1, e14⟩
  try simp only [↓WD, W0, evalOp, Nat.reduceEqDiff, Nat.reduceLT, ↓reduceIte, reduceCtorEq, hl, e1, e14]
  refine CondK_boo (fun c17 => ?_) (fun c17 => ?_)
  · rw [if_pos c17] at hF
    try simp only [↓WD, W0, evalOp, Nat.reduceEqDiff, Nat.reduceLT, ↓reduceIte, reduceCtorEq, hl, e1, e14]
    rw [AW_region]
    refine AE_joinR (fun e h' => h10 = h' ∧ e.length = 96 ∧ e.getD 2 .undef = .bool false) (by
      simp only [↓WE, WA, WL, aop, ofValue, ofCell, isConst, abin, acall1, abuiltin, aun, AV.cells, AV.one, Nat.reduceAdd, Int.reduceLT, Int.reduceLE, ↓WD, W0, evalOp, Nat.reduceEqDiff, Nat.reduceLT, ↓reduceIte, reduceCtorEq, hl, e1, e14]
      exact ⟨rfl, (by simp only [List.length_set, hl]), (by simp only [W0, Nat.reduceEqDiff, Nat.reduceLT, ↓reduceIte, hl, e1, e14])⟩) ?_
    rintro envg18 _ ⟨rfl, hl, e2⟩
    try simp only [↓WD, W0, evalOp, Nat.reduceEqDiff, Nat.reduceLT, ↓reduceIte, reduceCtorEq, hl, e2]
    refine KP_ret (vs := [.bool false]) (by simp only [aresults, aresult, gs, List.length_set, Nat.reduceEqDiff, Nat.reduceLT, ↓reduceIte, hl, e2]) ?_
    obtain rfl := Option.some.inj hF
    exact rfl
  · rw [if_neg (nf c17)] at hF
    try simp only [↓WD, W0, evalOp, Nat.reduceEqDiff, Nat.reduceLT, ↓reduceIte, reduceCtorEq, hl, e1, e14]
    rw [AW_region]
    have ol19 := S13.load (P := Try.prog) 0 rfl (t := 9) (off := 4) (v := .str x_.xComment) (by simp only [apart, ag_9, sz_9]; rfl)
    have ol20 := fun g : AH => alen_str (P := Try.prog) (h := g) (l := x_.xComment) Try.underlying9
    refine AE_joinR (fun e h' => h10 = h' ∧ e.length = 96 ∧ e.getD 1 .undef = .ptr i1 0 ∧ e.getD 18 .undef = .bool (decide ((x_.xComment.length : Int) > 100))) (by
      simp only [↓WE, WA, WL, aop, ofValue, ofCell, isConst, abin, acall1, abuiltin, aun, AV.cells, AV.one, Nat.reduceAdd, Int.reduceLT, Int.reduceLE, ↓WD, W0, evalOp, Nat.reduceEqDiff, Nat.reduceLT, ↓reduceIte, reduceCtorEq, hl, e1, e14, fa_62_4, ol19, ol20]
      exact ⟨rfl, (by simp only [List.length_set, hl]), (by simp only [W0, Nat.reduceEqDiff, Nat.reduceLT, ↓reduceIte, hl, e1, e14]), (by simp only [W0, Nat.reduceEqDiff, Nat.reduceLT, ↓reduceIte, hl, e1, e14])⟩) ?_
    rintro envg21 _ ⟨rfl, hl, e1, e18⟩
    try simp only [↓WD, W0, evalOp, Nat.reduceEqDiff, Nat.reduceLT, ↓reduceIte, reduceCtorEq, hl, e1, e18]
    refine CondK_dec (fun c24 => ?_) (fun c24 => ?_)
    · rw [if_pos c24] at hF
      try simp only [↓WD, W0, evalOp, Nat.reduceEqDiff, Nat.reduceLT, ↓reduceIte, reduceCtorEq, hl, e1, e18]
      rw [AW_region]
      refine AE_joinR (fun e h' => h10 = h' ∧ e.length = 96 ∧ e.getD 2 .undef = .bool true) (by
        simp only [↓WE, WA, WL, aop, ofValue, ofCell, isConst, abin, acall1, abuiltin, aun, AV.cells, AV.one, Nat.reduceAdd, Int.reduceLT, Int.reduceLE, ↓WD, W0, evalOp, Nat.reduceEqDiff, Nat.reduceLT, ↓reduceIte, reduceCtorEq, hl, e1, e18]
        exact ⟨rfl, (by simp only [List.length_set, hl]), (by simp only [W0, Nat.reduceEqDiff, Nat.reduceLT, ↓reduceIte, hl, e1, e18])⟩) ?_
      rintro envg25 _ ⟨rfl, hl, e2⟩
      try simp only [↓WD, W0, evalOp, Nat.reduceEqDiff, Nat.reduceLT, ↓reduceIte, reduceCtorEq, hl, e2]
      refine KP_ret (vs := [.bool true]) (by simp only [aresults, aresult, gs, List.length_set, Nat.reduceEqDiff, Nat.reduceLT, ↓reduceIte, hl, e2]) ?_
      obtain rfl := Option.some.inj hF
      exact rfl
    · rw [if_neg c24] at hF
      try simp only [↓WD, W0, evalOp, Nat.reduceEqDiff, Nat.reduceLT, ↓reduceIte, reduceCtorEq, hl, e1, e18]
      rw [AW_region]
      have ol26 := S13.load (P := Try.prog) 0 rfl (t := 62) (off := 0) (v := .agg [.int .i64 x_.xAt, .int .i64 x_.xCount, .int .i64 x_.xSize, .int .i64 x_.xOffset, .str x_.xComment, .bool x_.xWide]) (by simp only [apart, ag_62, sz_62]; rfl)
      obtain ⟨y27, qy27, hF⟩ := obind hF
      have og28 := fun (D : Drawn) (n : Nat) (g : AH) => call_hook (P := Try.prog) (D := D) k35 n (args := [.agg [.int .i64 x_.xAt, .int .i64 x_.xCount, .int .i64 x_.xSize, .int .i64 x_.xOffset, .str x_.xComment, .bool x_.xWide]]) (v := .tup [.str y27.1, .int .i64 y27.2]) ((kf_35_eq x_).trans (by rw [qy27]; rfl)) g
      refine AE_joinR (fun e h' => h10 = h' ∧ e.length = 96 ∧ e.getD 1 .undef = .ptr i1 0 ∧ e.getD 3 .undef = .str y27.1 ∧ e.getD 4 .undef = .int .i64 y27.2) (by
        simp only [↓WE, WA, WL, aop, ofValue, ofCell, isConst, abin, acall1, abuiltin, aun, AV.cells, AV.one, Nat.reduceAdd, Int.reduceLT, Int.reduceLE, ↓WD, W0, evalOp, Nat.reduceEqDiff, Nat.reduceLT, ↓reduceIte, reduceCtorEq, hl, e1, e18, ol26, og28]
        exact ⟨rfl, (by simp only [List.length_set, hl]), (by simp only [W0, Nat.reduceEqDiff, Nat.reduceLT, ↓reduceIte, hl, e1, e18]), (by simp only [W0, Nat.reduceEqDiff, Nat.reduceLT, ↓reduceIte, hl, e1, e18]), (by simp only [W0, Nat.reduceEqDiff, Nat.reduceLT, ↓reduceIte, hl, e1, e18])⟩) ?_
      rintro envg29 _ ⟨rfl, hl, e1, e3, e4⟩
      try simp only [↓WD, W0, evalOp, Nat.reduceEqDiff, Nat.reduceLT, ↓reduceIte, reduceCtorEq, hl, e1, e3, e4]
      rw [AW_region]
      have ol30 := S13.load (P := Try.prog) 0 rfl (t := 62) (off := 0) (v := .agg [.int .i64 x_.xAt, .int .i64 x_.xCount, .int .i64 x_.xSize, .int .i64 x_.xOffset, .str x_.xComment, .bool x_.xWide]) (by simp only [apart, ag_62, sz_62]; rfl)
      obtain ⟨y31, qy31, hF⟩ := obind hF
      have og32 := fun (D : Drawn) (n : Nat) (g : AH) => call_hook (P := Try.prog) (D := D) k36 n (args := [.agg [.int .i64 x_.xAt, .int .i64 x_.xCount, .int .i64 x_.xSize, .int .i64 x_.xOffset, .str x_.xComment, .bool x_.xWide]]) (v := .tup [.str y31.1, .int .i64 y31.2]) ((kf_36_eq x_).trans (by rw [qy31]; rfl)) g
      refine AE_joinR (fun e h' => h10 = h' ∧ e.length = 96 ∧ e.getD 1 .undef = .ptr i1 0 ∧ e.getD 3 .undef = .str y27.1 ∧ e.getD 4 .undef = .int .i64 y27.2 ∧ e.getD 5 .undef = .str y31.1 ∧ e.getD 6 .undef = .int .i64 y31.2) (by
        simp only [↓WE, WA, WL, aop, ofValue, ofCell, isConst, abin, acall1, abuiltin, aun, AV.cells, AV.one, Nat.reduceAdd, Int.reduceLT, Int.reduceLE, ↓WD, W0, evalOp, Nat.reduceEqDiff, Nat.reduceLT, ↓reduceIte, reduceCtorEq, hl, e1, e3, e4, ol30, og32]
        exact ⟨rfl, (by simp only [List.length_set, hl]), (by simp only [W0, Nat.reduceEqDiff, Nat.reduceLT, ↓reduceIte, hl, e1, e3, e4]), (by simp only [W0, Nat.reduceEqDiff, Nat.reduceLT, ↓reduceIte, hl, e1, e3, e4]), (by simp only [W0, Nat.reduceEqDiff, Nat.reduceLT, ↓reduceIte, hl, e1, e3, e4]), (by simp only [W0, Nat.reduceEqDiff, Nat.reduceLT, ↓reduceIte, hl, e1, e3, e4]), (by simp only [W0, Nat.reduceEqDiff, Nat.reduceLT, ↓reduceIte, hl, e1, e3, e4])⟩) ?_
      rintro envg33 _ ⟨rfl, hl, e1, e3, e4, e5, e6⟩
      try simp only [↓WD, W0, evalOp, Nat.reduceEqDiff, Nat.reduceLT, ↓reduceIte, reduceCtorEq, hl, e1, e3, e4, e5, e6]
      rw [AW_region]
      obtain ⟨j37, qj37, hF⟩ := obind hF
      refine AE_joinR (fun e h' => e.length = 96 ∧ e.getD 1 .undef = .ptr i1 0 ∧ e.getD 3 .undef = .str y27.1 ∧ e.getD 6 .undef = .int .i64 y31.2 ∧ e.getD 36 .undef = .bool j37 ∧ Sep h [] h' [.blk i1 [.int .i64 x_.xAt, .int .i64 x_.xCount, .int .i64 x_.xSize, .int .i64 x_.xOffset, .str x_.xComment, .bool x_.xWide] 62]) ?_ ?_
      · simp only [↓WE, WA, WL, aop, ofValue, ofCell, isConst, abin, acall1, abuiltin, aun, AV.cells, AV.one, Nat.reduceAdd, Int.reduceLT, Int.reduceLE, ↓WD, W0, evalOp, Nat.reduceEqDiff, Nat.reduceLT, ↓reduceIte, reduceCtorEq, hl, e1, e3, e4, e5, e6]
        refine GuardW_boo (fun c34 => ?_) (fun c34 => ?_)
        · rw [if_pos c34] at qj37
          have d35 := c34
          simp only [↓WE, WA, WL, aop, ofValue, ofCell, isConst, abin, acall1, abuiltin, aun, AV.cells, AV.one, Nat.reduceAdd, Int.reduceLT, Int.reduceLE, ↓WD, W0, evalOp, Nat.reduceEqDiff, Nat.reduceLT, ↓reduceIte, reduceCtorEq, hl, e1, e3, e4, e5, e6, d35]
          obtain rfl := Option.some.inj qj37
          exact ⟨(by simp only [List.length_set, hl]), (by simp only [W0, Nat.reduceEqDiff, Nat.reduceLT, ↓reduceIte, hl, e1, e3, e4, e5, e6]), (by simp only [W0, Nat.reduceEqDiff, Nat.reduceLT, ↓reduceIte, hl, e1, e3, e4, e5, e6]), (by simp only [W0, Nat.reduceEqDiff, Nat.reduceLT, ↓reduceIte, hl, e1, e3, e4, e5, e6]), (by simp only [W0, Nat.reduceEqDiff, Nat.reduceLT, ↓reduceIte, hl, e1, e3, e4, e5, e6]), S13⟩
        · rw [if_neg (nf c34)] at qj37
          have d36 := c34
          simp only [↓WE, WA, WL, aop, ofValue, ofCell, isConst, abin, acall1, abuiltin, aun, AV.cells, AV.one, Nat.reduceAdd, Int.reduceLT, Int.reduceLE, ↓WD, W0, evalOp, Nat.reduceEqDiff, Nat.reduceLT, ↓reduceIte, reduceCtorEq, hl, e1, e3, e4, e5, e6, d36]
          obtain rfl := Option.some.inj qj37
          exact ⟨(by simp only [List.length_set, hl]), (by simp only [W0, Nat.reduceEqDiff, Nat.reduceLT, ↓reduceIte, hl, e1, e3, e4, e5, e6]), (by simp only [W0, Nat.reduceEqDiff, Nat.reduceLT, ↓reduceIte, hl, e1, e3, e4, e5, e6]), (by simp only [W0, Nat.reduceEqDiff, Nat.reduceLT, ↓reduceIte, hl, e1, e3, e4, e5, e6]), (by simp only [W0, Nat.reduceEqDiff, Nat.reduceLT, ↓reduceIte, hl, e1, e3, e4, e5, e6]), S13⟩
      · rintro envj37 h39 ⟨hl, e1, e3, e6, e36, S38⟩
        try simp only [↓WD, W0, evalOp, Nat.reduceEqDiff, Nat.reduceLT, ↓reduceIte, reduceCtorEq, hl, e1, e3, e6, e36]
        refine CondK_boo (fun c42 => ?_) (fun c42 => ?_)
        · rw [if_pos c42] at hF
          try simp only [↓WD, W0, evalOp, Nat.reduceEqDiff, Nat.reduceLT, ↓reduceIte, reduceCtorEq, hl, e1, e3, e6, e36]
          rw [AW_region]
          refine AE_joinR (fun e h' => h39 = h' ∧ e.length = 96 ∧ e.getD 2 .undef = .bool false) (by
            simp only [↓WE, WA, WL, aop, ofValue, ofCell, isConst, abin, acall1, abuiltin, aun, AV.cells, AV.one, Nat.reduceAdd, Int.reduceLT, Int.reduceLE, ↓WD, W0, evalOp, Nat.reduceEqDiff, Nat.reduceLT, ↓reduceIte, reduceCtorEq, hl, e1, e3, e6, e36]
            exact ⟨rfl, (by simp only [List.length_set, hl]), (by simp only [W0, Nat.reduceEqDiff, Nat.reduceLT, ↓reduceIte, hl, e1, e3, e6, e36])⟩) ?_
          rintro envg43 _ ⟨rfl, hl, e2⟩
          try simp only [↓WD, W0, evalOp, Nat.reduceEqDiff, Nat.reduceLT, ↓reduceIte, reduceCtorEq, hl, e2]
          refine KP_ret (vs := [.bool false]) (by simp only [aresults, aresult, gs, List.length_set, Nat.reduceEqDiff, Nat.reduceLT, ↓reduceIte, hl, e2]) ?_
          obtain rfl := Option.some.inj hF
          exact rfl
        · rw [if_neg (nf c42)] at hF
          try simp only [↓WD, W0, evalOp, Nat.reduceEqDiff, Nat.reduceLT, ↓reduceIte, reduceCtorEq, hl, e1, e3, e6, e36]
          rw [AW_region]
          obtain ⟨j48, qj48, hF⟩ := obind hF
          refine AE_joinR (fun e h' => e.length = 96 ∧ e.getD 1 .undef = .ptr i1 0 ∧ e.getD 3 .undef = .str y27.1 ∧ e.getD 6 .undef = .int .i64 y31.2 ∧ e.getD 43 .undef = .bool j48 ∧ Sep h [] h' [.blk i1 [.int .i64 x_.xAt, .int .i64 x_.xCount, .int .i64 x_.xSize, .int .i64 x_.xOffset, .str x_.xComment, .bool x_.xWide] 62]) ?_ ?_
          · simp only [↓WE, WA, WL, aop, ofValue, ofCell, isConst, abin, acall1, abuiltin, aun, AV.cells, AV.one, Nat.reduceAdd, Int.reduceLT, Int.reduceLE, ↓WD, W0, evalOp, Nat.reduceEqDiff, Nat.reduceLT, ↓reduceIte, reduceCtorEq, hl, e1, e3, e6, e36]
            refine GuardW_boo (fun c44 => ?_) (fun c44 => ?_)
            · rw [if_pos c44] at qj48
              have d45 := c44
              simp only [↓WE, WA, WL, aop, ofValue, ofCell, isConst, abin, acall1, abuiltin, aun, AV.cells, AV.one, Nat.reduceAdd, Int.reduceLT, Int.reduceLE, ↓WD, W0, evalOp, Nat.reduceEqDiff, Nat.reduceLT, ↓reduceIte, reduceCtorEq, hl, e1, e3, e6, e36, d45]
              obtain rfl := Option.some.inj qj48
              exact ⟨(by simp only [List.length_set, hl]), (by simp only [W0, Nat.reduceEqDiff, Nat.reduceLT, ↓reduceIte, hl, e1, e3, e6, e36]), (by simp only [W0, Nat.reduceEqDiff, Nat.reduceLT, ↓reduceIte, hl, e1, e3, e6, e36]), (by simp only [W0, Nat.reduceEqDiff, Nat.reduceLT, ↓reduceIte, hl, e1, e3, e6, e36]), (by simp only [W0, Nat.reduceEqDiff, Nat.reduceLT, ↓reduceIte, hl, e1, e3, e6, e36]), S38⟩
            · rw [if_neg (nf c44)] at qj48
              have d46 := c44
              have ol47 := S38.load (P := Try.prog) 0 rfl (t := 3) (off := 0) (v := .int .i64 x_.xAt) (by simp only [apart, ag_3, sz_3]; rfl)
              simp only [↓WE, WA, WL, aop, ofValue, ofCell, isConst, abin, acall1, abuiltin, aun, AV.cells, AV.one, Nat.reduceAdd, Int.reduceLT, Int.reduceLE, ↓WD, W0, evalOp, Nat.reduceEqDiff, Nat.reduceLT, ↓reduceIte, reduceCtorEq, hl, e1, e3, e6, e36, fa_62_0, ol47, d46]
              obtain rfl := Option.some.inj qj48
              exact ⟨(by simp only [List.length_set, hl]), (by simp only [W0, Nat.reduceEqDiff, Nat.reduceLT, ↓reduceIte, hl, e1, e3, e6, e36]), (by simp only [W0, Nat.reduceEqDiff, Nat.reduceLT, ↓reduceIte, hl, e1, e3, e6, e36]), (by simp only [W0, Nat.reduceEqDiff, Nat.reduceLT, ↓reduceIte, hl, e1, e3, e6, e36]), (by simp only [W0, Nat.reduceEqDiff, Nat.reduceLT, ↓reduceIte, hl, e1, e3, e6, e36]), S38⟩
          · rintro envj48 h50 ⟨hl, e1, e3, e6, e43, S49⟩
            try simp only [↓WD, W0, evalOp, Nat.reduceEqDiff, Nat.reduceLT, ↓reduceIte, reduceCtorEq, hl, e1, e3, e6, e43]
            refine CondK_boo (fun c58 => ?_) (fun c58 => ?_)
            · rw [if_pos c58] at hF
              try simp only [↓WD, W0, evalOp, Nat.reduceEqDiff, Nat.reduceLT, ↓reduceIte, reduceCtorEq, hl, e1, e3, e6, e43]
              rw [AW_region]
              obtain ⟨j62, qj62, hF⟩ := obind hF
              refine AE_joinR (fun e h' => e.length = 96 ∧ e.getD 2 .undef = .bool j62 ∧ Sep h [] h' []) ?_ ?_
              · simp only [↓WE, WA, WL, aop, ofValue, ofCell, isConst, abin, acall1, abuiltin, aun, AV.cells, AV.one, Nat.reduceAdd, Int.reduceLT, Int.reduceLE, ↓WD, W0, evalOp, Nat.reduceEqDiff, Nat.reduceLT, ↓reduceIte, reduceCtorEq, hl, e1, e3, e6, e43]
                refine GuardW_boo (fun c59 => ?_) (fun c59 => ?_)
                · rw [if_pos c59] at qj62
                  have d60 := c59
                  simp only [↓WE, WA, WL, aop, ofValue, ofCell, isConst, abin, acall1, abuiltin, aun, AV.cells, AV.one, Nat.reduceAdd, Int.reduceLT, Int.reduceLE, ↓WD, W0, evalOp, Nat.reduceEqDiff, Nat.reduceLT, ↓reduceIte, reduceCtorEq, hl, e1, e3, e6, e43, d60]
                  obtain rfl := Option.some.inj qj62
                  exact ⟨(by simp only [List.length_set, hl]), (by simp only [W0, Nat.reduceEqDiff, Nat.reduceLT, ↓reduceIte, hl, e1, e3, e6, e43]), S49.pick [] (by decide) rfl⟩
                · rw [if_neg (nf c59)] at qj62
                  have d61 := c59
                  simp only [↓WE, WA, WL, aop, ofValue, ofCell, isConst, abin, acall1, abuiltin, aun, AV.cells, AV.one, Nat.reduceAdd, Int.reduceLT, Int.reduceLE, ↓WD, W0, evalOp, Nat.reduceEqDiff, Nat.reduceLT, ↓reduceIte, reduceCtorEq, hl, e1, e3, e6, e43, d61]
                  obtain rfl := Option.some.inj qj62
                  exact ⟨(by simp only [List.length_set, hl]), (by simp only [W0, Nat.reduceEqDiff, Nat.reduceLT, ↓reduceIte, hl, e1, e3, e6, e43]), S49.pick [] (by decide) rfl⟩
              · rintro envj62 h64 ⟨hl, e2, S63⟩
                try simp only [↓WD, W0, evalOp, Nat.reduceEqDiff, Nat.reduceLT, ↓reduceIte, reduceCtorEq, hl, e2]
                refine KP_ret (vs := [.bool j62]) (by simp only [aresults, aresult, gs, List.length_set, Nat.reduceEqDiff, Nat.reduceLT, ↓reduceIte, hl, e2]) ?_
                obtain rfl := Option.some.inj hF
                exact rfl
            · rw [if_neg (nf c58)] at hF
              try simp only [↓WD, W0, evalOp, Nat.reduceEqDiff, Nat.reduceLT, ↓reduceIte, reduceCtorEq, hl, e1, e3, e6, e43]
              rw [AW_region]
              have ol65 := S49.load (P := Try.prog) 0 rfl (t := 3) (off := 0) (v := .int .i64 x_.xAt) (by simp only [apart, ag_3, sz_3]; rfl)
              obtain ⟨zs66, qzs66, hF⟩ := obind hF
              obtain ⟨u67, h68, om69, S70⟩ := Sep.make (P := Try.prog) sl_70 (f := (cellI .u8)) (by rw [zero_5]; rfl) S49 qzs66 .i64 .i64
              have S72 : Sep h [] h68 [.blk i1 [.int .i64 x_.xAt, .int .i64 x_.xCount, .int .i64 x_.xSize, .int .i64 x_.xOffset, .str x_.xComment, .bool x_.xWide] 62, .row u67 5 1 (zs66.map (cellI .u8))] := S70
              have oc73 := RO.str (P := Try.prog) Try.underlying70 Try.underlying5 Try.underlying9 (S72.row_ro (i := 1) rfl)
              obtain ⟨s74, qs74, hF⟩ := obind hF
              have os74 := cat_str qs74
              refine AE_joinR (fun e h' => h68 = h' ∧ e.length = 96 ∧ e.getD 1 .undef = .ptr i1 0 ∧ e.getD 7 .undef = .str s74) (by
                simp only [↓WE, WA, WL, aop, ofValue, ofCell, isConst, abin, acall1, abuiltin, aun, AV.cells, AV.one, Nat.reduceAdd, Int.reduceLT, Int.reduceLE, ↓WD, W0, evalOp, Nat.reduceEqDiff, Nat.reduceLT, ↓reduceIte, reduceCtorEq, hl, e1, e3, e6, e43, fa_62_0, ol65, om69, oc73, os74]
                exact ⟨rfl, (by simp only [List.length_set, hl]), (by simp only [W0, Nat.reduceEqDiff, Nat.reduceLT, ↓reduceIte, hl, e1, e3, e6, e43]), (by simp only [W0, Nat.reduceEqDiff, Nat.reduceLT, ↓reduceIte, hl, e1, e3, e6, e43])⟩) ?_
              rintro envg75 _ ⟨rfl, hl, e1, e7⟩
              try simp only [↓WD, W0, evalOp, Nat.reduceEqDiff, Nat.reduceLT, ↓reduceIte, reduceCtorEq, hl, e1, e7]
              rw [AW_region]
              obtain ⟨y76, qy76, hF⟩ := obind hF
              have og77 := fun (D : Drawn) (n : Nat) (g : AH) => call_hook (P := Try.prog) (D := D) k33 n (args := [.str s74]) (v := .tup [.agg [.int .i64 y76.1.xAt, .int .i64 y76.1.xCount, .int .i64 y76.1.xSize, .int .i64 y76.1.xOffset, .str y76.1.xComment, .bool y76.1.xWide], .int .i64 y76.2]) ((kf_33_eq s74).trans (by rw [qy76]; rfl)) g
              obtain ⟨i78, h79, oa80, S81⟩ := S72.alloc 62 [.int .i64 0, .int .i64 0, .int .i64 0, .int .i64 0, .str [], .bool false]
              have S83 : Sep h [] h79 [.blk i1 [.int .i64 x_.xAt, .int .i64 x_.xCount, .int .i64 x_.xSize, .int .i64 x_.xOffset, .str x_.xComment, .bool x_.xWide] 62, .row u67 5 1 (zs66.map (cellI .u8)), .blk i78 [.int .i64 0, .int .i64 0, .int .i64 0, .int .i64 0, .str [], .bool false] 62] := S81
              obtain ⟨h84, os85, S86⟩ := S83.store (P := Try.prog) 2 rfl (t := 62) (off := 0) (v := .agg [.int .i64 y76.1.xAt, .int .i64 y76.1.xCount, .int .i64 y76.1.xSize, .int .i64 y76.1.xOffset, .str y76.1.xComment, .bool y76.1.xWide]) (c' := [.int .i64 y76.1.xAt, .int .i64 y76.1.xCount, .int .i64 y76.1.xSize, .int .i64 y76.1.xOffset, .str y76.1.xComment, .bool y76.1.xWide]) rfl sz_62 rfl (by simp) rfl
              have S87 : Sep h [] h84 [.blk i1 [.int .i64 x_.xAt, .int .i64 x_.xCount, .int .i64 x_.xSize, .int .i64 x_.xOffset, .str x_.xComment, .bool x_.xWide] 62, .row u67 5 1 (zs66.map (cellI .u8)), .blk i78 [.int .i64 y76.1.xAt, .int .i64 y76.1.xCount, .int .i64 y76.1.xSize, .int .i64 y76.1.xOffset, .str y76.1.xComment, .bool y76.1.xWide] 62] := S86
              refine AE_joinR (fun e h' => h84 = h' ∧ e.length = 96 ∧ e.getD 1 .undef = .ptr i1 0 ∧ e.getD 7 .undef = .str s74 ∧ e.getD 8 .undef = .ptr i78 0 ∧ e.getD 9 .undef = .int .i64 y76.2) (by
                simp only [↓WE, WA, WL, aop, ofValue, ofCell, isConst, abin, acall1, abuiltin, aun, AV.cells, AV.one, Nat.reduceAdd, Int.reduceLT, Int.reduceLE, ↓WD, W0, evalOp, Nat.reduceEqDiff, Nat.reduceLT, ↓reduceIte, reduceCtorEq, hl, e1, e7, og77, zero_62, oa80, os85]
                exact ⟨rfl, (by simp only [List.length_set, hl]), (by simp only [W0, Nat.reduceEqDiff, Nat.reduceLT, ↓reduceIte, hl, e1, e7]), (by simp only [W0, Nat.reduceEqDiff, Nat.reduceLT, ↓reduceIte, hl, e1, e7]), (by simp only [W0, Nat.reduceEqDiff, Nat.reduceLT, ↓reduceIte, hl, e1, e7]), (by simp only [W0, Nat.reduceEqDiff, Nat.reduceLT, ↓reduceIte, hl, e1, e7])⟩) ?_
              rintro envg88 _ ⟨rfl, hl, e1, e7, e8, e9⟩
              try simp only [↓WD, W0, evalOp, Nat.reduceEqDiff, Nat.reduceLT, ↓reduceIte, reduceCtorEq, hl, e1, e7, e8, e9]
              rw [AW_region]
              obtain ⟨y89, qy89, hF⟩ := obind hF
              have og90 := fun (D : Drawn) (n : Nat) (g : AH) => call_hook (P := Try.prog) (D := D) k34 n (args := [.str s74]) (v := .tup [.agg [.int .i64 y89.1.xAt, .int .i64 y89.1.xCount, .int .i64 y89.1.xSize, .int .i64 y89.1.xOffset, .str y89.1.xComment, .bool y89.1.xWide], .int .i64 y89.2]) ((kf_34_eq s74).trans (by rw [qy89]; rfl)) g
              obtain ⟨i91, h92, oa93, S94⟩ := S87.alloc 62 [.int .i64 0, .int .i64 0, .int .i64 0, .int .i64 0, .str [], .bool false]
              have S96 : Sep h [] h92 [.blk i1 [.int .i64 x_.xAt, .int .i64 x_.xCount, .int .i64 x_.xSize, .int .i64 x_.xOffset, .str x_.xComment, .bool x_.xWide] 62, .row u67 5 1 (zs66.map (cellI .u8)), .blk i78 [.int .i64 y76.1.xAt, .int .i64 y76.1.xCount, .int .i64 y76.1.xSize, .int .i64 y76.1.xOffset, .str y76.1.xComment, .bool y76.1.xWide] 62, .blk i91 [.int .i64 0, .int .i64 0, .int .i64 0, .int .i64 0, .str [], .bool false] 62] := S94
              obtain ⟨h97, os98, S99⟩ := S96.store (P := Try.prog) 3 rfl (t := 62) (off := 0) (v := .agg [.int .i64 y89.1.xAt, .int .i64 y89.1.xCount, .int .i64 y89.1.xSize, .int .i64 y89.1.xOffset, .str y89.1.xComment, .bool y89.1.xWide]) (c' := [.int .i64 y89.1.xAt, .int .i64 y89.1.xCount, .int .i64 y89.1.xSize, .int .i64 y89.1.xOffset, .str y89.1.xComment, .bool y89.1.xWide]) rfl sz_62 rfl (by simp) rfl
              have S100 : Sep h [] h97 [.blk i1 [.int .i64 x_.xAt, .int .i64 x_.xCount, .int .i64 x_.xSize, .int .i64 x_.xOffset, .str x_.xComment, .bool x_.xWide] 62, .row u67 5 1 (zs66.map (cellI .u8)), .blk i78 [.int .i64 y76.1.xAt, .int .i64 y76.1.xCount, .int .i64 y76.1.xSize, .int .i64 y76.1.xOffset, .str y76.1.xComment, .bool y76.1.xWide] 62, .blk i91 [.int .i64 y89.1.xAt, .int .i64 y89.1.xCount, .int .i64 y89.1.xSize, .int .i64 y89.1.xOffset, .str y89.1.xComment, .bool y89.1.xWide] 62] := S99
              refine AE_joinR (fun e h' => h97 = h' ∧ e.length = 96 ∧ e.getD 1 .undef = .ptr i1 0 ∧ e.getD 8 .undef = .ptr i78 0 ∧ e.getD 9 .undef = .int .i64 y76.2 ∧ e.getD 10 .undef = .ptr i91 0 ∧ e.getD 11 .undef = .int .i64 y89.2) (by
                simp only [↓WE, WA, WL, aop, ofValue, ofCell, isConst, abin, acall1, abuiltin, aun, AV.cells, AV.one, Nat.reduceAdd, Int.reduceLT, Int.reduceLE, ↓WD, W0, evalOp, Nat.reduceEqDiff, Nat.reduceLT, ↓reduceIte, reduceCtorEq, hl, e1, e7, e8, e9, og90, zero_62, oa93, os98]
                exact ⟨rfl, (by simp only [List.length_set, hl]), (by simp only [W0, Nat.reduceEqDiff, Nat.reduceLT, ↓reduceIte, hl, e1, e7, e8, e9]), (by simp only [W0, Nat.reduceEqDiff, Nat.reduceLT, ↓reduceIte, hl, e1, e7, e8, e9]), (by simp only [W0, Nat.reduceEqDiff, Nat.reduceLT, ↓reduceIte, hl, e1, e7, e8, e9]), (by simp only [W0, Nat.reduceEqDiff, Nat.reduceLT, ↓reduceIte, hl, e1, e7, e8, e9]), (by simp only [W0, Nat.reduceEqDiff, Nat.reduceLT, ↓reduceIte, hl, e1, e7, e8, e9])⟩) ?_
              rintro envg101 _ ⟨rfl, hl, e1, e8, e9, e10, e11⟩
              try simp only [↓WD, W0, evalOp, Nat.reduceEqDiff, Nat.reduceLT, ↓reduceIte, reduceCtorEq, hl, e1, e8, e9, e10, e11]
              rw [AW_region]
              obtain ⟨j107, qj107, hF⟩ := obind hF
              refine AE_joinR (fun e h' => e.length = 96 ∧ e.getD 1 .undef = .ptr i1 0 ∧ e.getD 8 .undef = .ptr i78 0 ∧ e.getD 9 .undef = .int .i64 y76.2 ∧ e.getD 73 .undef = .bool j107 ∧ Sep h [] h' [.blk i1 [.int .i64 x_.xAt, .int .i64 x_.xCount, .int .i64 x_.xSize, .int .i64 x_.xOffset, .str x_.xComment, .bool x_.xWide] 62, .blk i78 [.int .i64 y76.1.xAt, .int .i64 y76.1.xCount, .int .i64 y76.1.xSize, .int .i64 y76.1.xOffset, .str y76.1.xComment, .bool y76.1.xWide] 62]) ?_ ?_
              · have ol102 := S100.load (P := Try.prog) 2 rfl (t := 62) (off := 0) (v := .agg [.int .i64 y76.1.xAt, .int .i64 y76.1.xCount, .int .i64 y76.1.xSize, .int .i64 y76.1.xOffset, .str y76.1.xComment, .bool y76.1.xWide]) (by simp only [apart, ag_62, sz_62]; rfl)
                have ol103 := S100.load (P := Try.prog) 3 rfl (t := 62) (off := 0) (v := .agg [.int .i64 y89.1.xAt, .int .i64 y89.1.xCount, .int .i64 y89.1.xSize, .int .i64 y89.1.xOffset, .str y89.1.xComment, .bool y89.1.xWide]) (by simp only [apart, ag_62, sz_62]; rfl)
                simp only [↓WE, WA, WL, aop, ofValue, ofCell, isConst, abin, acall1, abuiltin, aun, AV.cells, AV.one, Nat.reduceAdd, Int.reduceLT, Int.reduceLE, ↓WD, W0, evalOp, Nat.reduceEqDiff, Nat.reduceLT, ↓reduceIte, reduceCtorEq, hl, e1, e8, e9, e10, e11, ol102, ol103, eq_62_neq]
                refine GuardW_boo (fun c104 => ?_) (fun c104 => ?_)
                · rw [if_pos c104] at qj107
                  have d105 := c104
                  simp only [↓WE, WA, WL, aop, ofValue, ofCell, isConst, abin, acall1, abuiltin, aun, AV.cells, AV.one, Nat.reduceAdd, Int.reduceLT, Int.reduceLE, ↓WD, W0, evalOp, Nat.reduceEqDiff, Nat.reduceLT, ↓reduceIte, reduceCtorEq, hl, e1, e8, e9, e10, e11, ol102, ol103, eq_62_neq, d105]
                  obtain rfl := Option.some.inj qj107
                  exact ⟨(by simp only [List.length_set, hl]), (by simp only [W0, Nat.reduceEqDiff, Nat.reduceLT, ↓reduceIte, hl, e1, e8, e9, e10, e11]), (by simp only [W0, Nat.reduceEqDiff, Nat.reduceLT, ↓reduceIte, hl, e1, e8, e9, e10, e11]), (by simp only [W0, Nat.reduceEqDiff, Nat.reduceLT, ↓reduceIte, hl, e1, e8, e9, e10, e11]), (by simp only [W0, Nat.reduceEqDiff, Nat.reduceLT, ↓reduceIte, hl, e1, e8, e9, e10, e11]), S100.pick [0, 2] (by decide) rfl⟩
                · rw [if_neg (nf c104)] at qj107
                  have d106 := c104
                  simp only [↓WE, WA, WL, aop, ofValue, ofCell, isConst, abin, acall1, abuiltin, aun, AV.cells, AV.one, Nat.reduceAdd, Int.reduceLT, Int.reduceLE, ↓WD, W0, evalOp, Nat.reduceEqDiff, Nat.reduceLT, ↓reduceIte, reduceCtorEq, hl, e1, e8, e9, e10, e11, ol102, ol103, eq_62_neq, d106]
                  obtain rfl := Option.some.inj qj107
                  exact ⟨(by simp only [List.length_set, hl]), (by simp only [W0, Nat.reduceEqDiff, Nat.reduceLT, ↓reduceIte, hl, e1, e8, e9, e10, e11]), (by simp only [W0, Nat.reduceEqDiff, Nat.reduceLT, ↓reduceIte, hl, e1, e8, e9, e10, e11]), (by simp only [W0, Nat.reduceEqDiff, Nat.reduceLT, ↓reduceIte, hl, e1, e8, e9, e10, e11]), (by simp only [W0, Nat.reduceEqDiff, Nat.reduceLT, ↓reduceIte, hl, e1, e8, e9, e10, e11]), S100.pick [0, 2] (by decide) rfl⟩
              · rintro envj107 h109 ⟨hl, e1, e8, e9, e73, S108⟩
                try simp only [↓WD, W0, evalOp, Nat.reduceEqDiff, Nat.reduceLT, ↓reduceIte, reduceCtorEq, hl, e1, e8, e9, e73]
                refine CondK_boo (fun c112 => ?_) (fun c112 => ?_)
                · rw [if_pos c112] at hF
                  try simp only [↓WD, W0, evalOp, Nat.reduceEqDiff, Nat.reduceLT, ↓reduceIte, reduceCtorEq, hl, e1, e8, e9, e73]
                  rw [AW_region]
                  refine AE_joinR (fun e h' => h109 = h' ∧ e.length = 96 ∧ e.getD 2 .undef = .bool false) (by
                    simp only [↓WE, WA, WL, aop, ofValue, ofCell, isConst, abin, acall1, abuiltin, aun, AV.cells, AV.one, Nat.reduceAdd, Int.reduceLT, Int.reduceLE, ↓WD, W0, evalOp, Nat.reduceEqDiff, Nat.reduceLT, ↓reduceIte, reduceCtorEq, hl, e1, e8, e9, e73]
                    exact ⟨rfl, (by simp only [List.length_set, hl]), (by simp only [W0, Nat.reduceEqDiff, Nat.reduceLT, ↓reduceIte, hl, e1, e8, e9, e73])⟩) ?_
                  rintro envg113 _ ⟨rfl, hl, e2⟩
                  try simp only [↓WD, W0, evalOp, Nat.reduceEqDiff, Nat.reduceLT, ↓reduceIte, reduceCtorEq, hl, e2]
                  refine KP_ret (vs := [.bool false]) (by simp only [aresults, aresult, gs, List.length_set, Nat.reduceEqDiff, Nat.reduceLT, ↓reduceIte, hl, e2]) ?_
                  obtain rfl := Option.some.inj hF
                  exact rfl
                · rw [if_neg (nf c112)] at hF
                  try simp only [↓WD, W0, evalOp, Nat.reduceEqDiff, Nat.reduceLT, ↓reduceIte, reduceCtorEq, hl, e1, e8, e9, e73]
                  rw [AW_region]
                  refine AE_joinR (fun e h' => h109 = h' ∧ e.length = 96 ∧ e.getD 1 .undef = .ptr i1 0 ∧ e.getD 8 .undef = .ptr i78 0 ∧ e.getD 9 .undef = .int .i64 y76.2 ∧ e.getD 12 .undef = .int .i64 0) (by
                    simp only [↓WE, WA, WL, aop, ofValue, ofCell, isConst, abin, acall1, abuiltin, aun, AV.cells, AV.one, Nat.reduceAdd, Int.reduceLT, Int.reduceLE, ↓WD, W0, evalOp, Nat.reduceEqDiff, Nat.reduceLT, ↓reduceIte, reduceCtorEq, hl, e1, e8, e9, e73]
                    exact ⟨rfl, (by simp only [List.length_set, hl]), (by simp only [W0, Nat.reduceEqDiff, Nat.reduceLT, ↓reduceIte, hl, e1, e8, e9, e73]), (by simp only [W0, Nat.reduceEqDiff, Nat.reduceLT, ↓reduceIte, hl, e1, e8, e9, e73]), (by simp only [W0, Nat.reduceEqDiff, Nat.reduceLT, ↓reduceIte, hl, e1, e8, e9, e73]), (by simp only [W0, Nat.reduceEqDiff, Nat.reduceLT, ↓reduceIte, hl, e1, e8, e9, e73])⟩) ?_
                  rintro envg114 _ ⟨rfl, hl, e1, e8, e9, e12⟩
                  try simp only [↓WD, W0, evalOp, Nat.reduceEqDiff, Nat.reduceLT, ↓reduceIte, reduceCtorEq, hl, e1, e8, e9, e12]
                  obtain ⟨r145, qr145, hF⟩ := obind hF
                  refine AW_lift (L_law19_EndBack_1 x_) (fun s e h' => e.length = 96 ∧ e.getD 1 .undef = .ptr i1 0 ∧ e.getD 8 .undef = .ptr i78 0 ∧ e.getD 9 .undef = .int .i64 y76.2 ∧ e.getD 12 .undef = .int .i64 s ∧ Sep h [] h' [.blk i1 [.int .i64 x_.xAt, .int .i64 x_.xCount, .int .i64 x_.xSize, .int .i64 x_.xOffset, .str x_.xComment, .bool x_.xWide] 62, .blk i78 [.int .i64 y76.1.xAt, .int .i64 y76.1.xCount, .int .i64 y76.1.xSize, .int .i64 y76.1.xOffset, .str y76.1.xComment, .bool y76.1.xWide] 62]) (fun r145 x e h' => (∃ (t146 : Unit), r145 = (.inl t146) ∧ x = .exit 0 ∧ e.length = 96 ∧ e.getD 1 .undef = .ptr i1 0 ∧ e.getD 8 .undef = .ptr i78 0 ∧ e.getD 9 .undef = .int .i64 y76.2 ∧ Sep h [] h' [.blk i1 [.int .i64 x_.xAt, .int .i64 x_.xCount, .int .i64 x_.xSize, .int .i64 x_.xOffset, .str x_.xComment, .bool x_.xWide] 62, .blk i78 [.int .i64 y76.1.xAt, .int .i64 y76.1.xCount, .int .i64 y76.1.xSize, .int .i64 y76.1.xOffset, .str y76.1.xComment, .bool y76.1.xWide] 62]) ∨ (∃ (t149 : Unit), r145 = (.inr t149) ∧ x = .ret ∧ e.length = 96 ∧ e.getD 2 .undef = .bool true ∧ Sep h [] h' [])) qr145 (by omega) ?_ ?_ ?_
                  · rintro s envr145 h130 or145 ⟨hl, e1, e8, e9, e12, S131⟩ wr145
                    rw [L_law19_EndBack_1] at wr145
                    try simp only [↓WD, W0, evalOp, Nat.reduceEqDiff, Nat.reduceLT, ↓reduceIte, reduceCtorEq, hl, e1, e8, e9, e12]
                    rw [AW_region]
                    have ol132 := S131.load (P := Try.prog) 0 rfl (t := 9) (off := 4) (v := .str x_.xComment) (by simp only [apart, ag_9, sz_9]; rfl)
                    have ol133 := fun g : AH => alen_str (P := Try.prog) (h := g) (l := x_.xComment) Try.underlying9
                    refine AE_joinR (fun e h' => h130 = h' ∧ e.length = 96 ∧ e.getD 1 .undef = .ptr i1 0 ∧ e.getD 8 .undef = .ptr i78 0 ∧ e.getD 9 .undef = .int .i64 y76.2 ∧ e.getD 12 .undef = .int .i64 s ∧ e.getD 79 .undef = .bool (decide ((IntKind.i64.wrap (s + 4)) ≤ (x_.xComment.length : Int)))) (by
                      simp only [↓WE, WA, WL, aop, ofValue, ofCell, isConst, abin, acall1, abuiltin, aun, AV.cells, AV.one, Nat.reduceAdd, Int.reduceLT, Int.reduceLE, ↓WD, W0, evalOp, Nat.reduceEqDiff, Nat.reduceLT, ↓reduceIte, reduceCtorEq, hl, e1, e8, e9, e12, fa_62_4, ol132, ol133]
                      exact ⟨rfl, (by simp only [List.length_set, hl]), (by simp only [W0, Nat.reduceEqDiff, Nat.reduceLT, ↓reduceIte, hl, e1, e8, e9, e12]), (by simp only [W0, Nat.reduceEqDiff, Nat.reduceLT, ↓reduceIte, hl, e1, e8, e9, e12]), (by simp only [W0, Nat.reduceEqDiff, Nat.reduceLT, ↓reduceIte, hl, e1, e8, e9, e12]), (by simp only [W0, Nat.reduceEqDiff, Nat.reduceLT, ↓reduceIte, hl, e1, e8, e9, e12]), (by simp only [W0, Nat.reduceEqDiff, Nat.reduceLT, ↓reduceIte, hl, e1, e8, e9, e12])⟩) ?_
                    rintro envg134 _ ⟨rfl, hl, e1, e8, e9, e12, e79⟩
                    try simp only [↓WD, W0, evalOp, Nat.reduceEqDiff, Nat.reduceLT, ↓reduceIte, reduceCtorEq, hl, e1, e8, e9, e12, e79]
                    refine CondK_dec (fun c136 => ?_) (fun c136 => ?_)
                    · rw [if_pos c136] at wr145
                      try simp only [↓WD, W0, evalOp, Nat.reduceEqDiff, Nat.reduceLT, ↓reduceIte, reduceCtorEq, hl, e1, e8, e9, e12, e79]
                      rw [AW_region]
                      have ol137 := S131.load (P := Try.prog) 0 rfl (t := 9) (off := 4) (v := .str x_.xComment) (by simp only [apart, ag_9, sz_9]; rfl)
                      obtain ⟨s138, qs138, wr145⟩ := obind wr145
                      have os138 := fun g : AH => sub_str (P := Try.prog) (h := g) (k := .i64) (k' := .i64) Try.underlying9 qs138
                      refine AE_joinR (fun e h' => h130 = h' ∧ e.length = 96 ∧ e.getD 1 .undef = .ptr i1 0 ∧ e.getD 8 .undef = .ptr i78 0 ∧ e.getD 9 .undef = .int .i64 y76.2 ∧ e.getD 12 .undef = .int .i64 s ∧ e.getD 88 .undef = .bool (s138 == [80, 75, 5, 6])) (by
                        simp only [↓WE, WA, WL, aop, ofValue, ofCell, isConst, abin, acall1, abuiltin, aun, AV.cells, AV.one, Nat.reduceAdd, Int.reduceLT, Int.reduceLE, ↓WD, W0, evalOp, Nat.reduceEqDiff, Nat.reduceLT, ↓reduceIte, reduceCtorEq, hl, e1, e8, e9, e12, e79, fa_62_4, ol137, os138]
                        exact ⟨rfl, (by simp only [List.length_set, hl]), (by simp only [W0, Nat.reduceEqDiff, Nat.reduceLT, ↓reduceIte, hl, e1, e8, e9, e12, e79]), (by simp only [W0, Nat.reduceEqDiff, Nat.reduceLT, ↓reduceIte, hl, e1, e8, e9, e12, e79]), (by simp only [W0, Nat.reduceEqDiff, Nat.reduceLT, ↓reduceIte, hl, e1, e8, e9, e12, e79]), (by simp only [W0, Nat.reduceEqDiff, Nat.reduceLT, ↓reduceIte, hl, e1, e8, e9, e12, e79]), (by simp only [W0, Nat.reduceEqDiff, Nat.reduceLT, ↓reduceIte, hl, e1, e8, e9, e12, e79])⟩) ?_
                      rintro envg139 _ ⟨rfl, hl, e1, e8, e9, e12, e88⟩
                      try simp only [↓WD, W0, evalOp, Nat.reduceEqDiff, Nat.reduceLT, ↓reduceIte, reduceCtorEq, hl, e1, e8, e9, e12, e88]
                      refine CondK_boo (fun c142 => ?_) (fun c142 => ?_)
                      · rw [if_pos c142] at wr145
                        try simp only [↓WD, W0, evalOp, Nat.reduceEqDiff, Nat.reduceLT, ↓reduceIte, reduceCtorEq, hl, e1, e8, e9, e12, e88]
                        rw [AW_region]
                        refine AE_joinR (fun e h' => h130 = h' ∧ e.length = 96 ∧ e.getD 2 .undef = .bool true) (by
                          simp only [↓WE, WA, WL, aop, ofValue, ofCell, isConst, abin, acall1, abuiltin, aun, AV.cells, AV.one, Nat.reduceAdd, Int.reduceLT, Int.reduceLE, ↓WD, W0, evalOp, Nat.reduceEqDiff, Nat.reduceLT, ↓reduceIte, reduceCtorEq, hl, e1, e8, e9, e12, e88]
                          exact ⟨rfl, (by simp only [List.length_set, hl]), (by simp only [W0, Nat.reduceEqDiff, Nat.reduceLT, ↓reduceIte, hl, e1, e8, e9, e12, e88])⟩) ?_
                        rintro envg143 _ ⟨rfl, hl, e2⟩
                        try simp only [↓WD, W0, evalOp, Nat.reduceEqDiff, Nat.reduceLT, ↓reduceIte, reduceCtorEq, hl, e2]
                        obtain rfl := Option.some.inj wr145
                        rw [KP_nil, QL_ret]
                        exact ⟨_, rfl, .inr (⟨_, rfl, rfl, (by simp only [List.length_set, hl]), (by simp only [W0, Nat.reduceEqDiff, Nat.reduceLT, ↓reduceIte, hl, e2]), S131.pick [] (by decide) rfl⟩)⟩
                      · rw [if_neg (nf c142)] at wr145
                        try simp only [↓WD, W0, evalOp, Nat.reduceEqDiff, Nat.reduceLT, ↓reduceIte, reduceCtorEq, hl, e1, e8, e9, e12, e88]
                        rw [AW_region]
                        refine AE_joinR (fun e h' => h130 = h' ∧ e.length = 96 ∧ e.getD 1 .undef = .ptr i1 0 ∧ e.getD 8 .undef = .ptr i78 0 ∧ e.getD 9 .undef = .int .i64 y76.2 ∧ e.getD 12 .undef = .int .i64 (IntKind.i64.wrap (s + 1))) (by
                          simp only [↓WE, WA, WL, aop, ofValue, ofCell, isConst, abin, acall1, abuiltin, aun, AV.cells, AV.one, Nat.reduceAdd, Int.reduceLT, Int.reduceLE, ↓WD, W0, evalOp, Nat.reduceEqDiff, Nat.reduceLT, ↓reduceIte, reduceCtorEq, hl, e1, e8, e9, e12, e88]
                          exact ⟨rfl, (by simp only [List.length_set, hl]), (by simp only [W0, Nat.reduceEqDiff, Nat.reduceLT, ↓reduceIte, hl, e1, e8, e9, e12, e88]), (by simp only [W0, Nat.reduceEqDiff, Nat.reduceLT, ↓reduceIte, hl, e1, e8, e9, e12, e88]), (by simp only [W0, Nat.reduceEqDiff, Nat.reduceLT, ↓reduceIte, hl, e1, e8, e9, e12, e88]), (by simp only [W0, Nat.reduceEqDiff, Nat.reduceLT, ↓reduceIte, hl, e1, e8, e9, e12, e88])⟩) ?_
                        rintro envg144 _ ⟨rfl, hl, e1, e8, e9, e12⟩
                        try simp only [↓WD, W0, evalOp, Nat.reduceEqDiff, Nat.reduceLT, ↓reduceIte, reduceCtorEq, hl, e1, e8, e9, e12]
                        obtain rfl := Option.some.inj wr145
                        rw [KP_nil, QL_normal]
                        exact ⟨_, rfl, (by simp only [List.length_set, hl]), (by simp only [W0, Nat.reduceEqDiff, Nat.reduceLT, ↓reduceIte, hl, e1, e8, e9, e12]), (by simp only [W0, Nat.reduceEqDiff, Nat.reduceLT, ↓reduceIte, hl, e1, e8, e9, e12]), (by simp only [W0, Nat.reduceEqDiff, Nat.reduceLT, ↓reduceIte, hl, e1, e8, e9, e12]), (by simp only [W0, Nat.reduceEqDiff, Nat.reduceLT, ↓reduceIte, hl, e1, e8, e9, e12]), S131⟩
                    · rw [if_neg c136] at wr145
                      try simp only [↓WD, W0, evalOp, Nat.reduceEqDiff, Nat.reduceLT, ↓reduceIte, reduceCtorEq, hl, e1, e8, e9, e12, e79]
                      obtain rfl := Option.some.inj wr145
                      rw [KP_nil, QL_exit]
                      exact ⟨_, rfl, .inl ⟨_, rfl, rfl, (by simp only [List.length_set, hl]), (by simp only [W0, Nat.reduceEqDiff, Nat.reduceLT, ↓reduceIte, hl, e1, e8, e9, e12, e79]), (by simp only [W0, Nat.reduceEqDiff, Nat.reduceLT, ↓reduceIte, hl, e1, e8, e9, e12, e79]), (by simp only [W0, Nat.reduceEqDiff, Nat.reduceLT, ↓reduceIte, hl, e1, e8, e9, e12, e79]), S131⟩⟩
                  · exact ⟨(by simp only [List.length_set, hl]), (by simp only [W0, Nat.reduceEqDiff, Nat.reduceLT, ↓reduceIte, hl, e1, e8, e9, e12]), (by simp only [W0, Nat.reduceEqDiff, Nat.reduceLT, ↓reduceIte, hl, e1, e8, e9, e12]), (by simp only [W0, Nat.reduceEqDiff, Nat.reduceLT, ↓reduceIte, hl, e1, e8, e9, e12]), (by simp only [W0, Nat.reduceEqDiff, Nat.reduceLT, ↓reduceIte, hl, e1, e8, e9, e12]), S108⟩
                  · intro x envr145 h147 hk
                    rcases hk with ⟨t146, rfl, rfl, hl, e1, e8, e9, S148⟩ | ⟨t149, rfl, rfl, hl, e2, S151⟩
                    · skip
                      rw [sumK_inl] at hF
                      try simp only [↓WD, W0, evalOp, Nat.reduceEqDiff, Nat.reduceLT, ↓reduceIte, reduceCtorEq, hl, e1, e8, e9]
                      rw [AW_region]
                      obtain ⟨j157, qj157, hF⟩ := obind hF
                      refine AE_joinR (fun e h' => e.length = 96 ∧ e.getD 2 .undef = .bool j157 ∧ Sep h [] h' []) ?_ ?_
                      · simp only [↓WE, WA, WL, aop, ofValue, ofCell, isConst, abin, acall1, abuiltin, aun, AV.cells, AV.one, Nat.reduceAdd, Int.reduceLT, Int.reduceLE, ↓WD, W0, evalOp, Nat.reduceEqDiff, Nat.reduceLT, ↓reduceIte, reduceCtorEq, hl, e1, e8, e9]
                        refine GuardW_boo (fun c152 => ?_) (fun c152 => ?_)
                        · rw [if_pos c152] at qj157
                          have d153 := c152
                          have ol155 := S148.load (P := Try.prog) 1 rfl (t := 62) (off := 0) (v := .agg [.int .i64 y76.1.xAt, .int .i64 y76.1.xCount, .int .i64 y76.1.xSize, .int .i64 y76.1.xOffset, .str y76.1.xComment, .bool y76.1.xWide]) (by simp only [apart, ag_62, sz_62]; rfl)
                          have ol156 := S148.load (P := Try.prog) 0 rfl (t := 62) (off := 0) (v := .agg [.int .i64 x_.xAt, .int .i64 x_.xCount, .int .i64 x_.xSize, .int .i64 x_.xOffset, .str x_.xComment, .bool x_.xWide]) (by simp only [apart, ag_62, sz_62]; rfl)
                          simp only [↓WE, WA, WL, aop, ofValue, ofCell, isConst, abin, acall1, abuiltin, aun, AV.cells, AV.one, Nat.reduceAdd, Int.reduceLT, Int.reduceLE, ↓WD, W0, evalOp, Nat.reduceEqDiff, Nat.reduceLT, ↓reduceIte, reduceCtorEq, hl, e1, e8, e9, ol155, ol156, eq_62_eql, d153]
                          obtain rfl := Option.some.inj qj157
                          exact ⟨(by simp only [List.length_set, hl]), (by simp only [W0, Nat.reduceEqDiff, Nat.reduceLT, ↓reduceIte, hl, e1, e8, e9]), S148.pick [] (by decide) rfl⟩
                        · rw [if_neg (nf c152)] at qj157
                          have d154 := c152
                          simp only [↓WE, WA, WL, aop, ofValue, ofCell, isConst, abin, acall1, abuiltin, aun, AV.cells, AV.one, Nat.reduceAdd, Int.reduceLT, Int.reduceLE, ↓WD, W0, evalOp, Nat.reduceEqDiff, Nat.reduceLT, ↓reduceIte, reduceCtorEq, hl, e1, e8, e9, d154]
                          obtain rfl := Option.some.inj qj157
                          exact ⟨(by simp only [List.length_set, hl]), (by simp only [W0, Nat.reduceEqDiff, Nat.reduceLT, ↓reduceIte, hl, e1, e8, e9]), S148.pick [] (by decide) rfl⟩
                      · rintro envj157 h159 ⟨hl, e2, S158⟩
                        try simp only [↓WD, W0, evalOp, Nat.reduceEqDiff, Nat.reduceLT, ↓reduceIte, reduceCtorEq, hl, e2]
                        refine KP_ret (vs := [.bool j157]) (by simp only [aresults, aresult, gs, List.length_set, Nat.reduceEqDiff, Nat.reduceLT, ↓reduceIte, hl, e2]) ?_
                        obtain rfl := Option.some.inj hF
                        exact rfl
                    · skip
                      rw [sumK_inr] at hF
                      try simp only [↓WD, W0, evalOp, Nat.reduceEqDiff, Nat.reduceLT, ↓reduceIte, reduceCtorEq, hl, e2]
                      refine KP_ret (vs := [.bool true]) (by simp only [aresults, aresult, gs, List.length_set, Nat.reduceEqDiff, Nat.reduceLT, ↓reduceIte, hl, e2]) ?_
                      obtain rfl := Option.some.inj hF
                      exact rfl
end Go.Proofs.YtikkpmmhejjpaaaM
