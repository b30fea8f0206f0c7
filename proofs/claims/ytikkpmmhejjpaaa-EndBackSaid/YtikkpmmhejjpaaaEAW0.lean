/- The abstract machine computes what the plain functions say: printed by lift.py. -/
import Derived.Test.YtikkpmmhejjpaaaEAT
set_option linter.unusedSimpArgs false
set_option linter.unusedVariables false
namespace Go.Proofs.YtikkpmmhejjpaaaM
open Go Go.RowKit
set_option maxRecDepth 100000 in
set_option maxHeartbeats 4000000 in
theorem W_end_fits {K : PureK} (n73 : K 73 = none) (m : Nat) (hm : NF + 1 ≤ m) (h : AH) (n_ : Int) (most_ : Int) {r : Bool} (hF : F_end_fits n_ most_ = some r) :
    AR (acall Try.prog (hooksOf K) (drawnOf Try.prog (tabOf K)) m 73 [.int .i64 n_, .int .i64 most_] h) (fun v h' => v = .bool r) := by
  obtain ⟨m, rfl⟩ : ∃ k, m = k + 1 := ⟨m - 1, by omega⟩
  refine AR_call (hooksOf_none n73) Try.func73 rfl _ _ fun env hl he => ?_
  have e0 := he 0
  have e1 := he 1
  simp only [List.getD_cons_zero, List.getD_cons_succ] at e0 e1
  simp only [Try.f73] at hl ⊢
  simp only [List.length_cons, List.length_nil, Nat.reduceAdd, Nat.reduceSub] at hl
  clear he
  have S0 : Sep h [] h [] := Sep.nil h
  rw [F_end_fits] at hF
  try simp only [↓WD, W0, evalOp, Nat.reduceEqDiff, Nat.reduceLT, ↓reduceIte, reduceCtorEq, hl, e0, e1]
  rw [AW_region]
  refine AE_joinR (fun e h' => h = h' ∧ e.length = 12 ∧ e.getD 0 .undef = .int .i64 n_ ∧ e.getD 1 .undef = .int .i64 most_) (by
    simp only [↓WE, WA, WL, aop, ofValue, ofCell, isConst, abin, acall1, abuiltin, aun, AV.cells, AV.one, Nat.reduceAdd, Int.reduceLT, Int.reduceLE, ↓WD, W0, evalOp, Nat.reduceEqDiff, Nat.reduceLT, ↓reduceIte, reduceCtorEq, hl, e0, e1]
    exact ⟨rfl, (by simp only [List.length_set, hl]), (by simp only [W0, Nat.reduceEqDiff, Nat.reduceLT, ↓reduceIte, hl, e0, e1]), (by simp only [W0, Nat.reduceEqDiff, Nat.reduceLT, ↓reduceIte, hl, e0, e1])⟩) ?_
  rintro envg1 _ ⟨rfl, hl, e0, e1⟩
  try simp only [↓WD, W0, evalOp, Nat.reduceEqDiff, Nat.reduceLT, ↓reduceIte, reduceCtorEq, hl, e0, e1]
  rw [AW_region]
  obtain ⟨j5, qj5, hF⟩ := obind hF
  refine AE_joinR (fun e h' => e.length = 12 ∧ e.getD 4 .undef = .bool j5 ∧ Sep h [] h' []) ?_ ?_
  · simp only [↓WE, WA, WL, aop, ofValue, ofCell, isConst, abin, acall1, abuiltin, aun, AV.cells, AV.one, Nat.reduceAdd, Int.reduceLT, Int.reduceLE, ↓WD, W0, evalOp, Nat.reduceEqDiff, Nat.reduceLT, ↓reduceIte, reduceCtorEq, hl, e0, e1]
    refine GuardW_dec (fun c2 => ?_) (fun c2 => ?_)
    · rw [if_pos c2] at qj5
      have d3 : (decide (n_ ≥ 0)) = true := decide_eq_true c2
      simp only [↓WE, WA, WL, aop, ofValue, ofCell, isConst, abin, acall1, abuiltin, aun, AV.cells, AV.one, Nat.reduceAdd, Int.reduceLT, Int.reduceLE, ↓WD, W0, evalOp, Nat.reduceEqDiff, Nat.reduceLT, ↓reduceIte, reduceCtorEq, hl, e0, e1, d3]
      obtain rfl := Option.some.inj qj5
      exact ⟨(by simp only [List.length_set, hl]), (by simp only [W0, Nat.reduceEqDiff, Nat.reduceLT, ↓reduceIte, hl, e0, e1]), S0⟩
    · rw [if_neg c2] at qj5
      have d4 : (decide (n_ ≥ 0)) = false := decide_eq_false c2
      simp only [↓WE, WA, WL, aop, ofValue, ofCell, isConst, abin, acall1, abuiltin, aun, AV.cells, AV.one, Nat.reduceAdd, Int.reduceLT, Int.reduceLE, ↓WD, W0, evalOp, Nat.reduceEqDiff, Nat.reduceLT, ↓reduceIte, reduceCtorEq, hl, e0, e1, d4]
      obtain rfl := Option.some.inj qj5
      exact ⟨(by simp only [List.length_set, hl]), (by simp only [W0, Nat.reduceEqDiff, Nat.reduceLT, ↓reduceIte, hl, e0, e1]), S0⟩
  · rintro envj5 h7 ⟨hl, e4, S6⟩
    try simp only [↓WD, W0, evalOp, Nat.reduceEqDiff, Nat.reduceLT, ↓reduceIte, reduceCtorEq, hl, e4]
    refine KP_ret (vs := [.bool j5]) (by simp only [aresults, aresult, gs, List.length_set, Nat.reduceEqDiff, Nat.reduceLT, ↓reduceIte, hl, e4]) ?_
    obtain rfl := Option.some.inj hF
    exact rfl
set_option maxRecDepth 100000 in
set_option maxHeartbeats 4000000 in
theorem W_end_right {K : PureK} (k73 : K 73 = some kf_73) (n61 : K 61 = none) (m : Nat) (hm : NF + 1 ≤ m) (h : AH) (e_ : Gapi_End) {r : Bool} (hF : F_end_right e_ = some r) :
    AR (acall Try.prog (hooksOf K) (drawnOf Try.prog (tabOf K)) m 61 [.agg [.int .i64 e_.xAt, .int .i64 e_.xCount, .int .i64 e_.xSize, .int .i64 e_.xOffset, .str e_.xComment, .bool e_.xWide]] h) (fun v h' => v = .bool r) := by
  obtain ⟨m, rfl⟩ : ∃ k, m = k + 1 := ⟨m - 1, by omega⟩
  refine AR_call (hooksOf_none n61) Try.func61 rfl _ _ fun env hl he => ?_
  have e0 := he 0
  simp only [List.getD_cons_zero, List.getD_cons_succ] at e0
  simp only [Try.f61] at hl ⊢
  simp only [List.length_cons, List.length_nil, Nat.reduceAdd, Nat.reduceSub] at hl
  clear he
  have S0 : Sep h [] h [] := Sep.nil h
  rw [F_end_right] at hF
  try simp only [↓WD, W0, evalOp, Nat.reduceEqDiff, Nat.reduceLT, ↓reduceIte, reduceCtorEq, hl, e0]
  rw [AW_region]
  obtain ⟨i1, h2, oa3, S4⟩ := S0.alloc 62 [.int .i64 e_.xAt, .int .i64 e_.xCount, .int .i64 e_.xSize, .int .i64 e_.xOffset, .str e_.xComment, .bool e_.xWide]
  have S6 : Sep h [] h2 [.blk i1 [.int .i64 e_.xAt, .int .i64 e_.xCount, .int .i64 e_.xSize, .int .i64 e_.xOffset, .str e_.xComment, .bool e_.xWide] 62] := S4
  refine AE_joinR (fun e h' => h2 = h' ∧ e.length = 39 ∧ e.getD 1 .undef = .ptr i1 0) (by
    simp only [↓WE, WA, WL, aop, ofValue, ofCell, isConst, abin, acall1, abuiltin, aun, AV.cells, AV.one, Nat.reduceAdd, Int.reduceLT, Int.reduceLE, ↓WD, W0, evalOp, Nat.reduceEqDiff, Nat.reduceLT, ↓reduceIte, reduceCtorEq, hl, e0, oa3]
    exact ⟨rfl, (by simp only [List.length_set, hl]), (by simp only [W0, Nat.reduceEqDiff, Nat.reduceLT, ↓reduceIte, hl, e0])⟩) ?_
  rintro envg7 _ ⟨rfl, hl, e1⟩
  try simp only [↓WD, W0, evalOp, Nat.reduceEqDiff, Nat.reduceLT, ↓reduceIte, reduceCtorEq, hl, e1]
  rw [AW_region]
  refine AE_joinR (fun e h' => h2 = h' ∧ e.length = 39 ∧ e.getD 1 .undef = .ptr i1 0 ∧ e.getD 3 .undef = .int .i64 65534 ∧ e.getD 4 .undef = .int .i64 4294967294) (by
    simp only [↓WE, WA, WL, aop, ofValue, ofCell, isConst, abin, acall1, abuiltin, aun, AV.cells, AV.one, Nat.reduceAdd, Int.reduceLT, Int.reduceLE, ↓WD, W0, evalOp, Nat.reduceEqDiff, Nat.reduceLT, ↓reduceIte, reduceCtorEq, hl, e1]
    exact ⟨rfl, (by simp only [List.length_set, hl]), (by simp only [W0, Nat.reduceEqDiff, Nat.reduceLT, ↓reduceIte, hl, e1]), (by simp only [W0, Nat.reduceEqDiff, Nat.reduceLT, ↓reduceIte, hl, e1]), (by simp only [W0, Nat.reduceEqDiff, Nat.reduceLT, ↓reduceIte, hl, e1])⟩) ?_
  rintro envg8 _ ⟨rfl, hl, e1, e3, e4⟩
  try simp only [↓WD, W0, evalOp, Nat.reduceEqDiff, Nat.reduceLT, ↓reduceIte, reduceCtorEq, hl, e1, e3, e4]
  rw [AW_region]
  have ol9 := S6.load (P := Try.prog) 0 rfl (t := 4) (off := 5) (v := .bool e_.xWide) (by simp only [apart, ag_4, sz_4]; rfl)
  refine AE_joinR (fun e h' => h2 = h' ∧ e.length = 39 ∧ e.getD 1 .undef = .ptr i1 0 ∧ e.getD 3 .undef = .int .i64 65534 ∧ e.getD 4 .undef = .int .i64 4294967294 ∧ e.getD 6 .undef = .bool e_.xWide) (by
    simp only [↓WE, WA, WL, aop, ofValue, ofCell, isConst, abin, acall1, abuiltin, aun, AV.cells, AV.one, Nat.reduceAdd, Int.reduceLT, Int.reduceLE, ↓WD, W0, evalOp, Nat.reduceEqDiff, Nat.reduceLT, ↓reduceIte, reduceCtorEq, hl, e1, e3, e4, fa_62_5, ol9]
    exact ⟨rfl, (by simp only [List.length_set, hl]), (by simp only [W0, Nat.reduceEqDiff, Nat.reduceLT, ↓reduceIte, hl, e1, e3, e4]), (by simp only [W0, Nat.reduceEqDiff, Nat.reduceLT, ↓reduceIte, hl, e1, e3, e4]), (by simp only [W0, Nat.reduceEqDiff, Nat.reduceLT, ↓reduceIte, hl, e1, e3, e4]), (by simp only [W0, Nat.reduceEqDiff, Nat.reduceLT, ↓reduceIte, hl, e1, e3, e4])⟩) ?_
  rintro envg10 _ ⟨rfl, hl, e1, e3, e4, e6⟩
  try simp only [↓WD, W0, evalOp, Nat.reduceEqDiff, Nat.reduceLT, ↓reduceIte, reduceCtorEq, hl, e1, e3, e4, e6]
  obtain ⟨j13, qj13, hF⟩ := obind hF
  refine CondK_join (fun e h' => e.length = 39 ∧ e.getD 1 .undef = .ptr i1 0 ∧ e.getD 3 .undef = .int .i64 j13.1 ∧ e.getD 4 .undef = .int .i64 j13.2 ∧ Sep h [] h' [.blk i1 [.int .i64 e_.xAt, .int .i64 e_.xCount, .int .i64 e_.xSize, .int .i64 e_.xOffset, .str e_.xComment, .bool e_.xWide] 62]) ?_ ?_
  · refine CondK_boo (fun c11 => ?_) (fun c11 => ?_)
    · rw [if_pos c11] at qj13
      try simp only [↓WD, W0, evalOp, Nat.reduceEqDiff, Nat.reduceLT, ↓reduceIte, reduceCtorEq, hl, e1, e3, e4, e6]
      rw [AW_region]
      refine AE_joinR (fun e h' => h2 = h' ∧ e.length = 39 ∧ e.getD 1 .undef = .ptr i1 0 ∧ e.getD 3 .undef = .int .i64 1099511627776 ∧ e.getD 4 .undef = .int .i64 1099511627776) (by
        simp only [↓WE, WA, WL, aop, ofValue, ofCell, isConst, abin, acall1, abuiltin, aun, AV.cells, AV.one, Nat.reduceAdd, Int.reduceLT, Int.reduceLE, ↓WD, W0, evalOp, Nat.reduceEqDiff, Nat.reduceLT, ↓reduceIte, reduceCtorEq, hl, e1, e3, e4, e6]
        exact ⟨rfl, (by simp only [List.length_set, hl]), (by simp only [W0, Nat.reduceEqDiff, Nat.reduceLT, ↓reduceIte, hl, e1, e3, e4, e6]), (by simp only [W0, Nat.reduceEqDiff, Nat.reduceLT, ↓reduceIte, hl, e1, e3, e4, e6]), (by simp only [W0, Nat.reduceEqDiff, Nat.reduceLT, ↓reduceIte, hl, e1, e3, e4, e6])⟩) ?_
      rintro envg12 _ ⟨rfl, hl, e1, e3, e4⟩
      try simp only [↓WD, W0, evalOp, Nat.reduceEqDiff, Nat.reduceLT, ↓reduceIte, reduceCtorEq, hl, e1, e3, e4]
      rw [KP_nil, KJ_normal]
      obtain rfl := Option.some.inj qj13
      exact ⟨(by simp only [List.length_set, hl]), (by simp only [W0, Nat.reduceEqDiff, Nat.reduceLT, ↓reduceIte, hl, e1, e3, e4]), (by simp only [W0, Nat.reduceEqDiff, Nat.reduceLT, ↓reduceIte, hl, e1, e3, e4]), (by simp only [W0, Nat.reduceEqDiff, Nat.reduceLT, ↓reduceIte, hl, e1, e3, e4]), S6⟩
    · rw [if_neg (nf c11)] at qj13
      try simp only [↓WD, W0, evalOp, Nat.reduceEqDiff, Nat.reduceLT, ↓reduceIte, reduceCtorEq, hl, e1, e3, e4, e6]
      rw [KP_nil, KJ_normal]
      obtain rfl := Option.some.inj qj13
      exact ⟨(by simp only [List.length_set, hl]), (by simp only [W0, Nat.reduceEqDiff, Nat.reduceLT, ↓reduceIte, hl, e1, e3, e4, e6]), (by simp only [W0, Nat.reduceEqDiff, Nat.reduceLT, ↓reduceIte, hl, e1, e3, e4, e6]), (by simp only [W0, Nat.reduceEqDiff, Nat.reduceLT, ↓reduceIte, hl, e1, e3, e4, e6]), S6⟩
  · rintro envj13 h15 ⟨hl, e1, e3, e4, S14⟩
    try simp only [↓WD, W0, evalOp, Nat.reduceEqDiff, Nat.reduceLT, ↓reduceIte, reduceCtorEq, hl, e1, e3, e4]
    rw [AW_region]
    obtain ⟨j42, qj42, hF⟩ := obind hF
    refine AE_joinR (fun e h' => e.length = 39 ∧ e.getD 2 .undef = .bool j42 ∧ Sep h [] h' []) ?_ ?_
    · have ol16 := S14.load (P := Try.prog) 0 rfl (t := 3) (off := 1) (v := .int .i64 e_.xCount) (by simp only [apart, ag_3, sz_3]; rfl)
      obtain ⟨y17, qy17, qj42⟩ := obind qj42
      have og18 := fun (D : Drawn) (n : Nat) (g : AH) => call_hook (P := Try.prog) (D := D) k73 n (args := [.int .i64 e_.xCount, .int .i64 j13.1]) (v := .bool y17) ((kf_73_eq e_.xCount j13.1).trans (by rw [qy17]; rfl)) g
      simp only [↓WE, WA, WL, aop, ofValue, ofCell, isConst, abin, acall1, abuiltin, aun, AV.cells, AV.one, Nat.reduceAdd, Int.reduceLT, Int.reduceLE, ↓WD, W0, evalOp, Nat.reduceEqDiff, Nat.reduceLT, ↓reduceIte, reduceCtorEq, hl, e1, e3, e4, fa_62_1, ol16, og18]
      refine GuardW_boo (fun c19 => ?_) (fun c19 => ?_)
      · rw [if_pos c19] at qj42
        have d20 := c19
        have ol22 := S14.load (P := Try.prog) 0 rfl (t := 3) (off := 2) (v := .int .i64 e_.xSize) (by simp only [apart, ag_3, sz_3]; rfl)
        obtain ⟨y23, qy23, qj42⟩ := obind qj42
        have og24 := fun (D : Drawn) (n : Nat) (g : AH) => call_hook (P := Try.prog) (D := D) k73 n (args := [.int .i64 e_.xSize, .int .i64 j13.2]) (v := .bool y23) ((kf_73_eq e_.xSize j13.2).trans (by rw [qy23]; rfl)) g
        simp only [↓WE, WA, WL, aop, ofValue, ofCell, isConst, abin, acall1, abuiltin, aun, AV.cells, AV.one, Nat.reduceAdd, Int.reduceLT, Int.reduceLE, ↓WD, W0, evalOp, Nat.reduceEqDiff, Nat.reduceLT, ↓reduceIte, reduceCtorEq, hl, e1, e3, e4, fa_62_1, ol16, og18, fa_62_2, ol22, og24, d20]
        refine GuardW_boo (fun c25 => ?_) (fun c25 => ?_)
        · rw [if_pos c25] at qj42
          have d26 := c25
          have ol28 := S14.load (P := Try.prog) 0 rfl (t := 3) (off := 3) (v := .int .i64 e_.xOffset) (by simp only [apart, ag_3, sz_3]; rfl)
          obtain ⟨y29, qy29, qj42⟩ := obind qj42
          have og30 := fun (D : Drawn) (n : Nat) (g : AH) => call_hook (P := Try.prog) (D := D) k73 n (args := [.int .i64 e_.xOffset, .int .i64 j13.2]) (v := .bool y29) ((kf_73_eq e_.xOffset j13.2).trans (by rw [qy29]; rfl)) g
          simp only [↓WE, WA, WL, aop, ofValue, ofCell, isConst, abin, acall1, abuiltin, aun, AV.cells, AV.one, Nat.reduceAdd, Int.reduceLT, Int.reduceLE, ↓WD, W0, evalOp, Nat.reduceEqDiff, Nat.reduceLT, ↓reduceIte, reduceCtorEq, hl, e1, e3, e4, fa_62_1, ol16, og18, fa_62_2, ol22, og24, fa_62_3, ol28, og30, d20, d26]
          refine GuardW_boo (fun c31 => ?_) (fun c31 => ?_)
          · rw [if_pos c31] at qj42
            have d32 := c31
            have ol34 := S14.load (P := Try.prog) 0 rfl (t := 3) (off := 0) (v := .int .i64 e_.xAt) (by simp only [apart, ag_3, sz_3]; rfl)
            have ol35 := S14.load (P := Try.prog) 0 rfl (t := 3) (off := 3) (v := .int .i64 e_.xOffset) (by simp only [apart, ag_3, sz_3]; rfl)
            have ol36 := S14.load (P := Try.prog) 0 rfl (t := 3) (off := 2) (v := .int .i64 e_.xSize) (by simp only [apart, ag_3, sz_3]; rfl)
            simp only [↓WE, WA, WL, aop, ofValue, ofCell, isConst, abin, acall1, abuiltin, aun, AV.cells, AV.one, Nat.reduceAdd, Int.reduceLT, Int.reduceLE, ↓WD, W0, evalOp, Nat.reduceEqDiff, Nat.reduceLT, ↓reduceIte, reduceCtorEq, hl, e1, e3, e4, fa_62_1, ol16, og18, fa_62_2, ol22, og24, fa_62_3, ol28, og30, fa_62_0, ol34, ol35, ol36, d20, d26, d32]
            refine GuardW_boo (fun c37 => ?_) (fun c37 => ?_)
            · rw [if_pos c37] at qj42
              have d38 := c37
              have ol40 := S14.load (P := Try.prog) 0 rfl (t := 9) (off := 4) (v := .str e_.xComment) (by simp only [apart, ag_9, sz_9]; rfl)
              have ol41 := fun g : AH => alen_str (P := Try.prog) (h := g) (l := e_.xComment) Try.underlying9
              simp only [↓WE, WA, WL, aop, ofValue, ofCell, isConst, abin, acall1, abuiltin, aun, AV.cells, AV.one, Nat.reduceAdd, Int.reduceLT, Int.reduceLE, ↓WD, W0, evalOp, Nat.reduceEqDiff, Nat.reduceLT, ↓reduceIte, reduceCtorEq, hl, e1, e3, e4, fa_62_1, ol16, og18, fa_62_2, ol22, og24, fa_62_3, ol28, og30, fa_62_0, ol34, ol35, ol36, fa_62_4, ol40, ol41, d20, d26, d32, d38]
              obtain rfl := Option.some.inj qj42
              exact ⟨(by simp only [List.length_set, hl]), (by simp only [W0, Nat.reduceEqDiff, Nat.reduceLT, ↓reduceIte, hl, e1, e3, e4]), S14.pick [] (by decide) rfl⟩
            · rw [if_neg (nf c37)] at qj42
              have d39 := c37
              simp only [↓WE, WA, WL, aop, ofValue, ofCell, isConst, abin, acall1, abuiltin, aun, AV.cells, AV.one, Nat.reduceAdd, Int.reduceLT, Int.reduceLE, ↓WD, W0, evalOp, Nat.reduceEqDiff, Nat.reduceLT, ↓reduceIte, reduceCtorEq, hl, e1, e3, e4, fa_62_1, ol16, og18, fa_62_2, ol22, og24, fa_62_3, ol28, og30, fa_62_0, ol34, ol35, ol36, d20, d26, d32, d39]
              obtain rfl := Option.some.inj qj42
              exact ⟨(by simp only [List.length_set, hl]), (by simp only [W0, Nat.reduceEqDiff, Nat.reduceLT, ↓reduceIte, hl, e1, e3, e4]), S14.pick [] (by decide) rfl⟩
          · rw [if_neg (nf c31)] at qj42
            have d33 := c31
            simp only [↓WE, WA, WL, aop, ofValue, ofCell, isConst, abin, acall1, abuiltin, aun, AV.cells, AV.one, Nat.reduceAdd, Int.reduceLT, Int.reduceLE, ↓WD, W0, evalOp, Nat.reduceEqDiff, Nat.reduceLT, ↓reduceIte, reduceCtorEq, hl, e1, e3, e4, fa_62_1, ol16, og18, fa_62_2, ol22, og24, fa_62_3, ol28, og30, d20, d26, d33]
            obtain rfl := Option.some.inj qj42
            exact ⟨(by simp only [List.length_set, hl]), (by simp only [W0, Nat.reduceEqDiff, Nat.reduceLT, ↓reduceIte, hl, e1, e3, e4]), S14.pick [] (by decide) rfl⟩
        · rw [if_neg (nf c25)] at qj42
          have d27 := c25
          simp only [↓WE, WA, WL, aop, ofValue, ofCell, isConst, abin, acall1, abuiltin, aun, AV.cells, AV.one, Nat.reduceAdd, Int.reduceLT, Int.reduceLE, ↓WD, W0, evalOp, Nat.reduceEqDiff, Nat.reduceLT, ↓reduceIte, reduceCtorEq, hl, e1, e3, e4, fa_62_1, ol16, og18, fa_62_2, ol22, og24, d20, d27]
          obtain rfl := Option.some.inj qj42
          exact ⟨(by simp only [List.length_set, hl]), (by simp only [W0, Nat.reduceEqDiff, Nat.reduceLT, ↓reduceIte, hl, e1, e3, e4]), S14.pick [] (by decide) rfl⟩
      · rw [if_neg (nf c19)] at qj42
        have d21 := c19
        simp only [↓WE, WA, WL, aop, ofValue, ofCell, isConst, abin, acall1, abuiltin, aun, AV.cells, AV.one, Nat.reduceAdd, Int.reduceLT, Int.reduceLE, ↓WD, W0, evalOp, Nat.reduceEqDiff, Nat.reduceLT, ↓reduceIte, reduceCtorEq, hl, e1, e3, e4, fa_62_1, ol16, og18, d21]
        obtain rfl := Option.some.inj qj42
        exact ⟨(by simp only [List.length_set, hl]), (by simp only [W0, Nat.reduceEqDiff, Nat.reduceLT, ↓reduceIte, hl, e1, e3, e4]), S14.pick [] (by decide) rfl⟩
    · rintro envj42 h44 ⟨hl, e2, S43⟩
      try simp only [↓WD, W0, evalOp, Nat.reduceEqDiff, Nat.reduceLT, ↓reduceIte, reduceCtorEq, hl, e2]
      refine KP_ret (vs := [.bool j42]) (by simp only [aresults, aresult, gs, List.length_set, Nat.reduceEqDiff, Nat.reduceLT, ↓reduceIte, hl, e2]) ?_
      obtain rfl := Option.some.inj hF
      exact rfl
set_option maxRecDepth 100000 in
set_option maxHeartbeats 4000000 in
theorem W_field_put {K : PureK} (n45 : K 45 = none) (m : Nat) (hm : NF + 1 ≤ m) (h : AH) (v : Int) (n_ : Int) {r : (List UInt8)} (hF : F_field_put v n_ = some r) :
    AR (acall Try.prog (hooksOf K) (drawnOf Try.prog (tabOf K)) m 45 [.int .u64 v, .int .i64 n_] h) (fun v h' => v = .str r) := by
  obtain ⟨m, rfl⟩ : ∃ k, m = k + 1 := ⟨m - 1, by omega⟩
  refine AR_call (hooksOf_none n45) Try.func45 rfl _ _ fun env hl he => ?_
  have e0 := he 0
  have e1 := he 1
  simp only [List.getD_cons_zero, List.getD_cons_succ] at e0 e1
  simp only [Try.f45] at hl ⊢
  simp only [List.length_cons, List.length_nil, Nat.reduceAdd, Nat.reduceSub] at hl
  clear he
  have S0 : Sep h [] h [] := Sep.nil h
  rw [F_field_put] at hF
  try simp only [↓WD, W0, evalOp, Nat.reduceEqDiff, Nat.reduceLT, ↓reduceIte, reduceCtorEq, hl, e0, e1]
  rw [AW_region]
  refine AE_joinR (fun e h' => h = h' ∧ e.length = 25 ∧ e.getD 0 .undef = .int .u64 v ∧ e.getD 1 .undef = .int .i64 n_) (by
    simp only [↓WE, WA, WL, aop, ofValue, ofCell, isConst, abin, acall1, abuiltin, aun, AV.cells, AV.one, Nat.reduceAdd, Int.reduceLT, Int.reduceLE, ↓WD, W0, evalOp, Nat.reduceEqDiff, Nat.reduceLT, ↓reduceIte, reduceCtorEq, hl, e0, e1]
    exact ⟨rfl, (by simp only [List.length_set, hl]), (by simp only [W0, Nat.reduceEqDiff, Nat.reduceLT, ↓reduceIte, hl, e0, e1]), (by simp only [W0, Nat.reduceEqDiff, Nat.reduceLT, ↓reduceIte, hl, e0, e1])⟩) ?_
  rintro envg1 _ ⟨rfl, hl, e0, e1⟩
  try simp only [↓WD, W0, evalOp, Nat.reduceEqDiff, Nat.reduceLT, ↓reduceIte, reduceCtorEq, hl, e0, e1]
  rw [AW_region]
  obtain ⟨zs2, qzs2, hF⟩ := obind hF
  obtain ⟨u3, h4, om5, S6⟩ := Sep.make (P := Try.prog) sl_70 (f := (cellI .u8)) (by rw [zero_5]; rfl) S0 qzs2 .i64 .i64
  have S8 : Sep h [] h4 [.row u3 5 1 (zs2.map (cellI .u8))] := S6
  refine AE_joinR (fun e h' => h4 = h' ∧ e.length = 25 ∧ e.getD 0 .undef = .int .u64 v ∧ e.getD 5 .undef = u3) (by
    simp only [↓WE, WA, WL, aop, ofValue, ofCell, isConst, abin, acall1, abuiltin, aun, AV.cells, AV.one, Nat.reduceAdd, Int.reduceLT, Int.reduceLE, ↓WD, W0, evalOp, Nat.reduceEqDiff, Nat.reduceLT, ↓reduceIte, reduceCtorEq, hl, e0, e1, om5]
    exact ⟨rfl, (by simp only [List.length_set, hl]), (by simp only [W0, Nat.reduceEqDiff, Nat.reduceLT, ↓reduceIte, hl, e0, e1]), (by simp only [W0, Nat.reduceEqDiff, Nat.reduceLT, ↓reduceIte, hl, e0, e1])⟩) ?_
  rintro envg9 _ ⟨rfl, hl, e0, e5⟩
  try simp only [↓WD, W0, evalOp, Nat.reduceEqDiff, Nat.reduceLT, ↓reduceIte, reduceCtorEq, hl, e0, e5]
  rw [AW_region]
  have ol10 := RO.len (P := Try.prog) sl_70 (S8.row_ro (i := 0) rfl)
  rw [List.length_map] at ol10
  refine AE_joinR (fun e h' => h4 = h' ∧ e.length = 25 ∧ e.getD 0 .undef = .int .u64 v ∧ e.getD 5 .undef = u3 ∧ e.getD 10 .undef = .int .i64 (zs2.length : Int) ∧ e.getD 11 .undef = .int .i64 0) (by
    simp only [↓WE, WA, WL, aop, ofValue, ofCell, isConst, abin, acall1, abuiltin, aun, AV.cells, AV.one, Nat.reduceAdd, Int.reduceLT, Int.reduceLE, ↓WD, W0, evalOp, Nat.reduceEqDiff, Nat.reduceLT, ↓reduceIte, reduceCtorEq, hl, e0, e5, ol10]
    exact ⟨rfl, (by simp only [List.length_set, hl]), (by simp only [W0, Nat.reduceEqDiff, Nat.reduceLT, ↓reduceIte, hl, e0, e5]), (by simp only [W0, Nat.reduceEqDiff, Nat.reduceLT, ↓reduceIte, hl, e0, e5]), (by simp only [W0, Nat.reduceEqDiff, Nat.reduceLT, ↓reduceIte, hl, e0, e5]), (by simp only [W0, Nat.reduceEqDiff, Nat.reduceLT, ↓reduceIte, hl, e0, e5])⟩) ?_
  rintro envg11 _ ⟨rfl, hl, e0, e5, e10, e11⟩
  try simp only [↓WD, W0, evalOp, Nat.reduceEqDiff, Nat.reduceLT, ↓reduceIte, reduceCtorEq, hl, e0, e5, e10, e11]
  obtain ⟨r52, qr52, hF⟩ := obind hF
  refine AW_lift (L_field_put_1 zs2 v) (fun s e h' => e.length = 25 ∧ e.getD 0 .undef = .int .u64 v ∧ e.getD 5 .undef = u3 ∧ e.getD 10 .undef = .int .i64 (zs2.length : Int) ∧ e.getD 11 .undef = .int .i64 s.2 ∧ Sep h [] h' [.row u3 5 1 (s.1.map (cellI .u8))]) (fun r52 x e h' => x = .exit 0 ∧ e.length = 25 ∧ e.getD 5 .undef = u3 ∧ Sep h [] h' [.row u3 5 1 (r52.map (cellI .u8))]) qr52 (by omega) ?_ ?_ ?_
  · rintro s envr52 h32 or52 ⟨hl, e0, e5, e10, e11, S33⟩ wr52
    rw [L_field_put_1] at wr52
    try simp only [↓WD, W0, evalOp, Nat.reduceEqDiff, Nat.reduceLT, ↓reduceIte, reduceCtorEq, hl, e0, e5, e10, e11]
    rw [AW_region]
    refine AE_joinR (fun e h' => h32 = h' ∧ e.length = 25 ∧ e.getD 0 .undef = .int .u64 v ∧ e.getD 5 .undef = u3 ∧ e.getD 10 .undef = .int .i64 (zs2.length : Int) ∧ e.getD 11 .undef = .int .i64 s.2 ∧ e.getD 12 .undef = .bool (decide (s.2 < (zs2.length : Int)))) (by
      simp only [↓WE, WA, WL, aop, ofValue, ofCell, isConst, abin, acall1, abuiltin, aun, AV.cells, AV.one, Nat.reduceAdd, Int.reduceLT, Int.reduceLE, ↓WD, W0, evalOp, Nat.reduceEqDiff, Nat.reduceLT, ↓reduceIte, reduceCtorEq, hl, e0, e5, e10, e11]
      exact ⟨rfl, (by simp only [List.length_set, hl]), (by simp only [W0, Nat.reduceEqDiff, Nat.reduceLT, ↓reduceIte, hl, e0, e5, e10, e11]), (by simp only [W0, Nat.reduceEqDiff, Nat.reduceLT, ↓reduceIte, hl, e0, e5, e10, e11]), (by simp only [W0, Nat.reduceEqDiff, Nat.reduceLT, ↓reduceIte, hl, e0, e5, e10, e11]), (by simp only [W0, Nat.reduceEqDiff, Nat.reduceLT, ↓reduceIte, hl, e0, e5, e10, e11]), (by simp only [W0, Nat.reduceEqDiff, Nat.reduceLT, ↓reduceIte, hl, e0, e5, e10, e11])⟩) ?_
    rintro envg34 _ ⟨rfl, hl, e0, e5, e10, e11, e12⟩
    try simp only [↓WD, W0, evalOp, Nat.reduceEqDiff, Nat.reduceLT, ↓reduceIte, reduceCtorEq, hl, e0, e5, e10, e11, e12]
    refine CondK_dec (fun c36 => ?_) (fun c36 => ?_)
    · rw [if_pos c36] at wr52
      try simp only [↓WD, W0, evalOp, Nat.reduceEqDiff, Nat.reduceLT, ↓reduceIte, reduceCtorEq, hl, e0, e5, e10, e11, e12]
      rw [AW_region]
      refine AE_joinR (fun e h' => h32 = h' ∧ e.length = 25 ∧ e.getD 0 .undef = .int .u64 v ∧ e.getD 5 .undef = u3 ∧ e.getD 6 .undef = .int .i64 s.2 ∧ e.getD 10 .undef = .int .i64 (zs2.length : Int) ∧ e.getD 11 .undef = .int .i64 s.2) (by
        simp only [↓WE, WA, WL, aop, ofValue, ofCell, isConst, abin, acall1, abuiltin, aun, AV.cells, AV.one, Nat.reduceAdd, Int.reduceLT, Int.reduceLE, ↓WD, W0, evalOp, Nat.reduceEqDiff, Nat.reduceLT, ↓reduceIte, reduceCtorEq, hl, e0, e5, e10, e11, e12]
        exact ⟨rfl, (by simp only [List.length_set, hl]), (by simp only [W0, Nat.reduceEqDiff, Nat.reduceLT, ↓reduceIte, hl, e0, e5, e10, e11, e12]), (by simp only [W0, Nat.reduceEqDiff, Nat.reduceLT, ↓reduceIte, hl, e0, e5, e10, e11, e12]), (by simp only [W0, Nat.reduceEqDiff, Nat.reduceLT, ↓reduceIte, hl, e0, e5, e10, e11, e12]), (by simp only [W0, Nat.reduceEqDiff, Nat.reduceLT, ↓reduceIte, hl, e0, e5, e10, e11, e12]), (by simp only [W0, Nat.reduceEqDiff, Nat.reduceLT, ↓reduceIte, hl, e0, e5, e10, e11, e12])⟩) ?_
      rintro envg37 _ ⟨rfl, hl, e0, e5, e6, e10, e11⟩
      try simp only [↓WD, W0, evalOp, Nat.reduceEqDiff, Nat.reduceLT, ↓reduceIte, reduceCtorEq, hl, e0, e5, e6, e10, e11]
      rw [AW_region]
      obtain ⟨y38, qy38, wr52⟩ := obind wr52
      have oy38 := shr_int (k := .u64) qy38
      have oc39 := fun g : AH => aconv_int (P := Try.prog) (h := g) (n := y38) (k' := .u64) Try.underlying25 Try.underlying5
      obtain ⟨x40, qx40, wr52⟩ := obind wr52
      obtain ⟨i41, off42, oi43, hp44⟩ := RO.addr (P := Try.prog) sl_70 (S33.row_ro (i := 0) rfl) qx40
      obtain ⟨y48, qy48, wr52⟩ := obind wr52
      obtain ⟨h45, os46, S47⟩ := S33.rstore (P := Try.prog) 0 rfl hp44 (x := x40) (z := IntKind.u8.wrap y38) (by first | exact qx40 | (simp only [idxL] at *; assumption)) (t := 5) (o := 0) (v := .int .u8 (IntKind.u8.wrap y38)) rfl sz_5 rfl (by simp) rfl qy48
      simp only [Nat.add_zero] at os46
      have S49 : Sep h [] h45 [.row u3 5 1 (y48.map (cellI .u8))] := S47
      refine AE_joinR (fun e h' => h45 = h' ∧ e.length = 25 ∧ e.getD 0 .undef = .int .u64 v ∧ e.getD 5 .undef = u3 ∧ e.getD 10 .undef = .int .i64 (zs2.length : Int) ∧ e.getD 11 .undef = .int .i64 s.2) (by
        simp only [↓WE, WA, WL, aop, ofValue, ofCell, isConst, abin, acall1, abuiltin, aun, AV.cells, AV.one, Nat.reduceAdd, Int.reduceLT, Int.reduceLE, ↓WD, W0, evalOp, Nat.reduceEqDiff, Nat.reduceLT, ↓reduceIte, reduceCtorEq, hl, e0, e5, e6, e10, e11, oy38, oc39, oi43, os46]
        exact ⟨rfl, (by simp only [List.length_set, hl]), (by simp only [W0, Nat.reduceEqDiff, Nat.reduceLT, ↓reduceIte, hl, e0, e5, e6, e10, e11]), (by simp only [W0, Nat.reduceEqDiff, Nat.reduceLT, ↓reduceIte, hl, e0, e5, e6, e10, e11]), (by simp only [W0, Nat.reduceEqDiff, Nat.reduceLT, ↓reduceIte, hl, e0, e5, e6, e10, e11]), (by simp only [W0, Nat.reduceEqDiff, Nat.reduceLT, ↓reduceIte, hl, e0, e5, e6, e10, e11])⟩) ?_
      rintro envg50 _ ⟨rfl, hl, e0, e5, e10, e11⟩
      try simp only [↓WD, W0, evalOp, Nat.reduceEqDiff, Nat.reduceLT, ↓reduceIte, reduceCtorEq, hl, e0, e5, e10, e11]
      rw [AW_region]
      refine AE_joinR (fun e h' => h45 = h' ∧ e.length = 25 ∧ e.getD 0 .undef = .int .u64 v ∧ e.getD 5 .undef = u3 ∧ e.getD 10 .undef = .int .i64 (zs2.length : Int) ∧ e.getD 11 .undef = .int .i64 (IntKind.i64.wrap (s.2 + 1))) (by
        simp only [↓WE, WA, WL, aop, ofValue, ofCell, isConst, abin, acall1, abuiltin, aun, AV.cells, AV.one, Nat.reduceAdd, Int.reduceLT, Int.reduceLE, ↓WD, W0, evalOp, Nat.reduceEqDiff, Nat.reduceLT, ↓reduceIte, reduceCtorEq, hl, e0, e5, e10, e11]
        exact ⟨rfl, (by simp only [List.length_set, hl]), (by simp only [W0, Nat.reduceEqDiff, Nat.reduceLT, ↓reduceIte, hl, e0, e5, e10, e11]), (by simp only [W0, Nat.reduceEqDiff, Nat.reduceLT, ↓reduceIte, hl, e0, e5, e10, e11]), (by simp only [W0, Nat.reduceEqDiff, Nat.reduceLT, ↓reduceIte, hl, e0, e5, e10, e11]), (by simp only [W0, Nat.reduceEqDiff, Nat.reduceLT, ↓reduceIte, hl, e0, e5, e10, e11])⟩) ?_
      rintro envg51 _ ⟨rfl, hl, e0, e5, e10, e11⟩
      try simp only [↓WD, W0, evalOp, Nat.reduceEqDiff, Nat.reduceLT, ↓reduceIte, reduceCtorEq, hl, e0, e5, e10, e11]
      obtain rfl := Option.some.inj wr52
      rw [KP_nil, QL_normal]
      exact ⟨_, rfl, (by simp only [List.length_set, hl]), (by simp only [W0, Nat.reduceEqDiff, Nat.reduceLT, ↓reduceIte, hl, e0, e5, e10, e11]), (by simp only [W0, Nat.reduceEqDiff, Nat.reduceLT, ↓reduceIte, hl, e0, e5, e10, e11]), (by simp only [W0, Nat.reduceEqDiff, Nat.reduceLT, ↓reduceIte, hl, e0, e5, e10, e11]), (by simp only [W0, Nat.reduceEqDiff, Nat.reduceLT, ↓reduceIte, hl, e0, e5, e10, e11]), S49⟩
    · rw [if_neg c36] at wr52
      try simp only [↓WD, W0, evalOp, Nat.reduceEqDiff, Nat.reduceLT, ↓reduceIte, reduceCtorEq, hl, e0, e5, e10, e11, e12]
      obtain rfl := Option.some.inj wr52
      rw [KP_nil, QL_exit]
      exact ⟨_, rfl, rfl, (by simp only [List.length_set, hl]), (by simp only [W0, Nat.reduceEqDiff, Nat.reduceLT, ↓reduceIte, hl, e0, e5, e10, e11, e12]), S33⟩
  · exact ⟨(by simp only [List.length_set, hl]), (by simp only [W0, Nat.reduceEqDiff, Nat.reduceLT, ↓reduceIte, hl, e0, e5, e10, e11]), (by simp only [W0, Nat.reduceEqDiff, Nat.reduceLT, ↓reduceIte, hl, e0, e5, e10, e11]), (by simp only [W0, Nat.reduceEqDiff, Nat.reduceLT, ↓reduceIte, hl, e0, e5, e10, e11]), (by simp only [W0, Nat.reduceEqDiff, Nat.reduceLT, ↓reduceIte, hl, e0, e5, e10, e11]), S8⟩
  · rintro x envr52 h53 ⟨rfl, hl, e5, S54⟩
    try simp only [↓WD, W0, evalOp, Nat.reduceEqDiff, Nat.reduceLT, ↓reduceIte, reduceCtorEq, hl, e5]
    rw [AW_region]
    have oc55 := RO.str (P := Try.prog) Try.underlying70 Try.underlying5 Try.underlying9 (S54.row_ro (i := 0) rfl)
    refine AE_joinR (fun e h' => h53 = h' ∧ e.length = 25 ∧ e.getD 4 .undef = .str (r52.map byt)) (by
      simp only [↓WE, WA, WL, aop, ofValue, ofCell, isConst, abin, acall1, abuiltin, aun, AV.cells, AV.one, Nat.reduceAdd, Int.reduceLT, Int.reduceLE, ↓WD, W0, evalOp, Nat.reduceEqDiff, Nat.reduceLT, ↓reduceIte, reduceCtorEq, hl, e5, oc55]
      exact ⟨rfl, (by simp only [List.length_set, hl]), (by simp only [W0, Nat.reduceEqDiff, Nat.reduceLT, ↓reduceIte, hl, e5])⟩) ?_
    rintro envg56 _ ⟨rfl, hl, e4⟩
    try simp only [↓WD, W0, evalOp, Nat.reduceEqDiff, Nat.reduceLT, ↓reduceIte, reduceCtorEq, hl, e4]
    refine KP_ret (vs := [.str (r52.map byt)]) (by simp only [aresults, aresult, gs, List.length_set, Nat.reduceEqDiff, Nat.reduceLT, ↓reduceIte, hl, e4]) ?_
    obtain rfl := Option.some.inj hF
    exact rfl
set_option maxRecDepth 100000 in
set_option maxHeartbeats 4000000 in
theorem W_field_P32 {K : PureK} (k45 : K 45 = some kf_45) (n14 : K 14 = none) (m : Nat) (hm : NF + 1 ≤ m) (h : AH) (n_ : Int) {r : (List UInt8)} (hF : F_field_P32 n_ = some r) :
    AR (acall Try.prog (hooksOf K) (drawnOf Try.prog (tabOf K)) m 14 [.int .i64 n_] h) (fun v h' => v = .str r) := by
  obtain ⟨m, rfl⟩ : ∃ k, m = k + 1 := ⟨m - 1, by omega⟩
  refine AR_call (hooksOf_none n14) Try.func14 rfl _ _ fun env hl he => ?_
  have e0 := he 0
  simp only [List.getD_cons_zero, List.getD_cons_succ] at e0
  simp only [Try.f14] at hl ⊢
  simp only [List.length_cons, List.length_nil, Nat.reduceAdd, Nat.reduceSub] at hl
  clear he
  have S0 : Sep h [] h [] := Sep.nil h
  rw [F_field_P32] at hF
  try simp only [↓WD, W0, evalOp, Nat.reduceEqDiff, Nat.reduceLT, ↓reduceIte, reduceCtorEq, hl, e0]
  rw [AW_region]
  refine AE_joinR (fun e h' => h = h' ∧ e.length = 6 ∧ e.getD 0 .undef = .int .i64 n_) (by
    simp only [↓WE, WA, WL, aop, ofValue, ofCell, isConst, abin, acall1, abuiltin, aun, AV.cells, AV.one, Nat.reduceAdd, Int.reduceLT, Int.reduceLE, ↓WD, W0, evalOp, Nat.reduceEqDiff, Nat.reduceLT, ↓reduceIte, reduceCtorEq, hl, e0]
    exact ⟨rfl, (by simp only [List.length_set, hl]), (by simp only [W0, Nat.reduceEqDiff, Nat.reduceLT, ↓reduceIte, hl, e0])⟩) ?_
  rintro envg1 _ ⟨rfl, hl, e0⟩
  try simp only [↓WD, W0, evalOp, Nat.reduceEqDiff, Nat.reduceLT, ↓reduceIte, reduceCtorEq, hl, e0]
  rw [AW_region]
  have oc2 := fun g : AH => aconv_int (P := Try.prog) (h := g) (n := n_) (k' := .i64) Try.underlying3 Try.underlying25
  obtain ⟨y3, qy3, hF⟩ := obind hF
  have og4 := fun (D : Drawn) (n : Nat) (g : AH) => call_hook (P := Try.prog) (D := D) k45 n (args := [.int .u64 (IntKind.u64.wrap n_), .int .i64 4]) (v := .str y3) ((kf_45_eq (IntKind.u64.wrap n_) 4).trans (by rw [qy3]; rfl)) g
  refine AE_joinR (fun e h' => h = h' ∧ e.length = 6 ∧ e.getD 2 .undef = .str y3) (by
    simp only [↓WE, WA, WL, aop, ofValue, ofCell, isConst, abin, acall1, abuiltin, aun, AV.cells, AV.one, Nat.reduceAdd, Int.reduceLT, Int.reduceLE, ↓WD, W0, evalOp, Nat.reduceEqDiff, Nat.reduceLT, ↓reduceIte, reduceCtorEq, hl, e0, oc2, og4]
    exact ⟨rfl, (by simp only [List.length_set, hl]), (by simp only [W0, Nat.reduceEqDiff, Nat.reduceLT, ↓reduceIte, hl, e0])⟩) ?_
  rintro envg5 _ ⟨rfl, hl, e2⟩
  try simp only [↓WD, W0, evalOp, Nat.reduceEqDiff, Nat.reduceLT, ↓reduceIte, reduceCtorEq, hl, e2]
  refine KP_ret (vs := [.str y3]) (by simp only [aresults, aresult, gs, List.length_set, Nat.reduceEqDiff, Nat.reduceLT, ↓reduceIte, hl, e2]) ?_
  obtain rfl := Option.some.inj hF
  exact rfl
set_option maxRecDepth 100000 in
set_option maxHeartbeats 4000000 in
theorem W_field_P64 {K : PureK} (k45 : K 45 = some kf_45) (n15 : K 15 = none) (m : Nat) (hm : NF + 1 ≤ m) (h : AH) (n_ : Int) {r : (List UInt8)} (hF : F_field_P64 n_ = some r) :
    AR (acall Try.prog (hooksOf K) (drawnOf Try.prog (tabOf K)) m 15 [.int .u64 n_] h) (fun v h' => v = .str r) := by
  obtain ⟨m, rfl⟩ : ∃ k, m = k + 1 := ⟨m - 1, by omega⟩
  refine AR_call (hooksOf_none n15) Try.func15 rfl _ _ fun env hl he => ?_
  have e0 := he 0
  simp only [List.getD_cons_zero, List.getD_cons_succ] at e0
  simp only [Try.f15] at hl ⊢
  simp only [List.length_cons, List.length_nil, Nat.reduceAdd, Nat.reduceSub] at hl
  clear he
  have S0 : Sep h [] h [] := Sep.nil h
  rw [F_field_P64] at hF
  try simp only [↓WD, W0, evalOp, Nat.reduceEqDiff, Nat.reduceLT, ↓reduceIte, reduceCtorEq, hl, e0]
  rw [AW_region]
  refine AE_joinR (fun e h' => h = h' ∧ e.length = 5 ∧ e.getD 0 .undef = .int .u64 n_) (by
    simp only [↓WE, WA, WL, aop, ofValue, ofCell, isConst, abin, acall1, abuiltin, aun, AV.cells, AV.one, Nat.reduceAdd, Int.reduceLT, Int.reduceLE, ↓WD, W0, evalOp, Nat.reduceEqDiff, Nat.reduceLT, ↓reduceIte, reduceCtorEq, hl, e0]
    exact ⟨rfl, (by simp only [List.length_set, hl]), (by simp only [W0, Nat.reduceEqDiff, Nat.reduceLT, ↓reduceIte, hl, e0])⟩) ?_
  rintro envg1 _ ⟨rfl, hl, e0⟩
  try simp only [↓WD, W0, evalOp, Nat.reduceEqDiff, Nat.reduceLT, ↓reduceIte, reduceCtorEq, hl, e0]
  rw [AW_region]
  obtain ⟨y2, qy2, hF⟩ := obind hF
  have og3 := fun (D : Drawn) (n : Nat) (g : AH) => call_hook (P := Try.prog) (D := D) k45 n (args := [.int .u64 n_, .int .i64 8]) (v := .str y2) ((kf_45_eq n_ 8).trans (by rw [qy2]; rfl)) g
  refine AE_joinR (fun e h' => h = h' ∧ e.length = 5 ∧ e.getD 2 .undef = .str y2) (by
    simp only [↓WE, WA, WL, aop, ofValue, ofCell, isConst, abin, acall1, abuiltin, aun, AV.cells, AV.one, Nat.reduceAdd, Int.reduceLT, Int.reduceLE, ↓WD, W0, evalOp, Nat.reduceEqDiff, Nat.reduceLT, ↓reduceIte, reduceCtorEq, hl, e0, og3]
    exact ⟨rfl, (by simp only [List.length_set, hl]), (by simp only [W0, Nat.reduceEqDiff, Nat.reduceLT, ↓reduceIte, hl, e0])⟩) ?_
  rintro envg4 _ ⟨rfl, hl, e2⟩
  try simp only [↓WD, W0, evalOp, Nat.reduceEqDiff, Nat.reduceLT, ↓reduceIte, reduceCtorEq, hl, e2]
  refine KP_ret (vs := [.str y2]) (by simp only [aresults, aresult, gs, List.length_set, Nat.reduceEqDiff, Nat.reduceLT, ↓reduceIte, hl, e2]) ?_
  obtain rfl := Option.some.inj hF
  exact rfl
set_option maxRecDepth 100000 in
set_option maxHeartbeats 4000000 in
theorem W_end_p64 {K : PureK} (k15 : K 15 = some kf_15) (n62 : K 62 = none) (m : Nat) (hm : NF + 1 ≤ m) (h : AH) (ul : AV) (l : List Int) (hul : RO 1 ul h (l.map (cellI .i64))) {r : (List UInt8)} (hF : F_end_p64 l = some r) :
    AR (acall Try.prog (hooksOf K) (drawnOf Try.prog (tabOf K)) m 62 [ul] h) (fun v h' => v = .str r ∧ Sep h [] h' []) := by
  obtain ⟨m, rfl⟩ : ∃ k, m = k + 1 := ⟨m - 1, by omega⟩
  refine AR_call (hooksOf_none n62) Try.func62 rfl _ _ fun env hl he => ?_
  have e0 := he 0
  simp only [List.getD_cons_zero, List.getD_cons_succ] at e0
  simp only [Try.f62] at hl ⊢
  simp only [List.length_cons, List.length_nil, Nat.reduceAdd, Nat.reduceSub] at hl
  clear he
  have S0 : Sep h [] h [] := Sep.nil h
  rw [F_end_p64] at hF
  try simp only [↓WD, W0, evalOp, Nat.reduceEqDiff, Nat.reduceLT, ↓reduceIte, reduceCtorEq, hl, e0]
  rw [AW_region]
  refine AE_joinR (fun e h' => h = h' ∧ e.length = 19 ∧ e.getD 0 .undef = ul) (by
    simp only [↓WE, WA, WL, aop, ofValue, ofCell, isConst, abin, acall1, abuiltin, aun, AV.cells, AV.one, Nat.reduceAdd, Int.reduceLT, Int.reduceLE, ↓WD, W0, evalOp, Nat.reduceEqDiff, Nat.reduceLT, ↓reduceIte, reduceCtorEq, hl, e0]
    exact ⟨rfl, (by simp only [List.length_set, hl]), (by simp only [W0, Nat.reduceEqDiff, Nat.reduceLT, ↓reduceIte, hl, e0])⟩) ?_
  rintro envg1 _ ⟨rfl, hl, e0⟩
  try simp only [↓WD, W0, evalOp, Nat.reduceEqDiff, Nat.reduceLT, ↓reduceIte, reduceCtorEq, hl, e0]
  rw [AW_region]
  refine AE_joinR (fun e h' => h = h' ∧ e.length = 19 ∧ e.getD 0 .undef = ul ∧ e.getD 3 .undef = .str []) (by
    simp only [↓WE, WA, WL, aop, ofValue, ofCell, isConst, abin, acall1, abuiltin, aun, AV.cells, AV.one, Nat.reduceAdd, Int.reduceLT, Int.reduceLE, ↓WD, W0, evalOp, Nat.reduceEqDiff, Nat.reduceLT, ↓reduceIte, reduceCtorEq, hl, e0]
    exact ⟨rfl, (by simp only [List.length_set, hl]), (by simp only [W0, Nat.reduceEqDiff, Nat.reduceLT, ↓reduceIte, hl, e0]), (by simp only [W0, Nat.reduceEqDiff, Nat.reduceLT, ↓reduceIte, hl, e0])⟩) ?_
  rintro envg2 _ ⟨rfl, hl, e0, e3⟩
  try simp only [↓WD, W0, evalOp, Nat.reduceEqDiff, Nat.reduceLT, ↓reduceIte, reduceCtorEq, hl, e0, e3]
  rw [AW_region]
  have ol3 := RO.len (P := Try.prog) sl_52 (S0.ro hul)
  rw [List.length_map] at ol3
  refine AE_joinR (fun e h' => h = h' ∧ e.length = 19 ∧ e.getD 3 .undef = .str [] ∧ e.getD 6 .undef = ul ∧ e.getD 7 .undef = .int .i64 (l.length : Int) ∧ e.getD 8 .undef = .int .i64 0) (by
    simp only [↓WE, WA, WL, aop, ofValue, ofCell, isConst, abin, acall1, abuiltin, aun, AV.cells, AV.one, Nat.reduceAdd, Int.reduceLT, Int.reduceLE, ↓WD, W0, evalOp, Nat.reduceEqDiff, Nat.reduceLT, ↓reduceIte, reduceCtorEq, hl, e0, e3, ol3]
    exact ⟨rfl, (by simp only [List.length_set, hl]), (by simp only [W0, Nat.reduceEqDiff, Nat.reduceLT, ↓reduceIte, hl, e0, e3]), (by simp only [W0, Nat.reduceEqDiff, Nat.reduceLT, ↓reduceIte, hl, e0, e3]), (by simp only [W0, Nat.reduceEqDiff, Nat.reduceLT, ↓reduceIte, hl, e0, e3]), (by simp only [W0, Nat.reduceEqDiff, Nat.reduceLT, ↓reduceIte, hl, e0, e3])⟩) ?_
  rintro envg4 _ ⟨rfl, hl, e3, e6, e7, e8⟩
  try simp only [↓WD, W0, evalOp, Nat.reduceEqDiff, Nat.reduceLT, ↓reduceIte, reduceCtorEq, hl, e3, e6, e7, e8]
  obtain ⟨r41, qr41, hF⟩ := obind hF
  refine AW_lift (L_end_p64_1 l) (fun s e h' => e.length = 19 ∧ e.getD 3 .undef = .str s.1 ∧ e.getD 6 .undef = ul ∧ e.getD 7 .undef = .int .i64 (l.length : Int) ∧ e.getD 8 .undef = .int .i64 s.2 ∧ Sep h [] h' []) (fun r41 x e h' => x = .exit 0 ∧ e.length = 19 ∧ e.getD 3 .undef = .str r41 ∧ Sep h [] h' []) qr41 (by omega) ?_ ?_ ?_
  · rintro s envr41 h23 or41 ⟨hl, e3, e6, e7, e8, S24⟩ wr41
    rw [L_end_p64_1] at wr41
    try simp only [↓WD, W0, evalOp, Nat.reduceEqDiff, Nat.reduceLT, ↓reduceIte, reduceCtorEq, hl, e3, e6, e7, e8]
    rw [AW_region]
    refine AE_joinR (fun e h' => h23 = h' ∧ e.length = 19 ∧ e.getD 3 .undef = .str s.1 ∧ e.getD 6 .undef = ul ∧ e.getD 7 .undef = .int .i64 (l.length : Int) ∧ e.getD 8 .undef = .int .i64 s.2 ∧ e.getD 9 .undef = .bool (decide (s.2 < (l.length : Int)))) (by
      simp only [↓WE, WA, WL, aop, ofValue, ofCell, isConst, abin, acall1, abuiltin, aun, AV.cells, AV.one, Nat.reduceAdd, Int.reduceLT, Int.reduceLE, ↓WD, W0, evalOp, Nat.reduceEqDiff, Nat.reduceLT, ↓reduceIte, reduceCtorEq, hl, e3, e6, e7, e8]
      exact ⟨rfl, (by simp only [List.length_set, hl]), (by simp only [W0, Nat.reduceEqDiff, Nat.reduceLT, ↓reduceIte, hl, e3, e6, e7, e8]), (by simp only [W0, Nat.reduceEqDiff, Nat.reduceLT, ↓reduceIte, hl, e3, e6, e7, e8]), (by simp only [W0, Nat.reduceEqDiff, Nat.reduceLT, ↓reduceIte, hl, e3, e6, e7, e8]), (by simp only [W0, Nat.reduceEqDiff, Nat.reduceLT, ↓reduceIte, hl, e3, e6, e7, e8]), (by simp only [W0, Nat.reduceEqDiff, Nat.reduceLT, ↓reduceIte, hl, e3, e6, e7, e8])⟩) ?_
    rintro envg25 _ ⟨rfl, hl, e3, e6, e7, e8, e9⟩
    try simp only [↓WD, W0, evalOp, Nat.reduceEqDiff, Nat.reduceLT, ↓reduceIte, reduceCtorEq, hl, e3, e6, e7, e8, e9]
    refine CondK_dec (fun c27 => ?_) (fun c27 => ?_)
    · rw [if_pos c27] at wr41
      try simp only [↓WD, W0, evalOp, Nat.reduceEqDiff, Nat.reduceLT, ↓reduceIte, reduceCtorEq, hl, e3, e6, e7, e8, e9]
      rw [AW_region]
      obtain ⟨x28, qx28, wr41⟩ := obind wr41
      obtain ⟨i29, off30, oi31, hp32⟩ := RO.addr (P := Try.prog) sl_52 (S24.ro hul) qx28
      have ol33 := RO.ld (P := Try.prog) (S24.ro hul) hp32 qx28 (t := 3) (o := 0) (v := .int .i64 x28) (by omega) (by simp only [apart, ag_3, sz_3]; rfl)
      simp only [Nat.add_zero] at ol33
      refine AE_joinR (fun e h' => h23 = h' ∧ e.length = 19 ∧ e.getD 3 .undef = .str s.1 ∧ e.getD 5 .undef = .int .i64 x28 ∧ e.getD 6 .undef = ul ∧ e.getD 7 .undef = .int .i64 (l.length : Int) ∧ e.getD 8 .undef = .int .i64 s.2) (by
        simp only [↓WE, WA, WL, aop, ofValue, ofCell, isConst, abin, acall1, abuiltin, aun, AV.cells, AV.one, Nat.reduceAdd, Int.reduceLT, Int.reduceLE, ↓WD, W0, evalOp, Nat.reduceEqDiff, Nat.reduceLT, ↓reduceIte, reduceCtorEq, hl, e3, e6, e7, e8, e9, oi31, ol33]
        exact ⟨rfl, (by simp only [List.length_set, hl]), (by simp only [W0, Nat.reduceEqDiff, Nat.reduceLT, ↓reduceIte, hl, e3, e6, e7, e8, e9]), (by simp only [W0, Nat.reduceEqDiff, Nat.reduceLT, ↓reduceIte, hl, e3, e6, e7, e8, e9]), (by simp only [W0, Nat.reduceEqDiff, Nat.reduceLT, ↓reduceIte, hl, e3, e6, e7, e8, e9]), (by simp only [W0, Nat.reduceEqDiff, Nat.reduceLT, ↓reduceIte, hl, e3, e6, e7, e8, e9]), (by simp only [W0, Nat.reduceEqDiff, Nat.reduceLT, ↓reduceIte, hl, e3, e6, e7, e8, e9])⟩) ?_
      rintro envg34 _ ⟨rfl, hl, e3, e5, e6, e7, e8⟩
      try simp only [↓WD, W0, evalOp, Nat.reduceEqDiff, Nat.reduceLT, ↓reduceIte, reduceCtorEq, hl, e3, e5, e6, e7, e8]
      rw [AW_region]
      have oc35 := fun g : AH => aconv_int (P := Try.prog) (h := g) (n := x28) (k' := .i64) Try.underlying3 Try.underlying25
      obtain ⟨y36, qy36, wr41⟩ := obind wr41
      have og37 := fun (D : Drawn) (n : Nat) (g : AH) => call_hook (P := Try.prog) (D := D) k15 n (args := [.int .u64 (IntKind.u64.wrap x28)]) (v := .str y36) ((kf_15_eq (IntKind.u64.wrap x28)).trans (by rw [qy36]; rfl)) g
      obtain ⟨s38, qs38, wr41⟩ := obind wr41
      have os38 := cat_str qs38
      refine AE_joinR (fun e h' => h23 = h' ∧ e.length = 19 ∧ e.getD 3 .undef = .str s38 ∧ e.getD 6 .undef = ul ∧ e.getD 7 .undef = .int .i64 (l.length : Int) ∧ e.getD 8 .undef = .int .i64 s.2) (by
        simp only [↓WE, WA, WL, aop, ofValue, ofCell, isConst, abin, acall1, abuiltin, aun, AV.cells, AV.one, Nat.reduceAdd, Int.reduceLT, Int.reduceLE, ↓WD, W0, evalOp, Nat.reduceEqDiff, Nat.reduceLT, ↓reduceIte, reduceCtorEq, hl, e3, e5, e6, e7, e8, oc35, og37, os38]
        exact ⟨rfl, (by simp only [List.length_set, hl]), (by simp only [W0, Nat.reduceEqDiff, Nat.reduceLT, ↓reduceIte, hl, e3, e5, e6, e7, e8]), (by simp only [W0, Nat.reduceEqDiff, Nat.reduceLT, ↓reduceIte, hl, e3, e5, e6, e7, e8]), (by simp only [W0, Nat.reduceEqDiff, Nat.reduceLT, ↓reduceIte, hl, e3, e5, e6, e7, e8]), (by simp only [W0, Nat.reduceEqDiff, Nat.reduceLT, ↓reduceIte, hl, e3, e5, e6, e7, e8])⟩) ?_
      rintro envg39 _ ⟨rfl, hl, e3, e6, e7, e8⟩
      try simp only [↓WD, W0, evalOp, Nat.reduceEqDiff, Nat.reduceLT, ↓reduceIte, reduceCtorEq, hl, e3, e6, e7, e8]
      rw [AW_region]
      refine AE_joinR (fun e h' => h23 = h' ∧ e.length = 19 ∧ e.getD 3 .undef = .str s38 ∧ e.getD 6 .undef = ul ∧ e.getD 7 .undef = .int .i64 (l.length : Int) ∧ e.getD 8 .undef = .int .i64 (IntKind.i64.wrap (s.2 + 1))) (by
        simp only [↓WE, WA, WL, aop, ofValue, ofCell, isConst, abin, acall1, abuiltin, aun, AV.cells, AV.one, Nat.reduceAdd, Int.reduceLT, Int.reduceLE, ↓WD, W0, evalOp, Nat.reduceEqDiff, Nat.reduceLT, ↓reduceIte, reduceCtorEq, hl, e3, e6, e7, e8]
        exact ⟨rfl, (by simp only [List.length_set, hl]), (by simp only [W0, Nat.reduceEqDiff, Nat.reduceLT, ↓reduceIte, hl, e3, e6, e7, e8]), (by simp only [W0, Nat.reduceEqDiff, Nat.reduceLT, ↓reduceIte, hl, e3, e6, e7, e8]), (by simp only [W0, Nat.reduceEqDiff, Nat.reduceLT, ↓reduceIte, hl, e3, e6, e7, e8]), (by simp only [W0, Nat.reduceEqDiff, Nat.reduceLT, ↓reduceIte, hl, e3, e6, e7, e8])⟩) ?_
      rintro envg40 _ ⟨rfl, hl, e3, e6, e7, e8⟩
      try simp only [↓WD, W0, evalOp, Nat.reduceEqDiff, Nat.reduceLT, ↓reduceIte, reduceCtorEq, hl, e3, e6, e7, e8]
      obtain rfl := Option.some.inj wr41
      rw [KP_nil, QL_normal]
      exact ⟨_, rfl, (by simp only [List.length_set, hl]), (by simp only [W0, Nat.reduceEqDiff, Nat.reduceLT, ↓reduceIte, hl, e3, e6, e7, e8]), (by simp only [W0, Nat.reduceEqDiff, Nat.reduceLT, ↓reduceIte, hl, e3, e6, e7, e8]), (by simp only [W0, Nat.reduceEqDiff, Nat.reduceLT, ↓reduceIte, hl, e3, e6, e7, e8]), (by simp only [W0, Nat.reduceEqDiff, Nat.reduceLT, ↓reduceIte, hl, e3, e6, e7, e8]), S24⟩
    · rw [if_neg c27] at wr41
      try simp only [↓WD, W0, evalOp, Nat.reduceEqDiff, Nat.reduceLT, ↓reduceIte, reduceCtorEq, hl, e3, e6, e7, e8, e9]
      obtain rfl := Option.some.inj wr41
      rw [KP_nil, QL_exit]
      exact ⟨_, rfl, rfl, (by simp only [List.length_set, hl]), (by simp only [W0, Nat.reduceEqDiff, Nat.reduceLT, ↓reduceIte, hl, e3, e6, e7, e8, e9]), S24⟩
  · exact ⟨(by simp only [List.length_set, hl]), (by simp only [W0, Nat.reduceEqDiff, Nat.reduceLT, ↓reduceIte, hl, e3, e6, e7, e8]), (by simp only [W0, Nat.reduceEqDiff, Nat.reduceLT, ↓reduceIte, hl, e3, e6, e7, e8]), (by simp only [W0, Nat.reduceEqDiff, Nat.reduceLT, ↓reduceIte, hl, e3, e6, e7, e8]), (by simp only [W0, Nat.reduceEqDiff, Nat.reduceLT, ↓reduceIte, hl, e3, e6, e7, e8]), S0⟩
  · rintro x envr41 h42 ⟨rfl, hl, e3, S43⟩
    try simp only [↓WD, W0, evalOp, Nat.reduceEqDiff, Nat.reduceLT, ↓reduceIte, reduceCtorEq, hl, e3]
    rw [AW_region]
    refine AE_joinR (fun e h' => h42 = h' ∧ e.length = 19 ∧ e.getD 2 .undef = .str r41) (by
      simp only [↓WE, WA, WL, aop, ofValue, ofCell, isConst, abin, acall1, abuiltin, aun, AV.cells, AV.one, Nat.reduceAdd, Int.reduceLT, Int.reduceLE, ↓WD, W0, evalOp, Nat.reduceEqDiff, Nat.reduceLT, ↓reduceIte, reduceCtorEq, hl, e3]
      exact ⟨rfl, (by simp only [List.length_set, hl]), (by simp only [W0, Nat.reduceEqDiff, Nat.reduceLT, ↓reduceIte, hl, e3])⟩) ?_
    rintro envg44 _ ⟨rfl, hl, e2⟩
    try simp only [↓WD, W0, evalOp, Nat.reduceEqDiff, Nat.reduceLT, ↓reduceIte, reduceCtorEq, hl, e2]
    refine KP_ret (vs := [.str r41]) (by simp only [aresults, aresult, gs, List.length_set, Nat.reduceEqDiff, Nat.reduceLT, ↓reduceIte, hl, e2]) ?_
    obtain rfl := Option.some.inj hF
    exact ⟨rfl, S43⟩
set_option maxRecDepth 100000 in
set_option maxHeartbeats 4000000 in
theorem W_field_P16 {K : PureK} (k45 : K 45 = some kf_45) (n13 : K 13 = none) (m : Nat) (hm : NF + 1 ≤ m) (h : AH) (n_ : Int) {r : (List UInt8)} (hF : F_field_P16 n_ = some r) :
    AR (acall Try.prog (hooksOf K) (drawnOf Try.prog (tabOf K)) m 13 [.int .i64 n_] h) (fun v h' => v = .str r) := by
  obtain ⟨m, rfl⟩ : ∃ k, m = k + 1 := ⟨m - 1, by omega⟩
  refine AR_call (hooksOf_none n13) Try.func13 rfl _ _ fun env hl he => ?_
  have e0 := he 0
  simp only [List.getD_cons_zero, List.getD_cons_succ] at e0
  simp only [Try.f13] at hl ⊢
  simp only [List.length_cons, List.length_nil, Nat.reduceAdd, Nat.reduceSub] at hl
  clear he
  have S0 : Sep h [] h [] := Sep.nil h
  rw [F_field_P16] at hF
  try simp only [↓WD, W0, evalOp, Nat.reduceEqDiff, Nat.reduceLT, ↓reduceIte, reduceCtorEq, hl, e0]
  rw [AW_region]
  refine AE_joinR (fun e h' => h = h' ∧ e.length = 6 ∧ e.getD 0 .undef = .int .i64 n_) (by
    simp only [↓WE, WA, WL, aop, ofValue, ofCell, isConst, abin, acall1, abuiltin, aun, AV.cells, AV.one, Nat.reduceAdd, Int.reduceLT, Int.reduceLE, ↓WD, W0, evalOp, Nat.reduceEqDiff, Nat.reduceLT, ↓reduceIte, reduceCtorEq, hl, e0]
    exact ⟨rfl, (by simp only [List.length_set, hl]), (by simp only [W0, Nat.reduceEqDiff, Nat.reduceLT, ↓reduceIte, hl, e0])⟩) ?_
  rintro envg1 _ ⟨rfl, hl, e0⟩
  try simp only [↓WD, W0, evalOp, Nat.reduceEqDiff, Nat.reduceLT, ↓reduceIte, reduceCtorEq, hl, e0]
  rw [AW_region]
  have oc2 := fun g : AH => aconv_int (P := Try.prog) (h := g) (n := n_) (k' := .i64) Try.underlying3 Try.underlying25
  obtain ⟨y3, qy3, hF⟩ := obind hF
  have og4 := fun (D : Drawn) (n : Nat) (g : AH) => call_hook (P := Try.prog) (D := D) k45 n (args := [.int .u64 (IntKind.u64.wrap n_), .int .i64 2]) (v := .str y3) ((kf_45_eq (IntKind.u64.wrap n_) 2).trans (by rw [qy3]; rfl)) g
  refine AE_joinR (fun e h' => h = h' ∧ e.length = 6 ∧ e.getD 2 .undef = .str y3) (by
    simp only [↓WE, WA, WL, aop, ofValue, ofCell, isConst, abin, acall1, abuiltin, aun, AV.cells, AV.one, Nat.reduceAdd, Int.reduceLT, Int.reduceLE, ↓WD, W0, evalOp, Nat.reduceEqDiff, Nat.reduceLT, ↓reduceIte, reduceCtorEq, hl, e0, oc2, og4]
    exact ⟨rfl, (by simp only [List.length_set, hl]), (by simp only [W0, Nat.reduceEqDiff, Nat.reduceLT, ↓reduceIte, hl, e0])⟩) ?_
  rintro envg5 _ ⟨rfl, hl, e2⟩
  try simp only [↓WD, W0, evalOp, Nat.reduceEqDiff, Nat.reduceLT, ↓reduceIte, reduceCtorEq, hl, e2]
  refine KP_ret (vs := [.str y3]) (by simp only [aresults, aresult, gs, List.length_set, Nat.reduceEqDiff, Nat.reduceLT, ↓reduceIte, hl, e2]) ?_
  obtain rfl := Option.some.inj hF
  exact rfl
set_option maxRecDepth 100000 in
set_option maxHeartbeats 4000000 in
theorem W_end_Put {K : PureK} (k13 : K 13 = some kf_13) (k14 : K 14 = some kf_14) (k15 : K 15 = some kf_15) (k61 : K 61 = some kf_61) (n62 : K 62 = none) (n35 : K 35 = none) (m : Nat) (hm : NF + 2 ≤ m) (h : AH) (e_ : Gapi_End) {r : (List UInt8) × Int} (hF : F_end_Put e_ = some r) :
    AR (acall Try.prog (hooksOf K) (drawnOf Try.prog (tabOf K)) m 35 [.agg [.int .i64 e_.xAt, .int .i64 e_.xCount, .int .i64 e_.xSize, .int .i64 e_.xOffset, .str e_.xComment, .bool e_.xWide]] h) (fun v h' => v = .tup [.str r.1, .int .i64 r.2]) := by
  obtain ⟨m, rfl⟩ : ∃ k, m = k + 1 := ⟨m - 1, by omega⟩
  refine AR_call (hooksOf_none n35) Try.func35 rfl _ _ fun env hl he => ?_
  have e0 := he 0
  simp only [List.getD_cons_zero, List.getD_cons_succ] at e0
  simp only [Try.f35] at hl ⊢
  simp only [List.length_cons, List.length_nil, Nat.reduceAdd, Nat.reduceSub] at hl
  clear he
  have S0 : Sep h [] h [] := Sep.nil h
  rw [F_end_Put] at hF
  try simp only [↓WD, W0, evalOp, Nat.reduceEqDiff, Nat.reduceLT, ↓reduceIte, reduceCtorEq, hl, e0]
  rw [AW_region]
  obtain ⟨i1, h2, oa3, S4⟩ := S0.alloc 62 [.int .i64 e_.xAt, .int .i64 e_.xCount, .int .i64 e_.xSize, .int .i64 e_.xOffset, .str e_.xComment, .bool e_.xWide]
  have S6 : Sep h [] h2 [.blk i1 [.int .i64 e_.xAt, .int .i64 e_.xCount, .int .i64 e_.xSize, .int .i64 e_.xOffset, .str e_.xComment, .bool e_.xWide] 62] := S4
  refine AE_joinR (fun e h' => h2 = h' ∧ e.length = 71 ∧ e.getD 1 .undef = .ptr i1 0) (by
    simp only [↓WE, WA, WL, aop, ofValue, ofCell, isConst, abin, acall1, abuiltin, aun, AV.cells, AV.one, Nat.reduceAdd, Int.reduceLT, Int.reduceLE, ↓WD, W0, evalOp, Nat.reduceEqDiff, Nat.reduceLT, ↓reduceIte, reduceCtorEq, hl, e0, oa3]
    exact ⟨rfl, (by simp only [List.length_set, hl]), (by simp only [W0, Nat.reduceEqDiff, Nat.reduceLT, ↓reduceIte, hl, e0])⟩) ?_
  rintro envg7 _ ⟨rfl, hl, e1⟩
  try simp only [↓WD, W0, evalOp, Nat.reduceEqDiff, Nat.reduceLT, ↓reduceIte, reduceCtorEq, hl, e1]
  rw [AW_region]
  have ol8 := S6.load (P := Try.prog) 0 rfl (t := 62) (off := 0) (v := .agg [.int .i64 e_.xAt, .int .i64 e_.xCount, .int .i64 e_.xSize, .int .i64 e_.xOffset, .str e_.xComment, .bool e_.xWide]) (by simp only [apart, ag_62, sz_62]; rfl)
  obtain ⟨y9, qy9, hF⟩ := obind hF
  have og10 := fun (D : Drawn) (n : Nat) (g : AH) => call_hook (P := Try.prog) (D := D) k61 n (args := [.agg [.int .i64 e_.xAt, .int .i64 e_.xCount, .int .i64 e_.xSize, .int .i64 e_.xOffset, .str e_.xComment, .bool e_.xWide]]) (v := .bool y9) ((kf_61_eq e_).trans (by rw [qy9]; rfl)) g
  refine AE_joinR (fun e h' => h2 = h' ∧ e.length = 71 ∧ e.getD 1 .undef = .ptr i1 0 ∧ e.getD 10 .undef = .bool !y9) (by
    simp only [↓WE, WA, WL, aop, ofValue, ofCell, isConst, abin, acall1, abuiltin, aun, AV.cells, AV.one, Nat.reduceAdd, Int.reduceLT, Int.reduceLE, ↓WD, W0, evalOp, Nat.reduceEqDiff, Nat.reduceLT, ↓reduceIte, reduceCtorEq, hl, e1, ol8, og10]
    exact ⟨rfl, (by simp only [List.length_set, hl]), (by simp only [W0, Nat.reduceEqDiff, Nat.reduceLT, ↓reduceIte, hl, e1]), (by simp only [W0, Nat.reduceEqDiff, Nat.reduceLT, ↓reduceIte, hl, e1])⟩) ?_
  rintro envg11 _ ⟨rfl, hl, e1, e10⟩
  try simp only [↓WD, W0, evalOp, Nat.reduceEqDiff, Nat.reduceLT, ↓reduceIte, reduceCtorEq, hl, e1, e10]
  refine CondK_boo (fun c14 => ?_) (fun c14 => ?_)
  · rw [if_pos c14] at hF
    try simp only [↓WD, W0, evalOp, Nat.reduceEqDiff, Nat.reduceLT, ↓reduceIte, reduceCtorEq, hl, e1, e10]
    rw [AW_region]
    refine AE_joinR (fun e h' => h2 = h' ∧ e.length = 71 ∧ e.getD 2 .undef = .str [] ∧ e.getD 3 .undef = .int .i64 1) (by
      simp only [↓WE, WA, WL, aop, ofValue, ofCell, isConst, abin, acall1, abuiltin, aun, AV.cells, AV.one, Nat.reduceAdd, Int.reduceLT, Int.reduceLE, ↓WD, W0, evalOp, Nat.reduceEqDiff, Nat.reduceLT, ↓reduceIte, reduceCtorEq, hl, e1, e10]
      exact ⟨rfl, (by simp only [List.length_set, hl]), (by simp only [W0, Nat.reduceEqDiff, Nat.reduceLT, ↓reduceIte, hl, e1, e10]), (by simp only [W0, Nat.reduceEqDiff, Nat.reduceLT, ↓reduceIte, hl, e1, e10])⟩) ?_
    rintro envg15 _ ⟨rfl, hl, e2, e3⟩
    try simp only [↓WD, W0, evalOp, Nat.reduceEqDiff, Nat.reduceLT, ↓reduceIte, reduceCtorEq, hl, e2, e3]
    refine KP_ret (vs := [.str [], .int .i64 1]) (by simp only [aresults, aresult, gs, List.length_set, Nat.reduceEqDiff, Nat.reduceLT, ↓reduceIte, hl, e2, e3]) ?_
    obtain rfl := Option.some.inj hF
    exact rfl
  · rw [if_neg (nf c14)] at hF
    try simp only [↓WD, W0, evalOp, Nat.reduceEqDiff, Nat.reduceLT, ↓reduceIte, reduceCtorEq, hl, e1, e10]
    rw [AW_drawn, AE_drawnK (Ksub.cons k13 (Ksub.cons k14 (Ksub.cons k15 (Ksub.cons k61 Ksub.nil)))) (by kernel_rfl)]
    have ol16 := S6.load (P := Try.prog) 0 rfl (t := 3) (off := 1) (v := .int .i64 e_.xCount) (by simp only [apart, ag_3, sz_3]; rfl)
    have ol17 := S6.load (P := Try.prog) 0 rfl (t := 3) (off := 2) (v := .int .i64 e_.xSize) (by simp only [apart, ag_3, sz_3]; rfl)
    have ol18 := S6.load (P := Try.prog) 0 rfl (t := 3) (off := 3) (v := .int .i64 e_.xOffset) (by simp only [apart, ag_3, sz_3]; rfl)
    refine AE_joinR (fun e h' => h2 = h' ∧ e.length = 71 ∧ e.getD 1 .undef = .ptr i1 0 ∧ e.getD 4 .undef = .str [] ∧ e.getD 5 .undef = .int .i64 e_.xCount ∧ e.getD 6 .undef = .int .i64 e_.xSize ∧ e.getD 7 .undef = .int .i64 e_.xOffset) (by
      simp only [↓WE, WA, WL, aop, ofValue, ofCell, isConst, abin, acall1, abuiltin, aun, AV.cells, AV.one, Nat.reduceAdd, Int.reduceLT, Int.reduceLE, ↓WD, W0, evalOp, Nat.reduceEqDiff, Nat.reduceLT, ↓reduceIte, reduceCtorEq, hl, e1, e10, fa_62_1, ol16, fa_62_2, ol17, fa_62_3, ol18]
      exact ⟨rfl, (by simp only [List.length_set, hl]), (by simp only [W0, Nat.reduceEqDiff, Nat.reduceLT, ↓reduceIte, hl, e1, e10]), (by simp only [W0, Nat.reduceEqDiff, Nat.reduceLT, ↓reduceIte, hl, e1, e10]), (by simp only [W0, Nat.reduceEqDiff, Nat.reduceLT, ↓reduceIte, hl, e1, e10]), (by simp only [W0, Nat.reduceEqDiff, Nat.reduceLT, ↓reduceIte, hl, e1, e10]), (by simp only [W0, Nat.reduceEqDiff, Nat.reduceLT, ↓reduceIte, hl, e1, e10])⟩) ?_
    rintro envg19 _ ⟨rfl, hl, e1, e4, e5, e6, e7⟩
    try simp only [↓WD, W0, evalOp, Nat.reduceEqDiff, Nat.reduceLT, ↓reduceIte, reduceCtorEq, hl, e1, e4, e5, e6, e7]
    rw [AW_region]
    have ol20 := S6.load (P := Try.prog) 0 rfl (t := 4) (off := 5) (v := .bool e_.xWide) (by simp only [apart, ag_4, sz_4]; rfl)
    refine AE_joinR (fun e h' => h2 = h' ∧ e.length = 71 ∧ e.getD 1 .undef = .ptr i1 0 ∧ e.getD 4 .undef = .str [] ∧ e.getD 5 .undef = .int .i64 e_.xCount ∧ e.getD 6 .undef = .int .i64 e_.xSize ∧ e.getD 7 .undef = .int .i64 e_.xOffset ∧ e.getD 18 .undef = .bool e_.xWide) (by
      simp only [↓WE, WA, WL, aop, ofValue, ofCell, isConst, abin, acall1, abuiltin, aun, AV.cells, AV.one, Nat.reduceAdd, Int.reduceLT, Int.reduceLE, ↓WD, W0, evalOp, Nat.reduceEqDiff, Nat.reduceLT, ↓reduceIte, reduceCtorEq, hl, e1, e4, e5, e6, e7, fa_62_5, ol20]
      exact ⟨rfl, (by simp only [List.length_set, hl]), (by simp only [W0, Nat.reduceEqDiff, Nat.reduceLT, ↓reduceIte, hl, e1, e4, e5, e6, e7]), (by simp only [W0, Nat.reduceEqDiff, Nat.reduceLT, ↓reduceIte, hl, e1, e4, e5, e6, e7]), (by simp only [W0, Nat.reduceEqDiff, Nat.reduceLT, ↓reduceIte, hl, e1, e4, e5, e6, e7]), (by simp only [W0, Nat.reduceEqDiff, Nat.reduceLT, ↓reduceIte, hl, e1, e4, e5, e6, e7]), (by simp only [W0, Nat.reduceEqDiff, Nat.reduceLT, ↓reduceIte, hl, e1, e4, e5, e6, e7]), (by simp only [W0, Nat.reduceEqDiff, Nat.reduceLT, ↓reduceIte, hl, e1, e4, e5, e6, e7])⟩) ?_
    rintro envg21 _ ⟨rfl, hl, e1, e4, e5, e6, e7, e18⟩
    try simp only [↓WD, W0, evalOp, Nat.reduceEqDiff, Nat.reduceLT, ↓reduceIte, reduceCtorEq, hl, e1, e4, e5, e6, e7, e18]
    obtain ⟨j83, qj83, hF⟩ := obind hF
    refine CondK_join (fun e h' => e.length = 71 ∧ e.getD 1 .undef = .ptr i1 0 ∧ e.getD 4 .undef = .str j83.1 ∧ e.getD 5 .undef = .int .i64 j83.2.1 ∧ e.getD 6 .undef = .int .i64 j83.2.2.1 ∧ e.getD 7 .undef = .int .i64 j83.2.2.2 ∧ Sep h [] h' [.blk i1 [.int .i64 e_.xAt, .int .i64 e_.xCount, .int .i64 e_.xSize, .int .i64 e_.xOffset, .str e_.xComment, .bool e_.xWide] 62]) ?_ ?_
    · refine CondK_boo (fun c22 => ?_) (fun c22 => ?_)
      · rw [if_pos c22] at qj83
        try simp only [↓WD, W0, evalOp, Nat.reduceEqDiff, Nat.reduceLT, ↓reduceIte, reduceCtorEq, hl, e1, e4, e5, e6, e7, e18]
        rw [AW_region]
        obtain ⟨y23, qy23, qj83⟩ := obind qj83
        have og24 := fun (D : Drawn) (n : Nat) (g : AH) => call_hook (P := Try.prog) (D := D) k14 n (args := [.int .i64 101075792]) (v := .str y23) ((kf_14_eq 101075792).trans (by rw [qy23]; rfl)) g
        obtain ⟨u25, h26, ob27, S28⟩ := Sep.build (P := Try.prog) sl_52 S6 [.int .i64 44] (([44] : List Int).map (cellI .i64)) rfl (by simp [cellI]) (by simp)
        have ob27 : abuildSlice Try.prog 52 1 [(0, .int .i64 44)] h2 = some (u25, h26) := ob27
        have S30 : Sep h [] h26 [.blk i1 [.int .i64 e_.xAt, .int .i64 e_.xCount, .int .i64 e_.xSize, .int .i64 e_.xOffset, .str e_.xComment, .bool e_.xWide] 62, .row u25 3 1 (([44] : List Int).map (cellI .i64))] := S28
        obtain ⟨y31, qy31, qj83⟩ := obind qj83
        obtain ⟨v35, h33, og32, rfl, S34⟩ := (W_end_p64 k15 n62 m (by omega) h26 u25 ([44] : List Int) (S30.row_ro (i := 1) rfl) qy31).out
        have S36 : Sep h [] h33 [.blk i1 [.int .i64 e_.xAt, .int .i64 e_.xCount, .int .i64 e_.xSize, .int .i64 e_.xOffset, .str e_.xComment, .bool e_.xWide] 62, .row u25 3 1 (([44] : List Int).map (cellI .i64))] := S30.call0 S34
        obtain ⟨s37, qs37, qj83⟩ := obind qj83
        have os37 := cat_str qs37
        obtain ⟨y38, qy38, qj83⟩ := obind qj83
        have og39 := fun (D : Drawn) (n : Nat) (g : AH) => call_hook (P := Try.prog) (D := D) k13 n (args := [.int .i64 45]) (v := .str y38) ((kf_13_eq 45).trans (by rw [qy38]; rfl)) g
        obtain ⟨s40, qs40, qj83⟩ := obind qj83
        have os40 := cat_str qs40
        have og42 := fun (D : Drawn) (n : Nat) (g : AH) => call_hook (P := Try.prog) (D := D) k13 n (args := [.int .i64 45]) (v := .str y38) ((kf_13_eq 45).trans (by rw [qy38]; rfl)) g
        obtain ⟨s43, qs43, qj83⟩ := obind qj83
        have os43 := cat_str qs43
        obtain ⟨u44, h45, ob46, S47⟩ := Sep.build (P := Try.prog) sl_52 S36 [.int .i64 0, .int .i64 e_.xCount, .int .i64 e_.xCount, .int .i64 e_.xSize, .int .i64 e_.xOffset] (([0, e_.xCount, e_.xCount, e_.xSize, e_.xOffset] : List Int).map (cellI .i64)) rfl (by simp [cellI]) (by simp)
        have ob46 : abuildSlice Try.prog 52 5 [(0, .int .i64 0), (1, .int .i64 e_.xCount), (2, .int .i64 e_.xCount), (3, .int .i64 e_.xSize), (4, .int .i64 e_.xOffset)] h33 = some (u44, h45) := ob46
        have S49 : Sep h [] h45 [.blk i1 [.int .i64 e_.xAt, .int .i64 e_.xCount, .int .i64 e_.xSize, .int .i64 e_.xOffset, .str e_.xComment, .bool e_.xWide] 62, .row u25 3 1 (([44] : List Int).map (cellI .i64)), .row u44 3 1 (([0, e_.xCount, e_.xCount, e_.xSize, e_.xOffset] : List Int).map (cellI .i64))] := S47
        obtain ⟨y50, qy50, qj83⟩ := obind qj83
        obtain ⟨v54, h52, og51, rfl, S53⟩ := (W_end_p64 k15 n62 m (by omega) h45 u44 ([0, e_.xCount, e_.xCount, e_.xSize, e_.xOffset] : List Int) (S49.row_ro (i := 2) rfl) qy50).out
        have S55 : Sep h [] h52 [.blk i1 [.int .i64 e_.xAt, .int .i64 e_.xCount, .int .i64 e_.xSize, .int .i64 e_.xOffset, .str e_.xComment, .bool e_.xWide] 62, .row u25 3 1 (([44] : List Int).map (cellI .i64)), .row u44 3 1 (([0, e_.xCount, e_.xCount, e_.xSize, e_.xOffset] : List Int).map (cellI .i64))] := S49.call0 S53
        obtain ⟨s56, qs56, qj83⟩ := obind qj83
        have os56 := cat_str qs56
        refine AE_joinR (fun e h' => h52 = h' ∧ e.length = 71 ∧ e.getD 1 .undef = .ptr i1 0 ∧ e.getD 4 .undef = .str s56) (by
          simp only [↓WE, WA, WL, aop, ofValue, ofCell, isConst, abin, acall1, abuiltin, aun, AV.cells, AV.one, Nat.reduceAdd, Int.reduceLT, Int.reduceLE, ↓WD, W0, evalOp, Nat.reduceEqDiff, Nat.reduceLT, ↓reduceIte, reduceCtorEq, hl, e1, e4, e5, e6, e7, e18, og24, ob27, og32, os37, og39, os40, og42, os43, ob46, og51, os56]
          exact ⟨rfl, (by simp only [List.length_set, hl]), (by simp only [W0, Nat.reduceEqDiff, Nat.reduceLT, ↓reduceIte, hl, e1, e4, e5, e6, e7, e18]), (by simp only [W0, Nat.reduceEqDiff, Nat.reduceLT, ↓reduceIte, hl, e1, e4, e5, e6, e7, e18])⟩) ?_
        rintro envg57 _ ⟨rfl, hl, e1, e4⟩
        try simp only [↓WD, W0, evalOp, Nat.reduceEqDiff, Nat.reduceLT, ↓reduceIte, reduceCtorEq, hl, e1, e4]
        rw [AW_drawn, AE_drawnK (Ksub.cons k13 (Ksub.cons k14 (Ksub.cons k15 (Ksub.cons k61 Ksub.nil)))) (by kernel_rfl)]
        obtain ⟨y58, qy58, qj83⟩ := obind qj83
        have og59 := fun (cf : CallF) (g : AH) => tab_hook (cf := cf) k14 (args := [.int .i64 117853008]) (v := .str y58) ((kf_14_eq 117853008).trans (by rw [qy58]; rfl)) g
        obtain ⟨y60, qy60, qj83⟩ := obind qj83
        have og61 := fun (cf : CallF) (g : AH) => tab_hook (cf := cf) k14 (args := [.int .i64 0]) (v := .str y60) ((kf_14_eq 0).trans (by rw [qy60]; rfl)) g
        obtain ⟨s62, qs62, qj83⟩ := obind qj83
        have os62 := cat_str qs62
        have ol63 := S55.load (P := Try.prog) 0 rfl (t := 3) (off := 0) (v := .int .i64 e_.xAt) (by simp only [apart, ag_3, sz_3]; rfl)
        obtain ⟨u64, h65, ob66, S67⟩ := Sep.build (P := Try.prog) sl_52 S55 [.int .i64 e_.xAt] (([e_.xAt] : List Int).map (cellI .i64)) rfl (by simp [cellI]) (by simp)
        have ob66 : abuildSlice Try.prog 52 1 [(0, .int .i64 e_.xAt)] h52 = some (u64, h65) := ob66
        have S69 : Sep h [] h65 [.blk i1 [.int .i64 e_.xAt, .int .i64 e_.xCount, .int .i64 e_.xSize, .int .i64 e_.xOffset, .str e_.xComment, .bool e_.xWide] 62, .row u25 3 1 (([44] : List Int).map (cellI .i64)), .row u44 3 1 (([0, e_.xCount, e_.xCount, e_.xSize, e_.xOffset] : List Int).map (cellI .i64)), .row u64 3 1 (([e_.xAt] : List Int).map (cellI .i64))] := S67
        obtain ⟨y70, qy70, qj83⟩ := obind qj83
        obtain ⟨v74, h72, og71, rfl, S73⟩ := (W_end_p64 k15 n62 m (by omega) h65 u64 ([e_.xAt] : List Int) (S69.row_ro (i := 3) rfl) qy70).out
        have S75 : Sep h [] h72 [.blk i1 [.int .i64 e_.xAt, .int .i64 e_.xCount, .int .i64 e_.xSize, .int .i64 e_.xOffset, .str e_.xComment, .bool e_.xWide] 62, .row u25 3 1 (([44] : List Int).map (cellI .i64)), .row u44 3 1 (([0, e_.xCount, e_.xCount, e_.xSize, e_.xOffset] : List Int).map (cellI .i64)), .row u64 3 1 (([e_.xAt] : List Int).map (cellI .i64))] := S69.call0 S73
        obtain ⟨s76, qs76, qj83⟩ := obind qj83
        have os76 := cat_str qs76
        obtain ⟨y77, qy77, qj83⟩ := obind qj83
        have og78 := fun (cf : CallF) (g : AH) => tab_hook (cf := cf) k14 (args := [.int .i64 1]) (v := .str y77) ((kf_14_eq 1).trans (by rw [qy77]; rfl)) g
        obtain ⟨s79, qs79, qj83⟩ := obind qj83
        have os79 := cat_str qs79
        obtain ⟨s80, qs80, qj83⟩ := obind qj83
        have os80 := cat_str qs80
        refine AE_joinR (fun e h' => h72 = h' ∧ e.length = 71 ∧ e.getD 1 .undef = .ptr i1 0 ∧ e.getD 4 .undef = .str s80) (by
          simp only [↓WE, WA, WL, aop, ofValue, ofCell, isConst, abin, acall1, abuiltin, aun, AV.cells, AV.one, Nat.reduceAdd, Int.reduceLT, Int.reduceLE, ↓WD, W0, evalOp, Nat.reduceEqDiff, Nat.reduceLT, ↓reduceIte, reduceCtorEq, hl, e1, e4, og59, og61, os62, fa_62_0, ol63, ob66, og71, tab_none n62, os76, og78, os79, os80]
          exact ⟨rfl, (by simp only [List.length_set, hl]), (by simp only [W0, Nat.reduceEqDiff, Nat.reduceLT, ↓reduceIte, hl, e1, e4]), (by simp only [W0, Nat.reduceEqDiff, Nat.reduceLT, ↓reduceIte, hl, e1, e4])⟩) ?_
        rintro envg81 _ ⟨rfl, hl, e1, e4⟩
        try simp only [↓WD, W0, evalOp, Nat.reduceEqDiff, Nat.reduceLT, ↓reduceIte, reduceCtorEq, hl, e1, e4]
        rw [AW_region]
        refine AE_joinR (fun e h' => h72 = h' ∧ e.length = 71 ∧ e.getD 1 .undef = .ptr i1 0 ∧ e.getD 4 .undef = .str s80 ∧ e.getD 5 .undef = .int .i64 65535 ∧ e.getD 6 .undef = .int .i64 4294967295 ∧ e.getD 7 .undef = .int .i64 4294967295) (by
          simp only [↓WE, WA, WL, aop, ofValue, ofCell, isConst, abin, acall1, abuiltin, aun, AV.cells, AV.one, Nat.reduceAdd, Int.reduceLT, Int.reduceLE, ↓WD, W0, evalOp, Nat.reduceEqDiff, Nat.reduceLT, ↓reduceIte, reduceCtorEq, hl, e1, e4]
          exact ⟨rfl, (by simp only [List.length_set, hl]), (by simp only [W0, Nat.reduceEqDiff, Nat.reduceLT, ↓reduceIte, hl, e1, e4]), (by simp only [W0, Nat.reduceEqDiff, Nat.reduceLT, ↓reduceIte, hl, e1, e4]), (by simp only [W0, Nat.reduceEqDiff, Nat.reduceLT, ↓reduceIte, hl, e1, e4]), (by simp only [W0, Nat.reduceEqDiff, Nat.reduceLT, ↓reduceIte, hl, e1, e4]), (by simp only [W0, Nat.reduceEqDiff, Nat.reduceLT, ↓reduceIte, hl, e1, e4])⟩) ?_
        rintro envg82 _ ⟨rfl, hl, e1, e4, e5, e6, e7⟩
        try simp only [↓WD, W0, evalOp, Nat.reduceEqDiff, Nat.reduceLT, ↓reduceIte, reduceCtorEq, hl, e1, e4, e5, e6, e7]
        rw [KP_nil, KJ_normal]
        obtain rfl := Option.some.inj qj83
        exact ⟨(by simp only [List.length_set, hl]), (by simp only [W0, Nat.reduceEqDiff, Nat.reduceLT, ↓reduceIte, hl, e1, e4, e5, e6, e7]), (by simp only [W0, Nat.reduceEqDiff, Nat.reduceLT, ↓reduceIte, hl, e1, e4, e5, e6, e7]), (by simp only [W0, Nat.reduceEqDiff, Nat.reduceLT, ↓reduceIte, hl, e1, e4, e5, e6, e7]), (by simp only [W0, Nat.reduceEqDiff, Nat.reduceLT, ↓reduceIte, hl, e1, e4, e5, e6, e7]), (by simp only [W0, Nat.reduceEqDiff, Nat.reduceLT, ↓reduceIte, hl, e1, e4, e5, e6, e7]), S75.pick [0] (by decide) rfl⟩
      · rw [if_neg (nf c22)] at qj83
        try simp only [↓WD, W0, evalOp, Nat.reduceEqDiff, Nat.reduceLT, ↓reduceIte, reduceCtorEq, hl, e1, e4, e5, e6, e7, e18]
        rw [KP_nil, KJ_normal]
        obtain rfl := Option.some.inj qj83
        exact ⟨(by simp only [List.length_set, hl]), (by simp only [W0, Nat.reduceEqDiff, Nat.reduceLT, ↓reduceIte, hl, e1, e4, e5, e6, e7, e18]), (by simp only [W0, Nat.reduceEqDiff, Nat.reduceLT, ↓reduceIte, hl, e1, e4, e5, e6, e7, e18]), (by simp only [W0, Nat.reduceEqDiff, Nat.reduceLT, ↓reduceIte, hl, e1, e4, e5, e6, e7, e18]), (by simp only [W0, Nat.reduceEqDiff, Nat.reduceLT, ↓reduceIte, hl, e1, e4, e5, e6, e7, e18]), (by simp only [W0, Nat.reduceEqDiff, Nat.reduceLT, ↓reduceIte, hl, e1, e4, e5, e6, e7, e18]), S6⟩
    · rintro envj83 h85 ⟨hl, e1, e4, e5, e6, e7, S84⟩
      try simp only [↓WD, W0, evalOp, Nat.reduceEqDiff, Nat.reduceLT, ↓reduceIte, reduceCtorEq, hl, e1, e4, e5, e6, e7]
      rw [AW_drawn, AE_drawnK (Ksub.cons k13 (Ksub.cons k14 (Ksub.cons k15 (Ksub.cons k61 Ksub.nil)))) (by kernel_rfl)]
      obtain ⟨y86, qy86, hF⟩ := obind hF
      have og87 := fun (cf : CallF) (g : AH) => tab_hook (cf := cf) k14 (args := [.int .i64 101010256]) (v := .str y86) ((kf_14_eq 101010256).trans (by rw [qy86]; rfl)) g
      obtain ⟨s88, qs88, hF⟩ := obind hF
      have os88 := cat_str qs88
      obtain ⟨y89, qy89, hF⟩ := obind hF
      have og90 := fun (cf : CallF) (g : AH) => tab_hook (cf := cf) k14 (args := [.int .i64 0]) (v := .str y89) ((kf_14_eq 0).trans (by rw [qy89]; rfl)) g
      obtain ⟨s91, qs91, hF⟩ := obind hF
      have os91 := cat_str qs91
      obtain ⟨y92, qy92, hF⟩ := obind hF
      have og93 := fun (cf : CallF) (g : AH) => tab_hook (cf := cf) k13 (args := [.int .i64 j83.2.1]) (v := .str y92) ((kf_13_eq j83.2.1).trans (by rw [qy92]; rfl)) g
      obtain ⟨s94, qs94, hF⟩ := obind hF
      have os94 := cat_str qs94
      have og96 := fun (cf : CallF) (g : AH) => tab_hook (cf := cf) k13 (args := [.int .i64 j83.2.1]) (v := .str y92) ((kf_13_eq j83.2.1).trans (by rw [qy92]; rfl)) g
      obtain ⟨s97, qs97, hF⟩ := obind hF
      have os97 := cat_str qs97
      obtain ⟨y98, qy98, hF⟩ := obind hF
      have og99 := fun (cf : CallF) (g : AH) => tab_hook (cf := cf) k14 (args := [.int .i64 j83.2.2.1]) (v := .str y98) ((kf_14_eq j83.2.2.1).trans (by rw [qy98]; rfl)) g
      obtain ⟨s100, qs100, hF⟩ := obind hF
      have os100 := cat_str qs100
      obtain ⟨y101, qy101, hF⟩ := obind hF
      have og102 := fun (cf : CallF) (g : AH) => tab_hook (cf := cf) k14 (args := [.int .i64 j83.2.2.2]) (v := .str y101) ((kf_14_eq j83.2.2.2).trans (by rw [qy101]; rfl)) g
      obtain ⟨s103, qs103, hF⟩ := obind hF
      have os103 := cat_str qs103
      have ol104 := S84.load (P := Try.prog) 0 rfl (t := 9) (off := 4) (v := .str e_.xComment) (by simp only [apart, ag_9, sz_9]; rfl)
      have ol105 := fun g : AH => alen_str (P := Try.prog) (h := g) (l := e_.xComment) Try.underlying9
      obtain ⟨y106, qy106, hF⟩ := obind hF
      have og107 := fun (cf : CallF) (g : AH) => tab_hook (cf := cf) k13 (args := [.int .i64 (e_.xComment.length : Int)]) (v := .str y106) ((kf_13_eq (e_.xComment.length : Int)).trans (by rw [qy106]; rfl)) g
      obtain ⟨s108, qs108, hF⟩ := obind hF
      have os108 := cat_str qs108
      have ol109 := S84.load (P := Try.prog) 0 rfl (t := 9) (off := 4) (v := .str e_.xComment) (by simp only [apart, ag_9, sz_9]; rfl)
      obtain ⟨s110, qs110, hF⟩ := obind hF
      have os110 := cat_str qs110
      refine AE_joinR (fun e h' => h85 = h' ∧ e.length = 71 ∧ e.getD 2 .undef = .str s110 ∧ e.getD 3 .undef = .int .i64 0) (by
        simp only [↓WE, WA, WL, aop, ofValue, ofCell, isConst, abin, acall1, abuiltin, aun, AV.cells, AV.one, Nat.reduceAdd, Int.reduceLT, Int.reduceLE, ↓WD, W0, evalOp, Nat.reduceEqDiff, Nat.reduceLT, ↓reduceIte, reduceCtorEq, hl, e1, e4, e5, e6, e7, og87, os88, og90, os91, og93, os94, og96, os97, og99, os100, og102, os103, fa_62_4, ol104, ol105, og107, os108, ol109, os110]
        exact ⟨rfl, (by simp only [List.length_set, hl]), (by simp only [W0, Nat.reduceEqDiff, Nat.reduceLT, ↓reduceIte, hl, e1, e4, e5, e6, e7]), (by simp only [W0, Nat.reduceEqDiff, Nat.reduceLT, ↓reduceIte, hl, e1, e4, e5, e6, e7])⟩) ?_
      rintro envg111 _ ⟨rfl, hl, e2, e3⟩
      try simp only [↓WD, W0, evalOp, Nat.reduceEqDiff, Nat.reduceLT, ↓reduceIte, reduceCtorEq, hl, e2, e3]
      refine KP_ret (vs := [.str s110, .int .i64 0]) (by simp only [aresults, aresult, gs, List.length_set, Nat.reduceEqDiff, Nat.reduceLT, ↓reduceIte, hl, e2, e3]) ?_
      obtain rfl := Option.some.inj hF
      exact rfl
set_option maxRecDepth 100000 in
set_option maxHeartbeats 4000000 in
theorem W_field_Cut {K : PureK} (n47 : K 47 = none) (m : Nat) (hm : NF + 1 ≤ m) (h : AH) (s_ : List UInt8) (at_ : Int) (n_ : Int) {r : (List UInt8) × Int} (hF : F_field_Cut s_ at_ n_ = some r) :
    AR (acall Try.prog (hooksOf K) (drawnOf Try.prog (tabOf K)) m 47 [.str s_, .int .i64 at_, .int .i64 n_] h) (fun v h' => v = .tup [.str r.1, .int .i64 r.2]) := by
  obtain ⟨m, rfl⟩ : ∃ k, m = k + 1 := ⟨m - 1, by omega⟩
  refine AR_call (hooksOf_none n47) Try.func47 rfl _ _ fun env hl he => ?_
  have e0 := he 0
  have e1 := he 1
  have e2 := he 2
  simp only [List.getD_cons_zero, List.getD_cons_succ] at e0 e1 e2
  simp only [Try.f47] at hl ⊢
  simp only [List.length_cons, List.length_nil, Nat.reduceAdd, Nat.reduceSub] at hl
  clear he
  have S0 : Sep h [] h [] := Sep.nil h
  rw [F_field_Cut] at hF
  try simp only [↓WD, W0, evalOp, Nat.reduceEqDiff, Nat.reduceLT, ↓reduceIte, reduceCtorEq, hl, e0, e1, e2]
  rw [AW_region]
  refine AE_joinR (fun e h' => h = h' ∧ e.length = 34 ∧ e.getD 0 .undef = .str s_ ∧ e.getD 1 .undef = .int .i64 at_ ∧ e.getD 2 .undef = .int .i64 n_) (by
    simp only [↓WE, WA, WL, aop, ofValue, ofCell, isConst, abin, acall1, abuiltin, aun, AV.cells, AV.one, Nat.reduceAdd, Int.reduceLT, Int.reduceLE, ↓WD, W0, evalOp, Nat.reduceEqDiff, Nat.reduceLT, ↓reduceIte, reduceCtorEq, hl, e0, e1, e2]
    exact ⟨rfl, (by simp only [List.length_set, hl]), (by simp only [W0, Nat.reduceEqDiff, Nat.reduceLT, ↓reduceIte, hl, e0, e1, e2]), (by simp only [W0, Nat.reduceEqDiff, Nat.reduceLT, ↓reduceIte, hl, e0, e1, e2]), (by simp only [W0, Nat.reduceEqDiff, Nat.reduceLT, ↓reduceIte, hl, e0, e1, e2])⟩) ?_
  rintro envg1 _ ⟨rfl, hl, e0, e1, e2⟩
  try simp only [↓WD, W0, evalOp, Nat.reduceEqDiff, Nat.reduceLT, ↓reduceIte, reduceCtorEq, hl, e0, e1, e2]
  rw [AW_region]
  obtain ⟨j13, qj13, hF⟩ := obind hF
  refine AE_joinR (fun e h' => e.length = 34 ∧ e.getD 0 .undef = .str s_ ∧ e.getD 1 .undef = .int .i64 at_ ∧ e.getD 2 .undef = .int .i64 n_ ∧ e.getD 27 .undef = .bool j13 ∧ Sep h [] h' []) ?_ ?_
  · simp only [↓WE, WA, WL, aop, ofValue, ofCell, isConst, abin, acall1, abuiltin, aun, AV.cells, AV.one, Nat.reduceAdd, Int.reduceLT, Int.reduceLE, ↓WD, W0, evalOp, Nat.reduceEqDiff, Nat.reduceLT, ↓reduceIte, reduceCtorEq, hl, e0, e1, e2]
    refine GuardW_dec (fun c2 => ?_) (fun c2 => ?_)
    · rw [if_pos c2] at qj13
      have d3 : (decide (at_ < 0)) = true := decide_eq_true c2
      simp only [↓WE, WA, WL, aop, ofValue, ofCell, isConst, abin, acall1, abuiltin, aun, AV.cells, AV.one, Nat.reduceAdd, Int.reduceLT, Int.reduceLE, ↓WD, W0, evalOp, Nat.reduceEqDiff, Nat.reduceLT, ↓reduceIte, reduceCtorEq, hl, e0, e1, e2, d3]
      obtain rfl := Option.some.inj qj13
      exact ⟨(by simp only [List.length_set, hl]), (by simp only [W0, Nat.reduceEqDiff, Nat.reduceLT, ↓reduceIte, hl, e0, e1, e2]), (by simp only [W0, Nat.reduceEqDiff, Nat.reduceLT, ↓reduceIte, hl, e0, e1, e2]), (by simp only [W0, Nat.reduceEqDiff, Nat.reduceLT, ↓reduceIte, hl, e0, e1, e2]), (by simp only [W0, Nat.reduceEqDiff, Nat.reduceLT, ↓reduceIte, hl, e0, e1, e2]), S0⟩
    · rw [if_neg c2] at qj13
      have d4 : (decide (at_ < 0)) = false := decide_eq_false c2
      simp only [↓WE, WA, WL, aop, ofValue, ofCell, isConst, abin, acall1, abuiltin, aun, AV.cells, AV.one, Nat.reduceAdd, Int.reduceLT, Int.reduceLE, ↓WD, W0, evalOp, Nat.reduceEqDiff, Nat.reduceLT, ↓reduceIte, reduceCtorEq, hl, e0, e1, e2, d4]
      refine GuardW_dec (fun c5 => ?_) (fun c5 => ?_)
      · rw [if_pos c5] at qj13
        have d6 : (decide (n_ < 0)) = true := decide_eq_true c5
        simp only [↓WE, WA, WL, aop, ofValue, ofCell, isConst, abin, acall1, abuiltin, aun, AV.cells, AV.one, Nat.reduceAdd, Int.reduceLT, Int.reduceLE, ↓WD, W0, evalOp, Nat.reduceEqDiff, Nat.reduceLT, ↓reduceIte, reduceCtorEq, hl, e0, e1, e2, d4, d6]
        obtain rfl := Option.some.inj qj13
        exact ⟨(by simp only [List.length_set, hl]), (by simp only [W0, Nat.reduceEqDiff, Nat.reduceLT, ↓reduceIte, hl, e0, e1, e2]), (by simp only [W0, Nat.reduceEqDiff, Nat.reduceLT, ↓reduceIte, hl, e0, e1, e2]), (by simp only [W0, Nat.reduceEqDiff, Nat.reduceLT, ↓reduceIte, hl, e0, e1, e2]), (by simp only [W0, Nat.reduceEqDiff, Nat.reduceLT, ↓reduceIte, hl, e0, e1, e2]), S0⟩
      · rw [if_neg c5] at qj13
        have d7 : (decide (n_ < 0)) = false := decide_eq_false c5
        have ol8 := fun g : AH => alen_str (P := Try.prog) (h := g) (l := s_) Try.underlying9
        simp only [↓WE, WA, WL, aop, ofValue, ofCell, isConst, abin, acall1, abuiltin, aun, AV.cells, AV.one, Nat.reduceAdd, Int.reduceLT, Int.reduceLE, ↓WD, W0, evalOp, Nat.reduceEqDiff, Nat.reduceLT, ↓reduceIte, reduceCtorEq, hl, e0, e1, e2, ol8, d4, d7]
        refine GuardW_dec (fun c9 => ?_) (fun c9 => ?_)
        · rw [if_pos c9] at qj13
          have d10 : (decide (at_ > (s_.length : Int))) = true := decide_eq_true c9
          simp only [↓WE, WA, WL, aop, ofValue, ofCell, isConst, abin, acall1, abuiltin, aun, AV.cells, AV.one, Nat.reduceAdd, Int.reduceLT, Int.reduceLE, ↓WD, W0, evalOp, Nat.reduceEqDiff, Nat.reduceLT, ↓reduceIte, reduceCtorEq, hl, e0, e1, e2, ol8, d4, d7, d10]
          obtain rfl := Option.some.inj qj13
          exact ⟨(by simp only [List.length_set, hl]), (by simp only [W0, Nat.reduceEqDiff, Nat.reduceLT, ↓reduceIte, hl, e0, e1, e2]), (by simp only [W0, Nat.reduceEqDiff, Nat.reduceLT, ↓reduceIte, hl, e0, e1, e2]), (by simp only [W0, Nat.reduceEqDiff, Nat.reduceLT, ↓reduceIte, hl, e0, e1, e2]), (by simp only [W0, Nat.reduceEqDiff, Nat.reduceLT, ↓reduceIte, hl, e0, e1, e2]), S0⟩
        · rw [if_neg c9] at qj13
          have d11 : (decide (at_ > (s_.length : Int))) = false := decide_eq_false c9
          have ol12 := fun g : AH => alen_str (P := Try.prog) (h := g) (l := s_) Try.underlying9
          simp only [↓WE, WA, WL, aop, ofValue, ofCell, isConst, abin, acall1, abuiltin, aun, AV.cells, AV.one, Nat.reduceAdd, Int.reduceLT, Int.reduceLE, ↓WD, W0, evalOp, Nat.reduceEqDiff, Nat.reduceLT, ↓reduceIte, reduceCtorEq, hl, e0, e1, e2, ol8, ol12, d4, d7, d11]
          obtain rfl := Option.some.inj qj13
          exact ⟨(by simp only [List.length_set, hl]), (by simp only [W0, Nat.reduceEqDiff, Nat.reduceLT, ↓reduceIte, hl, e0, e1, e2]), (by simp only [W0, Nat.reduceEqDiff, Nat.reduceLT, ↓reduceIte, hl, e0, e1, e2]), (by simp only [W0, Nat.reduceEqDiff, Nat.reduceLT, ↓reduceIte, hl, e0, e1, e2]), (by simp only [W0, Nat.reduceEqDiff, Nat.reduceLT, ↓reduceIte, hl, e0, e1, e2]), S0⟩
  · rintro envj13 h15 ⟨hl, e0, e1, e2, e27, S14⟩
    try simp only [↓WD, W0, evalOp, Nat.reduceEqDiff, Nat.reduceLT, ↓reduceIte, reduceCtorEq, hl, e0, e1, e2, e27]
    refine CondK_boo (fun c18 => ?_) (fun c18 => ?_)
    · rw [if_pos c18] at hF
      try simp only [↓WD, W0, evalOp, Nat.reduceEqDiff, Nat.reduceLT, ↓reduceIte, reduceCtorEq, hl, e0, e1, e2, e27]
      rw [AW_region]
      refine AE_joinR (fun e h' => h15 = h' ∧ e.length = 34 ∧ e.getD 6 .undef = .str [] ∧ e.getD 7 .undef = .int .i64 3) (by
        simp only [↓WE, WA, WL, aop, ofValue, ofCell, isConst, abin, acall1, abuiltin, aun, AV.cells, AV.one, Nat.reduceAdd, Int.reduceLT, Int.reduceLE, ↓WD, W0, evalOp, Nat.reduceEqDiff, Nat.reduceLT, ↓reduceIte, reduceCtorEq, hl, e0, e1, e2, e27]
        exact ⟨rfl, (by simp only [List.length_set, hl]), (by simp only [W0, Nat.reduceEqDiff, Nat.reduceLT, ↓reduceIte, hl, e0, e1, e2, e27]), (by simp only [W0, Nat.reduceEqDiff, Nat.reduceLT, ↓reduceIte, hl, e0, e1, e2, e27])⟩) ?_
      rintro envg19 _ ⟨rfl, hl, e6, e7⟩
      try simp only [↓WD, W0, evalOp, Nat.reduceEqDiff, Nat.reduceLT, ↓reduceIte, reduceCtorEq, hl, e6, e7]
      refine KP_ret (vs := [.str [], .int .i64 3]) (by simp only [aresults, aresult, gs, List.length_set, Nat.reduceEqDiff, Nat.reduceLT, ↓reduceIte, hl, e6, e7]) ?_
      obtain rfl := Option.some.inj hF
      exact rfl
    · rw [if_neg (nf c18)] at hF
      try simp only [↓WD, W0, evalOp, Nat.reduceEqDiff, Nat.reduceLT, ↓reduceIte, reduceCtorEq, hl, e0, e1, e2, e27]
      rw [AW_region]
      obtain ⟨s20, qs20, hF⟩ := obind hF
      have os20 := fun g : AH => sub_str (P := Try.prog) (h := g) (k := .i64) (k' := .i64) Try.underlying9 qs20
      refine AE_joinR (fun e h' => h15 = h' ∧ e.length = 34 ∧ e.getD 6 .undef = .str s20 ∧ e.getD 7 .undef = .int .i64 0) (by
        simp only [↓WE, WA, WL, aop, ofValue, ofCell, isConst, abin, acall1, abuiltin, aun, AV.cells, AV.one, Nat.reduceAdd, Int.reduceLT, Int.reduceLE, ↓WD, W0, evalOp, Nat.reduceEqDiff, Nat.reduceLT, ↓reduceIte, reduceCtorEq, hl, e0, e1, e2, e27, os20]
        exact ⟨rfl, (by simp only [List.length_set, hl]), (by simp only [W0, Nat.reduceEqDiff, Nat.reduceLT, ↓reduceIte, hl, e0, e1, e2, e27]), (by simp only [W0, Nat.reduceEqDiff, Nat.reduceLT, ↓reduceIte, hl, e0, e1, e2, e27])⟩) ?_
      rintro envg21 _ ⟨rfl, hl, e6, e7⟩
      try simp only [↓WD, W0, evalOp, Nat.reduceEqDiff, Nat.reduceLT, ↓reduceIte, reduceCtorEq, hl, e6, e7]
      refine KP_ret (vs := [.str s20, .int .i64 0]) (by simp only [aresults, aresult, gs, List.length_set, Nat.reduceEqDiff, Nat.reduceLT, ↓reduceIte, hl, e6, e7]) ?_
      obtain rfl := Option.some.inj hF
      exact rfl
set_option maxRecDepth 100000 in
set_option maxHeartbeats 4000000 in
theorem W_field_number {K : PureK} (k47 : K 47 = some kf_47) (n46 : K 46 = none) (m : Nat) (hm : NF + 1 ≤ m) (h : AH) (s_ : List UInt8) (at_ : Int) (n_ : Int) {r : Int × Int} (hF : F_field_number s_ at_ n_ = some r) :
    AR (acall Try.prog (hooksOf K) (drawnOf Try.prog (tabOf K)) m 46 [.str s_, .int .i64 at_, .int .i64 n_] h) (fun v h' => v = .tup [.int .u64 r.1, .int .i64 r.2]) := by
  obtain ⟨m, rfl⟩ : ∃ k, m = k + 1 := ⟨m - 1, by omega⟩
  refine AR_call (hooksOf_none n46) Try.func46 rfl _ _ fun env hl he => ?_
  have e0 := he 0
  have e1 := he 1
  have e2 := he 2
  simp only [List.getD_cons_zero, List.getD_cons_succ] at e0 e1 e2
  simp only [Try.f46] at hl ⊢
  simp only [List.length_cons, List.length_nil, Nat.reduceAdd, Nat.reduceSub] at hl
  clear he
  have S0 : Sep h [] h [] := Sep.nil h
  rw [F_field_number] at hF
  try simp only [↓WD, W0, evalOp, Nat.reduceEqDiff, Nat.reduceLT, ↓reduceIte, reduceCtorEq, hl, e0, e1, e2]
  rw [AW_region]
  refine AE_joinR (fun e h' => h = h' ∧ e.length = 36 ∧ e.getD 0 .undef = .str s_ ∧ e.getD 1 .undef = .int .i64 at_ ∧ e.getD 2 .undef = .int .i64 n_) (by
    simp only [↓WE, WA, WL, aop, ofValue, ofCell, isConst, abin, acall1, abuiltin, aun, AV.cells, AV.one, Nat.reduceAdd, Int.reduceLT, Int.reduceLE, ↓WD, W0, evalOp, Nat.reduceEqDiff, Nat.reduceLT, ↓reduceIte, reduceCtorEq, hl, e0, e1, e2]
    exact ⟨rfl, (by simp only [List.length_set, hl]), (by simp only [W0, Nat.reduceEqDiff, Nat.reduceLT, ↓reduceIte, hl, e0, e1, e2]), (by simp only [W0, Nat.reduceEqDiff, Nat.reduceLT, ↓reduceIte, hl, e0, e1, e2]), (by simp only [W0, Nat.reduceEqDiff, Nat.reduceLT, ↓reduceIte, hl, e0, e1, e2])⟩) ?_
  rintro envg1 _ ⟨rfl, hl, e0, e1, e2⟩
  try simp only [↓WD, W0, evalOp, Nat.reduceEqDiff, Nat.reduceLT, ↓reduceIte, reduceCtorEq, hl, e0, e1, e2]
  rw [AW_region]
  obtain ⟨y2, qy2, hF⟩ := obind hF
  have og3 := fun (D : Drawn) (n : Nat) (g : AH) => call_hook (P := Try.prog) (D := D) k47 n (args := [.str s_, .int .i64 at_, .int .i64 n_]) (v := .tup [.str y2.1, .int .i64 y2.2]) ((kf_47_eq s_ at_ n_).trans (by rw [qy2]; rfl)) g
  refine AE_joinR (fun e h' => h = h' ∧ e.length = 36 ∧ e.getD 8 .undef = .str y2.1 ∧ e.getD 9 .undef = .int .i64 y2.2) (by
    simp only [↓WE, WA, WL, aop, ofValue, ofCell, isConst, abin, acall1, abuiltin, aun, AV.cells, AV.one, Nat.reduceAdd, Int.reduceLT, Int.reduceLE, ↓WD, W0, evalOp, Nat.reduceEqDiff, Nat.reduceLT, ↓reduceIte, reduceCtorEq, hl, e0, e1, e2, og3]
    exact ⟨rfl, (by simp only [List.length_set, hl]), (by simp only [W0, Nat.reduceEqDiff, Nat.reduceLT, ↓reduceIte, hl, e0, e1, e2]), (by simp only [W0, Nat.reduceEqDiff, Nat.reduceLT, ↓reduceIte, hl, e0, e1, e2])⟩) ?_
  rintro envg4 _ ⟨rfl, hl, e8, e9⟩
  try simp only [↓WD, W0, evalOp, Nat.reduceEqDiff, Nat.reduceLT, ↓reduceIte, reduceCtorEq, hl, e8, e9]
  rw [AW_region]
  refine AE_joinR (fun e h' => h = h' ∧ e.length = 36 ∧ e.getD 8 .undef = .str y2.1 ∧ e.getD 9 .undef = .int .i64 y2.2 ∧ e.getD 10 .undef = .int .u64 0) (by
    simp only [↓WE, WA, WL, aop, ofValue, ofCell, isConst, abin, acall1, abuiltin, aun, AV.cells, AV.one, Nat.reduceAdd, Int.reduceLT, Int.reduceLE, ↓WD, W0, evalOp, Nat.reduceEqDiff, Nat.reduceLT, ↓reduceIte, reduceCtorEq, hl, e8, e9]
    exact ⟨rfl, (by simp only [List.length_set, hl]), (by simp only [W0, Nat.reduceEqDiff, Nat.reduceLT, ↓reduceIte, hl, e8, e9]), (by simp only [W0, Nat.reduceEqDiff, Nat.reduceLT, ↓reduceIte, hl, e8, e9]), (by simp only [W0, Nat.reduceEqDiff, Nat.reduceLT, ↓reduceIte, hl, e8, e9])⟩) ?_
  rintro envg5 _ ⟨rfl, hl, e8, e9, e10⟩
  try simp only [↓WD, W0, evalOp, Nat.reduceEqDiff, Nat.reduceLT, ↓reduceIte, reduceCtorEq, hl, e8, e9, e10]
  rw [AW_region]
  have ol6 := fun g : AH => alen_str (P := Try.prog) (h := g) (l := y2.1) Try.underlying9
  refine AE_joinR (fun e h' => h = h' ∧ e.length = 36 ∧ e.getD 8 .undef = .str y2.1 ∧ e.getD 9 .undef = .int .i64 y2.2 ∧ e.getD 10 .undef = .int .u64 0 ∧ e.getD 20 .undef = .int .i64 (y2.1.length : Int) ∧ e.getD 21 .undef = .int .i64 0) (by
    simp only [↓WE, WA, WL, aop, ofValue, ofCell, isConst, abin, acall1, abuiltin, aun, AV.cells, AV.one, Nat.reduceAdd, Int.reduceLT, Int.reduceLE, ↓WD, W0, evalOp, Nat.reduceEqDiff, Nat.reduceLT, ↓reduceIte, reduceCtorEq, hl, e8, e9, e10, ol6]
    exact ⟨rfl, (by simp only [List.length_set, hl]), (by simp only [W0, Nat.reduceEqDiff, Nat.reduceLT, ↓reduceIte, hl, e8, e9, e10]), (by simp only [W0, Nat.reduceEqDiff, Nat.reduceLT, ↓reduceIte, hl, e8, e9, e10]), (by simp only [W0, Nat.reduceEqDiff, Nat.reduceLT, ↓reduceIte, hl, e8, e9, e10]), (by simp only [W0, Nat.reduceEqDiff, Nat.reduceLT, ↓reduceIte, hl, e8, e9, e10]), (by simp only [W0, Nat.reduceEqDiff, Nat.reduceLT, ↓reduceIte, hl, e8, e9, e10])⟩) ?_
  rintro envg7 _ ⟨rfl, hl, e8, e9, e10, e20, e21⟩
  try simp only [↓WD, W0, evalOp, Nat.reduceEqDiff, Nat.reduceLT, ↓reduceIte, reduceCtorEq, hl, e8, e9, e10, e20, e21]
  obtain ⟨r30, qr30, hF⟩ := obind hF
  refine AW_lift (L_field_number_1 y2) (fun s e h' => e.length = 36 ∧ e.getD 8 .undef = .str y2.1 ∧ e.getD 9 .undef = .int .i64 y2.2 ∧ e.getD 10 .undef = .int .u64 s.1 ∧ e.getD 20 .undef = .int .i64 (y2.1.length : Int) ∧ e.getD 21 .undef = .int .i64 s.2 ∧ Sep h [] h' []) (fun r30 x e h' => x = .exit 0 ∧ e.length = 36 ∧ e.getD 9 .undef = .int .i64 y2.2 ∧ e.getD 10 .undef = .int .u64 r30 ∧ Sep h [] h' []) qr30 (by omega) ?_ ?_ ?_
  · rintro s envr30 h19 or30 ⟨hl, e8, e9, e10, e20, e21, S20⟩ wr30
    rw [L_field_number_1] at wr30
    try simp only [↓WD, W0, evalOp, Nat.reduceEqDiff, Nat.reduceLT, ↓reduceIte, reduceCtorEq, hl, e8, e9, e10, e20, e21]
    rw [AW_region]
    refine AE_joinR (fun e h' => h19 = h' ∧ e.length = 36 ∧ e.getD 8 .undef = .str y2.1 ∧ e.getD 9 .undef = .int .i64 y2.2 ∧ e.getD 10 .undef = .int .u64 s.1 ∧ e.getD 20 .undef = .int .i64 (y2.1.length : Int) ∧ e.getD 21 .undef = .int .i64 s.2 ∧ e.getD 22 .undef = .bool (decide (s.2 < (y2.1.length : Int)))) (by
      simp only [↓WE, WA, WL, aop, ofValue, ofCell, isConst, abin, acall1, abuiltin, aun, AV.cells, AV.one, Nat.reduceAdd, Int.reduceLT, Int.reduceLE, ↓WD, W0, evalOp, Nat.reduceEqDiff, Nat.reduceLT, ↓reduceIte, reduceCtorEq, hl, e8, e9, e10, e20, e21]
      exact ⟨rfl, (by simp only [List.length_set, hl]), (by simp only [W0, Nat.reduceEqDiff, Nat.reduceLT, ↓reduceIte, hl, e8, e9, e10, e20, e21]), (by simp only [W0, Nat.reduceEqDiff, Nat.reduceLT, ↓reduceIte, hl, e8, e9, e10, e20, e21]), (by simp only [W0, Nat.reduceEqDiff, Nat.reduceLT, ↓reduceIte, hl, e8, e9, e10, e20, e21]), (by simp only [W0, Nat.reduceEqDiff, Nat.reduceLT, ↓reduceIte, hl, e8, e9, e10, e20, e21]), (by simp only [W0, Nat.reduceEqDiff, Nat.reduceLT, ↓reduceIte, hl, e8, e9, e10, e20, e21]), (by simp only [W0, Nat.reduceEqDiff, Nat.reduceLT, ↓reduceIte, hl, e8, e9, e10, e20, e21])⟩) ?_
    rintro envg21 _ ⟨rfl, hl, e8, e9, e10, e20, e21, e22⟩
    try simp only [↓WD, W0, evalOp, Nat.reduceEqDiff, Nat.reduceLT, ↓reduceIte, reduceCtorEq, hl, e8, e9, e10, e20, e21, e22]
    refine CondK_dec (fun c23 => ?_) (fun c23 => ?_)
    · rw [if_pos c23] at wr30
      try simp only [↓WD, W0, evalOp, Nat.reduceEqDiff, Nat.reduceLT, ↓reduceIte, reduceCtorEq, hl, e8, e9, e10, e20, e21, e22]
      rw [AW_region]
      refine AE_joinR (fun e h' => h19 = h' ∧ e.length = 36 ∧ e.getD 8 .undef = .str y2.1 ∧ e.getD 9 .undef = .int .i64 y2.2 ∧ e.getD 10 .undef = .int .u64 s.1 ∧ e.getD 11 .undef = .int .i64 s.2 ∧ e.getD 20 .undef = .int .i64 (y2.1.length : Int) ∧ e.getD 21 .undef = .int .i64 s.2) (by
        simp only [↓WE, WA, WL, aop, ofValue, ofCell, isConst, abin, acall1, abuiltin, aun, AV.cells, AV.one, Nat.reduceAdd, Int.reduceLT, Int.reduceLE, ↓WD, W0, evalOp, Nat.reduceEqDiff, Nat.reduceLT, ↓reduceIte, reduceCtorEq, hl, e8, e9, e10, e20, e21, e22]
        exact ⟨rfl, (by simp only [List.length_set, hl]), (by simp only [W0, Nat.reduceEqDiff, Nat.reduceLT, ↓reduceIte, hl, e8, e9, e10, e20, e21, e22]), (by simp only [W0, Nat.reduceEqDiff, Nat.reduceLT, ↓reduceIte, hl, e8, e9, e10, e20, e21, e22]), (by simp only [W0, Nat.reduceEqDiff, Nat.reduceLT, ↓reduceIte, hl, e8, e9, e10, e20, e21, e22]), (by simp only [W0, Nat.reduceEqDiff, Nat.reduceLT, ↓reduceIte, hl, e8, e9, e10, e20, e21, e22]), (by simp only [W0, Nat.reduceEqDiff, Nat.reduceLT, ↓reduceIte, hl, e8, e9, e10, e20, e21, e22]), (by simp only [W0, Nat.reduceEqDiff, Nat.reduceLT, ↓reduceIte, hl, e8, e9, e10, e20, e21, e22])⟩) ?_
      rintro envg24 _ ⟨rfl, hl, e8, e9, e10, e11, e20, e21⟩
      try simp only [↓WD, W0, evalOp, Nat.reduceEqDiff, Nat.reduceLT, ↓reduceIte, reduceCtorEq, hl, e8, e9, e10, e11, e20, e21]
      rw [AW_region]
      obtain ⟨c25, qc25, wr30⟩ := obind wr30
      have oc25 := idx_str (P := Try.prog) (k := .i64) Try.underlying9 qc25
      have oc26 := fun g : AH => aconv_int (P := Try.prog) (h := g) (n := c25) (k' := .u8) Try.underlying5 Try.underlying25
      obtain ⟨y27, qy27, wr30⟩ := obind wr30
      have oy27 := shl_int (k := .u64) qy27
      refine AE_joinR (fun e h' => h19 = h' ∧ e.length = 36 ∧ e.getD 8 .undef = .str y2.1 ∧ e.getD 9 .undef = .int .i64 y2.2 ∧ e.getD 10 .undef = .int .u64 (orI .u64 s.1 y27) ∧ e.getD 20 .undef = .int .i64 (y2.1.length : Int) ∧ e.getD 21 .undef = .int .i64 s.2) (by
        simp only [↓WE, WA, WL, aop, ofValue, ofCell, isConst, abin, acall1, abuiltin, aun, AV.cells, AV.one, Nat.reduceAdd, Int.reduceLT, Int.reduceLE, ↓WD, W0, evalOp, Nat.reduceEqDiff, Nat.reduceLT, ↓reduceIte, reduceCtorEq, hl, e8, e9, e10, e11, e20, e21, oc25, oc26, oy27]
        exact ⟨rfl, (by simp only [List.length_set, hl]), (by simp only [W0, Nat.reduceEqDiff, Nat.reduceLT, ↓reduceIte, hl, e8, e9, e10, e11, e20, e21]), (by simp only [W0, Nat.reduceEqDiff, Nat.reduceLT, ↓reduceIte, hl, e8, e9, e10, e11, e20, e21]), (by simp only [W0, Nat.reduceEqDiff, Nat.reduceLT, ↓reduceIte, hl, e8, e9, e10, e11, e20, e21]), (by simp only [W0, Nat.reduceEqDiff, Nat.reduceLT, ↓reduceIte, hl, e8, e9, e10, e11, e20, e21]), (by simp only [W0, Nat.reduceEqDiff, Nat.reduceLT, ↓reduceIte, hl, e8, e9, e10, e11, e20, e21])⟩) ?_
      rintro envg28 _ ⟨rfl, hl, e8, e9, e10, e20, e21⟩
      try simp only [↓WD, W0, evalOp, Nat.reduceEqDiff, Nat.reduceLT, ↓reduceIte, reduceCtorEq, hl, e8, e9, e10, e20, e21]
      rw [AW_region]
      refine AE_joinR (fun e h' => h19 = h' ∧ e.length = 36 ∧ e.getD 8 .undef = .str y2.1 ∧ e.getD 9 .undef = .int .i64 y2.2 ∧ e.getD 10 .undef = .int .u64 (orI .u64 s.1 y27) ∧ e.getD 20 .undef = .int .i64 (y2.1.length : Int) ∧ e.getD 21 .undef = .int .i64 (IntKind.i64.wrap (s.2 + 1))) (by
        simp only [↓WE, WA, WL, aop, ofValue, ofCell, isConst, abin, acall1, abuiltin, aun, AV.cells, AV.one, Nat.reduceAdd, Int.reduceLT, Int.reduceLE, ↓WD, W0, evalOp, Nat.reduceEqDiff, Nat.reduceLT, ↓reduceIte, reduceCtorEq, hl, e8, e9, e10, e20, e21]
        exact ⟨rfl, (by simp only [List.length_set, hl]), (by simp only [W0, Nat.reduceEqDiff, Nat.reduceLT, ↓reduceIte, hl, e8, e9, e10, e20, e21]), (by simp only [W0, Nat.reduceEqDiff, Nat.reduceLT, ↓reduceIte, hl, e8, e9, e10, e20, e21]), (by simp only [W0, Nat.reduceEqDiff, Nat.reduceLT, ↓reduceIte, hl, e8, e9, e10, e20, e21]), (by simp only [W0, Nat.reduceEqDiff, Nat.reduceLT, ↓reduceIte, hl, e8, e9, e10, e20, e21]), (by simp only [W0, Nat.reduceEqDiff, Nat.reduceLT, ↓reduceIte, hl, e8, e9, e10, e20, e21])⟩) ?_
      rintro envg29 _ ⟨rfl, hl, e8, e9, e10, e20, e21⟩
      try simp only [↓WD, W0, evalOp, Nat.reduceEqDiff, Nat.reduceLT, ↓reduceIte, reduceCtorEq, hl, e8, e9, e10, e20, e21]
      obtain rfl := Option.some.inj wr30
      rw [KP_nil, QL_normal]
      exact ⟨_, rfl, (by simp only [List.length_set, hl]), (by simp only [W0, Nat.reduceEqDiff, Nat.reduceLT, ↓reduceIte, hl, e8, e9, e10, e20, e21]), (by simp only [W0, Nat.reduceEqDiff, Nat.reduceLT, ↓reduceIte, hl, e8, e9, e10, e20, e21]), (by simp only [W0, Nat.reduceEqDiff, Nat.reduceLT, ↓reduceIte, hl, e8, e9, e10, e20, e21]), (by simp only [W0, Nat.reduceEqDiff, Nat.reduceLT, ↓reduceIte, hl, e8, e9, e10, e20, e21]), (by simp only [W0, Nat.reduceEqDiff, Nat.reduceLT, ↓reduceIte, hl, e8, e9, e10, e20, e21]), S20⟩
    · rw [if_neg c23] at wr30
      try simp only [↓WD, W0, evalOp, Nat.reduceEqDiff, Nat.reduceLT, ↓reduceIte, reduceCtorEq, hl, e8, e9, e10, e20, e21, e22]
      obtain rfl := Option.some.inj wr30
      rw [KP_nil, QL_exit]
      exact ⟨_, rfl, rfl, (by simp only [List.length_set, hl]), (by simp only [W0, Nat.reduceEqDiff, Nat.reduceLT, ↓reduceIte, hl, e8, e9, e10, e20, e21, e22]), (by simp only [W0, Nat.reduceEqDiff, Nat.reduceLT, ↓reduceIte, hl, e8, e9, e10, e20, e21, e22]), S20⟩
  · exact ⟨(by simp only [List.length_set, hl]), (by simp only [W0, Nat.reduceEqDiff, Nat.reduceLT, ↓reduceIte, hl, e8, e9, e10, e20, e21]), (by simp only [W0, Nat.reduceEqDiff, Nat.reduceLT, ↓reduceIte, hl, e8, e9, e10, e20, e21]), (by simp only [W0, Nat.reduceEqDiff, Nat.reduceLT, ↓reduceIte, hl, e8, e9, e10, e20, e21]), (by simp only [W0, Nat.reduceEqDiff, Nat.reduceLT, ↓reduceIte, hl, e8, e9, e10, e20, e21]), (by simp only [W0, Nat.reduceEqDiff, Nat.reduceLT, ↓reduceIte, hl, e8, e9, e10, e20, e21]), S0⟩
  · rintro x envr30 h31 ⟨rfl, hl, e9, e10, S32⟩
    try simp only [↓WD, W0, evalOp, Nat.reduceEqDiff, Nat.reduceLT, ↓reduceIte, reduceCtorEq, hl, e9, e10]
    rw [AW_region]
    refine AE_joinR (fun e h' => h31 = h' ∧ e.length = 36 ∧ e.getD 6 .undef = .int .u64 r30 ∧ e.getD 7 .undef = .int .i64 y2.2) (by
      simp only [↓WE, WA, WL, aop, ofValue, ofCell, isConst, abin, acall1, abuiltin, aun, AV.cells, AV.one, Nat.reduceAdd, Int.reduceLT, Int.reduceLE, ↓WD, W0, evalOp, Nat.reduceEqDiff, Nat.reduceLT, ↓reduceIte, reduceCtorEq, hl, e9, e10]
      exact ⟨rfl, (by simp only [List.length_set, hl]), (by simp only [W0, Nat.reduceEqDiff, Nat.reduceLT, ↓reduceIte, hl, e9, e10]), (by simp only [W0, Nat.reduceEqDiff, Nat.reduceLT, ↓reduceIte, hl, e9, e10])⟩) ?_
    rintro envg33 _ ⟨rfl, hl, e6, e7⟩
    try simp only [↓WD, W0, evalOp, Nat.reduceEqDiff, Nat.reduceLT, ↓reduceIte, reduceCtorEq, hl, e6, e7]
    refine KP_ret (vs := [.int .u64 r30, .int .i64 y2.2]) (by simp only [aresults, aresult, gs, List.length_set, Nat.reduceEqDiff, Nat.reduceLT, ↓reduceIte, hl, e6, e7]) ?_
    obtain rfl := Option.some.inj hF
    exact rfl
set_option maxRecDepth 100000 in
set_option maxHeartbeats 4000000 in
theorem W_field_U32 {K : PureK} (k46 : K 46 = some kf_46) (n17 : K 17 = none) (m : Nat) (hm : NF + 1 ≤ m) (h : AH) (s_ : List UInt8) (at_ : Int) {r : Int × Int} (hF : F_field_U32 s_ at_ = some r) :
    AR (acall Try.prog (hooksOf K) (drawnOf Try.prog (tabOf K)) m 17 [.str s_, .int .i64 at_] h) (fun v h' => v = .tup [.int .i64 r.1, .int .i64 r.2]) := by
  obtain ⟨m, rfl⟩ : ∃ k, m = k + 1 := ⟨m - 1, by omega⟩
  refine AR_call (hooksOf_none n17) Try.func17 rfl _ _ fun env hl he => ?_
  have e0 := he 0
  have e1 := he 1
  simp only [List.getD_cons_zero, List.getD_cons_succ] at e0 e1
  simp only [Try.f17] at hl ⊢
  simp only [List.length_cons, List.length_nil, Nat.reduceAdd, Nat.reduceSub] at hl
  clear he
  have S0 : Sep h [] h [] := Sep.nil h
  rw [F_field_U32] at hF
  try simp only [↓WD, W0, evalOp, Nat.reduceEqDiff, Nat.reduceLT, ↓reduceIte, reduceCtorEq, hl, e0, e1]
  rw [AW_region]
  refine AE_joinR (fun e h' => h = h' ∧ e.length = 17 ∧ e.getD 0 .undef = .str s_ ∧ e.getD 1 .undef = .int .i64 at_) (by
    simp only [↓WE, WA, WL, aop, ofValue, ofCell, isConst, abin, acall1, abuiltin, aun, AV.cells, AV.one, Nat.reduceAdd, Int.reduceLT, Int.reduceLE, ↓WD, W0, evalOp, Nat.reduceEqDiff, Nat.reduceLT, ↓reduceIte, reduceCtorEq, hl, e0, e1]
    exact ⟨rfl, (by simp only [List.length_set, hl]), (by simp only [W0, Nat.reduceEqDiff, Nat.reduceLT, ↓reduceIte, hl, e0, e1]), (by simp only [W0, Nat.reduceEqDiff, Nat.reduceLT, ↓reduceIte, hl, e0, e1])⟩) ?_
  rintro envg1 _ ⟨rfl, hl, e0, e1⟩
  try simp only [↓WD, W0, evalOp, Nat.reduceEqDiff, Nat.reduceLT, ↓reduceIte, reduceCtorEq, hl, e0, e1]
  rw [AW_region]
  obtain ⟨y2, qy2, hF⟩ := obind hF
  have og3 := fun (D : Drawn) (n : Nat) (g : AH) => call_hook (P := Try.prog) (D := D) k46 n (args := [.str s_, .int .i64 at_, .int .i64 4]) (v := .tup [.int .u64 y2.1, .int .i64 y2.2]) ((kf_46_eq s_ at_ 4).trans (by rw [qy2]; rfl)) g
  refine AE_joinR (fun e h' => h = h' ∧ e.length = 17 ∧ e.getD 6 .undef = .int .u64 y2.1 ∧ e.getD 7 .undef = .int .i64 y2.2) (by
    simp only [↓WE, WA, WL, aop, ofValue, ofCell, isConst, abin, acall1, abuiltin, aun, AV.cells, AV.one, Nat.reduceAdd, Int.reduceLT, Int.reduceLE, ↓WD, W0, evalOp, Nat.reduceEqDiff, Nat.reduceLT, ↓reduceIte, reduceCtorEq, hl, e0, e1, og3]
    exact ⟨rfl, (by simp only [List.length_set, hl]), (by simp only [W0, Nat.reduceEqDiff, Nat.reduceLT, ↓reduceIte, hl, e0, e1]), (by simp only [W0, Nat.reduceEqDiff, Nat.reduceLT, ↓reduceIte, hl, e0, e1])⟩) ?_
  rintro envg4 _ ⟨rfl, hl, e6, e7⟩
  try simp only [↓WD, W0, evalOp, Nat.reduceEqDiff, Nat.reduceLT, ↓reduceIte, reduceCtorEq, hl, e6, e7]
  rw [AW_region]
  have oc5 := fun g : AH => aconv_int (P := Try.prog) (h := g) (n := y2.1) (k' := .u64) Try.underlying25 Try.underlying3
  refine AE_joinR (fun e h' => h = h' ∧ e.length = 17 ∧ e.getD 4 .undef = .int .i64 (IntKind.i64.wrap y2.1) ∧ e.getD 5 .undef = .int .i64 y2.2) (by
    simp only [↓WE, WA, WL, aop, ofValue, ofCell, isConst, abin, acall1, abuiltin, aun, AV.cells, AV.one, Nat.reduceAdd, Int.reduceLT, Int.reduceLE, ↓WD, W0, evalOp, Nat.reduceEqDiff, Nat.reduceLT, ↓reduceIte, reduceCtorEq, hl, e6, e7, oc5]
    exact ⟨rfl, (by simp only [List.length_set, hl]), (by simp only [W0, Nat.reduceEqDiff, Nat.reduceLT, ↓reduceIte, hl, e6, e7]), (by simp only [W0, Nat.reduceEqDiff, Nat.reduceLT, ↓reduceIte, hl, e6, e7])⟩) ?_
  rintro envg6 _ ⟨rfl, hl, e4, e5⟩
  try simp only [↓WD, W0, evalOp, Nat.reduceEqDiff, Nat.reduceLT, ↓reduceIte, reduceCtorEq, hl, e4, e5]
  refine KP_ret (vs := [.int .i64 (IntKind.i64.wrap y2.1), .int .i64 y2.2]) (by simp only [aresults, aresult, gs, List.length_set, Nat.reduceEqDiff, Nat.reduceLT, ↓reduceIte, hl, e4, e5]) ?_
  obtain rfl := Option.some.inj hF
  exact rfl
set_option maxRecDepth 100000 in
set_option maxHeartbeats 4000000 in
theorem W_end_numbers_u32 {K : PureK} (k17 : K 17 = some kf_17) (n56 : K 56 = none) (m : Nat) (hm : NF + 1 ≤ m) (h : AH) (x_ : Gend_numbers) (at_ : Int) {r : Int} (hF : F_end_numbers_u32 x_ at_ = some r) :
    AR (acall Try.prog (hooksOf K) (drawnOf Try.prog (tabOf K)) m 56 [.agg [.str x_.xs], .int .i64 at_] h) (fun v h' => v = .int .i64 r) := by
  obtain ⟨m, rfl⟩ : ∃ k, m = k + 1 := ⟨m - 1, by omega⟩
  refine AR_call (hooksOf_none n56) Try.func56 rfl _ _ fun env hl he => ?_
  have e0 := he 0
  have e1 := he 1
  simp only [List.getD_cons_zero, List.getD_cons_succ] at e0 e1
  simp only [Try.f56] at hl ⊢
  simp only [List.length_cons, List.length_nil, Nat.reduceAdd, Nat.reduceSub] at hl
  clear he
  have S0 : Sep h [] h [] := Sep.nil h
  rw [F_end_numbers_u32] at hF
  try simp only [↓WD, W0, evalOp, Nat.reduceEqDiff, Nat.reduceLT, ↓reduceIte, reduceCtorEq, hl, e0, e1]
  rw [AW_region]
  obtain ⟨i1, h2, oa3, S4⟩ := S0.alloc 100 [.str x_.xs]
  have S6 : Sep h [] h2 [.blk i1 [.str x_.xs] 100] := S4
  refine AE_joinR (fun e h' => h2 = h' ∧ e.length = 15 ∧ e.getD 1 .undef = .int .i64 at_ ∧ e.getD 2 .undef = .ptr i1 0) (by
    simp only [↓WE, WA, WL, aop, ofValue, ofCell, isConst, abin, acall1, abuiltin, aun, AV.cells, AV.one, Nat.reduceAdd, Int.reduceLT, Int.reduceLE, ↓WD, W0, evalOp, Nat.reduceEqDiff, Nat.reduceLT, ↓reduceIte, reduceCtorEq, hl, e0, e1, oa3]
    exact ⟨rfl, (by simp only [List.length_set, hl]), (by simp only [W0, Nat.reduceEqDiff, Nat.reduceLT, ↓reduceIte, hl, e0, e1]), (by simp only [W0, Nat.reduceEqDiff, Nat.reduceLT, ↓reduceIte, hl, e0, e1])⟩) ?_
  rintro envg7 _ ⟨rfl, hl, e1, e2⟩
  try simp only [↓WD, W0, evalOp, Nat.reduceEqDiff, Nat.reduceLT, ↓reduceIte, reduceCtorEq, hl, e1, e2]
  rw [AW_region]
  have ol8 := S6.load (P := Try.prog) 0 rfl (t := 9) (off := 0) (v := .str x_.xs) (by simp only [apart, ag_9, sz_9]; rfl)
  obtain ⟨y9, qy9, hF⟩ := obind hF
  have og10 := fun (D : Drawn) (n : Nat) (g : AH) => call_hook (P := Try.prog) (D := D) k17 n (args := [.str x_.xs, .int .i64 at_]) (v := .tup [.int .i64 y9.1, .int .i64 y9.2]) ((kf_17_eq x_.xs at_).trans (by rw [qy9]; rfl)) g
  refine AE_joinR (fun e h' => h2 = h' ∧ e.length = 15 ∧ e.getD 5 .undef = .int .i64 y9.1) (by
    simp only [↓WE, WA, WL, aop, ofValue, ofCell, isConst, abin, acall1, abuiltin, aun, AV.cells, AV.one, Nat.reduceAdd, Int.reduceLT, Int.reduceLE, ↓WD, W0, evalOp, Nat.reduceEqDiff, Nat.reduceLT, ↓reduceIte, reduceCtorEq, hl, e1, e2, fa_100_0, ol8, og10]
    exact ⟨rfl, (by simp only [List.length_set, hl]), (by simp only [W0, Nat.reduceEqDiff, Nat.reduceLT, ↓reduceIte, hl, e1, e2])⟩) ?_
  rintro envg11 _ ⟨rfl, hl, e5⟩
  try simp only [↓WD, W0, evalOp, Nat.reduceEqDiff, Nat.reduceLT, ↓reduceIte, reduceCtorEq, hl, e5]
  rw [AW_region]
  refine AE_joinR (fun e h' => h2 = h' ∧ e.length = 15 ∧ e.getD 4 .undef = .int .i64 y9.1) (by
    simp only [↓WE, WA, WL, aop, ofValue, ofCell, isConst, abin, acall1, abuiltin, aun, AV.cells, AV.one, Nat.reduceAdd, Int.reduceLT, Int.reduceLE, ↓WD, W0, evalOp, Nat.reduceEqDiff, Nat.reduceLT, ↓reduceIte, reduceCtorEq, hl, e5]
    exact ⟨rfl, (by simp only [List.length_set, hl]), (by simp only [W0, Nat.reduceEqDiff, Nat.reduceLT, ↓reduceIte, hl, e5])⟩) ?_
  rintro envg12 _ ⟨rfl, hl, e4⟩
  try simp only [↓WD, W0, evalOp, Nat.reduceEqDiff, Nat.reduceLT, ↓reduceIte, reduceCtorEq, hl, e4]
  refine KP_ret (vs := [.int .i64 y9.1]) (by simp only [aresults, aresult, gs, List.length_set, Nat.reduceEqDiff, Nat.reduceLT, ↓reduceIte, hl, e4]) ?_
  obtain rfl := Option.some.inj hF
  exact rfl
set_option maxRecDepth 100000 in
set_option maxHeartbeats 4000000 in
theorem W_field_U16 {K : PureK} (k46 : K 46 = some kf_46) (n16 : K 16 = none) (m : Nat) (hm : NF + 1 ≤ m) (h : AH) (s_ : List UInt8) (at_ : Int) {r : Int × Int} (hF : F_field_U16 s_ at_ = some r) :
    AR (acall Try.prog (hooksOf K) (drawnOf Try.prog (tabOf K)) m 16 [.str s_, .int .i64 at_] h) (fun v h' => v = .tup [.int .i64 r.1, .int .i64 r.2]) := by
  obtain ⟨m, rfl⟩ : ∃ k, m = k + 1 := ⟨m - 1, by omega⟩
  refine AR_call (hooksOf_none n16) Try.func16 rfl _ _ fun env hl he => ?_
  have e0 := he 0
  have e1 := he 1
  simp only [List.getD_cons_zero, List.getD_cons_succ] at e0 e1
  simp only [Try.f16] at hl ⊢
  simp only [List.length_cons, List.length_nil, Nat.reduceAdd, Nat.reduceSub] at hl
  clear he
  have S0 : Sep h [] h [] := Sep.nil h
  rw [F_field_U16] at hF
  try simp only [↓WD, W0, evalOp, Nat.reduceEqDiff, Nat.reduceLT, ↓reduceIte, reduceCtorEq, hl, e0, e1]
  rw [AW_region]
  refine AE_joinR (fun e h' => h = h' ∧ e.length = 17 ∧ e.getD 0 .undef = .str s_ ∧ e.getD 1 .undef = .int .i64 at_) (by
    simp only [↓WE, WA, WL, aop, ofValue, ofCell, isConst, abin, acall1, abuiltin, aun, AV.cells, AV.one, Nat.reduceAdd, Int.reduceLT, Int.reduceLE, ↓WD, W0, evalOp, Nat.reduceEqDiff, Nat.reduceLT, ↓reduceIte, reduceCtorEq, hl, e0, e1]
    exact ⟨rfl, (by simp only [List.length_set, hl]), (by simp only [W0, Nat.reduceEqDiff, Nat.reduceLT, ↓reduceIte, hl, e0, e1]), (by simp only [W0, Nat.reduceEqDiff, Nat.reduceLT, ↓reduceIte, hl, e0, e1])⟩) ?_
  rintro envg1 _ ⟨rfl, hl, e0, e1⟩
  try simp only [↓WD, W0, evalOp, Nat.reduceEqDiff, Nat.reduceLT, ↓reduceIte, reduceCtorEq, hl, e0, e1]
  rw [AW_region]
  obtain ⟨y2, qy2, hF⟩ := obind hF
  have og3 := fun (D : Drawn) (n : Nat) (g : AH) => call_hook (P := Try.prog) (D := D) k46 n (args := [.str s_, .int .i64 at_, .int .i64 2]) (v := .tup [.int .u64 y2.1, .int .i64 y2.2]) ((kf_46_eq s_ at_ 2).trans (by rw [qy2]; rfl)) g
  refine AE_joinR (fun e h' => h = h' ∧ e.length = 17 ∧ e.getD 6 .undef = .int .u64 y2.1 ∧ e.getD 7 .undef = .int .i64 y2.2) (by
    simp only [↓WE, WA, WL, aop, ofValue, ofCell, isConst, abin, acall1, abuiltin, aun, AV.cells, AV.one, Nat.reduceAdd, Int.reduceLT, Int.reduceLE, ↓WD, W0, evalOp, Nat.reduceEqDiff, Nat.reduceLT, ↓reduceIte, reduceCtorEq, hl, e0, e1, og3]
    exact ⟨rfl, (by simp only [List.length_set, hl]), (by simp only [W0, Nat.reduceEqDiff, Nat.reduceLT, ↓reduceIte, hl, e0, e1]), (by simp only [W0, Nat.reduceEqDiff, Nat.reduceLT, ↓reduceIte, hl, e0, e1])⟩) ?_
  rintro envg4 _ ⟨rfl, hl, e6, e7⟩
  try simp only [↓WD, W0, evalOp, Nat.reduceEqDiff, Nat.reduceLT, ↓reduceIte, reduceCtorEq, hl, e6, e7]
  rw [AW_region]
  have oc5 := fun g : AH => aconv_int (P := Try.prog) (h := g) (n := y2.1) (k' := .u64) Try.underlying25 Try.underlying3
  refine AE_joinR (fun e h' => h = h' ∧ e.length = 17 ∧ e.getD 4 .undef = .int .i64 (IntKind.i64.wrap y2.1) ∧ e.getD 5 .undef = .int .i64 y2.2) (by
    simp only [↓WE, WA, WL, aop, ofValue, ofCell, isConst, abin, acall1, abuiltin, aun, AV.cells, AV.one, Nat.reduceAdd, Int.reduceLT, Int.reduceLE, ↓WD, W0, evalOp, Nat.reduceEqDiff, Nat.reduceLT, ↓reduceIte, reduceCtorEq, hl, e6, e7, oc5]
    exact ⟨rfl, (by simp only [List.length_set, hl]), (by simp only [W0, Nat.reduceEqDiff, Nat.reduceLT, ↓reduceIte, hl, e6, e7]), (by simp only [W0, Nat.reduceEqDiff, Nat.reduceLT, ↓reduceIte, hl, e6, e7])⟩) ?_
  rintro envg6 _ ⟨rfl, hl, e4, e5⟩
  try simp only [↓WD, W0, evalOp, Nat.reduceEqDiff, Nat.reduceLT, ↓reduceIte, reduceCtorEq, hl, e4, e5]
  refine KP_ret (vs := [.int .i64 (IntKind.i64.wrap y2.1), .int .i64 y2.2]) (by simp only [aresults, aresult, gs, List.length_set, Nat.reduceEqDiff, Nat.reduceLT, ↓reduceIte, hl, e4, e5]) ?_
  obtain rfl := Option.some.inj hF
  exact rfl
set_option maxRecDepth 100000 in
set_option maxHeartbeats 4000000 in
theorem W_end_numbers_u16 {K : PureK} (k16 : K 16 = some kf_16) (n55 : K 55 = none) (m : Nat) (hm : NF + 1 ≤ m) (h : AH) (x_ : Gend_numbers) (at_ : Int) {r : Int} (hF : F_end_numbers_u16 x_ at_ = some r) :
    AR (acall Try.prog (hooksOf K) (drawnOf Try.prog (tabOf K)) m 55 [.agg [.str x_.xs], .int .i64 at_] h) (fun v h' => v = .int .i64 r) := by
  obtain ⟨m, rfl⟩ : ∃ k, m = k + 1 := ⟨m - 1, by omega⟩
  refine AR_call (hooksOf_none n55) Try.func55 rfl _ _ fun env hl he => ?_
  have e0 := he 0
  have e1 := he 1
  simp only [List.getD_cons_zero, List.getD_cons_succ] at e0 e1
  simp only [Try.f55] at hl ⊢
  simp only [List.length_cons, List.length_nil, Nat.reduceAdd, Nat.reduceSub] at hl
  clear he
  have S0 : Sep h [] h [] := Sep.nil h
  rw [F_end_numbers_u16] at hF
  try simp only [↓WD, W0, evalOp, Nat.reduceEqDiff, Nat.reduceLT, ↓reduceIte, reduceCtorEq, hl, e0, e1]
  rw [AW_region]
  obtain ⟨i1, h2, oa3, S4⟩ := S0.alloc 100 [.str x_.xs]
  have S6 : Sep h [] h2 [.blk i1 [.str x_.xs] 100] := S4
  refine AE_joinR (fun e h' => h2 = h' ∧ e.length = 15 ∧ e.getD 1 .undef = .int .i64 at_ ∧ e.getD 2 .undef = .ptr i1 0) (by
    simp only [↓WE, WA, WL, aop, ofValue, ofCell, isConst, abin, acall1, abuiltin, aun, AV.cells, AV.one, Nat.reduceAdd, Int.reduceLT, Int.reduceLE, ↓WD, W0, evalOp, Nat.reduceEqDiff, Nat.reduceLT, ↓reduceIte, reduceCtorEq, hl, e0, e1, oa3]
    exact ⟨rfl, (by simp only [List.length_set, hl]), (by simp only [W0, Nat.reduceEqDiff, Nat.reduceLT, ↓reduceIte, hl, e0, e1]), (by simp only [W0, Nat.reduceEqDiff, Nat.reduceLT, ↓reduceIte, hl, e0, e1])⟩) ?_
  rintro envg7 _ ⟨rfl, hl, e1, e2⟩
  try simp only [↓WD, W0, evalOp, Nat.reduceEqDiff, Nat.reduceLT, ↓reduceIte, reduceCtorEq, hl, e1, e2]
  rw [AW_region]
  have ol8 := S6.load (P := Try.prog) 0 rfl (t := 9) (off := 0) (v := .str x_.xs) (by simp only [apart, ag_9, sz_9]; rfl)
  obtain ⟨y9, qy9, hF⟩ := obind hF
  have og10 := fun (D : Drawn) (n : Nat) (g : AH) => call_hook (P := Try.prog) (D := D) k16 n (args := [.str x_.xs, .int .i64 at_]) (v := .tup [.int .i64 y9.1, .int .i64 y9.2]) ((kf_16_eq x_.xs at_).trans (by rw [qy9]; rfl)) g
  refine AE_joinR (fun e h' => h2 = h' ∧ e.length = 15 ∧ e.getD 5 .undef = .int .i64 y9.1) (by
    simp only [↓WE, WA, WL, aop, ofValue, ofCell, isConst, abin, acall1, abuiltin, aun, AV.cells, AV.one, Nat.reduceAdd, Int.reduceLT, Int.reduceLE, ↓WD, W0, evalOp, Nat.reduceEqDiff, Nat.reduceLT, ↓reduceIte, reduceCtorEq, hl, e1, e2, fa_100_0, ol8, og10]
    exact ⟨rfl, (by simp only [List.length_set, hl]), (by simp only [W0, Nat.reduceEqDiff, Nat.reduceLT, ↓reduceIte, hl, e1, e2])⟩) ?_
  rintro envg11 _ ⟨rfl, hl, e5⟩
  try simp only [↓WD, W0, evalOp, Nat.reduceEqDiff, Nat.reduceLT, ↓reduceIte, reduceCtorEq, hl, e5]
  rw [AW_region]
  refine AE_joinR (fun e h' => h2 = h' ∧ e.length = 15 ∧ e.getD 4 .undef = .int .i64 y9.1) (by
    simp only [↓WE, WA, WL, aop, ofValue, ofCell, isConst, abin, acall1, abuiltin, aun, AV.cells, AV.one, Nat.reduceAdd, Int.reduceLT, Int.reduceLE, ↓WD, W0, evalOp, Nat.reduceEqDiff, Nat.reduceLT, ↓reduceIte, reduceCtorEq, hl, e5]
    exact ⟨rfl, (by simp only [List.length_set, hl]), (by simp only [W0, Nat.reduceEqDiff, Nat.reduceLT, ↓reduceIte, hl, e5])⟩) ?_
  rintro envg12 _ ⟨rfl, hl, e4⟩
  try simp only [↓WD, W0, evalOp, Nat.reduceEqDiff, Nat.reduceLT, ↓reduceIte, reduceCtorEq, hl, e4]
  refine KP_ret (vs := [.int .i64 y9.1]) (by simp only [aresults, aresult, gs, List.length_set, Nat.reduceEqDiff, Nat.reduceLT, ↓reduceIte, hl, e4]) ?_
  obtain rfl := Option.some.inj hF
  exact rfl
set_option maxRecDepth 100000 in
set_option maxHeartbeats 4000000 in
theorem W_end_last {K : PureK} (k55 : K 55 = some kf_55) (k56 : K 56 = some kf_56) (n54 : K 54 = none) (m : Nat) (hm : NF + 1 ≤ m) (h : AH) (s_ : List UInt8) {r : Int × Bool} (hF : F_end_last s_ = some r) :
    AR (acall Try.prog (hooksOf K) (drawnOf Try.prog (tabOf K)) m 54 [.str s_] h) (fun v h' => v = .tup [.int .i64 r.1, .bool r.2]) := by
  obtain ⟨m, rfl⟩ : ∃ k, m = k + 1 := ⟨m - 1, by omega⟩
  refine AR_call (hooksOf_none n54) Try.func54 rfl _ _ fun env hl he => ?_
  have e0 := he 0
  simp only [List.getD_cons_zero, List.getD_cons_succ] at e0
  simp only [Try.f54] at hl ⊢
  simp only [List.length_cons, List.length_nil, Nat.reduceAdd, Nat.reduceSub] at hl
  clear he
  have S0 : Sep h [] h [] := Sep.nil h
  rw [F_end_last] at hF
  try simp only [↓WD, W0, evalOp, Nat.reduceEqDiff, Nat.reduceLT, ↓reduceIte, reduceCtorEq, hl, e0]
  rw [AW_region]
  refine AE_joinR (fun e h' => h = h' ∧ e.length = 46 ∧ e.getD 0 .undef = .str s_) (by
    simp only [↓WE, WA, WL, aop, ofValue, ofCell, isConst, abin, acall1, abuiltin, aun, AV.cells, AV.one, Nat.reduceAdd, Int.reduceLT, Int.reduceLE, ↓WD, W0, evalOp, Nat.reduceEqDiff, Nat.reduceLT, ↓reduceIte, reduceCtorEq, hl, e0]
    exact ⟨rfl, (by simp only [List.length_set, hl]), (by simp only [W0, Nat.reduceEqDiff, Nat.reduceLT, ↓reduceIte, hl, e0])⟩) ?_
  rintro envg1 _ ⟨rfl, hl, e0⟩
  try simp only [↓WD, W0, evalOp, Nat.reduceEqDiff, Nat.reduceLT, ↓reduceIte, reduceCtorEq, hl, e0]
  rw [AW_region]
  obtain ⟨i2, h3, oa4, S5⟩ := S0.alloc 100 [.str []]
  have S7 : Sep h [] h3 [.blk i2 [.str []] 100] := S5
  obtain ⟨h8, os9, S10⟩ := S7.store (P := Try.prog) 0 rfl (t := 100) (off := 0) (v := .agg [.str s_]) (c' := [.str s_]) rfl sz_100 rfl (by simp) rfl
  have S11 : Sep h [] h8 [.blk i2 [.str s_] 100] := S10
  refine AE_joinR (fun e h' => h8 = h' ∧ e.length = 46 ∧ e.getD 0 .undef = .str s_ ∧ e.getD 4 .undef = .ptr i2 0) (by
    simp only [↓WE, WA, WL, aop, ofValue, ofCell, isConst, abin, acall1, abuiltin, aun, AV.cells, AV.one, Nat.reduceAdd, Int.reduceLT, Int.reduceLE, ↓WD, W0, evalOp, Nat.reduceEqDiff, Nat.reduceLT, ↓reduceIte, reduceCtorEq, hl, e0, bd_100_0, zero_100, oa4, os9]
    exact ⟨rfl, (by simp only [List.length_set, hl]), (by simp only [W0, Nat.reduceEqDiff, Nat.reduceLT, ↓reduceIte, hl, e0]), (by simp only [W0, Nat.reduceEqDiff, Nat.reduceLT, ↓reduceIte, hl, e0])⟩) ?_
  rintro envg12 _ ⟨rfl, hl, e0, e4⟩
  try simp only [↓WD, W0, evalOp, Nat.reduceEqDiff, Nat.reduceLT, ↓reduceIte, reduceCtorEq, hl, e0, e4]
  rw [AW_region]
  have ol13 := fun g : AH => alen_str (P := Try.prog) (h := g) (l := s_) Try.underlying9
  refine AE_joinR (fun e h' => h8 = h' ∧ e.length = 46 ∧ e.getD 0 .undef = .str s_ ∧ e.getD 4 .undef = .ptr i2 0 ∧ e.getD 5 .undef = .int .i64 (IntKind.i64.wrap ((s_.length : Int) - 22))) (by
    simp only [↓WE, WA, WL, aop, ofValue, ofCell, isConst, abin, acall1, abuiltin, aun, AV.cells, AV.one, Nat.reduceAdd, Int.reduceLT, Int.reduceLE, ↓WD, W0, evalOp, Nat.reduceEqDiff, Nat.reduceLT, ↓reduceIte, reduceCtorEq, hl, e0, e4, ol13]
    exact ⟨rfl, (by simp only [List.length_set, hl]), (by simp only [W0, Nat.reduceEqDiff, Nat.reduceLT, ↓reduceIte, hl, e0, e4]), (by simp only [W0, Nat.reduceEqDiff, Nat.reduceLT, ↓reduceIte, hl, e0, e4]), (by simp only [W0, Nat.reduceEqDiff, Nat.reduceLT, ↓reduceIte, hl, e0, e4])⟩) ?_
  rintro envg14 _ ⟨rfl, hl, e0, e4, e5⟩
  try simp only [↓WD, W0, evalOp, Nat.reduceEqDiff, Nat.reduceLT, ↓reduceIte, reduceCtorEq, hl, e0, e4, e5]
  obtain ⟨r81, qr81, hF⟩ := obind hF
  refine AW_lift (L_end_last_1 s_) (fun s e h' => e.length = 46 ∧ e.getD 0 .undef = .str s_ ∧ e.getD 4 .undef = .ptr i2 0 ∧ e.getD 5 .undef = .int .i64 s ∧ Sep h [] h' [.blk i2 [.str s_] 100]) (fun r81 x e h' => (∃ (t82 : Unit), r81 = (.inl t82) ∧ x = .exit 0 ∧ e.length = 46 ∧ Sep h [] h' []) ∨ (∃ (t85 : Int), r81 = (.inr t85) ∧ x = .ret ∧ e.length = 46 ∧ e.getD 2 .undef = .int .i64 t85 ∧ e.getD 3 .undef = .bool true ∧ Sep h [] h' [])) qr81 (by omega) ?_ ?_ ?_
  · rintro s envr81 h48 or81 ⟨hl, e0, e4, e5, S49⟩ wr81
    rw [L_end_last_1] at wr81
    try simp only [↓WD, W0, evalOp, Nat.reduceEqDiff, Nat.reduceLT, ↓reduceIte, reduceCtorEq, hl, e0, e4, e5]
    rw [AW_region]
    obtain ⟨j54, qj54, wr81⟩ := obind wr81
    refine AE_joinR (fun e h' => e.length = 46 ∧ e.getD 0 .undef = .str s_ ∧ e.getD 4 .undef = .ptr i2 0 ∧ e.getD 5 .undef = .int .i64 s ∧ e.getD 20 .undef = .bool j54 ∧ Sep h [] h' [.blk i2 [.str s_] 100]) ?_ ?_
    · simp only [↓WE, WA, WL, aop, ofValue, ofCell, isConst, abin, acall1, abuiltin, aun, AV.cells, AV.one, Nat.reduceAdd, Int.reduceLT, Int.reduceLE, ↓WD, W0, evalOp, Nat.reduceEqDiff, Nat.reduceLT, ↓reduceIte, reduceCtorEq, hl, e0, e4, e5]
      refine GuardW_dec (fun c50 => ?_) (fun c50 => ?_)
      · rw [if_pos c50] at qj54
        have d51 : (decide (s ≥ 0)) = true := decide_eq_true c50
        have ol53 := fun g : AH => alen_str (P := Try.prog) (h := g) (l := s_) Try.underlying9
        simp only [↓WE, WA, WL, aop, ofValue, ofCell, isConst, abin, acall1, abuiltin, aun, AV.cells, AV.one, Nat.reduceAdd, Int.reduceLT, Int.reduceLE, ↓WD, W0, evalOp, Nat.reduceEqDiff, Nat.reduceLT, ↓reduceIte, reduceCtorEq, hl, e0, e4, e5, ol53, d51]
        obtain rfl := Option.some.inj qj54
        exact ⟨(by simp only [List.length_set, hl]), (by simp only [W0, Nat.reduceEqDiff, Nat.reduceLT, ↓reduceIte, hl, e0, e4, e5]), (by simp only [W0, Nat.reduceEqDiff, Nat.reduceLT, ↓reduceIte, hl, e0, e4, e5]), (by simp only [W0, Nat.reduceEqDiff, Nat.reduceLT, ↓reduceIte, hl, e0, e4, e5]), (by simp only [W0, Nat.reduceEqDiff, Nat.reduceLT, ↓reduceIte, hl, e0, e4, e5]), S49⟩
      · rw [if_neg c50] at qj54
        have d52 : (decide (s ≥ 0)) = false := decide_eq_false c50
        simp only [↓WE, WA, WL, aop, ofValue, ofCell, isConst, abin, acall1, abuiltin, aun, AV.cells, AV.one, Nat.reduceAdd, Int.reduceLT, Int.reduceLE, ↓WD, W0, evalOp, Nat.reduceEqDiff, Nat.reduceLT, ↓reduceIte, reduceCtorEq, hl, e0, e4, e5, d52]
        obtain rfl := Option.some.inj qj54
        exact ⟨(by simp only [List.length_set, hl]), (by simp only [W0, Nat.reduceEqDiff, Nat.reduceLT, ↓reduceIte, hl, e0, e4, e5]), (by simp only [W0, Nat.reduceEqDiff, Nat.reduceLT, ↓reduceIte, hl, e0, e4, e5]), (by simp only [W0, Nat.reduceEqDiff, Nat.reduceLT, ↓reduceIte, hl, e0, e4, e5]), (by simp only [W0, Nat.reduceEqDiff, Nat.reduceLT, ↓reduceIte, hl, e0, e4, e5]), S49⟩
    · rintro envj54 h56 ⟨hl, e0, e4, e5, e20, S55⟩
      try simp only [↓WD, W0, evalOp, Nat.reduceEqDiff, Nat.reduceLT, ↓reduceIte, reduceCtorEq, hl, e0, e4, e5, e20]
      refine CondK_boo (fun c58 => ?_) (fun c58 => ?_)
      · rw [if_pos c58] at wr81
        try simp only [↓WD, W0, evalOp, Nat.reduceEqDiff, Nat.reduceLT, ↓reduceIte, reduceCtorEq, hl, e0, e4, e5, e20]
        rw [AW_region]
        obtain ⟨j73, qj73, wr81⟩ := obind wr81
        refine AE_joinR (fun e h' => e.length = 46 ∧ e.getD 0 .undef = .str s_ ∧ e.getD 4 .undef = .ptr i2 0 ∧ e.getD 5 .undef = .int .i64 s ∧ e.getD 44 .undef = .bool j73 ∧ Sep h [] h' [.blk i2 [.str s_] 100]) ?_ ?_
        · obtain ⟨c59, qc59, qj73⟩ := obind qj73
          have oc59 := idx_str (P := Try.prog) (k := .i64) Try.underlying9 qc59
          simp only [↓WE, WA, WL, aop, ofValue, ofCell, isConst, abin, acall1, abuiltin, aun, AV.cells, AV.one, Nat.reduceAdd, Int.reduceLT, Int.reduceLE, ↓WD, W0, evalOp, Nat.reduceEqDiff, Nat.reduceLT, ↓reduceIte, reduceCtorEq, hl, e0, e4, e5, e20, oc59]
          refine GuardW_boo (fun c60 => ?_) (fun c60 => ?_)
          · rw [if_pos c60] at qj73
            have d61 := c60
            have ol63 := S55.load (P := Try.prog) 0 rfl (t := 100) (off := 0) (v := .agg [.str s_]) (by simp only [apart, ag_100, sz_100]; rfl)
            obtain ⟨y64, qy64, qj73⟩ := obind qj73
            have og65 := fun (D : Drawn) (n : Nat) (g : AH) => call_hook (P := Try.prog) (D := D) k56 n (args := [.agg [.str s_], .int .i64 s]) (v := .int .i64 y64) ((kf_56_eq (⟨s_⟩ : Gend_numbers) s).trans (by rw [qy64]; rfl)) g
            simp only [↓WE, WA, WL, aop, ofValue, ofCell, isConst, abin, acall1, abuiltin, aun, AV.cells, AV.one, Nat.reduceAdd, Int.reduceLT, Int.reduceLE, ↓WD, W0, evalOp, Nat.reduceEqDiff, Nat.reduceLT, ↓reduceIte, reduceCtorEq, hl, e0, e4, e5, e20, oc59, ol63, og65, d61]
            refine GuardW_boo (fun c66 => ?_) (fun c66 => ?_)
            · rw [if_pos c66] at qj73
              have d67 := c66
              have ol69 := S55.load (P := Try.prog) 0 rfl (t := 100) (off := 0) (v := .agg [.str s_]) (by simp only [apart, ag_100, sz_100]; rfl)
              obtain ⟨y70, qy70, qj73⟩ := obind qj73
              have og71 := fun (D : Drawn) (n : Nat) (g : AH) => call_hook (P := Try.prog) (D := D) k55 n (args := [.agg [.str s_], .int .i64 (IntKind.i64.wrap (s + 20))]) (v := .int .i64 y70) ((kf_55_eq (⟨s_⟩ : Gend_numbers) (IntKind.i64.wrap (s + 20))).trans (by rw [qy70]; rfl)) g
              have ol72 := fun g : AH => alen_str (P := Try.prog) (h := g) (l := s_) Try.underlying9
              simp only [↓WE, WA, WL, aop, ofValue, ofCell, isConst, abin, acall1, abuiltin, aun, AV.cells, AV.one, Nat.reduceAdd, Int.reduceLT, Int.reduceLE, ↓WD, W0, evalOp, Nat.reduceEqDiff, Nat.reduceLT, ↓reduceIte, reduceCtorEq, hl, e0, e4, e5, e20, oc59, ol63, og65, ol69, og71, ol72, d61, d67]
              obtain rfl := Option.some.inj qj73
              exact ⟨(by simp only [List.length_set, hl]), (by simp only [W0, Nat.reduceEqDiff, Nat.reduceLT, ↓reduceIte, hl, e0, e4, e5, e20]), (by simp only [W0, Nat.reduceEqDiff, Nat.reduceLT, ↓reduceIte, hl, e0, e4, e5, e20]), (by simp only [W0, Nat.reduceEqDiff, Nat.reduceLT, ↓reduceIte, hl, e0, e4, e5, e20]), (by simp only [W0, Nat.reduceEqDiff, Nat.reduceLT, ↓reduceIte, hl, e0, e4, e5, e20]), S55⟩
            · rw [if_neg (nf c66)] at qj73
              have d68 := c66
              simp only [↓WE, WA, WL, aop, ofValue, ofCell, isConst, abin, acall1, abuiltin, aun, AV.cells, AV.one, Nat.reduceAdd, Int.reduceLT, Int.reduceLE, ↓WD, W0, evalOp, Nat.reduceEqDiff, Nat.reduceLT, ↓reduceIte, reduceCtorEq, hl, e0, e4, e5, e20, oc59, ol63, og65, d61, d68]
              obtain rfl := Option.some.inj qj73
              exact ⟨(by simp only [List.length_set, hl]), (by simp only [W0, Nat.reduceEqDiff, Nat.reduceLT, ↓reduceIte, hl, e0, e4, e5, e20]), (by simp only [W0, Nat.reduceEqDiff, Nat.reduceLT, ↓reduceIte, hl, e0, e4, e5, e20]), (by simp only [W0, Nat.reduceEqDiff, Nat.reduceLT, ↓reduceIte, hl, e0, e4, e5, e20]), (by simp only [W0, Nat.reduceEqDiff, Nat.reduceLT, ↓reduceIte, hl, e0, e4, e5, e20]), S55⟩
          · rw [if_neg (nf c60)] at qj73
            have d62 := c60
            simp only [↓WE, WA, WL, aop, ofValue, ofCell, isConst, abin, acall1, abuiltin, aun, AV.cells, AV.one, Nat.reduceAdd, Int.reduceLT, Int.reduceLE, ↓WD, W0, evalOp, Nat.reduceEqDiff, Nat.reduceLT, ↓reduceIte, reduceCtorEq, hl, e0, e4, e5, e20, oc59, d62]
            obtain rfl := Option.some.inj qj73
            exact ⟨(by simp only [List.length_set, hl]), (by simp only [W0, Nat.reduceEqDiff, Nat.reduceLT, ↓reduceIte, hl, e0, e4, e5, e20]), (by simp only [W0, Nat.reduceEqDiff, Nat.reduceLT, ↓reduceIte, hl, e0, e4, e5, e20]), (by simp only [W0, Nat.reduceEqDiff, Nat.reduceLT, ↓reduceIte, hl, e0, e4, e5, e20]), (by simp only [W0, Nat.reduceEqDiff, Nat.reduceLT, ↓reduceIte, hl, e0, e4, e5, e20]), S55⟩
        · rintro envj73 h75 ⟨hl, e0, e4, e5, e44, S74⟩
          try simp only [↓WD, W0, evalOp, Nat.reduceEqDiff, Nat.reduceLT, ↓reduceIte, reduceCtorEq, hl, e0, e4, e5, e44]
          refine CondK_boo (fun c78 => ?_) (fun c78 => ?_)
          · rw [if_pos c78] at wr81
            try simp only [↓WD, W0, evalOp, Nat.reduceEqDiff, Nat.reduceLT, ↓reduceIte, reduceCtorEq, hl, e0, e4, e5, e44]
            rw [AW_region]
            refine AE_joinR (fun e h' => h75 = h' ∧ e.length = 46 ∧ e.getD 2 .undef = .int .i64 s ∧ e.getD 3 .undef = .bool true) (by
              simp only [↓WE, WA, WL, aop, ofValue, ofCell, isConst, abin, acall1, abuiltin, aun, AV.cells, AV.one, Nat.reduceAdd, Int.reduceLT, Int.reduceLE, ↓WD, W0, evalOp, Nat.reduceEqDiff, Nat.reduceLT, ↓reduceIte, reduceCtorEq, hl, e0, e4, e5, e44]
              exact ⟨rfl, (by simp only [List.length_set, hl]), (by simp only [W0, Nat.reduceEqDiff, Nat.reduceLT, ↓reduceIte, hl, e0, e4, e5, e44]), (by simp only [W0, Nat.reduceEqDiff, Nat.reduceLT, ↓reduceIte, hl, e0, e4, e5, e44])⟩) ?_
            rintro envg79 _ ⟨rfl, hl, e2, e3⟩
            try simp only [↓WD, W0, evalOp, Nat.reduceEqDiff, Nat.reduceLT, ↓reduceIte, reduceCtorEq, hl, e2, e3]
            obtain rfl := Option.some.inj wr81
            rw [KP_nil, QL_ret]
            exact ⟨_, rfl, .inr (⟨_, rfl, rfl, (by simp only [List.length_set, hl]), (by simp only [W0, Nat.reduceEqDiff, Nat.reduceLT, ↓reduceIte, hl, e2, e3]), (by simp only [W0, Nat.reduceEqDiff, Nat.reduceLT, ↓reduceIte, hl, e2, e3]), S74.pick [] (by decide) rfl⟩)⟩
          · rw [if_neg (nf c78)] at wr81
            try simp only [↓WD, W0, evalOp, Nat.reduceEqDiff, Nat.reduceLT, ↓reduceIte, reduceCtorEq, hl, e0, e4, e5, e44]
            rw [AW_region]
            refine AE_joinR (fun e h' => h75 = h' ∧ e.length = 46 ∧ e.getD 0 .undef = .str s_ ∧ e.getD 4 .undef = .ptr i2 0 ∧ e.getD 5 .undef = .int .i64 (IntKind.i64.wrap (s - 1))) (by
              simp only [↓WE, WA, WL, aop, ofValue, ofCell, isConst, abin, acall1, abuiltin, aun, AV.cells, AV.one, Nat.reduceAdd, Int.reduceLT, Int.reduceLE, ↓WD, W0, evalOp, Nat.reduceEqDiff, Nat.reduceLT, ↓reduceIte, reduceCtorEq, hl, e0, e4, e5, e44]
              exact ⟨rfl, (by simp only [List.length_set, hl]), (by simp only [W0, Nat.reduceEqDiff, Nat.reduceLT, ↓reduceIte, hl, e0, e4, e5, e44]), (by simp only [W0, Nat.reduceEqDiff, Nat.reduceLT, ↓reduceIte, hl, e0, e4, e5, e44]), (by simp only [W0, Nat.reduceEqDiff, Nat.reduceLT, ↓reduceIte, hl, e0, e4, e5, e44])⟩) ?_
            rintro envg80 _ ⟨rfl, hl, e0, e4, e5⟩
            try simp only [↓WD, W0, evalOp, Nat.reduceEqDiff, Nat.reduceLT, ↓reduceIte, reduceCtorEq, hl, e0, e4, e5]
            obtain rfl := Option.some.inj wr81
            rw [KP_nil, QL_normal]
            exact ⟨_, rfl, (by simp only [List.length_set, hl]), (by simp only [W0, Nat.reduceEqDiff, Nat.reduceLT, ↓reduceIte, hl, e0, e4, e5]), (by simp only [W0, Nat.reduceEqDiff, Nat.reduceLT, ↓reduceIte, hl, e0, e4, e5]), (by simp only [W0, Nat.reduceEqDiff, Nat.reduceLT, ↓reduceIte, hl, e0, e4, e5]), S74⟩
      · rw [if_neg (nf c58)] at wr81
        try simp only [↓WD, W0, evalOp, Nat.reduceEqDiff, Nat.reduceLT, ↓reduceIte, reduceCtorEq, hl, e0, e4, e5, e20]
        obtain rfl := Option.some.inj wr81
        rw [KP_nil, QL_exit]
        exact ⟨_, rfl, .inl ⟨_, rfl, rfl, (by simp only [List.length_set, hl]), S55.pick [] (by decide) rfl⟩⟩
  · exact ⟨(by simp only [List.length_set, hl]), (by simp only [W0, Nat.reduceEqDiff, Nat.reduceLT, ↓reduceIte, hl, e0, e4, e5]), (by simp only [W0, Nat.reduceEqDiff, Nat.reduceLT, ↓reduceIte, hl, e0, e4, e5]), (by simp only [W0, Nat.reduceEqDiff, Nat.reduceLT, ↓reduceIte, hl, e0, e4, e5]), S11⟩
  · intro x envr81 h83 hk
    rcases hk with ⟨t82, rfl, rfl, hl, S84⟩ | ⟨t85, rfl, rfl, hl, e2, e3, S87⟩
    · skip
      rw [sumK_inl] at hF
      try simp only [↓WD, W0, evalOp, Nat.reduceEqDiff, Nat.reduceLT, ↓reduceIte, reduceCtorEq, hl]
      rw [AW_region]
      refine AE_joinR (fun e h' => h83 = h' ∧ e.length = 46 ∧ e.getD 2 .undef = .int .i64 0 ∧ e.getD 3 .undef = .bool false) (by
        simp only [↓WE, WA, WL, aop, ofValue, ofCell, isConst, abin, acall1, abuiltin, aun, AV.cells, AV.one, Nat.reduceAdd, Int.reduceLT, Int.reduceLE, ↓WD, W0, evalOp, Nat.reduceEqDiff, Nat.reduceLT, ↓reduceIte, reduceCtorEq, hl]
        exact ⟨rfl, (by simp only [List.length_set, hl]), (by simp only [W0, Nat.reduceEqDiff, Nat.reduceLT, ↓reduceIte, hl]), (by simp only [W0, Nat.reduceEqDiff, Nat.reduceLT, ↓reduceIte, hl])⟩) ?_
      rintro envg88 _ ⟨rfl, hl, e2, e3⟩
      try simp only [↓WD, W0, evalOp, Nat.reduceEqDiff, Nat.reduceLT, ↓reduceIte, reduceCtorEq, hl, e2, e3]
      refine KP_ret (vs := [.int .i64 0, .bool false]) (by simp only [aresults, aresult, gs, List.length_set, Nat.reduceEqDiff, Nat.reduceLT, ↓reduceIte, hl, e2, e3]) ?_
      obtain rfl := Option.some.inj hF
      exact rfl
    · skip
      rw [sumK_inr] at hF
      try simp only [↓WD, W0, evalOp, Nat.reduceEqDiff, Nat.reduceLT, ↓reduceIte, reduceCtorEq, hl, e2, e3]
      refine KP_ret (vs := [.int .i64 t85, .bool true]) (by simp only [aresults, aresult, gs, List.length_set, Nat.reduceEqDiff, Nat.reduceLT, ↓reduceIte, hl, e2, e3]) ?_
      obtain rfl := Option.some.inj hF
      exact rfl
set_option maxRecDepth 100000 in
set_option maxHeartbeats 4000000 in
theorem W_field_U64 {K : PureK} (k46 : K 46 = some kf_46) (n18 : K 18 = none) (m : Nat) (hm : NF + 1 ≤ m) (h : AH) (s_ : List UInt8) (at_ : Int) {r : Int × Int} (hF : F_field_U64 s_ at_ = some r) :
    AR (acall Try.prog (hooksOf K) (drawnOf Try.prog (tabOf K)) m 18 [.str s_, .int .i64 at_] h) (fun v h' => v = .tup [.int .u64 r.1, .int .i64 r.2]) := by
  obtain ⟨m, rfl⟩ : ∃ k, m = k + 1 := ⟨m - 1, by omega⟩
  refine AR_call (hooksOf_none n18) Try.func18 rfl _ _ fun env hl he => ?_
  have e0 := he 0
  have e1 := he 1
  simp only [List.getD_cons_zero, List.getD_cons_succ] at e0 e1
  simp only [Try.f18] at hl ⊢
  simp only [List.length_cons, List.length_nil, Nat.reduceAdd, Nat.reduceSub] at hl
  clear he
  have S0 : Sep h [] h [] := Sep.nil h
  rw [F_field_U64] at hF
  try simp only [↓WD, W0, evalOp, Nat.reduceEqDiff, Nat.reduceLT, ↓reduceIte, reduceCtorEq, hl, e0, e1]
  rw [AW_region]
  refine AE_joinR (fun e h' => h = h' ∧ e.length = 11 ∧ e.getD 0 .undef = .str s_ ∧ e.getD 1 .undef = .int .i64 at_) (by
    simp only [↓WE, WA, WL, aop, ofValue, ofCell, isConst, abin, acall1, abuiltin, aun, AV.cells, AV.one, Nat.reduceAdd, Int.reduceLT, Int.reduceLE, ↓WD, W0, evalOp, Nat.reduceEqDiff, Nat.reduceLT, ↓reduceIte, reduceCtorEq, hl, e0, e1]
    exact ⟨rfl, (by simp only [List.length_set, hl]), (by simp only [W0, Nat.reduceEqDiff, Nat.reduceLT, ↓reduceIte, hl, e0, e1]), (by simp only [W0, Nat.reduceEqDiff, Nat.reduceLT, ↓reduceIte, hl, e0, e1])⟩) ?_
  rintro envg1 _ ⟨rfl, hl, e0, e1⟩
  try simp only [↓WD, W0, evalOp, Nat.reduceEqDiff, Nat.reduceLT, ↓reduceIte, reduceCtorEq, hl, e0, e1]
  rw [AW_region]
  obtain ⟨y2, qy2, hF⟩ := obind hF
  have og3 := fun (D : Drawn) (n : Nat) (g : AH) => call_hook (P := Try.prog) (D := D) k46 n (args := [.str s_, .int .i64 at_, .int .i64 8]) (v := .tup [.int .u64 y2.1, .int .i64 y2.2]) ((kf_46_eq s_ at_ 8).trans (by rw [qy2]; rfl)) g
  refine AE_joinR (fun e h' => h = h' ∧ e.length = 11 ∧ e.getD 4 .undef = .int .u64 y2.1 ∧ e.getD 5 .undef = .int .i64 y2.2) (by
    simp only [↓WE, WA, WL, aop, ofValue, ofCell, isConst, abin, acall1, abuiltin, aun, AV.cells, AV.one, Nat.reduceAdd, Int.reduceLT, Int.reduceLE, ↓WD, W0, evalOp, Nat.reduceEqDiff, Nat.reduceLT, ↓reduceIte, reduceCtorEq, hl, e0, e1, og3]
    exact ⟨rfl, (by simp only [List.length_set, hl]), (by simp only [W0, Nat.reduceEqDiff, Nat.reduceLT, ↓reduceIte, hl, e0, e1]), (by simp only [W0, Nat.reduceEqDiff, Nat.reduceLT, ↓reduceIte, hl, e0, e1])⟩) ?_
  rintro envg4 _ ⟨rfl, hl, e4, e5⟩
  try simp only [↓WD, W0, evalOp, Nat.reduceEqDiff, Nat.reduceLT, ↓reduceIte, reduceCtorEq, hl, e4, e5]
  refine KP_ret (vs := [.int .u64 y2.1, .int .i64 y2.2]) (by simp only [aresults, aresult, gs, List.length_set, Nat.reduceEqDiff, Nat.reduceLT, ↓reduceIte, hl, e4, e5]) ?_
  obtain rfl := Option.some.inj hF
  exact rfl
set_option maxRecDepth 100000 in
set_option maxHeartbeats 4000000 in
theorem W_end_numbers_u64 {K : PureK} (k18 : K 18 = some kf_18) (n71 : K 71 = none) (m : Nat) (hm : NF + 1 ≤ m) (h : AH) (x_ : Gend_numbers) (at_ : Int) {r : Int} (hF : F_end_numbers_u64 x_ at_ = some r) :
    AR (acall Try.prog (hooksOf K) (drawnOf Try.prog (tabOf K)) m 71 [.agg [.str x_.xs], .int .i64 at_] h) (fun v h' => v = .int .u64 r) := by
  obtain ⟨m, rfl⟩ : ∃ k, m = k + 1 := ⟨m - 1, by omega⟩
  refine AR_call (hooksOf_none n71) Try.func71 rfl _ _ fun env hl he => ?_
  have e0 := he 0
  have e1 := he 1
  simp only [List.getD_cons_zero, List.getD_cons_succ] at e0 e1
  simp only [Try.f71] at hl ⊢
  simp only [List.length_cons, List.length_nil, Nat.reduceAdd, Nat.reduceSub] at hl
  clear he
  have S0 : Sep h [] h [] := Sep.nil h
  rw [F_end_numbers_u64] at hF
  try simp only [↓WD, W0, evalOp, Nat.reduceEqDiff, Nat.reduceLT, ↓reduceIte, reduceCtorEq, hl, e0, e1]
  rw [AW_region]
  obtain ⟨i1, h2, oa3, S4⟩ := S0.alloc 100 [.str x_.xs]
  have S6 : Sep h [] h2 [.blk i1 [.str x_.xs] 100] := S4
  refine AE_joinR (fun e h' => h2 = h' ∧ e.length = 15 ∧ e.getD 1 .undef = .int .i64 at_ ∧ e.getD 2 .undef = .ptr i1 0) (by
    simp only [↓WE, WA, WL, aop, ofValue, ofCell, isConst, abin, acall1, abuiltin, aun, AV.cells, AV.one, Nat.reduceAdd, Int.reduceLT, Int.reduceLE, ↓WD, W0, evalOp, Nat.reduceEqDiff, Nat.reduceLT, ↓reduceIte, reduceCtorEq, hl, e0, e1, oa3]
    exact ⟨rfl, (by simp only [List.length_set, hl]), (by simp only [W0, Nat.reduceEqDiff, Nat.reduceLT, ↓reduceIte, hl, e0, e1]), (by simp only [W0, Nat.reduceEqDiff, Nat.reduceLT, ↓reduceIte, hl, e0, e1])⟩) ?_
  rintro envg7 _ ⟨rfl, hl, e1, e2⟩
  try simp only [↓WD, W0, evalOp, Nat.reduceEqDiff, Nat.reduceLT, ↓reduceIte, reduceCtorEq, hl, e1, e2]
  rw [AW_region]
  have ol8 := S6.load (P := Try.prog) 0 rfl (t := 9) (off := 0) (v := .str x_.xs) (by simp only [apart, ag_9, sz_9]; rfl)
  obtain ⟨y9, qy9, hF⟩ := obind hF
  have og10 := fun (D : Drawn) (n : Nat) (g : AH) => call_hook (P := Try.prog) (D := D) k18 n (args := [.str x_.xs, .int .i64 at_]) (v := .tup [.int .u64 y9.1, .int .i64 y9.2]) ((kf_18_eq x_.xs at_).trans (by rw [qy9]; rfl)) g
  refine AE_joinR (fun e h' => h2 = h' ∧ e.length = 15 ∧ e.getD 5 .undef = .int .u64 y9.1) (by
    simp only [↓WE, WA, WL, aop, ofValue, ofCell, isConst, abin, acall1, abuiltin, aun, AV.cells, AV.one, Nat.reduceAdd, Int.reduceLT, Int.reduceLE, ↓WD, W0, evalOp, Nat.reduceEqDiff, Nat.reduceLT, ↓reduceIte, reduceCtorEq, hl, e1, e2, fa_100_0, ol8, og10]
    exact ⟨rfl, (by simp only [List.length_set, hl]), (by simp only [W0, Nat.reduceEqDiff, Nat.reduceLT, ↓reduceIte, hl, e1, e2])⟩) ?_
  rintro envg11 _ ⟨rfl, hl, e5⟩
  try simp only [↓WD, W0, evalOp, Nat.reduceEqDiff, Nat.reduceLT, ↓reduceIte, reduceCtorEq, hl, e5]
  rw [AW_region]
  refine AE_joinR (fun e h' => h2 = h' ∧ e.length = 15 ∧ e.getD 4 .undef = .int .u64 y9.1) (by
    simp only [↓WE, WA, WL, aop, ofValue, ofCell, isConst, abin, acall1, abuiltin, aun, AV.cells, AV.one, Nat.reduceAdd, Int.reduceLT, Int.reduceLE, ↓WD, W0, evalOp, Nat.reduceEqDiff, Nat.reduceLT, ↓reduceIte, reduceCtorEq, hl, e5]
    exact ⟨rfl, (by simp only [List.length_set, hl]), (by simp only [W0, Nat.reduceEqDiff, Nat.reduceLT, ↓reduceIte, hl, e5])⟩) ?_
  rintro envg12 _ ⟨rfl, hl, e4⟩
  try simp only [↓WD, W0, evalOp, Nat.reduceEqDiff, Nat.reduceLT, ↓reduceIte, reduceCtorEq, hl, e4]
  refine KP_ret (vs := [.int .u64 y9.1]) (by simp only [aresults, aresult, gs, List.length_set, Nat.reduceEqDiff, Nat.reduceLT, ↓reduceIte, hl, e4]) ?_
  obtain rfl := Option.some.inj hF
  exact rfl
set_option maxRecDepth 100000 in
set_option maxHeartbeats 4000000 in
theorem W_end_located {K : PureK} (k56 : K 56 = some kf_56) (k71 : K 71 = some kf_71) (n70 : K 70 = none) (m : Nat) (hm : NF + 1 ≤ m) (h : AH) (s_ : List UInt8) (at_ : Int) {r : Bool} (hF : F_end_located s_ at_ = some r) :
    AR (acall Try.prog (hooksOf K) (drawnOf Try.prog (tabOf K)) m 70 [.str s_, .int .i64 at_] h) (fun v h' => v = .bool r) := by
  obtain ⟨m, rfl⟩ : ∃ k, m = k + 1 := ⟨m - 1, by omega⟩
  refine AR_call (hooksOf_none n70) Try.func70 rfl _ _ fun env hl he => ?_
  have e0 := he 0
  have e1 := he 1
  simp only [List.getD_cons_zero, List.getD_cons_succ] at e0 e1
  simp only [Try.f70] at hl ⊢
  simp only [List.length_cons, List.length_nil, Nat.reduceAdd, Nat.reduceSub] at hl
  clear he
  have S0 : Sep h [] h [] := Sep.nil h
  rw [F_end_located] at hF
  try simp only [↓WD, W0, evalOp, Nat.reduceEqDiff, Nat.reduceLT, ↓reduceIte, reduceCtorEq, hl, e0, e1]
  rw [AW_region]
  refine AE_joinR (fun e h' => h = h' ∧ e.length = 34 ∧ e.getD 0 .undef = .str s_ ∧ e.getD 1 .undef = .int .i64 at_) (by
    simp only [↓WE, WA, WL, aop, ofValue, ofCell, isConst, abin, acall1, abuiltin, aun, AV.cells, AV.one, Nat.reduceAdd, Int.reduceLT, Int.reduceLE, ↓WD, W0, evalOp, Nat.reduceEqDiff, Nat.reduceLT, ↓reduceIte, reduceCtorEq, hl, e0, e1]
    exact ⟨rfl, (by simp only [List.length_set, hl]), (by simp only [W0, Nat.reduceEqDiff, Nat.reduceLT, ↓reduceIte, hl, e0, e1]), (by simp only [W0, Nat.reduceEqDiff, Nat.reduceLT, ↓reduceIte, hl, e0, e1])⟩) ?_
  rintro envg1 _ ⟨rfl, hl, e0, e1⟩
  try simp only [↓WD, W0, evalOp, Nat.reduceEqDiff, Nat.reduceLT, ↓reduceIte, reduceCtorEq, hl, e0, e1]
  rw [AW_region]
  obtain ⟨s2, qs2, hF⟩ := obind hF
  have os2 := fun g : AH => sub_str (P := Try.prog) (h := g) (k := .i64) (k' := .i64) Try.underlying9 qs2
  obtain ⟨i3, h4, oa5, S6⟩ := S0.alloc 100 [.str []]
  have S8 : Sep h [] h4 [.blk i3 [.str []] 100] := S6
  obtain ⟨h9, os10, S11⟩ := S8.store (P := Try.prog) 0 rfl (t := 100) (off := 0) (v := .agg [.str s2]) (c' := [.str s2]) rfl sz_100 rfl (by simp) rfl
  have S12 : Sep h [] h9 [.blk i3 [.str s2] 100] := S11
  refine AE_joinR (fun e h' => h9 = h' ∧ e.length = 34 ∧ e.getD 1 .undef = .int .i64 at_ ∧ e.getD 5 .undef = .ptr i3 0) (by
    simp only [↓WE, WA, WL, aop, ofValue, ofCell, isConst, abin, acall1, abuiltin, aun, AV.cells, AV.one, Nat.reduceAdd, Int.reduceLT, Int.reduceLE, ↓WD, W0, evalOp, Nat.reduceEqDiff, Nat.reduceLT, ↓reduceIte, reduceCtorEq, hl, e0, e1, os2, bd_100_0, zero_100, oa5, os10]
    exact ⟨rfl, (by simp only [List.length_set, hl]), (by simp only [W0, Nat.reduceEqDiff, Nat.reduceLT, ↓reduceIte, hl, e0, e1]), (by simp only [W0, Nat.reduceEqDiff, Nat.reduceLT, ↓reduceIte, hl, e0, e1])⟩) ?_
  rintro envg13 _ ⟨rfl, hl, e1, e5⟩
  try simp only [↓WD, W0, evalOp, Nat.reduceEqDiff, Nat.reduceLT, ↓reduceIte, reduceCtorEq, hl, e1, e5]
  rw [AW_region]
  obtain ⟨j36, qj36, hF⟩ := obind hF
  refine AE_joinR (fun e h' => e.length = 34 ∧ e.getD 4 .undef = .bool j36 ∧ Sep h [] h' []) ?_ ?_
  · have ol14 := S12.load (P := Try.prog) 0 rfl (t := 100) (off := 0) (v := .agg [.str s2]) (by simp only [apart, ag_100, sz_100]; rfl)
    obtain ⟨y15, qy15, qj36⟩ := obind qj36
    have og16 := fun (D : Drawn) (n : Nat) (g : AH) => call_hook (P := Try.prog) (D := D) k56 n (args := [.agg [.str s2], .int .i64 0]) (v := .int .i64 y15) ((kf_56_eq (⟨s2⟩ : Gend_numbers) 0).trans (by rw [qy15]; rfl)) g
    simp only [↓WE, WA, WL, aop, ofValue, ofCell, isConst, abin, acall1, abuiltin, aun, AV.cells, AV.one, Nat.reduceAdd, Int.reduceLT, Int.reduceLE, ↓WD, W0, evalOp, Nat.reduceEqDiff, Nat.reduceLT, ↓reduceIte, reduceCtorEq, hl, e1, e5, ol14, og16]
    refine GuardW_boo (fun c17 => ?_) (fun c17 => ?_)
    · rw [if_pos c17] at qj36
      have d18 := c17
      have ol20 := S12.load (P := Try.prog) 0 rfl (t := 100) (off := 0) (v := .agg [.str s2]) (by simp only [apart, ag_100, sz_100]; rfl)
      obtain ⟨y21, qy21, qj36⟩ := obind qj36
      have og22 := fun (D : Drawn) (n : Nat) (g : AH) => call_hook (P := Try.prog) (D := D) k56 n (args := [.agg [.str s2], .int .i64 4]) (v := .int .i64 y21) ((kf_56_eq (⟨s2⟩ : Gend_numbers) 4).trans (by rw [qy21]; rfl)) g
      simp only [↓WE, WA, WL, aop, ofValue, ofCell, isConst, abin, acall1, abuiltin, aun, AV.cells, AV.one, Nat.reduceAdd, Int.reduceLT, Int.reduceLE, ↓WD, W0, evalOp, Nat.reduceEqDiff, Nat.reduceLT, ↓reduceIte, reduceCtorEq, hl, e1, e5, ol14, og16, ol20, og22, d18]
      refine GuardW_boo (fun c23 => ?_) (fun c23 => ?_)
      · rw [if_pos c23] at qj36
        have d24 := c23
        have ol26 := S12.load (P := Try.prog) 0 rfl (t := 100) (off := 0) (v := .agg [.str s2]) (by simp only [apart, ag_100, sz_100]; rfl)
        obtain ⟨y27, qy27, qj36⟩ := obind qj36
        have og28 := fun (D : Drawn) (n : Nat) (g : AH) => call_hook (P := Try.prog) (D := D) k71 n (args := [.agg [.str s2], .int .i64 8]) (v := .int .u64 y27) ((kf_71_eq (⟨s2⟩ : Gend_numbers) 8).trans (by rw [qy27]; rfl)) g
        have oc29 := fun g : AH => aconv_int (P := Try.prog) (h := g) (n := IntKind.i64.wrap ((IntKind.i64.wrap (at_ - 20)) - 56)) (k' := .i64) Try.underlying3 Try.underlying25
        simp only [↓WE, WA, WL, aop, ofValue, ofCell, isConst, abin, acall1, abuiltin, aun, AV.cells, AV.one, Nat.reduceAdd, Int.reduceLT, Int.reduceLE, ↓WD, W0, evalOp, Nat.reduceEqDiff, Nat.reduceLT, ↓reduceIte, reduceCtorEq, hl, e1, e5, ol14, og16, ol20, og22, ol26, og28, oc29, d18, d24]
        refine GuardW_boo (fun c30 => ?_) (fun c30 => ?_)
        · rw [if_pos c30] at qj36
          have d31 := c30
          have ol33 := S12.load (P := Try.prog) 0 rfl (t := 100) (off := 0) (v := .agg [.str s2]) (by simp only [apart, ag_100, sz_100]; rfl)
          obtain ⟨y34, qy34, qj36⟩ := obind qj36
          have og35 := fun (D : Drawn) (n : Nat) (g : AH) => call_hook (P := Try.prog) (D := D) k56 n (args := [.agg [.str s2], .int .i64 16]) (v := .int .i64 y34) ((kf_56_eq (⟨s2⟩ : Gend_numbers) 16).trans (by rw [qy34]; rfl)) g
          simp only [↓WE, WA, WL, aop, ofValue, ofCell, isConst, abin, acall1, abuiltin, aun, AV.cells, AV.one, Nat.reduceAdd, Int.reduceLT, Int.reduceLE, ↓WD, W0, evalOp, Nat.reduceEqDiff, Nat.reduceLT, ↓reduceIte, reduceCtorEq, hl, e1, e5, ol14, og16, ol20, og22, ol26, og28, oc29, ol33, og35, d18, d24, d31]
          obtain rfl := Option.some.inj qj36
          exact ⟨(by simp only [List.length_set, hl]), (by simp only [W0, Nat.reduceEqDiff, Nat.reduceLT, ↓reduceIte, hl, e1, e5]), S12.pick [] (by decide) rfl⟩
        · rw [if_neg (nf c30)] at qj36
          have d32 := c30
          simp only [↓WE, WA, WL, aop, ofValue, ofCell, isConst, abin, acall1, abuiltin, aun, AV.cells, AV.one, Nat.reduceAdd, Int.reduceLT, Int.reduceLE, ↓WD, W0, evalOp, Nat.reduceEqDiff, Nat.reduceLT, ↓reduceIte, reduceCtorEq, hl, e1, e5, ol14, og16, ol20, og22, ol26, og28, oc29, d18, d24, d32]
          obtain rfl := Option.some.inj qj36
          exact ⟨(by simp only [List.length_set, hl]), (by simp only [W0, Nat.reduceEqDiff, Nat.reduceLT, ↓reduceIte, hl, e1, e5]), S12.pick [] (by decide) rfl⟩
      · rw [if_neg (nf c23)] at qj36
        have d25 := c23
        simp only [↓WE, WA, WL, aop, ofValue, ofCell, isConst, abin, acall1, abuiltin, aun, AV.cells, AV.one, Nat.reduceAdd, Int.reduceLT, Int.reduceLE, ↓WD, W0, evalOp, Nat.reduceEqDiff, Nat.reduceLT, ↓reduceIte, reduceCtorEq, hl, e1, e5, ol14, og16, ol20, og22, d18, d25]
        obtain rfl := Option.some.inj qj36
        exact ⟨(by simp only [List.length_set, hl]), (by simp only [W0, Nat.reduceEqDiff, Nat.reduceLT, ↓reduceIte, hl, e1, e5]), S12.pick [] (by decide) rfl⟩
    · rw [if_neg (nf c17)] at qj36
      have d19 := c17
      simp only [↓WE, WA, WL, aop, ofValue, ofCell, isConst, abin, acall1, abuiltin, aun, AV.cells, AV.one, Nat.reduceAdd, Int.reduceLT, Int.reduceLE, ↓WD, W0, evalOp, Nat.reduceEqDiff, Nat.reduceLT, ↓reduceIte, reduceCtorEq, hl, e1, e5, ol14, og16, d19]
      obtain rfl := Option.some.inj qj36
      exact ⟨(by simp only [List.length_set, hl]), (by simp only [W0, Nat.reduceEqDiff, Nat.reduceLT, ↓reduceIte, hl, e1, e5]), S12.pick [] (by decide) rfl⟩
  · rintro envj36 h38 ⟨hl, e4, S37⟩
    try simp only [↓WD, W0, evalOp, Nat.reduceEqDiff, Nat.reduceLT, ↓reduceIte, reduceCtorEq, hl, e4]
    refine KP_ret (vs := [.bool j36]) (by simp only [aresults, aresult, gs, List.length_set, Nat.reduceEqDiff, Nat.reduceLT, ↓reduceIte, hl, e4]) ?_
    obtain rfl := Option.some.inj hF
    exact rfl
end Go.Proofs.YtikkpmmhejjpaaaM
